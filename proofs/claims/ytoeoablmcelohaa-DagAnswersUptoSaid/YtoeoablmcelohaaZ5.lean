/- Texts of mine, joined: Maps that the call owns, as functions from keys to elements: whatever the keys' and the elements' types. Of every program. | Walks over the document's answer: which nodes others come from. | string(b), []byte("..") over slices of bytes. Of every program. -/
import Derived.Maps.Own
import Derived.Maps.Views
import Derived.Maps.OwnOps
import Derived.Maps.OwnSet
import Derived.Maps.Range
import Derived.Maps.RangeWalk
import Derived.Laws.BytesArg
import Derived.Lib.SlBytesConst
import Derived.Test.YtoeoablmcelohaaZ4
namespace Go.Proofs.Ytoeoablmcelohaa
open Go Go.RowKit Go.Maps

/-- How a map's keys and elements are written: x's value is mkK x, a's is mkE a. -/
structure MC (P : Program) (t k e : TypeId) (κ α : Type) where
  mkK : κ → Value
  lit : κ → Lit
  okK : κ → Prop
  mkE : α → Value
  dt : α → DataW Unit
  ok : α → Prop
  z0 : α
  R : Value → Option (DataW Unit × List MemPlace)
  keyed : Keyed P k
  under : P.underlying t = some (.map k e)
  key : ∀ x, okK x → keyOf P k (mkK x) = some (lit x)
  keyInv : ∀ v l, keyOf P k v = some l → ∃ x, v = mkK x ∧ l = lit x ∧ okK x
  litInj : ∀ x y, okK x → okK y → lit x = lit y → x = y
  el : ∀ a, ok a → R (mkE a) = some (dt a, [])
  elInv : ∀ v y, R v = some y → ∃ a, v = mkE a ∧ y = (dt a, []) ∧ ok a
  dtInj : ∀ a b, ok a → ok b → dt a = dt b → a = b
  zero : ∀ w, (zeroValue e).run P w = .ok (mkE z0) w
  okz : ok z0

/-- A list without one. -/
def lessOne {κ : Type} [DecidableEq κ] (l : List κ) (x : κ) : List κ := l.filter fun y => !decide (y = x)

theorem mem_lessOne {κ : Type} [DecidableEq κ] {l : List κ} {x y : κ} : y ∈ lessOne l x ↔ y ∈ l ∧ y ≠ x := by simp [lessOne]

theorem perm_lessOne {κ : Type} [DecidableEq κ] : ∀ {l : List κ} {x : κ}, l.Nodup → x ∈ l → l.Perm (x :: lessOne l x)
  | y :: l, x, hn, h => by
    rw [List.nodup_cons] at hn
    by_cases e : y = x
    · subst e
      have : lessOne (y :: l) y = l := by
        unfold lessOne
        rw [List.filter_cons_of_neg (by simp), List.filter_eq_self]
        intro z hz
        have : z ≠ y := fun e => hn.1 (e ▸ hz)
        simpa using this
      rw [this]
    · have hx : x ∈ l := (List.mem_cons.1 h).resolve_left (fun e2 => e e2.symm)
      have e3 : lessOne (y :: l) x = y :: lessOne l x := by unfold lessOne; rw [List.filter_cons_of_pos (by simpa using e)]
      rw [e3]
      exact ((perm_lessOne hn.2 hx).cons y).trans (List.Perm.swap x y _)

theorem nodup_le {κ : Type} : ∀ {l m : List κ}, l.Nodup → (∀ x ∈ l, x ∈ m) → l.length ≤ m.length
  | [], m, _, _ => Nat.zero_le _
  | x :: l, m, hn, h => by
    rw [List.nodup_cons] at hn
    obtain ⟨a, b, rfl⟩ := List.append_of_mem (h x (by simp))
    have := nodup_le (m := a ++ b) hn.2 fun y hy => by
      have := h y (by simp [hy])
      rw [List.mem_append, List.mem_cons] at this
      rw [List.mem_append]
      rcases this with h1 | h1 | h1
      · exact .inl h1
      · subst h1; exact absurd hy hn.1
      · exact .inr h1
    simp only [List.length_append, List.length_cons] at this ⊢
    omega

section
variable {P : Program} {t k e : TypeId} {κ α : Type} {C : MC P t k e κ α} {w w' : World} {b n : Nat} {F : κ → Option α}

/-- Block b is a map of at most n entries that has F's element at each key. -/
def MapG (C : MC P t k e κ α) (w : World) (b n : Nat) (F : κ → Option α) : Prop :=
  ∃ D, w.ownsMap P k C.R b n D ∧ Tidy D ∧ (∀ x, C.okK x → has D (C.lit x) = (F x).isSome ∧ ∀ zd, D.atKey (C.lit x) zd = match F x with | some a => C.dt a | none => zd) ∧ ∀ x a, F x = some a → C.okK x ∧ C.ok a

theorem MapG.made (C : MC P t k e κ α) (w : World) : MapG C (w.alloc (.map #[] 0)) w.heap.size 0 fun _ => none :=
  ⟨.map [], World.ownsMap_made _ _ _ _, tidy_empty, fun _ _ => ⟨rfl, fun _ => rfl⟩, fun _ _ h => by cases h⟩

theorem MapG.lt (h : MapG C w b n F) : b < w.heap.size := by obtain ⟨D, h1, _⟩ := h; exact h1.lt

theorem MapG.block (h : MapG C w b n F) (hb : w'.heap[b]? = w.heap[b]?) : MapG C w' b n F := by
  obtain ⟨D, ⟨es, clock, hc, h1, h2⟩, h3⟩ := h
  exact ⟨D, ⟨es, clock, hb.trans hc, h1, h2⟩, h3⟩

theorem MapG.kept {row : Option Nat} (h : MapG C w b n F) (hg : w.grownBy w' row) (hne : some b ≠ row) : MapG C w' b n F := h.block (hg.block b h.lt hne)

theorem MapG.below (h : MapG C w b n F) (hb : Below w.heap.size w w') : MapG C w' b n F := h.block (hb.block b h.lt)

theorem MapG.alloc (h : MapG C w b n F) (o : Obj) : MapG C (w.alloc o) b n F := h.kept (World.grownBy_alloc w o none) (by simp)

theorem MapG.drewN (h : MapG C w b n F) (q : Nat) : MapG C (w.drewN q) b n F := h

theorem MapG.mono (h : MapG C w b n F) {n' : Nat} (hn : n ≤ n') : MapG C w b n' F := by
  obtain ⟨D, h1, h2⟩ := h
  exact ⟨D, h1.mono hn, h2⟩

theorem MapG.isMap (h : MapG C w b n F) : ∃ es clock, w.heap[b]? = some (.map es clock) := by
  obtain ⟨D, ⟨es, clock, hc, _⟩, _⟩ := h
  exact ⟨es, clock, hc⟩

theorem MapG.congr {G : κ → Option α} (h : MapG C w b n F) (e : ∀ x, F x = G x) : MapG C w b n G := by
  rw [← show F = G from funext e]; exact h

theorem MC.read (C : MC P t k e κ α) {v : Value} {a : α} {ps : List MemPlace} (h : C.R v = some (C.dt a, ps)) (ha : C.ok a) : v = C.mkE a := by
  obtain ⟨c, h1, h2, h3⟩ := C.elInv v _ h
  injection h2 with h2 _
  rw [h1, C.dtInj a c ha h3 h2]

/-- 'm[k]'. -/
theorem MapG.look (h : MapG C w b n F) (x : κ) (hx : C.okK x) : (Instr.lookup t (.map (some b)) (C.mkK x) false).run P w = .ok (C.mkE ((F x).getD C.z0)) w := by
  obtain ⟨D, h1, h2, h3, h4⟩ := h
  obtain ⟨v, ps, hrun, hR⟩ := h1.lookup C.keyed C.under (C.zero w) (C.el _ C.okz) (C.key x hx)
  rw [(h3 x hx).2] at hR
  rw [hrun]
  congr 1
  cases hF : F x with
  | none => rw [hF] at hR; exact C.read hR C.okz
  | some a => rw [hF] at hR; exact C.read hR (h4 x a hF).2

/-- 'v, ok := m[k]'. -/
theorem MapG.look_ok (h : MapG C w b n F) (x : κ) (hx : C.okK x) : (Instr.lookup t (.map (some b)) (C.mkK x) true).run P w = .ok (.tuple #[C.mkE ((F x).getD C.z0), .bool (F x).isSome]) w := by
  obtain ⟨D, h1, h2, h3, h4⟩ := h
  obtain ⟨v, ps, hrun, hR⟩ := h1.look_ok C.keyed C.under (C.zero w) (C.el _ C.okz) (C.key x hx)
  rw [(h3 x hx).2] at hR
  rw [hrun, (h3 x hx).1]
  have : v = C.mkE ((F x).getD C.z0) := by
    cases hF : F x with
    | none => rw [hF] at hR; exact C.read hR C.okz
    | some a => rw [hF] at hR; exact C.read hR (h4 x a hF).2
  rw [this]

/-- 'm[k] = v'. -/
theorem MapG.put [DecidableEq κ] (h : MapG C w b n F) (x : κ) (hx : C.okK x) (a : α) (ha : C.ok a) (hn : n < maxLen) :
    ∃ w', (Instr.mapUpdate t (.map (some b)) (C.mkK x) (C.mkE a)).run P w = .ok () w' ∧ MapG C w' b (n + 1) (fun y => if y = x then some a else F y) ∧ w.grownBy w' (some b) := by
  obtain ⟨D, h1, h2, h3, h4⟩ := h
  obtain ⟨w', hrun, hown, hg⟩ := h1.update C.keyed C.under hn (C.key x hx) (C.el a ha)
  have hk := C.keyed.key (C.key x hx)
  refine ⟨w', hrun, ⟨_, hown, h2.put hk _, fun y hy => ?_, fun y c hc => ?_⟩, hg⟩
  · by_cases e : y = x
    · subst e
      simp only [if_pos]
      exact ⟨has_put_same h2.isMap hk _, fun zd => atKey_put_same h2.isMap hk _ zd⟩
    · have hne : C.lit y ≠ C.lit x := fun h => e (C.litInj y x hy hx h)
      simp only [if_neg e]
      exact ⟨by rw [has_put_other hne]; exact (h3 y hy).1, fun zd => by rw [atKey_put_other hne]; exact (h3 y hy).2 zd⟩
  · by_cases e : y = x
    · subst e; simp only [if_pos] at hc; injection hc with hc; subst hc; exact ⟨hx, ha⟩
    · simp only [if_neg e] at hc; exact h4 y c hc

/-- 'delete(m, k)'. -/
theorem MapG.del [DecidableEq κ] (h : MapG C w b n F) (x : κ) (hx : C.okK x) (ty : TypeId) :
    ∃ w', (Builtin.delete_ #[t, k] ty #[.map (some b), C.mkK x]).run P w = .ok (.tuple #[]) w' ∧ MapG C w' b n (fun y => if y = x then none else F y) ∧ w.grownBy w' (some b) := by
  obtain ⟨D, h1, h2, h3, h4⟩ := h
  obtain ⟨w', hrun, hown, hg⟩ := h1.drop C.keyed C.under (C.key x hx) ty
  refine ⟨w', hrun, ⟨_, hown, h2.del _, fun y hy => ?_, fun y c hc => ?_⟩, hg.grown⟩
  · by_cases e : y = x
    · subst e
      simp only [if_pos]
      exact ⟨has_del_same, fun zd => atKey_del_same zd⟩
    · have hne : C.lit y ≠ C.lit x := fun h => e (C.litInj y x hy hx h)
      simp only [if_neg e]
      exact ⟨by rw [has_del_other hne]; exact (h3 y hy).1, fun zd => by rw [atKey_del_other hne]; exact (h3 y hy).2 zd⟩
  · by_cases e : y = x
    · simp only [if_pos e] at hc; cases hc
    · simp only [if_neg e] at hc; exact h4 y c hc

/-- 'for k, v := range m' under way: l is left. -/
def RanG (C : MC P t k e κ α) (w : World) (b r n : Nat) (F : κ → Option α) (l : List κ) : Prop :=
  ∃ D left, w.ranges P k C.R b r n D left (w.rangeLeft b r) ∧ Tidy D ∧ (∀ x, C.okK x → has D (C.lit x) = (F x).isSome ∧ ∀ zd, D.atKey (C.lit x) zd = match F x with | some a => C.dt a | none => zd) ∧ (∀ x a, F x = some a → C.okK x ∧ C.ok a) ∧
    (∀ x, C.okK x → (left (C.lit x) = true ↔ x ∈ l)) ∧ (∀ x ∈ l, (F x).isSome = true) ∧ l.Nodup

theorem RanG.nodup {r : Nat} {l : List κ} (h : RanG C w b r n F l) : l.Nodup := by
  obtain ⟨D, left, h1, h2, h3, h4, h5, h6, h7⟩ := h
  exact h7

theorem RanG.map {r : Nat} {l : List κ} (h : RanG C w b r n F l) : MapG C w b n F := by
  obtain ⟨D, left, h1, h2, h3, h4, _⟩ := h
  exact ⟨D, h1.owns, h2, h3, h4⟩

theorem rangeLeft_block {r : Nat} (hb : w'.heap[b]? = w.heap[b]?) (hr : w'.heap[r]? = w.heap[r]?) : w'.rangeLeft b r = w.rangeLeft b r := by
  unfold World.rangeLeft; rw [hb, hr]

theorem RanG.block {r : Nat} {l : List κ} (h : RanG C w b r n F l) (hb : w'.heap[b]? = w.heap[b]?) (hr : w'.heap[r]? = w.heap[r]?) : RanG C w' b r n F l := by
  obtain ⟨D, left, ⟨es, clock, since, seen, c0, h1, h2, h3, h4, h5, h6⟩, h⟩ := h
  refine ⟨D, left, ⟨es, clock, since, seen, c0, hb.trans h1, h2, h3, h4, hr.trans h5, ?_⟩, h⟩
  rw [rangeLeft_block hb hr]; exact h6

theorem RanG.lt {r : Nat} {l : List κ} (h : RanG C w b r n F l) : r < w.heap.size := by
  obtain ⟨D, left, h1, _⟩ := h
  exact h1.lt

theorem RanG.iter {r : Nat} {l : List κ} (h : RanG C w b r n F l) : ∃ m s q c, w.heap[r]? = some (.mapIter m s q c) := by
  obtain ⟨D, left, ⟨es, clock, since, seen, c0, h1, h2, h3, h4, h5, h6⟩, h⟩ := h
  exact ⟨_, _, _, _, h5⟩

theorem RanG.kept {r : Nat} {l : List κ} {row : Option Nat} (h : RanG C w b r n F l) (hg : w.grownBy w' row) (h1 : some b ≠ row) (h2 : some r ≠ row) : RanG C w' b r n F l :=
  h.block (hg.block b h.map.lt h1) (hg.block r h.lt h2)

theorem RanG.below {r : Nat} {l : List κ} (h : RanG C w b r n F l) (hb : Below w.heap.size w w') : RanG C w' b r n F l := h.block (hb.block b h.map.lt) (hb.block r h.lt)

/-- 'range m'. -/
theorem MapG.range (h : MapG C w b n F) (l : List κ) (hl : ∀ x, x ∈ l ↔ (F x).isSome = true) (hn : l.Nodup) :
    ∃ w', (Instr.range t (.map (some b))).run P w = .ok (.pointer (some ⟨w.heap.size, 0, none⟩)) w' ∧ RanG C w' b w.heap.size n F l ∧ w.grownBy w' none ∧ w'.heap.size = w.heap.size + 1 ∧ w'.rangeLeft b w.heap.size ≤ n := by
  obtain ⟨D, h1, h2, h3, h4⟩ := h
  obtain ⟨w', hrun, hr, hg, hs⟩ := h1.range C.keyed C.under
  refine ⟨w', hrun, ⟨D, has D, ?_, h2, h3, h4, fun x hx => ?_, fun x hx => (hl x).1 hx, hn⟩, hg, hs, by rw [hr.left_eq]; exact h1.size_le⟩
  · rw [hr.left_eq]; exact hr
  · rw [(h3 x hx).1, hl]

/-- The step. -/
theorem RanG.next [DecidableEq κ] {r : Nat} {l : List κ} (h : RanG C w b r n F l) (ty : TypeId) :
    (l = [] ∧ (Instr.next (.pointer (some ⟨r, 0, none⟩)) false ty).run P w = .ok (.tuple #[.bool false]) w) ∨
    ∃ x a w', x ∈ l ∧ F x = some a ∧ C.okK x ∧ C.ok a ∧ (Instr.next (.pointer (some ⟨r, 0, none⟩)) false ty).run P w = .ok (.tuple #[.bool true, C.mkK x, C.mkE a]) w' ∧ RanG C w' b r n F (lessOne l x) ∧ w'.rangeLeft b r < w.rangeLeft b r ∧ w.grownBy w' (some r) ∧ w'.heap.size = w.heap.size ∧
      (Instr.entry (.pointer (some ⟨r, 0, none⟩))).run P w' = .ok (.tuple #[C.mkK x, C.mkE a]) w' := by
  obtain ⟨D, left, h1, h2, h3, h4, h5, h6, h7⟩ := h
  rcases h1.next C.keyed ty with ⟨_, hl, hrun⟩ | ⟨key, v, kl, y, w', cnt', hkey, hlk, hv, hat, hrun, hrg, hlt, hgr, hsz, hen⟩
  · left
    refine ⟨?_, hrun⟩
    cases l with
    | nil => rfl
    | cons x l =>
      have hs := h6 x (by simp)
      obtain ⟨a, ha⟩ := Option.isSome_iff_exists.1 hs
      have := (h5 x (h4 x a ha).1).2 (by simp)
      rw [hl] at this; cases this
  · right
    obtain ⟨x, rfl, rfl, hx⟩ := C.keyInv key kl hkey
    have hxl := (h5 x hx).1 hlk
    obtain ⟨a, ha⟩ := Option.isSome_iff_exists.1 (h6 x hxl)
    have ha4 := h4 x a ha
    obtain ⟨c, rfl, hy, hc⟩ := C.elInv v y hv
    have e1 := hat .nil
    rw [(h3 x hx).2, ha, hy] at e1
    obtain rfl := C.dtInj a c ha4.2 hc e1
    refine ⟨x, a, w', hxl, ha, hx, ha4.2, hrun, ⟨D, fun z => left z && !z.sameKey (C.lit x), ?_, h2, h3, h4, fun z hz => ?_, fun z hz => h6 z (mem_lessOne.1 hz).1, h7.filter _⟩, by rw [hrg.left_eq]; exact hlt, hgr, hsz, hen⟩
    · rw [hrg.left_eq]; exact hrg
    · rw [mem_lessOne, Bool.and_eq_true, h5 z hz]
      have hk := C.keyed.key (C.key x hx)
      constructor
      · rintro ⟨p1, p2⟩
        refine ⟨p1, fun e => ?_⟩
        subst e
        rw [WideAt.sameKey_self hk] at p2; cases p2
      · rintro ⟨p2, p1⟩
        exact ⟨p2, by rw [sameKey_ne (fun e => p1 (C.litInj z x hz hx e))]; rfl⟩
end

section
variable {P : Program} {ops : Array Oper} {rest : List Oper} {o : Oper} {a : Act} {Q : Exit → Act → World → Prop} {w : World} {t k e : TypeId} {κ α : Type} {C : MC P t k e κ α} {b n : Nat} {F : κ → Option α}

/-- 'm[k] = v' at the operation. -/
theorem wp_putG [DecidableEq κ] (hg : o.guard = none) (m x v : Operand) (hop : o.op = Op.mapUpdate t m x v) (hm : a.eval m = .map (some b)) (h : MapG C w b n F) (y : κ) (c : α) (hx : a.eval x = C.mkK y) (hv : a.eval v = C.mkE c) (hy : C.okK y) (hc : C.ok c) (hn : n < maxLen)
    (hK : ∀ w', MapG C w' b (n + 1) (fun z => if z = y then some c else F z) → w.grownBy w' (some b) → wpList P ops Q rest (a.put o.dst undef) w') : wpList P ops Q (o :: rest) a w := by
  refine wpList_plain hg fun K' hK' => ?_
  obtain ⟨w', hrun, r1, r2⟩ := h.put y hy c hc hn
  unfold Oper.wp
  simp [execOp, hop, hm, hx, hv, hrun, Result.andThen]
  exact hK' _ _ (hK w' r1 r2)

/-- 'delete(m, k)' at the operation. -/
theorem wp_delG [DecidableEq κ] (hg : o.guard = none) (m x : Operand) (hop : o.op = Op.call { callee := Callee.builtin Builtin.delete, args := #[m, x], argTypes := #[t, k] }) (hm : a.eval m = .map (some b)) (h : MapG C w b n F) (y : κ) (hx : a.eval x = C.mkK y) (hy : C.okK y)
    (hK : ∀ w', MapG C w' b n (fun z => if z = y then none else F z) → w.grownBy w' (some b) → wpList P ops Q rest (a.put o.dst (.tuple #[])) w') : wpList P ops Q (o :: rest) a w := by
  refine wpList_plain hg fun K' hK' => ?_
  obtain ⟨w', hrun, r1, r2⟩ := h.del y hy o.type
  unfold Oper.wp
  simp [execOp, hop, resolve, invoke, builtin, hm, hx, hrun, Result.andThen]
  exact hK' _ _ (hK w' r1 r2)

/-- 'range m' at the operation. -/
theorem wp_rangeG (hg : o.guard = none) (m : Operand) (hop : o.op = Op.range t m) (hm : a.eval m = .map (some b)) (h : MapG C w b n F) (l : List κ) (hl : ∀ x, x ∈ l ↔ (F x).isSome = true) (hnd : l.Nodup)
    (hK : ∀ w', RanG C w' b w.heap.size n F l → w.grownBy w' none → w'.heap.size = w.heap.size + 1 → w'.rangeLeft b w.heap.size ≤ n → wpList P ops Q rest (a.put o.dst (.pointer (some ⟨w.heap.size, 0, none⟩))) w') : wpList P ops Q (o :: rest) a w := by
  refine wpList_plain hg fun K' hK' => ?_
  obtain ⟨w', hrun, r1, r2, r3, r4⟩ := h.range l hl hnd
  unfold Oper.wp
  simp [execOp, hop, hm, hrun, Result.andThen]
  exact hK' _ _ (hK w' r1 r2 r3 r4)

/-- The step at the operation. -/
theorem wp_nextG [DecidableEq κ] {r : Nat} {l : List κ} (hg : o.guard = none) (it : Operand) (hop : o.op = Op.next it false) (hit : a.eval it = .pointer (some ⟨r, 0, none⟩)) (h : RanG C w b r n F l)
    (hDone : l = [] → wpList P ops Q rest (a.put o.dst (.tuple #[.bool false])) w)
    (hMore : ∀ (x : κ) (c : α) (w' : World), x ∈ l → F x = some c → C.okK x → C.ok c → RanG C w' b r n F (lessOne l x) → w'.rangeLeft b r < w.rangeLeft b r → w.grownBy w' (some r) → w'.heap.size = w.heap.size →
      (Instr.entry (.pointer (some ⟨r, 0, none⟩))).run P w' = .ok (.tuple #[C.mkK x, C.mkE c]) w' → wpList P ops Q rest (a.put o.dst (.tuple #[.bool true, C.mkK x, C.mkE c])) w') : wpList P ops Q (o :: rest) a w := by
  refine wpList_plain hg fun K' hK' => ?_
  unfold Oper.wp
  rcases h.next o.type with ⟨hl, hrun⟩ | ⟨x, c, w', hxl, hF, hx, hc, hrun, hr, hlt, hgr, hsz, hen⟩
  · simp [execOp, hop, hit, hrun, Result.andThen]
    exact hK' _ _ (hDone hl)
  · simp [execOp, hop, hit, hrun, Result.andThen]
    exact hK' _ _ (hMore x c w' hxl hF hx hc hr hlt hgr hsz hen)
end
end Go.Proofs.Ytoeoablmcelohaa
namespace Go.Proofs.Ytoeoablmcelohaa
open Go Go.RowKit
open DagS (Nd nm pars par ids Wf)
open Classical

/-- An array of tests: the i-th one is f i. -/
structure ArrB (w : World) (b : Nat) (e : TypeId) (n : Nat) (cs : Array Value) (f : Nat → Bool) : Prop where
  h : w.heap[b]? = some (.cells cs e (0, 0))
  sz : cs.size = n
  at_ : ∀ i, i < n → cs[i]? = some (.bool (f i))
section
variable {w w' : World} {b : Nat} {e : TypeId} {n : Nat} {cs : Array Value} {f g : Nat → Bool}
theorem ArrB.lt (h : ArrB w b e n cs f) : b < w.heap.size := (Array.getElem?_eq_some_iff.1 h.h).1
theorem ArrB.c (h : ArrB w b e n cs f) (i : Nat) (hi : i < n) : w.cell? ⟨b, i, none⟩ = some (.bool (f i)) := by
  simp only [World.cell?, h.h]; exact h.at_ i hi
theorem ArrB.fz (h : ArrB w b e n cs f) (i : Nat) : w.frozen? ⟨b, i, none⟩ = false := by simp [World.frozen?, h.h]
theorem ArrB.block (h : ArrB w b e n cs f) (hb : w'.heap[b]? = w.heap[b]?) : ArrB w' b e n cs f := ⟨hb.trans h.h, h.sz, h.at_⟩
theorem ArrB.below (h : ArrB w b e n cs f) (hb : Below w.heap.size w w') : ArrB w' b e n cs f := h.block (hb.block b h.lt)
theorem ArrB.congr (h : ArrB w b e n cs f) (hfg : ∀ i, i < n → f i = g i) : ArrB w b e n cs g := ⟨h.h, h.sz, fun i hi => by rw [← hfg i hi]; exact h.at_ i hi⟩
theorem ArrB.set (h : ArrB w b e n cs f) (j : Nat) (v : Bool) :
    ArrB (w.setCell ⟨b, j, none⟩ (.bool v)) b e n (cs.setIfInBounds j (.bool v)) (fun i => if i = j then v else f i) ∧ w.grownBy (w.setCell ⟨b, j, none⟩ (.bool v)) (some b) := by
  obtain ⟨s, g⟩ := set_blk h.h j (.bool v)
  refine ⟨⟨s, by simp [h.sz], fun i hi => ?_⟩, g⟩
  rw [Array.getElem?_setIfInBounds]
  by_cases hij : j = i
  · subst hij
    rw [if_pos rfl, if_pos (by rw [h.sz]; exact hi)]
    simp only [if_pos]
  · rw [if_neg hij]
    simp only [if_neg (fun e => hij e.symm : ¬ i = j)]
    exact h.at_ i hi
end

theorem make_bool (n : Nat) (h : n ≤ 1000000) (w : World) : (Instr.makeSlice 73 (.int .i64 (n : Int)) (.int .i64 (n : Int))).run Try.prog w = .ok (.slice (some ⟨w.heap.size, 0, none⟩) n n) (w.alloc (.cells (Array.replicate n (Value.bool false)) 4)) := by
  obtain ⟨i, hi, hz, hs, hb⟩ := info_parts (show (Try.prog.info? 4).map (fun i => (i.zero, i.size, i.bytes)) = some (some (.bool false), 1, 1) by kernel_rfl)
  have := run_make (P := Try.prog) w 73 4 i (.bool false) Try.underlying73 hi hz .i64 .i64 n n (by omega) (by omega) (by rw [hb]; omega) (by omega)
  rw [this, hs, Int.toNat_natCast, Nat.mul_one, ← List.toArray_replicate, ← toList_madeCells_one]
  rfl

theorem srt_nodup {l : List ByteArray} (h : DagS.Srt l) : l.Nodup := List.Pairwise.imp (fun {a b} (hab : DagS.less a b) => show a ≠ b from fun e => DagS.less_irrefl b (by rwa [e] at hab)) h
theorem pars_len {g : List Nd} (hw : Wf g) (i : Nat) : (pars g i).length ≤ i := by
  have := nodup_le (m := (List.range i).map (nm g)) (srt_nodup (hw.srt i)) fun s hs => by
    obtain ⟨j, hj, e⟩ := hw.back i s hs
    exact List.mem_map.2 ⟨j, List.mem_range.2 hj, DagS.find_nm e⟩
  rwa [List.length_map, List.length_range] at this

theorem mem_ids_nm {g : List Nd} (hw : Wf g) {l : List ByteArray} {m : Nat} (hm : m < g.length) : g[m].name ∈ l ↔ m ∈ ids g l := by
  rw [DagS.mem_ids, ← DagS.nm_get hm]
  constructor
  · exact fun h => ⟨_, h, hw.dist.find hm⟩
  · rintro ⟨s, h1, h2⟩
    rw [DagS.find_nm h2]; exact h1

set_option maxRecDepth 100000 in
set_option maxHeartbeats 1000000 in
theorem reached_c {w : World} {a : Option Addr} {c : Nat} {g : List Nd} (h : GR w a g) (hl : g.length ≤ 1000) (hw : Wf g) {fa : Option Addr} {fc : Nat} {l : List ByteArray} (hf : Sl w fa (trow l)) (hfl : l.length ≤ 9000000) :
    Calls Try.prog 43 #[.slice a g.length c, .slice fa l.length fc] w fun e w' => ∃ b cs, e = .returned (.slice (some ⟨b, 0, none⟩) g.length g.length) ∧ ArrB w' b 4 g.length cs (fun i => decide (DagS.ancS g l i)) ∧ Below w.heap.size w w' := by
  have HR := Lib.hid h
  have HF := Lib.hid hf
  have HWF := Lib.hid hw
  clear h hf hw
  have hmk := fun W => make_bool g.length (by omega) W
  go_enter Try.func43, Try.ntmps43
  go_upto_region 2 with fail
  have hb0 : Below w.heap.size w (w.alloc (.cells (Array.replicate g.length (Value.bool false)) 4)) := (Below.refl _ w).alloc (Nat.le_refl _) _
  have ha0 : ArrB (w.alloc (.cells (Array.replicate g.length (Value.bool false)) 4)) w.heap.size 4 g.length _ (fun _ => false) :=
    ⟨Array.getElem?_push_size, by simp, fun i hi => by simp [hi]⟩
  generalize w.alloc (.cells (Array.replicate g.length (Value.bool false)) 4) = W0 at *
  have hblk : w.heap.size ≤ w.heap.size := Nat.le_refl _
  generalize hb : w.heap.size = b at ha0
  have HBK : Hid (w.heap.size ≤ b) := by show _ ≤ _; omega
  clear hb hblk hmk
  have hrm : DagS.Rm (par g) (ids g l) g.length (fun _ => (false : Bool) = true) := by
    have := DagS.Rm.start (par := par g) (from' := ids g l) (n := g.length) HWF.out.par_lt DagS.ids_lt
    intro j
    rw [← this j]
    simp
  have HA0 := Lib.hid ha0
  have HB0 := Lib.hid hb0
  have HRM := Lib.hid hrm
  have hw0 : IntKind.i64.wrap ((g.length : Int) - 1) = (g.length : Int) - 1 := IntWalk.i64_in _ (by omega)
  clear ha0 hb0 hrm
  go_wp2_with fail
  go_loopw [6] (fun iv wx => ∃ (i : Nat) (cs : Array Value) (f : Nat → Bool), i ≤ g.length ∧ iv = .int .i64 ((i : Int) - 1) ∧ Below w.heap.size w wx ∧ ArrB wx b 4 g.length cs f ∧ DagS.Rm (par g) (ids g l) i (fun j => f j = true)) (fun iv _ => (intOf iv + 1).toNat)
  case atStart => exact ⟨g.length, _, _, Nat.le_refl _, by first | rfl | rw [hw0], HB0.out, HA0.out, HRM.out⟩
  case round =>
    obtain ⟨i, cs, f, hi, rfl, hbx, hax, hrx⟩ := hrel
    have HB := Lib.hid hbx
    have HA := Lib.hid hax
    have HR2 := Lib.hid hrx
    clear hbx hax hrx HA0 HB0 HRM
    cases i with
    | zero =>
      have hd : decide ((((0 : Nat) : Int) - 1) ≥ 0) = false := decide_eq_false (by omega)
      have hd' : decide (0 ≤ (((0 : Nat) : Int) - 1)) = false := decide_eq_false (by omega)
      go_wp2_with fail
      go_ret
      refine ⟨b, cs, rfl, HA.out.congr fun j _ => ?_, HB.out⟩
      have := HR2.out.done j
      rw [Bool.eq_iff_iff, decide_eq_true_iff]
      exact this
    | succ m =>
      have e0 : (((m + 1 : Nat) : Int) - 1) = (m : Int) := by omega
      rw [e0]
      clear e0
      have hmg : m < g.length := by omega
      have hd : decide ((m : Int) ≥ 0) = true := decide_eq_true (by omega)
      have hd' : decide (0 ≤ (m : Int)) = true := decide_eq_true (by omega)
      have hm0 : (0 : Int) ≤ (m : Int) := by omega
      have hm1 : (m : Int) < (g.length : Int) := by omega
      have hwm : IntKind.i64.wrap ((m : Int) - 1) = (m : Int) - 1 := IntWalk.i64_in _ (by omega)
      obtain ⟨b1, o1, pa, pc, rfl, hbl, q0, q1, hps⟩ := HR.out.at hmg
      have p0 := (HB.out.cell (p := ⟨b1, o1 + m * 2, none⟩) hbl).trans q0
      have hcm := HA.out.c m hmg
      have hfm := HA.out.fz m
      have HIN := Lib.hid (in_c (c := fc) (HF.out.below HB.out) (by omega) g[m].name)
      have hnm := mem_ids_nm HWF.out (l := l) hmg
      have hat := HR2.out.at HWF.out.par_lt
      have hpe := DagS.pars_get hmg
      have hback := HWF.out.back m
      rw [hpe] at hback
      have hpl := pars_len HWF.out m
      rw [hpe] at hpl
      generalize hx : g[m] = x at *
      obtain ⟨t, ht⟩ : ∃ t, decide (x.name ∈ l) = t := ⟨_, rfl⟩
      rw [ht] at HIN
      obtain ⟨u, hu⟩ : ∃ u, f m = u := ⟨_, rfl⟩
      rw [hu] at hcm
      obtain ⟨hA1, hg1⟩ := HA.out.set m (u || t)
      have hB1 := HB.out.grown hg1 HB.out.size (fun k e => by injection e with e; have := HBK.out; omega)
      have hres : (u || t) = true ↔ DagS.W (fun _ => true) (par g) (ids g l) m := by
        rw [← hat, Bool.or_eq_true, ← hu, ← ht, decide_eq_true_iff, hnm]
      have HRES := Lib.hid hres
      have HA1 := Lib.hid hA1
      have HB1 := Lib.hid hB1
      have HPE := Lib.hid hpe
      have HBACK := Lib.hid hback
      have HU := Lib.hid hu
      have HQ1 := Lib.hid q1
      have HPS := Lib.hid hps
      clear hnm hat hpe hback hx ht hu hA1 hg1 hB1 hres q0 q1 hps
      go_step
      go_upto_region 5 with fail
      go_cut [] from 18 to 33 (fun wx => wx = wr.setCell ⟨b, m, none⟩ (.bool (u || t)))
      case first =>
        cases u with
        | true =>
          go_wp2_with fail
          go_meet
          case rel => rfl
        | false =>
          go_wp2_with (go_at_call 44; refine HIN.out.mono ?_; rintro e w' ⟨rfl, hw⟩; obtain rfl := hw.symm)
          go_meet
          case rel => rfl
      case rest =>
        subst hcut
        clear HIN hcm p0 HA hfm
        generalize wr.setCell ⟨b, m, none⟩ (.bool (u || t)) = W1 at *
        obtain ⟨cs1, f1, hcs1, hf1⟩ : ∃ cs1 f1, cs.setIfInBounds m (.bool (u || t)) = cs1 ∧ (fun i => if i = m then u || t else f i) = f1 := ⟨_, _, rfl, rfl⟩
        have HA1 : Hid (ArrB W1 b 4 g.length cs1 f1) := by rw [← hcs1, ← hf1]; exact HA1.out
        have HF1 : Hid (∀ j, f1 j = true ↔ f j = true ∨ (DagS.W (fun _ => true) (par g) (ids g l) m ∧ j = m)) := fun j => by
          rw [← hf1]
          show (if j = m then u || t else f j) = true ↔ _
          by_cases e : j = m
          · subst e
            rw [if_pos rfl, HRES.out]
            refine ⟨fun h => .inr ⟨h, rfl⟩, fun h => h.elim (fun h => ?_) fun h => h.1⟩
            rw [← HRES.out, ← HU.out, h]; rfl
          · rw [if_neg e]
            exact ⟨.inl, fun h => h.resolve_right fun h => e h.2⟩
        have hc1 := HA1.out.c m hmg
        have hfm1 : f1 m = (u || t) := by rw [← hf1]; exact if_pos rfl
        rw [hfm1] at hc1
        obtain ⟨y, hy⟩ : ∃ y, (u || t) = y := ⟨_, rfl⟩
        rw [hy] at hc1 HRES
        clear hcs1 hf1 hfm1 hy HU
        cases y with
        | false =>
          go_wp2_with fail
          go_roundw
          case rel =>
            refine ⟨m, cs1, f1, by omega, by first | rfl | rw [hwm], HB1.out, HA1.out, HR2.out.step fun j => ?_⟩
            rw [HF1.out j]
            have hno : ¬ DagS.W (fun _ => true) (par g) (ids g l) m := fun h => by have := HRES.out.2 h; cases this
            exact ⟨fun h => h.imp id fun h => absurd h.1 hno, fun h => h.imp id fun h => absurd h.1 hno⟩
          case measure => simp [intOf]
        | true =>
          have HWM : Hid (DagS.W (fun _ => true) (par g) (ids g l) m) := HRES.out.1 rfl
          clear HRES
          go_wp2_with fail
          go_loopw [7] (fun kv wx => ∃ (k : Nat) (cs2 : Array Value) (f2 : Nat → Bool), k ≤ x.pars.length ∧ kv = .int .i64 k ∧ Below w.heap.size w wx ∧ ArrB wx b 4 g.length cs2 f2 ∧ ∀ j, f2 j = true ↔ f1 j = true ∨ j ∈ (x.pars.take k).filterMap (DagS.find g)) (fun kv _ => (x.pars.length - intOf kv).toNat)
          case atStart => exact ⟨0, cs1, f1, Nat.zero_le _, rfl, HB1.out, HA1.out, fun j => by simp⟩
          case round =>
            obtain ⟨k, cs2, f2, hk, rfl, hb2, ha2, hf2⟩ := hrel
            have HB2 := Lib.hid hb2
            have HA2 := Lib.hid ha2
            have HF2 := Lib.hid hf2
            have p1 := (HB2.out.cell (p := ⟨b1, o1 + m * 2 + 1, none⟩) hbl).trans HQ1.out
            clear hb2 ha2 hf2
            by_cases hkl : k < x.pars.length
            · have hdk : decide ((k : Int) < (x.pars.length : Int)) = true := decide_eq_true (by omega)
              obtain ⟨b3, o3, rfl, hb3, hcel⟩ := HPS.out.at (k := k) (by rw [trow_len]; exact hkl)
              have q3 := (HB2.out.cell (p := ⟨b3, o3 + k, none⟩) hb3).trans (hcel k (by rw [trow_len]; exact hkl))
              rw [trow_at] at q3
              obtain ⟨z, hzm, hfz⟩ := HBACK.out _ (List.getElem_mem hkl)
              have htk : x.pars.take (k + 1) = x.pars.take k ++ [x.pars[k]] := by rw [List.take_add_one, List.getElem?_eq_getElem hkl]; rfl
              have HTK := Lib.hid htk
              have HFZ := Lib.hid hfz
              have HFI := Lib.hid (find_c (c := c) (HR.out.below HB2.out) (by omega) x.pars[k])
              rw [hfz] at HFI
              clear htk hcel hfz
              generalize x.pars[k] = y at *
              have HFI : Hid (Calls Try.prog 11 #[.slice (some ⟨b1, o1, none⟩) g.length c, .string y] wr fun e w' => e = .returned (.int .i64 (z : Int)) ∧ w' = wr) := HFI.out
              have hw : IntKind.i64.wrap ((k : Int) + 1) = ((k + 1 : Nat) : Int) := IntWalk.i64_in _ (by omega)
              have hk0 : (0 : Int) ≤ k := by omega
              have hki : (k : Int) < x.pars.length := by omega
              have hz0 : (0 : Int) ≤ z := by omega
              have hzi : (z : Int) < g.length := by omega
              have hcz := HA2.out.c z (by omega)
              have hfzz := HA2.out.fz z
              obtain ⟨hA3, hg3⟩ := HA2.out.set z true
              have HA3 := Lib.hid hA3
              have HB3 := Lib.hid (HB2.out.grown hg3 HB2.out.size (fun k e => by injection e with e; have := HBK.out; omega))
              clear hA3 hg3
              go_wp2_with (go_at_call 11; refine HFI.out.mono ?_; rintro e w' ⟨rfl, hw'⟩; obtain rfl := hw'.symm)
              go_roundw
              case rel =>
                refine ⟨k + 1, _, _, by omega, by first | rfl | go_num, HB3.out, HA3.out, fun j => ?_⟩
                rw [HTK.out, List.filterMap_append, List.mem_append]
                have hone : j ∈ [y].filterMap (DagS.find g) ↔ j = z := by
                  simp [HFZ.out, eq_comm]
                rw [hone, ← or_assoc, ← HF2.out j]
                by_cases e : j = z
                · subst e; simp
                · simp [e]
              case measure => simp [intOf]; omega
            · obtain rfl : k = x.pars.length := by omega
              have hdk : decide ((x.pars.length : Int) < (x.pars.length : Int)) = false := decide_eq_false (by omega)
              go_wp2_with fail
              go_roundw
              case rel =>
                refine ⟨m, cs2, f2, by omega, by first | rfl | rw [hwm], HB2.out, HA2.out, HR2.out.step fun j => ?_⟩
                rw [HF2.out j, HF1.out j, List.take_length]
                have hpar : par g m = x.pars.filterMap (DagS.find g) := by unfold par; rw [HPE.out]
                rw [hpar]
                constructor
                · rintro ((h | h) | h)
                  · exact .inl h
                  · exact .inr ⟨h.1, .inl h.2⟩
                  · exact .inr ⟨HWM.out, .inr h⟩
                · rintro (h | ⟨h1, h2 | h2⟩)
                  · exact .inl (.inl h)
                  · exact .inl (.inr ⟨h1, h2⟩)
                  · exact .inr h2
              case measure => simp [intOf]
end Go.Proofs.Ytoeoablmcelohaa
namespace Go.Proofs.Ytoeoablmcelohaa
open Go Go.RowKit

theorem byteCells_ints (b : ByteArray) : byteCells b = (b.data.toList.map fun x => (x.toNat : Int)).map (Value.int .u8) := by
  unfold byteCells; rw [List.map_map]; rfl

theorem run_str_of {P : Program} {src dst e : TypeId} (hs : P.underlying src = some (.slice e)) (he : P.underlying e = some (.int .u8)) (hd : P.underlying dst = some .string) {w : World} {a : Option Addr} {b : ByteArray} (h : Sl w a (byteCells b)) (c : Nat) :
    (convert src dst (.slice a b.size c)).run P w = .ok (.string b) w := by
  rcases h with h | ⟨x, o, rfl, _, h⟩
  · have hb : b.size = 0 := by
      have := congrArg List.length h
      rw [byteCells_ints, List.length_map, List.length_map, List.length_nil, Array.length_toList] at this
      exact this
    obtain rfl : b = ⟨#[]⟩ := by
      cases b with | mk d => congr 1; exact Array.eq_empty_of_size_eq_zero hb
    cases a with
    | none => exact run_convert_bytes_nil w src e hs he _ c dst hd
    | some a =>
      rw [run_convert_bytes_string w src dst e _ _ c hs he hd, show (⟨#[]⟩ : ByteArray).size = 0 from rfl, run_bytesToString w a 0 c [] (by
        have := run_loadCells_list (P := P) w a [] (fun j v hj => by simp at hj)
        simpa using this)]
      rfl
  · have hlen : (b.data.toList.map fun x => (x.toNat : Int)).length = b.size := by rw [List.length_map, Array.length_toList]; rfl
    rw [run_convert_bytes_arg w src e hs he x o b.size c _ hlen (fun i hi => by
      refine h i _ ?_
      rw [byteCells_ints, List.getElem?_map, List.getElem?_eq_getElem (by rw [hlen]; exact hi)]
      simp [List.getD, List.getElem?_eq_getElem (by rw [hlen]; exact hi)]) dst hd]
    congr 2
    unfold strOfNums
    cases b with | mk d => simp [Function.comp_def]

theorem sl_new (w : World) (cs : List Value) (e : TypeId) (f : Nat × Nat) : Sl (w.alloc (.cells cs.toArray e f)) (some ⟨w.heap.size, 0, none⟩) cs := by
  refine .inr ⟨_, _, rfl, by simp, fun i u hu => ?_⟩
  rw [Nat.zero_add]
  simp only [World.cell?]
  rw [show (w.alloc (.cells cs.toArray e f)).heap[w.heap.size]? = some (.cells cs.toArray e f) from Array.getElem?_push_size]
  simpa using hu
end Go.Proofs.Ytoeoablmcelohaa
