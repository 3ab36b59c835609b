/- Texts of mine, joined: Maps that the call owns, as functions from keys to elements: whatever the keys' and the elements' types. Of every program. | Walks of the reference's path functions. -/
import Derived.Maps.Own
import Derived.Maps.Views
import Derived.Maps.OwnOps
import Derived.Maps.OwnSet
import Derived.Maps.Range
import Derived.Maps.RangeWalk
import Derived.Test.YtfoamcobpfflbaaDoorRows
import Derived.Test.YtfoamcobpfflbaaDoorZ2
namespace Go.Proofs.YtfoamcobpfflbaaDoor
open Go Go.RowKit Go.Maps

/-- How a map's keys and elements are written: x's value is mkK x, a's is mkE a. -/
structure MC (P : Program) (t k e : TypeId) (κ α : Type) where
  mkK : κ → Value
  lit : κ → Lit
  okK : κ → Prop
  mkE : α → Value
  dt : α → DataW Unit
  ok : α → Prop
  z0 : α
  R : Value → Option (DataW Unit × List MemPlace)
  keyed : Keyed P k
  under : P.underlying t = some (.map k e)
  key : ∀ x, okK x → keyOf P k (mkK x) = some (lit x)
  keyInv : ∀ v l, keyOf P k v = some l → ∃ x, v = mkK x ∧ l = lit x ∧ okK x
  litInj : ∀ x y, okK x → okK y → lit x = lit y → x = y
  el : ∀ a, ok a → R (mkE a) = some (dt a, [])
  elInv : ∀ v y, R v = some y → ∃ a, v = mkE a ∧ y = (dt a, []) ∧ ok a
  dtInj : ∀ a b, ok a → ok b → dt a = dt b → a = b
  zero : ∀ w, (zeroValue e).run P w = .ok (mkE z0) w
  okz : ok z0

/-- A list without one. -/
def lessOne {κ : Type} [DecidableEq κ] (l : List κ) (x : κ) : List κ := l.filter fun y => !decide (y = x)

theorem mem_lessOne {κ : Type} [DecidableEq κ] {l : List κ} {x y : κ} : y ∈ lessOne l x ↔ y ∈ l ∧ y ≠ x := by simp [lessOne]

theorem perm_lessOne {κ : Type} [DecidableEq κ] : ∀ {l : List κ} {x : κ}, l.Nodup → x ∈ l → l.Perm (x :: lessOne l x)
  | y :: l, x, hn, h => by
    rw [List.nodup_cons] at hn
    by_cases e : y = x
    · subst e
      have : lessOne (y :: l) y = l := by
        unfold lessOne
        rw [List.filter_cons_of_neg (by simp), List.filter_eq_self]
        intro z hz
        have : z ≠ y := fun e => hn.1 (e ▸ hz)
        simpa using this
      rw [this]
    · have hx : x ∈ l := (List.mem_cons.1 h).resolve_left (fun e2 => e e2.symm)
      have e3 : lessOne (y :: l) x = y :: lessOne l x := by unfold lessOne; rw [List.filter_cons_of_pos (by simpa using e)]
      rw [e3]
      exact ((perm_lessOne hn.2 hx).cons y).trans (List.Perm.swap x y _)

theorem nodup_le {κ : Type} : ∀ {l m : List κ}, l.Nodup → (∀ x ∈ l, x ∈ m) → l.length ≤ m.length
  | [], m, _, _ => Nat.zero_le _
  | x :: l, m, hn, h => by
    rw [List.nodup_cons] at hn
    obtain ⟨a, b, rfl⟩ := List.append_of_mem (h x (by simp))
    have := nodup_le (m := a ++ b) hn.2 fun y hy => by
      have := h y (by simp [hy])
      rw [List.mem_append, List.mem_cons] at this
      rw [List.mem_append]
      rcases this with h1 | h1 | h1
      · exact .inl h1
      · subst h1; exact absurd hy hn.1
      · exact .inr h1
    simp only [List.length_append, List.length_cons] at this ⊢
    omega

section
variable {P : Program} {t k e : TypeId} {κ α : Type} {C : MC P t k e κ α} {w w' : World} {b n : Nat} {F : κ → Option α}

/-- Block b is a map of at most n entries that has F's element at each key. -/
def MapG (C : MC P t k e κ α) (w : World) (b n : Nat) (F : κ → Option α) : Prop :=
  ∃ D, w.ownsMap P k C.R b n D ∧ Tidy D ∧ (∀ x, C.okK x → has D (C.lit x) = (F x).isSome ∧ ∀ zd, D.atKey (C.lit x) zd = match F x with | some a => C.dt a | none => zd) ∧ ∀ x a, F x = some a → C.okK x ∧ C.ok a

theorem MapG.made (C : MC P t k e κ α) (w : World) : MapG C (w.alloc (.map #[] 0)) w.heap.size 0 fun _ => none :=
  ⟨.map [], World.ownsMap_made _ _ _ _, tidy_empty, fun _ _ => ⟨rfl, fun _ => rfl⟩, fun _ _ h => by cases h⟩

theorem MapG.lt (h : MapG C w b n F) : b < w.heap.size := by obtain ⟨D, h1, _⟩ := h; exact h1.lt

theorem MapG.block (h : MapG C w b n F) (hb : w'.heap[b]? = w.heap[b]?) : MapG C w' b n F := by
  obtain ⟨D, ⟨es, clock, hc, h1, h2⟩, h3⟩ := h
  exact ⟨D, ⟨es, clock, hb.trans hc, h1, h2⟩, h3⟩

theorem MapG.kept {row : Option Nat} (h : MapG C w b n F) (hg : w.grownBy w' row) (hne : some b ≠ row) : MapG C w' b n F := h.block (hg.block b h.lt hne)

theorem MapG.below (h : MapG C w b n F) (hb : Below w.heap.size w w') : MapG C w' b n F := h.block (hb.block b h.lt)

theorem MapG.alloc (h : MapG C w b n F) (o : Obj) : MapG C (w.alloc o) b n F := h.kept (World.grownBy_alloc w o none) (by simp)

theorem MapG.drewN (h : MapG C w b n F) (q : Nat) : MapG C (w.drewN q) b n F := h

theorem MapG.mono (h : MapG C w b n F) {n' : Nat} (hn : n ≤ n') : MapG C w b n' F := by
  obtain ⟨D, h1, h2⟩ := h
  exact ⟨D, h1.mono hn, h2⟩

theorem MapG.isMap (h : MapG C w b n F) : ∃ es clock, w.heap[b]? = some (.map es clock) := by
  obtain ⟨D, ⟨es, clock, hc, _⟩, _⟩ := h
  exact ⟨es, clock, hc⟩

theorem MapG.congr {G : κ → Option α} (h : MapG C w b n F) (e : ∀ x, F x = G x) : MapG C w b n G := by
  rw [← show F = G from funext e]; exact h

theorem MC.read (C : MC P t k e κ α) {v : Value} {a : α} {ps : List MemPlace} (h : C.R v = some (C.dt a, ps)) (ha : C.ok a) : v = C.mkE a := by
  obtain ⟨c, h1, h2, h3⟩ := C.elInv v _ h
  injection h2 with h2 _
  rw [h1, C.dtInj a c ha h3 h2]

/-- 'm[k]'. -/
theorem MapG.look (h : MapG C w b n F) (x : κ) (hx : C.okK x) : (Instr.lookup t (.map (some b)) (C.mkK x) false).run P w = .ok (C.mkE ((F x).getD C.z0)) w := by
  obtain ⟨D, h1, h2, h3, h4⟩ := h
  obtain ⟨v, ps, hrun, hR⟩ := h1.lookup C.keyed C.under (C.zero w) (C.el _ C.okz) (C.key x hx)
  rw [(h3 x hx).2] at hR
  rw [hrun]
  congr 1
  cases hF : F x with
  | none => rw [hF] at hR; exact C.read hR C.okz
  | some a => rw [hF] at hR; exact C.read hR (h4 x a hF).2

/-- 'v, ok := m[k]'. -/
theorem MapG.look_ok (h : MapG C w b n F) (x : κ) (hx : C.okK x) : (Instr.lookup t (.map (some b)) (C.mkK x) true).run P w = .ok (.tuple #[C.mkE ((F x).getD C.z0), .bool (F x).isSome]) w := by
  obtain ⟨D, h1, h2, h3, h4⟩ := h
  obtain ⟨v, ps, hrun, hR⟩ := h1.look_ok C.keyed C.under (C.zero w) (C.el _ C.okz) (C.key x hx)
  rw [(h3 x hx).2] at hR
  rw [hrun, (h3 x hx).1]
  have : v = C.mkE ((F x).getD C.z0) := by
    cases hF : F x with
    | none => rw [hF] at hR; exact C.read hR C.okz
    | some a => rw [hF] at hR; exact C.read hR (h4 x a hF).2
  rw [this]

/-- 'm[k] = v'. -/
theorem MapG.put [DecidableEq κ] (h : MapG C w b n F) (x : κ) (hx : C.okK x) (a : α) (ha : C.ok a) (hn : n < maxLen) :
    ∃ w', (Instr.mapUpdate t (.map (some b)) (C.mkK x) (C.mkE a)).run P w = .ok () w' ∧ MapG C w' b (n + 1) (fun y => if y = x then some a else F y) ∧ w.grownBy w' (some b) := by
  obtain ⟨D, h1, h2, h3, h4⟩ := h
  obtain ⟨w', hrun, hown, hg⟩ := h1.update C.keyed C.under hn (C.key x hx) (C.el a ha)
  have hk := C.keyed.key (C.key x hx)
  refine ⟨w', hrun, ⟨_, hown, h2.put hk _, fun y hy => ?_, fun y c hc => ?_⟩, hg⟩
  · by_cases e : y = x
    · subst e
      simp only [if_pos]
      exact ⟨has_put_same h2.isMap hk _, fun zd => atKey_put_same h2.isMap hk _ zd⟩
    · have hne : C.lit y ≠ C.lit x := fun h => e (C.litInj y x hy hx h)
      simp only [if_neg e]
      exact ⟨by rw [has_put_other hne]; exact (h3 y hy).1, fun zd => by rw [atKey_put_other hne]; exact (h3 y hy).2 zd⟩
  · by_cases e : y = x
    · subst e; simp only [if_pos] at hc; injection hc with hc; subst hc; exact ⟨hx, ha⟩
    · simp only [if_neg e] at hc; exact h4 y c hc

/-- 'delete(m, k)'. -/
theorem MapG.del [DecidableEq κ] (h : MapG C w b n F) (x : κ) (hx : C.okK x) (ty : TypeId) :
    ∃ w', (Builtin.delete_ #[t, k] ty #[.map (some b), C.mkK x]).run P w = .ok (.tuple #[]) w' ∧ MapG C w' b n (fun y => if y = x then none else F y) ∧ w.grownBy w' (some b) := by
  obtain ⟨D, h1, h2, h3, h4⟩ := h
  obtain ⟨w', hrun, hown, hg⟩ := h1.drop C.keyed C.under (C.key x hx) ty
  refine ⟨w', hrun, ⟨_, hown, h2.del _, fun y hy => ?_, fun y c hc => ?_⟩, hg.grown⟩
  · by_cases e : y = x
    · subst e
      simp only [if_pos]
      exact ⟨has_del_same, fun zd => atKey_del_same zd⟩
    · have hne : C.lit y ≠ C.lit x := fun h => e (C.litInj y x hy hx h)
      simp only [if_neg e]
      exact ⟨by rw [has_del_other hne]; exact (h3 y hy).1, fun zd => by rw [atKey_del_other hne]; exact (h3 y hy).2 zd⟩
  · by_cases e : y = x
    · simp only [if_pos e] at hc; cases hc
    · simp only [if_neg e] at hc; exact h4 y c hc

/-- 'for k, v := range m' under way: l is left. -/
def RanG (C : MC P t k e κ α) (w : World) (b r n : Nat) (F : κ → Option α) (l : List κ) : Prop :=
  ∃ D left, w.ranges P k C.R b r n D left (w.rangeLeft b r) ∧ Tidy D ∧ (∀ x, C.okK x → has D (C.lit x) = (F x).isSome ∧ ∀ zd, D.atKey (C.lit x) zd = match F x with | some a => C.dt a | none => zd) ∧ (∀ x a, F x = some a → C.okK x ∧ C.ok a) ∧
    (∀ x, C.okK x → (left (C.lit x) = true ↔ x ∈ l)) ∧ (∀ x ∈ l, (F x).isSome = true) ∧ l.Nodup

theorem RanG.nodup {r : Nat} {l : List κ} (h : RanG C w b r n F l) : l.Nodup := by
  obtain ⟨D, left, h1, h2, h3, h4, h5, h6, h7⟩ := h
  exact h7

theorem RanG.map {r : Nat} {l : List κ} (h : RanG C w b r n F l) : MapG C w b n F := by
  obtain ⟨D, left, h1, h2, h3, h4, _⟩ := h
  exact ⟨D, h1.owns, h2, h3, h4⟩

theorem rangeLeft_block {r : Nat} (hb : w'.heap[b]? = w.heap[b]?) (hr : w'.heap[r]? = w.heap[r]?) : w'.rangeLeft b r = w.rangeLeft b r := by
  unfold World.rangeLeft; rw [hb, hr]

theorem RanG.block {r : Nat} {l : List κ} (h : RanG C w b r n F l) (hb : w'.heap[b]? = w.heap[b]?) (hr : w'.heap[r]? = w.heap[r]?) : RanG C w' b r n F l := by
  obtain ⟨D, left, ⟨es, clock, since, seen, c0, h1, h2, h3, h4, h5, h6⟩, h⟩ := h
  refine ⟨D, left, ⟨es, clock, since, seen, c0, hb.trans h1, h2, h3, h4, hr.trans h5, ?_⟩, h⟩
  rw [rangeLeft_block hb hr]; exact h6

theorem RanG.lt {r : Nat} {l : List κ} (h : RanG C w b r n F l) : r < w.heap.size := by
  obtain ⟨D, left, h1, _⟩ := h
  exact h1.lt

theorem RanG.iter {r : Nat} {l : List κ} (h : RanG C w b r n F l) : ∃ m s q c, w.heap[r]? = some (.mapIter m s q c) := by
  obtain ⟨D, left, ⟨es, clock, since, seen, c0, h1, h2, h3, h4, h5, h6⟩, h⟩ := h
  exact ⟨_, _, _, _, h5⟩

theorem RanG.kept {r : Nat} {l : List κ} {row : Option Nat} (h : RanG C w b r n F l) (hg : w.grownBy w' row) (h1 : some b ≠ row) (h2 : some r ≠ row) : RanG C w' b r n F l :=
  h.block (hg.block b h.map.lt h1) (hg.block r h.lt h2)

theorem RanG.below {r : Nat} {l : List κ} (h : RanG C w b r n F l) (hb : Below w.heap.size w w') : RanG C w' b r n F l := h.block (hb.block b h.map.lt) (hb.block r h.lt)

/-- 'range m'. -/
theorem MapG.range (h : MapG C w b n F) (l : List κ) (hl : ∀ x, x ∈ l ↔ (F x).isSome = true) (hn : l.Nodup) :
    ∃ w', (Instr.range t (.map (some b))).run P w = .ok (.pointer (some ⟨w.heap.size, 0, none⟩)) w' ∧ RanG C w' b w.heap.size n F l ∧ w.grownBy w' none ∧ w'.heap.size = w.heap.size + 1 ∧ w'.rangeLeft b w.heap.size ≤ n := by
  obtain ⟨D, h1, h2, h3, h4⟩ := h
  obtain ⟨w', hrun, hr, hg, hs⟩ := h1.range C.keyed C.under
  refine ⟨w', hrun, ⟨D, has D, ?_, h2, h3, h4, fun x hx => ?_, fun x hx => (hl x).1 hx, hn⟩, hg, hs, by rw [hr.left_eq]; exact h1.size_le⟩
  · rw [hr.left_eq]; exact hr
  · rw [(h3 x hx).1, hl]

/-- The step. -/
theorem RanG.next [DecidableEq κ] {r : Nat} {l : List κ} (h : RanG C w b r n F l) (ty : TypeId) :
    (l = [] ∧ (Instr.next (.pointer (some ⟨r, 0, none⟩)) false ty).run P w = .ok (.tuple #[.bool false]) w) ∨
    ∃ x a w', x ∈ l ∧ F x = some a ∧ C.okK x ∧ C.ok a ∧ (Instr.next (.pointer (some ⟨r, 0, none⟩)) false ty).run P w = .ok (.tuple #[.bool true, C.mkK x, C.mkE a]) w' ∧ RanG C w' b r n F (lessOne l x) ∧ w'.rangeLeft b r < w.rangeLeft b r ∧ w.grownBy w' (some r) ∧ w'.heap.size = w.heap.size ∧
      (Instr.entry (.pointer (some ⟨r, 0, none⟩))).run P w' = .ok (.tuple #[C.mkK x, C.mkE a]) w' := by
  obtain ⟨D, left, h1, h2, h3, h4, h5, h6, h7⟩ := h
  rcases h1.next C.keyed ty with ⟨_, hl, hrun⟩ | ⟨key, v, kl, y, w', cnt', hkey, hlk, hv, hat, hrun, hrg, hlt, hgr, hsz, hen⟩
  · left
    refine ⟨?_, hrun⟩
    cases l with
    | nil => rfl
    | cons x l =>
      have hs := h6 x (by simp)
      obtain ⟨a, ha⟩ := Option.isSome_iff_exists.1 hs
      have := (h5 x (h4 x a ha).1).2 (by simp)
      rw [hl] at this; cases this
  · right
    obtain ⟨x, rfl, rfl, hx⟩ := C.keyInv key kl hkey
    have hxl := (h5 x hx).1 hlk
    obtain ⟨a, ha⟩ := Option.isSome_iff_exists.1 (h6 x hxl)
    have ha4 := h4 x a ha
    obtain ⟨c, rfl, hy, hc⟩ := C.elInv v y hv
    have e1 := hat .nil
    rw [(h3 x hx).2, ha, hy] at e1
    obtain rfl := C.dtInj a c ha4.2 hc e1
    refine ⟨x, a, w', hxl, ha, hx, ha4.2, hrun, ⟨D, fun z => left z && !z.sameKey (C.lit x), ?_, h2, h3, h4, fun z hz => ?_, fun z hz => h6 z (mem_lessOne.1 hz).1, h7.filter _⟩, by rw [hrg.left_eq]; exact hlt, hgr, hsz, hen⟩
    · rw [hrg.left_eq]; exact hrg
    · rw [mem_lessOne, Bool.and_eq_true, h5 z hz]
      have hk := C.keyed.key (C.key x hx)
      constructor
      · rintro ⟨p1, p2⟩
        refine ⟨p1, fun e => ?_⟩
        subst e
        rw [WideAt.sameKey_self hk] at p2; cases p2
      · rintro ⟨p2, p1⟩
        exact ⟨p2, by rw [sameKey_ne (fun e => p1 (C.litInj z x hz hx e))]; rfl⟩
end

section
variable {P : Program} {ops : Array Oper} {rest : List Oper} {o : Oper} {a : Act} {Q : Exit → Act → World → Prop} {w : World} {t k e : TypeId} {κ α : Type} {C : MC P t k e κ α} {b n : Nat} {F : κ → Option α}

/-- 'm[k] = v' at the operation. -/
theorem wp_putG [DecidableEq κ] (hg : o.guard = none) (m x v : Operand) (hop : o.op = Op.mapUpdate t m x v) (hm : a.eval m = .map (some b)) (h : MapG C w b n F) (y : κ) (c : α) (hx : a.eval x = C.mkK y) (hv : a.eval v = C.mkE c) (hy : C.okK y) (hc : C.ok c) (hn : n < maxLen)
    (hK : ∀ w', MapG C w' b (n + 1) (fun z => if z = y then some c else F z) → w.grownBy w' (some b) → wpList P ops Q rest (a.put o.dst undef) w') : wpList P ops Q (o :: rest) a w := by
  refine wpList_plain hg fun K' hK' => ?_
  obtain ⟨w', hrun, r1, r2⟩ := h.put y hy c hc hn
  unfold Oper.wp
  simp [execOp, hop, hm, hx, hv, hrun, Result.andThen]
  exact hK' _ _ (hK w' r1 r2)

/-- 'delete(m, k)' at the operation. -/
theorem wp_delG [DecidableEq κ] (hg : o.guard = none) (m x : Operand) (hop : o.op = Op.call { callee := Callee.builtin Builtin.delete, args := #[m, x], argTypes := #[t, k] }) (hm : a.eval m = .map (some b)) (h : MapG C w b n F) (y : κ) (hx : a.eval x = C.mkK y) (hy : C.okK y)
    (hK : ∀ w', MapG C w' b n (fun z => if z = y then none else F z) → w.grownBy w' (some b) → wpList P ops Q rest (a.put o.dst (.tuple #[])) w') : wpList P ops Q (o :: rest) a w := by
  refine wpList_plain hg fun K' hK' => ?_
  obtain ⟨w', hrun, r1, r2⟩ := h.del y hy o.type
  unfold Oper.wp
  simp [execOp, hop, resolve, invoke, builtin, hm, hx, hrun, Result.andThen]
  exact hK' _ _ (hK w' r1 r2)

/-- 'range m' at the operation. -/
theorem wp_rangeG (hg : o.guard = none) (m : Operand) (hop : o.op = Op.range t m) (hm : a.eval m = .map (some b)) (h : MapG C w b n F) (l : List κ) (hl : ∀ x, x ∈ l ↔ (F x).isSome = true) (hnd : l.Nodup)
    (hK : ∀ w', RanG C w' b w.heap.size n F l → w.grownBy w' none → w'.heap.size = w.heap.size + 1 → w'.rangeLeft b w.heap.size ≤ n → wpList P ops Q rest (a.put o.dst (.pointer (some ⟨w.heap.size, 0, none⟩))) w') : wpList P ops Q (o :: rest) a w := by
  refine wpList_plain hg fun K' hK' => ?_
  obtain ⟨w', hrun, r1, r2, r3, r4⟩ := h.range l hl hnd
  unfold Oper.wp
  simp [execOp, hop, hm, hrun, Result.andThen]
  exact hK' _ _ (hK w' r1 r2 r3 r4)

/-- The step at the operation. -/
theorem wp_nextG [DecidableEq κ] {r : Nat} {l : List κ} (hg : o.guard = none) (it : Operand) (hop : o.op = Op.next it false) (hit : a.eval it = .pointer (some ⟨r, 0, none⟩)) (h : RanG C w b r n F l)
    (hDone : l = [] → wpList P ops Q rest (a.put o.dst (.tuple #[.bool false])) w)
    (hMore : ∀ (x : κ) (c : α) (w' : World), x ∈ l → F x = some c → C.okK x → C.ok c → RanG C w' b r n F (lessOne l x) → w'.rangeLeft b r < w.rangeLeft b r → w.grownBy w' (some r) → w'.heap.size = w.heap.size →
      (Instr.entry (.pointer (some ⟨r, 0, none⟩))).run P w' = .ok (.tuple #[C.mkK x, C.mkE c]) w' → wpList P ops Q rest (a.put o.dst (.tuple #[.bool true, C.mkK x, C.mkE c])) w') : wpList P ops Q (o :: rest) a w := by
  refine wpList_plain hg fun K' hK' => ?_
  unfold Oper.wp
  rcases h.next o.type with ⟨hl, hrun⟩ | ⟨x, c, w', hxl, hF, hx, hc, hrun, hr, hlt, hgr, hsz, hen⟩
  · simp [execOp, hop, hit, hrun, Result.andThen]
    exact hK' _ _ (hDone hl)
  · simp [execOp, hop, hit, hrun, Result.andThen]
    exact hK' _ _ (hMore x c w' hxl hF hx hc hr hlt hgr hsz hen)
end
end Go.Proofs.YtfoamcobpfflbaaDoor
namespace Go.Proofs.YtfoamcobpfflbaaDoor
open Go Go.RowKit

theorem ES : Elem Tryd.prog 42 9 (.string ByteArray.empty) 1 16 := ⟨by kernel_rfl, by kernel_rfl⟩

set_option maxRecDepth 100000 in
set_option maxHeartbeats 400000 in
theorem ref_split (s : ByteArray) (w : World) (hs : s.size ≤ 10000000) :
    Calls Tryd.prog 85 #[.string s] w fun e w' => ∃ v, e = .returned v ∧ Below w.heap.size w w' ∧ w'.ownsRow w.heap.size 9 1 v (PathS.split s).length ((PathS.split s).map Value.string) := by
  go_enter Tryd.func85, Tryd.ntmps85
  by_cases he : s.size = 0
  · have h1 : s.toList.isEmpty = true := by rw [isEmpty_iff]; simpa using he
    go_wp2_with fail
    go_ret
    exact ⟨_, rfl, Below.refl _ _, by simp only [PathS.split, he, if_true]; exact World.ownsRow_nil _ _ _ _⟩
  · have h1 : s.toList.isEmpty = false := by rw [isEmpty_iff]; simpa using he
    have hl : (PathS.splitTo s (s.size + 1)).1 = PathS.split s := by simp [PathS.split, he]
    have HL := Lib.hid hl; clear hl
    go_wp2_with fail
    go_loopw [3, 4, 5] (fun out fr i wr => ∃ k : Nat, k ≤ s.size + 1 ∧ i = .int .i64 k ∧ fr = .int .i64 (PathS.splitTo s k).2 ∧ wr.ownsRow w.heap.size 9 1 out (PathS.splitTo s k).1.length ((PathS.splitTo s k).1.map Value.string) ∧ Below w.heap.size w wr) (fun _ _ i _ => s.size + 1 - (intOf i).toNat)
    case atStart => exact ⟨0, by omega, rfl, rfl, World.ownsRow_made w #[] 0 (Nat.le_refl _) (by simp [maxLen]) rfl, (Below.refl _ _).alloc (Nat.le_refl _) _⟩
    case round =>
      obtain ⟨k, hk, rfl, rfl, hown, hb⟩ := hrel
      have hle := PathS.splitTo_le s k
      have hln := PathS.splitTo_len s k
      have HS : Hid (PathS.splitTo s (k + 1) = if k = s.size ∨ s[k]! = 47 then ((PathS.splitTo s k).1 ++ [s.extract (PathS.splitTo s k).2 k], k + 1) else PathS.splitTo s k) := by show _ = _; rfl
      generalize hA : (PathS.splitTo s k).1 = acc at hown hln HS
      have HA := Lib.hid hA; clear hA
      generalize hF : (PathS.splitTo s k).2 = f at hle HS
      have HF := Lib.hid hF; clear hF
      by_cases h2 : k = s.size + 1
      · have h3 : ¬ (k ≤ s.size) := by omega
        subst h2
        go_wp2_with fail
        go_ret
        exact ⟨_, rfl, hb, by rw [← HL.out, HA.out]; exact hown⟩
      · have h3 : k ≤ s.size := by omega
        by_cases h4 : k = s.size
        · have h5 : ((k : Int) == (s.size : Int)) = true := by simp [h4]
          have h5 : f ≤ s.size := by omega
          have HS' : Hid (PathS.splitTo s (k + 1) = (acc ++ [s.extract f k], k + 1)) := by show _ = _; rw [HS.out, if_pos (.inl h4)]
          go_wp2_with (at_builtin; refine wp_app1 rfl _ _ _ rfl ES rfl rfl hown rfl rfl (by omega) (by simp [maxLen]; omega) hb.size ?_)
          intro v' w' hown' _ hb'
          go_wp2_with fail
          go_roundw
          case rel => exact ⟨k + 1, by omega, by go_num, by rw [HS'.out]; go_num, by rw [HS'.out]; simpa [h4] using hown', hb.trans hb'⟩
          case measure => simp [intOf]; omega
        · have h5 : ((k : Int) == (s.size : Int)) = false := beq_eq_false_iff_ne.2 (by omega)
          have h6 : k < s.size := by omega
          have hget : s[k]! = s[k] := getElem!_pos s k h6
          by_cases h7 : s[k] = 47
          · have h8 : ((s[k].toNat : Int) == 47) = true := by rw [h7]; rfl
            have HS' : Hid (PathS.splitTo s (k + 1) = (acc ++ [s.extract f k], k + 1)) := by show _ = _; rw [HS.out, if_pos (.inr (by rw [hget]; exact h7))]
            clear h7 hget
            go_wp2_with (at_builtin; refine wp_app1 rfl _ _ _ rfl ES rfl rfl hown rfl rfl (by omega) (by simp [maxLen]; omega) hb.size ?_)
            intro v' w' hown' _ hb'
            go_wp2_with fail
            go_roundw
            case rel => exact ⟨k + 1, by omega, by go_num, by rw [HS'.out]; go_num, by rw [HS'.out]; simpa using hown', hb.trans hb'⟩
            case measure => simp [intOf]; omega
          · have h8 : ((s[k].toNat : Int) == 47) = false := by
              rw [beq_eq_false_iff_ne]; intro h; exact h7 (UInt8.toNat_inj.1 (by simpa using Int.ofNat.inj h))
            have HS' : Hid (PathS.splitTo s (k + 1) = PathS.splitTo s k) := by show _ = _; rw [HS.out, if_neg (by rw [hget]; simp [h4, h7])]
            clear h7 hget
            go_wp2_with fail
            go_roundw
            case rel => exact ⟨k + 1, by omega, by go_num, by rw [HS'.out, HF.out], by rw [HS'.out, HA.out]; exact hown, hb⟩
            case measure => simp [intOf]; omega
end Go.Proofs.YtfoamcobpfflbaaDoor
