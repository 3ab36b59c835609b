/- Texts of mine, joined: Bytes and numbers as cells and as an array's values. Of every program. | Maps that the call owns, as functions from keys to elements: whatever the keys' and the elements' types. Of every program. | Ids: arrays of 32 bytes as values, as keys of maps, held against one another. | A path's files in three snapshots, as they lie in memory. -/
import Derived.Maps.Own
import Derived.Maps.Views
import Derived.Maps.OwnOps
import Derived.Maps.OwnSet
import Derived.Maps.Range
import Derived.Maps.RangeWalk
import Derived.DeepKeys4
import Derived.Test.YtpcipdkoncmdcaaGreatDoorRows
import Derived.Test.YtpcipdkoncmdcaaGreatDoorYJoinApart11
namespace Go.Proofs.YtpcipdkoncmdcaaGreatDoor
open Go Go.RowKit
namespace Sha
def byteAt (l : List Nat) (i : Nat) : Nat := l.getD i 0

theorem byteAt_lt {l : List Nat} (h : ∀ x ∈ l, x < 256) (i : Nat) : byteAt l i < 256 := by
  unfold byteAt
  rw [List.getD_eq_getElem?_getD]
  cases e : l[i]? with
  | none => show 0 < _; omega
  | some x => exact h x (List.mem_of_getElem? e)
end Sha
/-- Bytes as cells. -/
def nb (l : List Nat) : List Value := l.map fun x : Nat => Value.int .u8 x
theorem nb_len (l : List Nat) : (nb l).length = l.length := by simp [nb]
theorem nb_at {l : List Nat} {i : Nat} (h : i < l.length) : (nb l)[i]? = some (.int .u8 (Sha.byteAt l i)) := by
  unfold nb Sha.byteAt
  rw [List.getElem?_map, List.getD_eq_getElem?_getD, List.getElem?_eq_getElem h]; rfl
/-- Numbers as an array's values. -/
def nums (k : IntKind) (l : List Nat) : Array Value := (l.map fun x : Nat => Value.int k x).toArray
theorem nums_size (k : IntKind) (l : List Nat) : (nums k l).size = l.length := by simp [nums]
theorem nums_one (k : IntKind) (l : List Nat) : (nums k l).all (·.oneCell') = true := by
  rw [Array.all_eq_true]
  intro i hi
  simp [nums]
  rfl
end Go.Proofs.YtpcipdkoncmdcaaGreatDoor
namespace Go.Proofs.YtpcipdkoncmdcaaGreatDoor
open Go Go.RowKit Go.Maps
/-- How a map's keys and elements are written: x's value is mkK x, a's is mkE a. -/
structure MC (P : Program) (t k e : TypeId) (κ α : Type) where
  mkK : κ → Value
  lit : κ → Lit
  okK : κ → Prop
  mkE : α → Value
  dt : α → DataW Unit
  ok : α → Prop
  z0 : α
  R : Value → Option (DataW Unit × List MemPlace)
  keyed : Keyed P k
  under : P.underlying t = some (.map k e)
  key : ∀ x, okK x → keyOf P k (mkK x) = some (lit x)
  keyInv : ∀ v l, keyOf P k v = some l → ∃ x, v = mkK x ∧ l = lit x ∧ okK x
  litInj : ∀ x y, okK x → okK y → lit x = lit y → x = y
  el : ∀ a, ok a → R (mkE a) = some (dt a, [])
  elInv : ∀ v y, R v = some y → ∃ a, v = mkE a ∧ y = (dt a, []) ∧ ok a
  dtInj : ∀ a b, ok a → ok b → dt a = dt b → a = b
  zero : ∀ w, (zeroValue e).run P w = .ok (mkE z0) w
  okz : ok z0

section
variable {P : Program} {t k e : TypeId} {κ α : Type} {C : MC P t k e κ α} {w w' : World} {b n : Nat} {F : κ → Option α}
/-- Block b is a map of at most n entries that has F's element at each key. -/
def MapG (C : MC P t k e κ α) (w : World) (b n : Nat) (F : κ → Option α) : Prop :=
  ∃ D, w.ownsMap P k C.R b n D ∧ Tidy D ∧ (∀ x, C.okK x → has D (C.lit x) = (F x).isSome ∧ ∀ zd, D.atKey (C.lit x) zd = match F x with | some a => C.dt a | none => zd) ∧ ∀ x a, F x = some a → C.okK x ∧ C.ok a

theorem MapG.made (C : MC P t k e κ α) (w : World) : MapG C (w.alloc (.map #[] 0)) w.heap.size 0 fun _ => none :=
  ⟨.map [], World.ownsMap_made _ _ _ _, tidy_empty, fun _ _ => ⟨rfl, fun _ => rfl⟩, fun _ _ h => by cases h⟩

theorem MapG.lt (h : MapG C w b n F) : b < w.heap.size := by obtain ⟨D, h1, _⟩ := h; exact h1.lt

theorem MapG.block (h : MapG C w b n F) (hb : w'.heap[b]? = w.heap[b]?) : MapG C w' b n F := by
  obtain ⟨D, ⟨es, clock, hc, h1, h2⟩, h3⟩ := h
  exact ⟨D, ⟨es, clock, hb.trans hc, h1, h2⟩, h3⟩

theorem MapG.kept {row : Option Nat} (h : MapG C w b n F) (hg : w.grownBy w' row) (hne : some b ≠ row) : MapG C w' b n F := h.block (hg.block b h.lt hne)

theorem MapG.below (h : MapG C w b n F) (hb : Below w.heap.size w w') : MapG C w' b n F := h.block (hb.block b h.lt)

theorem MapG.alloc (h : MapG C w b n F) (o : Obj) : MapG C (w.alloc o) b n F := h.kept (World.grownBy_alloc w o none) (by simp)

theorem MapG.drewN (h : MapG C w b n F) (q : Nat) : MapG C (w.drewN q) b n F := h

theorem MapG.mono (h : MapG C w b n F) {n' : Nat} (hn : n ≤ n') : MapG C w b n' F := by
  obtain ⟨D, h1, h2⟩ := h
  exact ⟨D, h1.mono hn, h2⟩

theorem MapG.isMap (h : MapG C w b n F) : ∃ es clock, w.heap[b]? = some (.map es clock) := by
  obtain ⟨D, ⟨es, clock, hc, _⟩, _⟩ := h
  exact ⟨es, clock, hc⟩

theorem MapG.congr {G : κ → Option α} (h : MapG C w b n F) (e : ∀ x, F x = G x) : MapG C w b n G := by
  rw [← show F = G from funext e]; exact h

theorem MC.read (C : MC P t k e κ α) {v : Value} {a : α} {ps : List MemPlace} (h : C.R v = some (C.dt a, ps)) (ha : C.ok a) : v = C.mkE a := by
  obtain ⟨c, h1, h2, h3⟩ := C.elInv v _ h
  injection h2 with h2 _
  rw [h1, C.dtInj a c ha h3 h2]

/-- 'm[k]'. -/
theorem MapG.look (h : MapG C w b n F) (x : κ) (hx : C.okK x) : (Instr.lookup t (.map (some b)) (C.mkK x) false).run P w = .ok (C.mkE ((F x).getD C.z0)) w := by
  obtain ⟨D, h1, h2, h3, h4⟩ := h
  obtain ⟨v, ps, hrun, hR⟩ := h1.lookup C.keyed C.under (C.zero w) (C.el _ C.okz) (C.key x hx)
  rw [(h3 x hx).2] at hR
  rw [hrun]
  congr 1
  cases hF : F x with
  | none => rw [hF] at hR; exact C.read hR C.okz
  | some a => rw [hF] at hR; exact C.read hR (h4 x a hF).2

/-- 'm[k] = v'. -/
theorem MapG.put [DecidableEq κ] (h : MapG C w b n F) (x : κ) (hx : C.okK x) (a : α) (ha : C.ok a) (hn : n < maxLen) :
    ∃ w', (Instr.mapUpdate t (.map (some b)) (C.mkK x) (C.mkE a)).run P w = .ok () w' ∧ MapG C w' b (n + 1) (fun y => if y = x then some a else F y) ∧ w.grownBy w' (some b) := by
  obtain ⟨D, h1, h2, h3, h4⟩ := h
  obtain ⟨w', hrun, hown, hg⟩ := h1.update C.keyed C.under hn (C.key x hx) (C.el a ha)
  have hk := C.keyed.key (C.key x hx)
  refine ⟨w', hrun, ⟨_, hown, h2.put hk _, fun y hy => ?_, fun y c hc => ?_⟩, hg⟩
  · by_cases e : y = x
    · subst e
      simp only [if_pos]
      exact ⟨has_put_same h2.isMap hk _, fun zd => atKey_put_same h2.isMap hk _ zd⟩
    · have hne : C.lit y ≠ C.lit x := fun h => e (C.litInj y x hy hx h)
      simp only [if_neg e]
      exact ⟨by rw [has_put_other hne]; exact (h3 y hy).1, fun zd => by rw [atKey_put_other hne]; exact (h3 y hy).2 zd⟩
  · by_cases e : y = x
    · subst e; simp only [if_pos] at hc; injection hc with hc; subst hc; exact ⟨hx, ha⟩
    · simp only [if_neg e] at hc; exact h4 y c hc

/-- 'delete(m, k)'. -/
theorem MapG.del [DecidableEq κ] (h : MapG C w b n F) (x : κ) (hx : C.okK x) (ty : TypeId) :
    ∃ w', (Builtin.delete_ #[t, k] ty #[.map (some b), C.mkK x]).run P w = .ok (.tuple #[]) w' ∧ MapG C w' b n (fun y => if y = x then none else F y) ∧ w.grownBy w' (some b) := by
  obtain ⟨D, h1, h2, h3, h4⟩ := h
  obtain ⟨w', hrun, hown, hg⟩ := h1.drop C.keyed C.under (C.key x hx) ty
  refine ⟨w', hrun, ⟨_, hown, h2.del _, fun y hy => ?_, fun y c hc => ?_⟩, hg.grown⟩
  · by_cases e : y = x
    · subst e
      simp only [if_pos]
      exact ⟨has_del_same, fun zd => atKey_del_same zd⟩
    · have hne : C.lit y ≠ C.lit x := fun h => e (C.litInj y x hy hx h)
      simp only [if_neg e]
      exact ⟨by rw [has_del_other hne]; exact (h3 y hy).1, fun zd => by rw [atKey_del_other hne]; exact (h3 y hy).2 zd⟩
  · by_cases e : y = x
    · simp only [if_pos e] at hc; cases hc
    · simp only [if_neg e] at hc; exact h4 y c hc

/-- 'for k, v := range m' under way: l is left. -/
def RanG (C : MC P t k e κ α) (w : World) (b r n : Nat) (F : κ → Option α) (l : List κ) : Prop :=
  ∃ D left, w.ranges P k C.R b r n D left (w.rangeLeft b r) ∧ Tidy D ∧ (∀ x, C.okK x → has D (C.lit x) = (F x).isSome ∧ ∀ zd, D.atKey (C.lit x) zd = match F x with | some a => C.dt a | none => zd) ∧ (∀ x a, F x = some a → C.okK x ∧ C.ok a) ∧
    (∀ x, C.okK x → (left (C.lit x) = true ↔ x ∈ l)) ∧ (∀ x ∈ l, (F x).isSome = true) ∧ l.Nodup

theorem RanG.nodup {r : Nat} {l : List κ} (h : RanG C w b r n F l) : l.Nodup := by
  obtain ⟨D, left, h1, h2, h3, h4, h5, h6, h7⟩ := h
  exact h7

theorem RanG.map {r : Nat} {l : List κ} (h : RanG C w b r n F l) : MapG C w b n F := by
  obtain ⟨D, left, h1, h2, h3, h4, _⟩ := h
  exact ⟨D, h1.owns, h2, h3, h4⟩

theorem rangeLeft_block {r : Nat} (hb : w'.heap[b]? = w.heap[b]?) (hr : w'.heap[r]? = w.heap[r]?) : w'.rangeLeft b r = w.rangeLeft b r := by
  unfold World.rangeLeft; rw [hb, hr]

theorem RanG.block {r : Nat} {l : List κ} (h : RanG C w b r n F l) (hb : w'.heap[b]? = w.heap[b]?) (hr : w'.heap[r]? = w.heap[r]?) : RanG C w' b r n F l := by
  obtain ⟨D, left, ⟨es, clock, since, seen, c0, h1, h2, h3, h4, h5, h6⟩, h⟩ := h
  refine ⟨D, left, ⟨es, clock, since, seen, c0, hb.trans h1, h2, h3, h4, hr.trans h5, ?_⟩, h⟩
  rw [rangeLeft_block hb hr]; exact h6

theorem RanG.lt {r : Nat} {l : List κ} (h : RanG C w b r n F l) : r < w.heap.size := by
  obtain ⟨D, left, h1, _⟩ := h
  exact h1.lt

theorem RanG.kept {r : Nat} {l : List κ} {row : Option Nat} (h : RanG C w b r n F l) (hg : w.grownBy w' row) (h1 : some b ≠ row) (h2 : some r ≠ row) : RanG C w' b r n F l :=
  h.block (hg.block b h.map.lt h1) (hg.block r h.lt h2)

theorem RanG.below {r : Nat} {l : List κ} (h : RanG C w b r n F l) (hb : Below w.heap.size w w') : RanG C w' b r n F l := h.block (hb.block b h.map.lt) (hb.block r h.lt)

/-- 'range m'. -/
theorem MapG.range (h : MapG C w b n F) (l : List κ) (hl : ∀ x, x ∈ l ↔ (F x).isSome = true) (hn : l.Nodup) :
    ∃ w', (Instr.range t (.map (some b))).run P w = .ok (.pointer (some ⟨w.heap.size, 0, none⟩)) w' ∧ RanG C w' b w.heap.size n F l ∧ w.grownBy w' none ∧ w'.heap.size = w.heap.size + 1 ∧ w'.rangeLeft b w.heap.size ≤ n := by
  obtain ⟨D, h1, h2, h3, h4⟩ := h
  obtain ⟨w', hrun, hr, hg, hs⟩ := h1.range C.keyed C.under
  refine ⟨w', hrun, ⟨D, has D, ?_, h2, h3, h4, fun x hx => ?_, fun x hx => (hl x).1 hx, hn⟩, hg, hs, by rw [hr.left_eq]; exact h1.size_le⟩
  · rw [hr.left_eq]; exact hr
  · rw [(h3 x hx).1, hl]

end
section
variable {P : Program} {ops : Array Oper} {rest : List Oper} {o : Oper} {a : Act} {Q : Exit → Act → World → Prop} {w : World} {t k e : TypeId} {κ α : Type} {C : MC P t k e κ α} {b n : Nat} {F : κ → Option α}
/-- 'm[k] = v' at the operation. -/
theorem wp_putG [DecidableEq κ] (hg : o.guard = none) (m x v : Operand) (hop : o.op = Op.mapUpdate t m x v) (hm : a.eval m = .map (some b)) (h : MapG C w b n F) (y : κ) (c : α) (hx : a.eval x = C.mkK y) (hv : a.eval v = C.mkE c) (hy : C.okK y) (hc : C.ok c) (hn : n < maxLen)
    (hK : ∀ w', MapG C w' b (n + 1) (fun z => if z = y then some c else F z) → w.grownBy w' (some b) → wpList P ops Q rest (a.put o.dst undef) w') : wpList P ops Q (o :: rest) a w := by
  refine wpList_plain hg fun K' hK' => ?_
  obtain ⟨w', hrun, r1, r2⟩ := h.put y hy c hc hn
  unfold Oper.wp
  simp [execOp, hop, hm, hx, hv, hrun, Result.andThen]
  exact hK' _ _ (hK w' r1 r2)

end
end Go.Proofs.YtpcipdkoncmdcaaGreatDoor
namespace Go.Proofs.YtpcipdkoncmdcaaGreatDoor
open Go Go.RowKit Go.Maps
/-- An id's bytes. -/
def OkId (x : List Nat) : Prop := x.length = 32 ∧ ∀ b ∈ x, b < 256
def idLs (x : List Nat) : List Lit := x.map fun b : Nat => Lit.int .u8 b
def idLit (x : List Nat) : Lit := .string (keyBytes (idLs x))

theorem id_under : Tryz.prog.underlying 43 = some (.array 32 5) := Tryz.underlying43
theorem id_type : Tryz.prog.keyTypeAt 2 43 = true := by kernel_rfl
theorem id_ktype : Tryz.prog.keyType 43 = true := by kernel_rfl
theorem id_tiled : Tryz.prog.tiled 2 43 = true := by kernel_rfl
section
variable {P : Program} {k : TypeId} {n : Nat} {e : TypeId}
theorem keyed_arr (h : P.underlying k = some (.array n e)) (hk : P.keyTypeAt 2 k = true) (ht : P.tiled 2 k = true) : Keyed P k := Keyed.of_law (deep_law (m := 2) (by decide) hk ht (by rw [h]))
theorem equal_arr (w : World) (h : P.underlying k = some (.array n e)) (hk : P.keyTypeAt 2 k = true) {x y : Value} {lx ly : Lit} (hx : keyOf P k x = some lx) (hy : keyOf P k y = some ly) : ∃ r : Bool, (Op.equal k x y).run P w = .ok r w ∧ (r = true ↔ lx = ly) :=
  run_equal_deep w (m := 2) (by decide) hk (by rw [h]) hx hy
theorem binop_eql {w : World} {I J : Array Value} {r : Bool} (h1 : (Op.equal k (.agg I) (.agg J)).run P w = .ok r w) : (binOp .eql k (.agg I) (.agg J)).run P w = .ok (.bool r) w := by
  simp [binOp, h1, Result.andThen]
theorem binop_neq {w : World} {I J : Array Value} {r : Bool} (h1 : (Op.equal k (.agg I) (.agg J)).run P w = .ok r w) : (binOp .neq k (.agg I) (.agg J)).run P w = .ok (.bool (!r)) w := by
  simp [binOp, h1, Result.andThen]
end
theorem id_keyed : Keyed Tryz.prog 43 := keyed_arr id_under id_type id_tiled
theorem id_cells : Tryz.prog.cellsOf 43 = 32 := by kernel_rfl
theorem u8_cells : Tryz.prog.cellsOf 5 = 1 := by kernel_rfl

theorem u8_wf (n : Int) : (Lit.int .u8 n).wf = true ↔ 0 ≤ n ∧ n < 256 := by
  have h1 : IntKind.u8.min = 0 := rfl
  have h2 : IntKind.u8.max = 255 := rfl
  simp only [Lit.wf, h1, h2, Bool.and_eq_true, decide_eq_true_eq]
  omega

theorem lits_map (f : Nat → Option (List Lit)) (g : Nat → List Lit) : ∀ (is : List Nat), (∀ i ∈ is, f i = some (g i)) → is.mapM f = some (is.map g)
  | [], _ => rfl
  | i :: is, h => by
    rw [List.mapM_cons, h i (by simp), lits_map f g is fun j hj => h j (by simp [hj])]; rfl

theorem flat_one {α β : Type} (g : α → β) : ∀ l : List α, (l.map fun i => [g i]).flatten = l.map g
  | [] => rfl
  | a :: l => by rw [List.map_cons, List.flatten_cons, flat_one g l]; rfl

theorem u8_lits (d : Nat) {n : Nat} (h : n < 256) : Tryz.prog.keyLits (d + 1) 5 [.int .u8 n] = some [.int .u8 n] := by
  have hw : (Lit.int .u8 (n : Int)).wf = true := (u8_wf _).2 ⟨by omega, by omega⟩
  simp [Program.keyLits, Tryz.underlying5, hw]

set_option maxRecDepth 100000 in
theorem id_lits (d : Nat) {x : List Nat} (h : OkId x) : Tryz.prog.keyLits (d + 2) 43 (nb x) = some (idLs x) := by
  have hl : (nb x).length = Tryz.prog.cellsOf 43 := by rw [nb_len, id_cells, h.1]
  have hm := lits_map (fun i => Tryz.prog.keyLits (d + 1) 5 (((nb x).drop (i * Tryz.prog.cellsOf 5)).take (Tryz.prog.cellsOf 5))) (fun i => [Lit.int .u8 (Sha.byteAt x i)]) (List.range 32) (fun i hi => by
    rw [List.mem_range] at hi
    rw [u8_cells, Nat.mul_one]
    have : ((nb x).drop i).take 1 = [.int .u8 (Sha.byteAt x i)] := by
      rw [List.take_one, List.head?_drop, nb_at (by rw [h.1]; exact hi)]; rfl
    rw [this]
    exact u8_lits d (Sha.byteAt_lt h.2 i))
  unfold Program.keyLits
  simp only [id_under]
  rw [if_pos hl, hm]
  show some _ = some _
  congr 1
  rw [flat_one]
  apply List.ext_getElem?
  intro i
  unfold idLs
  rw [List.getElem?_map, List.getElem?_map]
  by_cases hi : i < 32
  · rw [List.getElem?_range hi, List.getElem?_eq_getElem (by rw [h.1]; exact hi)]
    simp only [Option.map_some]
    unfold Sha.byteAt
    rw [List.getD_eq_getElem?_getD, List.getElem?_eq_getElem (by rw [h.1]; exact hi)]; rfl
  · rw [List.getElem?_eq_none (by simp; omega), List.getElem?_eq_none (by rw [h.1]; omega)]; rfl

theorem nums_nb (x : List Nat) : (nums .u8 x).toList = nb x := by simp [nums, nb]
theorem nums_inj {x y : List Nat} (h : nums .u8 x = nums .u8 y) : x = y := by
  have h2 : nb x = nb y := by rw [← nums_nb, ← nums_nb, h]
  unfold nb at h2
  exact (List.map_inj_right (fun a b h => by injection h with _ h; omega)).1 h2

set_option maxRecDepth 100000 in
theorem id_key {x : List Nat} (h : OkId x) : keyOf Tryz.prog 43 (.agg (nums .u8 x)) = some (idLit x) := by
  have hl := id_lits (Tryz.prog.types.size - 1) h
  have hsz : Tryz.prog.types.size - 1 + 2 = Tryz.prog.types.size + 1 := by
    have : 0 < Tryz.prog.types.size := of_decide_eq_true (by kernel_rfl)
    omega
  rw [hsz] at hl
  have hf : (Value.agg (nums .u8 x)).formed Tryz.prog 43 = true := by
    simp only [Value.formed, id_under, nums_size, h.1, id_cells]; rfl
  unfold keyOf
  simp only [id_under, id_ktype, hf]
  show Option.map _ (Tryz.prog.keyLits (Tryz.prog.types.size + 1) 43 (nums .u8 x).toList) = _
  rw [nums_nb, hl]; rfl

theorem idLit_inj {x y : List Nat} (hx : OkId x) (hy : OkId y) (h : idLit x = idLit y) : x = y := by
  have h1 := id_key hx
  rw [h] at h1
  have := id_keyed.inj h1 (id_key hy)
  exact nums_inj (Value.agg.inj this)

theorem id_eqr {x y : List Nat} (hx : OkId x) (hy : OkId y) {r : Bool} (h2 : r = true ↔ idLit x = idLit y) : r = decide (x = y) := by
  rw [Bool.eq_iff_iff, h2, decide_eq_true_eq]
  exact ⟨idLit_inj hx hy, fun e => by rw [e]⟩
/-- Two ids held against one another. -/
theorem id_eql {x y : List Nat} (hx : OkId x) (hy : OkId y) (w : World) : (binOp .eql 43 (.agg (nums .u8 x)) (.agg (nums .u8 y))).run Tryz.prog w = .ok (.bool (decide (x = y))) w := by
  obtain ⟨r, h1, h2⟩ := equal_arr w id_under id_type (id_key hx) (id_key hy)
  rw [← id_eqr hx hy h2]
  exact binop_eql h1
theorem id_neq {x y : List Nat} (hx : OkId x) (hy : OkId y) (w : World) : (binOp .neq 43 (.agg (nums .u8 x)) (.agg (nums .u8 y))).run Tryz.prog w = .ok (.bool (!decide (x = y))) w := by
  obtain ⟨r, h1, h2⟩ := equal_arr w id_under id_type (id_key hx) (id_key hy)
  rw [← id_eqr hx hy h2]
  exact binop_neq h1
end Go.Proofs.YtpcipdkoncmdcaaGreatDoor
namespace Go.Proofs.YtpcipdkoncmdcaaGreatDoor
open Go Go.RowKit
/-- One thing for each of three snapshots. -/
structure T3 (α : Type) where
  a : α
  b : α
  c : α
def T3.get {α : Type} (t : T3 α) : Nat → α
  | 0 => t.a
  | 1 => t.b
  | _ => t.c
def T3.set {α : Type} (t : T3 α) (n : Nat) (v : α) : T3 α :=
  match n with
  | 0 => { t with a := v }
  | 1 => { t with b := v }
  | _ => { t with c := v }

structure Th where
  path : ByteArray
  kind : Nat
  id : List Nat
  stamp : Nat
  tv : Value
  has : T3 Bool
  ids : T3 (List Nat)
  sts : T3 Nat

def tcs (t : Th) : List Value := .string t.path :: .int .i64 t.kind :: (nb t.id ++ (.float .f64 t.stamp :: t.tv :: .bool t.has.a :: .bool t.has.b :: .bool t.has.c :: (nb t.ids.a ++ (nb t.ids.b ++ (nb t.ids.c ++ [.float .f64 t.sts.a, .float .f64 t.sts.b, .float .f64 t.sts.c])))))

structure OkTh (t : Th) : Prop where
  id : OkId t.id
  ia : OkId t.ids.a
  ib : OkId t.ids.b
  ic : OkId t.ids.c
  sa : t.sts.a < 2 ^ 64
  sb : t.sts.b < 2 ^ 64
  sc : t.sts.c < 2 ^ 64
  tv : t.tv.oneCell' = true

/-- A block that holds a list of cells. -/
def Bk (w : World) (q : Nat) (e : TypeId) (cs : List Value) : Prop := w.heap[q]? = some (.cells cs.toArray e (0, 0))
section
variable {w w' : World} {q : Nat} {e : TypeId} {cs A B C : List Value}
theorem Bk.lt (h : Bk w q e cs) : q < w.heap.size := (Array.getElem?_eq_some_iff.1 h).1
theorem Bk.cell (h : Bk w q e cs) {j : Nat} {u : Value} (hu : cs[j]? = some u) : w.cell? ⟨q, j, none⟩ = some u := by
  have h : w.heap[q]? = some (.cells cs.toArray e (0, 0)) := h
  simp only [World.cell?, h]; simpa using hu
theorem Bk.fz (h : Bk w q e cs) (j : Nat) : w.frozen? ⟨q, j, none⟩ = false := by
  have h : w.heap[q]? = some (.cells cs.toArray e (0, 0)) := h
  simp [World.frozen?, h]
theorem Bk.below (h : Bk w q e cs) (hb : Below w.heap.size w w') : Bk w' q e cs := (hb.block q h.lt).trans h
theorem Bk.kept {r : Option Nat} (h : Bk w q e cs) (hg : w.grownBy w' r) (hne : some q ≠ r) : Bk w' q e cs := (hg.block q h.lt hne).trans h
theorem Bk.range (h : Bk w q e cs) (hc : cs = A ++ (B ++ C)) {n : Nat} (hn : A.length = n) : w.rangeAt q n B := fun j v hv => by
  refine h.cell ?_
  subst hc hn
  rw [List.getElem?_append_right (by omega), Nat.add_sub_cancel_left, List.getElem?_append_left (List.getElem?_eq_some_iff.1 hv).1]; exact hv
/-- Cells are turned. -/
theorem Bk.put (h : Bk w q e cs) (hc : cs = A ++ (B ++ C)) {n : Nat} (hn : A.length = n) {B' : List Value} (hl : B'.length = B.length) : Bk (w.setCells q n B') q e (A ++ (B' ++ C)) ∧ w.grownBy (w.setCells q n B') (some q) := by
  subst hc hn
  refine ⟨?_, setCells_grown w q _ _⟩
  obtain ⟨cur', c1, c2, c3⟩ := setCells_block q B' A.length w (A ++ (B ++ C)).toArray e (0, 0) h (by simp; omega)
  unfold Bk
  rw [c1]
  congr 2
  apply Array.ext_getElem?
  intro i
  rw [c3]
  simp only [List.getElem?_toArray]
  by_cases h1 : A.length ≤ i ∧ i < A.length + B'.length
  · rw [if_pos h1, List.getElem?_append_right (by omega), List.getElem?_append_left (by omega)]
  · rw [if_neg h1]
    by_cases h2 : i < A.length
    · rw [List.getElem?_append_left h2, List.getElem?_append_left h2]
    · rw [List.getElem?_append_right (by omega), List.getElem?_append_right (by omega), List.getElem?_append_right (by omega), List.getElem?_append_right (by omega), hl]
theorem Bk.put1 (h : Bk w q e cs) (j : Nat) (u : Value) : Bk (w.setCell ⟨q, j, none⟩ u) q e (cs.set j u) ∧ w.grownBy (w.setCell ⟨q, j, none⟩ u) (some q) := by
  obtain ⟨s, g⟩ := set_blk (show w.heap[q]? = some (.cells cs.toArray e (0, 0)) from h) j u
  refine ⟨?_, g⟩
  unfold Bk
  rw [s]
  simp
theorem Bk.there (h : Bk w q e cs) (n m : Nat) (hm : n + m ≤ cs.length) : w.there q n m := fun j hj => ⟨by rw [h.cell (List.getElem?_eq_getElem (by omega))]; rfl, h.fz _⟩
end
/-- The block q is the path's. -/
structure TR (w : World) (q : Nat) (t : Th) : Prop where
  blk : Bk w q 85 (tcs t)
  ok : OkTh t
section
variable {w w' : World} {q : Nat} {t : Th}
theorem tcs_len (h : OkTh t) : (tcs t).length = 138 := by
  simp [tcs, nb_len, h.id.1, h.ia.1, h.ib.1, h.ic.1]
theorem TR.below (h : TR w q t) (hb : Below w.heap.size w w') : TR w' q t := ⟨h.blk.below hb, h.ok⟩
theorem TR.kept {r : Option Nat} (h : TR w q t) (hg : w.grownBy w' r) (hne : some q ≠ r) : TR w' q t := ⟨h.blk.kept hg hne, h.ok⟩
theorem TR.h0 (h : TR w q t) : w.cell? ⟨q, 36, none⟩ = some (.bool t.has.a) := h.blk.cell (by simp [tcs, List.getElem?_append, nb_len, h.ok.id.1])
theorem TR.h1 (h : TR w q t) : w.cell? ⟨q, 37, none⟩ = some (.bool t.has.b) := h.blk.cell (by simp [tcs, List.getElem?_append, nb_len, h.ok.id.1])
theorem TR.h2 (h : TR w q t) : w.cell? ⟨q, 38, none⟩ = some (.bool t.has.c) := h.blk.cell (by simp [tcs, List.getElem?_append, nb_len, h.ok.id.1])
theorem TR.s0 (h : TR w q t) : w.cell? ⟨q, 135, none⟩ = some (.float .f64 t.sts.a) := h.blk.cell (by simp [tcs, nb_len, h.ok.id.1, h.ok.ia.1, h.ok.ib.1, h.ok.ic.1])
theorem TR.s1 (h : TR w q t) : w.cell? ⟨q, 136, none⟩ = some (.float .f64 t.sts.b) := h.blk.cell (by simp [tcs, nb_len, h.ok.id.1, h.ok.ia.1, h.ok.ib.1, h.ok.ic.1])
theorem TR.s2 (h : TR w q t) : w.cell? ⟨q, 137, none⟩ = some (.float .f64 t.sts.c) := h.blk.cell (by simp [tcs, nb_len, h.ok.id.1, h.ok.ia.1, h.ok.ib.1, h.ok.ic.1])
theorem TR.i0 (h : TR w q t) : w.rangeAt q 39 (nb t.ids.a) :=
  h.blk.range (A := .string t.path :: .int .i64 t.kind :: (nb t.id ++ [.float .f64 t.stamp, t.tv, .bool t.has.a, .bool t.has.b, .bool t.has.c])) (C := nb t.ids.b ++ (nb t.ids.c ++ [.float .f64 t.sts.a, .float .f64 t.sts.b, .float .f64 t.sts.c])) (by simp [tcs]) (by simp [nb_len, h.ok.id.1])
theorem TR.i1 (h : TR w q t) : w.rangeAt q 71 (nb t.ids.b) :=
  h.blk.range (A := .string t.path :: .int .i64 t.kind :: (nb t.id ++ (.float .f64 t.stamp :: t.tv :: .bool t.has.a :: .bool t.has.b :: .bool t.has.c :: nb t.ids.a))) (C := nb t.ids.c ++ [.float .f64 t.sts.a, .float .f64 t.sts.b, .float .f64 t.sts.c]) (by simp [tcs]) (by simp [nb_len, h.ok.id.1, h.ok.ia.1])
theorem TR.i2 (h : TR w q t) : w.rangeAt q 103 (nb t.ids.c) :=
  h.blk.range (A := .string t.path :: .int .i64 t.kind :: (nb t.id ++ (.float .f64 t.stamp :: t.tv :: .bool t.has.a :: .bool t.has.b :: .bool t.has.c :: (nb t.ids.a ++ nb t.ids.b)))) (C := [.float .f64 t.sts.a, .float .f64 t.sts.b, .float .f64 t.sts.c]) (by simp [tcs]) (by simp [nb_len, h.ok.id.1, h.ok.ia.1, h.ok.ib.1])
theorem set_app {l m : List Value} {n : Nat} (hl : l.length = n) (j : Nat) (u : Value) : (l ++ m).set (n + j) u = l ++ m.set j u := by rw [List.set_append_right _ _ (by omega)]; congr 2; omega
theorem TR.kind (h : TR w q t) (k : Nat) : TR (w.setCell ⟨q, 1, none⟩ (.int .i64 k)) q { t with kind := k } ∧ w.grownBy (w.setCell ⟨q, 1, none⟩ (.int .i64 k)) (some q) := by
  obtain ⟨h1, h2⟩ := h.blk.put1 1 (.int .i64 k)
  exact ⟨⟨h1, ⟨h.ok.id, h.ok.ia, h.ok.ib, h.ok.ic, h.ok.sa, h.ok.sb, h.ok.sc, h.ok.tv⟩⟩, h2⟩
theorem TR.stamp (h : TR w q t) (x : Nat) : TR (w.setCell ⟨q, 34, none⟩ (.float .f64 x)) q { t with stamp := x } ∧ w.grownBy (w.setCell ⟨q, 34, none⟩ (.float .f64 x)) (some q) := by
  obtain ⟨h1, h2⟩ := h.blk.put1 34 (.float .f64 x)
  refine ⟨⟨?_, ⟨h.ok.id, h.ok.ia, h.ok.ib, h.ok.ic, h.ok.sa, h.ok.sb, h.ok.sc, h.ok.tv⟩⟩, h2⟩
  have e : (tcs t).set 34 (.float .f64 x) = tcs { t with stamp := x } := by
    unfold tcs
    rw [show (34 : Nat) = 33 + 1 from rfl, List.set_cons_succ, show (33 : Nat) = 32 + 1 from rfl, List.set_cons_succ, show (32 : Nat) = 32 + 0 from rfl, set_app (by rw [nb_len, h.ok.id.1])]; rfl
  rw [e] at h1; exact h1
theorem TR.text (h : TR w q t) (v : Value) (hv : v.oneCell' = true) : TR (w.setCell ⟨q, 35, none⟩ v) q { t with tv := v } ∧ w.grownBy (w.setCell ⟨q, 35, none⟩ v) (some q) := by
  obtain ⟨h1, h2⟩ := h.blk.put1 35 v
  refine ⟨⟨?_, ⟨h.ok.id, h.ok.ia, h.ok.ib, h.ok.ic, h.ok.sa, h.ok.sb, h.ok.sc, hv⟩⟩, h2⟩
  have e : (tcs t).set 35 v = tcs { t with tv := v } := by
    unfold tcs
    rw [show (35 : Nat) = 34 + 1 from rfl, List.set_cons_succ, show (34 : Nat) = 33 + 1 from rfl, List.set_cons_succ, show (33 : Nat) = 32 + 1 from rfl, set_app (by rw [nb_len, h.ok.id.1])]; rfl
  rw [e] at h1; exact h1
theorem TR.idput (h : TR w q t) {x : List Nat} (hx : OkId x) : TR (w.setCells q 2 (nb x)) q { t with id := x } ∧ w.grownBy (w.setCells q 2 (nb x)) (some q) := by
  obtain ⟨h1, h2⟩ := h.blk.put (A := [.string t.path, .int .i64 t.kind]) (B := nb t.id) (n := 2) rfl rfl (B' := nb x) (by rw [nb_len, nb_len, hx.1, h.ok.id.1])
  exact ⟨⟨h1, ⟨hx, h.ok.ia, h.ok.ib, h.ok.ic, h.ok.sa, h.ok.sb, h.ok.sc, h.ok.tv⟩⟩, h2⟩
end
end Go.Proofs.YtpcipdkoncmdcaaGreatDoor
