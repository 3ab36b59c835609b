/- Texts of mine, joined: What came in, opened by its type: slices of whatever, structs field by field. Of every program. | Arrays and floats that came in, opened by their type. Of every program. | Ids, files, snapshots, blobs that came in, opened. | Copying wide elements, appending zeros, clearing; a row's block written. Of every program. | Walk: bytes cloned. An append of nothing; of every program. | Walks: slices.Clone and slices.BinarySearchFunc over files. | A plain region (its order is the text's), walked step by step over a frame that is written out. Of every program. -/
import Derived.Deep.AppendSrc
import Derived.Deep.MidRow
import Derived.Laws.IdiomCopy
import Derived.Lib.Overlaps
import Derived.Test.YtpcipdkoncmdcaaGreatDoorRows
import Derived.Deep.Cut
import Derived.BigQuiet
import Derived.Deep.QuietTactic
import Derived.Lib.SliceRun
import Derived.Test.YtpcipdkoncmdcaaGreatDoorYJoinApart20
namespace Go.Proofs.YtpcipdkoncmdcaaGreatDoor
open Go Go.ChangeShapes Go.WideShapes Go.ChangeAt Go.RowKit
/-- Whatever is read at type e is one of α, in the cells f. -/
def Opn {H : Type} (enc : TypeId × Value → H) (P : Program) (W : World) (e : TypeId) (α : Type) (f : α → List Value) (ok : α → Nat → Prop) : Prop :=
  ∀ (n : Nat) (cs : List Value) (x : DataW H × List MemPlace), DataW.trod enc P W 0 (fun _ => true) true n e cs = some x → ∃ y : α, cs = f y ∧ ok y (Rows.uptoBulk x.1)

section
variable {H : Type} {enc : TypeId × Value → H} {P : Program} {W : World}
theorem flat_at {α : Type} (f : α → List Value) (k : Nat) : ∀ (l : List α), (∀ y ∈ l, (f y).length = k) → ∀ (i : Nat) (hi : i < l.length) (j : Nat), j < k → (l.flatMap f)[i * k + j]? = (f l[i])[j]?
  | [], _, i, hi, _, _ => by simp at hi
  | y :: l, h, 0, _, j, hj => by
    rw [List.flatMap_cons, Nat.zero_mul, Nat.zero_add, List.getElem?_append_left (by rw [h y (by simp)]; exact hj)]; rfl
  | y :: l, h, i + 1, hi, j, hj => by
    rw [List.flatMap_cons, List.getElem?_append_right (by rw [h y (by simp), Nat.succ_mul]; omega), h y (by simp), show (i + 1) * k + j - k = i * k + j by rw [Nat.succ_mul]; omega]
    exact flat_at f k l (fun z hz => h z (by simp [hz])) i (by simpa using hi) j hj
theorem flat_len {α : Type} (f : α → List Value) (k : Nat) : ∀ (l : List α), (∀ y ∈ l, (f y).length = k) → (l.flatMap f).length = l.length * k
  | [], _ => by simp
  | y :: l, h => by rw [List.flatMap_cons, List.length_append, h y (by simp), flat_len f k l (fun z hz => h z (by simp [hz])), List.length_cons, Nat.succ_mul]; omega

theorem bulk_all {α : Type} {ok : α → Nat → Prop} (hmono : ∀ y a b, a ≤ b → ok y a → ok y b) (D : Nat → DataW H) (T : Nat → α) : ∀ l : List Nat, (∀ i ∈ l, ok (T i) (Rows.uptoBulk (D i))) →
    l.length ≤ Rows.uptoBulkAll (l.map D) ∧ ∀ y ∈ l.map T, ok y (Rows.uptoBulkAll (l.map D))
  | [], _ => ⟨Nat.zero_le _, fun y h => by cases h⟩
  | i :: l, h => by
    obtain ⟨h1, h2⟩ := bulk_all hmono D T l (fun j hj => h j (by simp [hj]))
    have e := bulk_one (D i)
    have e2 : Rows.uptoBulkAll ((i :: l).map D) = Rows.uptoBulk (D i) + Rows.uptoBulkAll (l.map D) := by rw [List.map_cons, Rows.uptoBulkAll]
    rw [e2, List.length_cons]
    refine ⟨by omega, fun y hy => ?_⟩
    rw [List.map_cons, List.mem_cons] at hy
    rcases hy with rfl | hy
    · exact hmono _ _ _ (by omega) (h i (by simp))
    · exact hmono _ _ _ (by omega) (h2 y hy)

/-- The sum of sizes over a list is within its bulk. -/
theorem bulk_sum {α : Type} (g : α → Nat) (D : Nat → DataW H) (T : Nat → α) : ∀ l : List Nat, (∀ i ∈ l, g (T i) ≤ Rows.uptoBulk (D i)) → ((l.map T).map g).sum ≤ Rows.uptoBulkAll (l.map D)
  | [], _ => by simp
  | i :: l, h => by
    have h1 := bulk_sum g D T l (fun j hj => h j (by simp [hj]))
    have h2 := h i (by simp)
    have e2 : Rows.uptoBulkAll ((i :: l).map D) = Rows.uptoBulk (D i) + Rows.uptoBulkAll (l.map D) := by rw [List.map_cons, Rows.uptoBulkAll]
    rw [e2]
    simp only [List.map_cons, List.sum_cons]
    omega

/-- A slice. -/
theorem opn_slice {α : Type} [Inhabited α] {t e : TypeId} {k : Nat} (ht : P.underlying t = some (.slice e)) (hc : P.cellsOf e = k) (hk0 : 0 < k) {f : α → List Value} {ok : α → Nat → Prop} (hmono : ∀ y a b, a ≤ b → ok y a → ok y b) (g : α → Nat) (hg : ∀ y b, ok y b → g y ≤ b)
    (X : Opn enc P W e α f ok) : Opn enc P W t (Option Addr × Nat × List α) (fun y => [.slice y.1 y.2.2.length y.2.1]) (fun y b => Sl W y.1 (y.2.2.flatMap f) ∧ (∀ z ∈ y.2.2, (f z).length = k) ∧ y.2.2.length < b ∧ (y.2.2.map g).sum < b ∧ ∀ z ∈ y.2.2, ok z b) := by
  intro fuel cs x hf
  rcases Go.Deep.open_slice ht hf with ⟨hcs, hx⟩ | ⟨a, len, cap, m, n, D, Pl, hcs, -, hl, -, hmm, hx, hcell⟩
  · subst hcs
    have hb : 0 < Rows.uptoBulk x.1 := by rw [hx]; simp [Rows.uptoBulk]
    exact ⟨(none, 0, []), rfl, .nil _ _, (fun z hz => nomatch hz), hb, hb, (fun z hz => nomatch hz)⟩
  · subst hcs
    simp only [if_true] at hmm
    rw [hc] at hcell
    have each : ∀ i, i < len → ∃ y : α, ok y (Rows.uptoBulk (D i)) ∧ (f y).length = k ∧ ∀ j, j < k → W.cell? ((a.add (i * k)).add j) = (f y)[j]? := by
      intro i hi
      obtain ⟨cs', h1, h2⟩ := hcell i (by omega)
      obtain ⟨y, hy, hok⟩ := X n cs' _ h2
      obtain ⟨_, h3, h4⟩ := World.cells?_some h1
      subst hy
      exact ⟨y, hok, h3, h4⟩
    obtain ⟨T, hT⟩ := Go.Deep.choose_lt each
    have hd : x.1 = .slice ((List.range len).map D) ((List.range (m - len)).map fun j => D (len + j)) := congrArg Prod.fst hx
    obtain ⟨k1, k2⟩ := bulk_all hmono D T (List.range len) (fun i hi => (hT i (List.mem_range.1 hi)).1)
    have k3 := bulk_sum g D T (List.range len) (fun i hi => hg _ _ (hT i (List.mem_range.1 hi)).1)
    have hb : Rows.uptoBulkAll ((List.range len).map D) < Rows.uptoBulk x.1 := by rw [hd]; simp only [Rows.uptoBulk]; omega
    have hlen : ∀ z ∈ (List.range len).map T, (f z).length = k := fun z hz => by
      obtain ⟨i, hi, rfl⟩ := List.mem_map.1 hz
      exact (hT i (List.mem_range.1 hi)).2.1
    rw [List.length_range] at k1
    refine ⟨(some a, cap, (List.range len).map T), by simp, ?_, hlen, by simp; omega, by show (((List.range len).map T).map g).sum < _; omega, fun z hz => hmono _ _ _ (by omega) (k2 z hz)⟩
    by_cases h0 : len = 0
    · subst h0; exact .inl rfl
    · have h1 := (hT 0 (by omega)).2.2 0 hk0
      have h2 := (hT 0 (by omega)).2.1
      rw [List.getElem?_eq_getElem (by omega)] at h1
      have hsp : a.spot = none := cell_spot (b := a.block) (o := a.off) (by simpa [Addr.add] using h1)
      obtain ⟨b, o, sp⟩ := a
      simp at hsp
      subst hsp
      have hbl : b < W.heap.size := by
        have := World.block_lt_of_cell? W _ h1
        simpa [Addr.add] using this
      refine .inr ⟨b, o, rfl, hbl, fun i u hu => ?_⟩
      have hi : i < len * k := by
        have := (List.getElem?_eq_some_iff.1 hu).1
        rw [flat_len f k _ hlen, List.length_map, List.length_range] at this
        exact this
      have hq : i / k < len := Nat.div_lt_of_lt_mul (by rw [Nat.mul_comm]; exact hi)
      have hr : i % k < k := Nat.mod_lt _ hk0
      have hir : i / k * k + i % k = i := by rw [Nat.mul_comm]; exact Nat.div_add_mod i k
      have h5 := flat_at f k _ hlen (i / k) (by rw [List.length_map, List.length_range]; exact hq) (i % k) hr
      rw [hir, hu, List.getElem_map, List.getElem_range] at h5
      have h6 := (hT (i / k) hq).2.2 (i % k) hr
      rw [Addr.add_lit, Addr.add_lit, Nat.add_assoc, hir] at h6
      rw [h6, ← h5]

/-- .. the slice of an argument. -/
theorem Opn.arg {α : Type} {t : TypeId} {f : α → List Value} {ok : α → Nat → Prop} (X : Opn enc P W t α f ok) {v : Value} {d : DataW H} {p : List MemPlace} (h : DataW.Trod enc P W 0 (fun _ => true) true t v d p) : ∃ y : α, v.cells.toList = f y ∧ ok y (Rows.uptoBulk d) := by
  obtain ⟨fuel, hf⟩ := h
  exact X fuel _ _ hf

theorem opn_str {t : TypeId} (ht : P.underlying t = some .string) : Opn enc P W t ByteArray (fun s => [.string s]) (fun s b => s.size < b) := by
  intro n cs x h
  obtain ⟨s, h1, h2, _⟩ := DataW.trod_string ht h
  exact ⟨s, h1, by rw [h2]; rw [bulk_str]; omega⟩
theorem opn_i64 {t : TypeId} (ht : P.underlying t = some (.int .i64)) : Opn enc P W t Int (fun n => [.int .i64 n]) (fun n b => 0 < b ∧ -9223372036854775808 ≤ n ∧ n ≤ 9223372036854775807) := by
  intro n cs x h
  obtain ⟨s, h1, h2, h3⟩ := DataW.trod_int ht h
  exact ⟨s, h1, by rw [h2]; simp [Rows.uptoBulk], i64_wf h3⟩
end
end Go.Proofs.YtpcipdkoncmdcaaGreatDoor
namespace Go.Proofs.YtpcipdkoncmdcaaGreatDoor
open Go Go.ChangeShapes Go.WideShapes Go.ChangeAt Go.RowKit
section
variable {H : Type} {enc : TypeId × Value → H} {P : Program} {W : World}
theorem opn_f64 {t : TypeId} (ht : P.underlying t = some (.float .f64)) : Opn enc P W t Nat (fun n => [.float .f64 n]) (fun n b => 0 < b ∧ n < 2 ^ 64) := by
  intro n cs x h
  obtain ⟨z, h1, h2, h3⟩ := trod_float ht h
  exact ⟨z, h1, by rw [h2]; simp [Rows.uptoBulk], of_decide_eq_true (show decide (z < 2 ^ 64) = true from h3)⟩
theorem opn_u8 {t : TypeId} (ht : P.underlying t = some (.int .u8)) : Opn enc P W t Nat (fun n => [.int .u8 (n : Int)]) (fun n b => 0 < b ∧ n < 256) := by
  intro n cs x h
  obtain ⟨z, h1, h2, h3⟩ := DataW.trod_int ht h
  have := int_wf h3 (show (0 : Int) = IntKind.u8.min by decide) (show IntKind.u8.max = (255 : Int) by decide)
  refine ⟨z.toNat, ?_, by rw [h2]; simp [Rows.uptoBulk], by omega⟩
  rw [h1]; congr 2; omega
theorem list_ext_flat {α : Type} {f : α → List Value} {k : Nat} (hk0 : 0 < k) {cs : List Value} {l : List α} {n : Nat} (hn : l.length = n) (hc : cs.length = n * k) (hl : ∀ y ∈ l, (f y).length = k) (h : ∀ i (hi : i < l.length), (cs.drop (i * k)).take k = f l[i]) : cs = l.flatMap f := by
  apply List.ext_getElem?
  intro i
  by_cases hi : i < n * k
  · have hq : i / k < l.length := by rw [hn]; exact Nat.div_lt_of_lt_mul (by rw [Nat.mul_comm]; exact hi)
    have hr : i % k < k := Nat.mod_lt _ hk0
    have hir : i / k * k + i % k = i := by rw [Nat.mul_comm]; exact Nat.div_add_mod i k
    have h1 := flat_at f k l hl (i / k) hq (i % k) hr
    rw [hir] at h1
    rw [h1, ← h _ hq, List.getElem?_take, if_pos hr, List.getElem?_drop, hir]
  · rw [List.getElem?_eq_none (by omega), List.getElem?_eq_none (by rw [flat_len f k l hl, hn]; omega)]
/-- An array. -/
theorem opn_arr {α : Type} [Inhabited α] {t e : TypeId} {n k : Nat} (ht : P.underlying t = some (.array n e)) (hc : P.cellsOf e = k) (hC : P.cellsOf t = n * k) (hk0 : 0 < k) {f : α → List Value} {ok : α → Nat → Prop} (hmono : ∀ y a b, a ≤ b → ok y a → ok y b) (g : α → Nat) (hg : ∀ y b, ok y b → g y ≤ b)
    (X : Opn enc P W e α f ok) : Opn enc P W t (List α) (fun l => l.flatMap f) (fun l b => l.length = n ∧ (∀ z ∈ l, (f z).length = k) ∧ (l.map g).sum < b ∧ ∀ z ∈ l, ok z b) := by
  intro fuel cs x h
  obtain ⟨xs, m, -, hx, hcl, hl, hel⟩ := DataW.trod_array ht h
  rw [hC] at hcl
  rw [hc] at hel
  have each : ∀ i, i < n → ∃ y : α, (cs.drop (i * k)).take k = f y ∧ ok y (Rows.uptoBulk (xs.getD i (.nil, [])).1) ∧ (f y).length = k := by
    intro i hi
    have h1 := hel i hi
    have h2 : xs[i]? = some (xs.getD i (.nil, [])) := by rw [List.getD_eq_getElem?_getD, List.getElem?_eq_getElem (by omega)]; rfl
    rw [h2] at h1
    obtain ⟨y, hy, hok⟩ := X m _ _ h1
    refine ⟨y, hy, hok, ?_⟩
    rw [← hy, List.length_take, List.length_drop, hcl]
    have : (i + 1) * k ≤ n * k := Nat.mul_le_mul_right _ hi
    rw [Nat.add_mul, Nat.one_mul] at this
    omega
  obtain ⟨T, hT⟩ := Go.Deep.choose_lt each
  have hlen : ∀ z ∈ (List.range n).map T, (f z).length = k := fun z hz => by
    obtain ⟨i, hi, rfl⟩ := List.mem_map.1 hz
    exact (hT i (List.mem_range.1 hi)).2.2
  have hD : xs.map Prod.fst = (List.range n).map fun i => (xs.getD i (.nil, [])).1 := by
    apply List.ext_getElem?
    intro i
    by_cases hi : i < n
    · rw [List.getElem?_map, List.getElem?_map, List.getElem?_range hi, List.getElem?_eq_getElem (by omega)]
      simp [List.getD_eq_getElem?_getD, List.getElem?_eq_getElem (show i < xs.length by omega)]
    · rw [List.getElem?_eq_none (by simp; omega), List.getElem?_eq_none (by simp; omega)]
  have hd : Rows.uptoBulk x.1 = Rows.uptoBulkAll ((List.range n).map fun i => (xs.getD i (.nil, [])).1) + 1 := by rw [hx, ← hD]; simp only [Rows.uptoBulk]
  obtain ⟨k1, k2⟩ := bulk_all hmono (fun i => (xs.getD i (.nil, [])).1) T (List.range n) (fun i hi => (hT i (List.mem_range.1 hi)).2.1)
  have k3 := bulk_sum g (fun i => (xs.getD i (.nil, [])).1) T (List.range n) (fun i hi => hg _ _ (hT i (List.mem_range.1 hi)).2.1)
  refine ⟨(List.range n).map T, ?_, by simp, hlen, by omega, fun z hz => hmono _ _ _ (by omega) (k2 z hz)⟩
  refine list_ext_flat hk0 (by simp) hcl hlen (fun i hi => ?_)
  rw [List.getElem_map, List.getElem_range]
  exact (hT i (by simpa using hi)).1
end
end Go.Proofs.YtpcipdkoncmdcaaGreatDoor
namespace Go.Proofs.YtpcipdkoncmdcaaGreatDoor
open Go Go.ChangeShapes Go.WideShapes Go.ChangeAt Go.RowKit
section
variable {H : Type} {enc : TypeId × Value → H} {W : World}
theorem flat_nb (l : List Nat) : (l.flatMap fun (n : Nat) => [Value.int .u8 (n : Int)]) = nb l := by
  induction l with
  | nil => rfl
  | cons x l ih => rw [List.flatMap_cons, ih]; rfl
set_option maxRecDepth 100000 in
theorem opn_id : Opn enc Tryz.prog W 43 (List Nat) nb (fun l _ => OkId l) := by
  intro n cs x h
  obtain ⟨y, h1, h2, -, -, h5⟩ := (opn_arr (enc := enc) (W := W) (ok := fun (n : Nat) b => 0 < b ∧ n < 256) id_under (k := 1) (by kernel_rfl) (by kernel_rfl) (by decide) (fun _ a b hab h => ⟨Nat.lt_of_lt_of_le h.1 hab, h.2⟩) (fun _ => 0) (fun _ _ _ => Nat.zero_le _) (opn_u8 Tryz.underlying5)) n cs x h
  exact ⟨y, Eq.trans h1 (flat_nb y), h2, fun z hz => (h5 z hz).2⟩
set_option maxRecDepth 100000 in
theorem opn_file : Opn enc Tryz.prog W 56 Fi fiC (fun f b => OkId f.id ∧ f.stamp < 2 ^ 64 ∧ f.path.size < b) := by
  intro n cs x h
  obtain ⟨xs, m, -, hx, hl, hxl, hf⟩ := DataW.trod_struct Tryz.underlying56 h
  have hxl : xs.length = 3 := hxl
  rcases xs with _ | ⟨x0, _ | ⟨x1, _ | ⟨x2, _ | ⟨x3, l⟩⟩⟩⟩
  · simp at hxl
  · simp at hxl
  · simp at hxl
  · obtain ⟨p, e0, b0⟩ := opn_str (W := W) Tryz.underlying9 m _ x0 (hf 0 _ rfl)
    obtain ⟨i, e1, b1⟩ := opn_id (W := W) m _ x1 (hf 1 _ rfl)
    obtain ⟨s, e2, b2⟩ := opn_f64 (W := W) Tryz.underlying44 m _ x2 (hf 2 _ rfl)
    have hcl : cs.length = 34 := hl.trans (by kernel_rfl)
    have k0 : (Tryz.prog).cellsOf 9 = 1 := by kernel_rfl
    have k1 : (Tryz.prog).cellsOf 43 = 32 := by kernel_rfl
    have k2 : (Tryz.prog).cellsOf 44 = 1 := by kernel_rfl
    have e0 : (cs.drop 0).take 1 = [.string p] := by rw [← k0]; exact e0
    have e1 : (cs.drop 1).take 32 = nb i := by rw [← k1]; exact e1
    have e2 : (cs.drop 33).take 1 = [.float .f64 s] := by rw [← k2]; exact e2
    have hcs : cs = fiC ⟨p, i, s⟩ := by
      have a1 : cs = (cs.drop 0).take 1 ++ ((cs.drop 1).take 32 ++ (cs.drop 33).take 1) := by
        rw [List.take_of_length_le (l := cs.drop 33) (by rw [List.length_drop]; omega), show cs.drop 33 = (cs.drop 1).drop 32 by rw [List.drop_drop], List.take_append_drop, List.drop_zero, List.take_append_drop]
      rw [a1, e0, e1, e2]; rfl
    have hb : Rows.uptoBulk x.1 = Rows.uptoBulk x0.1 + (Rows.uptoBulk x1.1 + (Rows.uptoBulk x2.1 + 0)) + 1 := by
      rw [hx]; simp only [Rows.uptoBulk, Rows.uptoBulkAll, List.map_cons, List.map_nil]
    exact ⟨⟨p, i, s⟩, hcs, b1, b2.2, by show p.size < _; omega⟩
  · simp at hxl
theorem file_mono : ∀ (f : Fi) (a b : Nat), a ≤ b → (OkId f.id ∧ f.stamp < 2 ^ 64 ∧ f.path.size < a) → OkId f.id ∧ f.stamp < 2 ^ 64 ∧ f.path.size < b := fun _ _ _ hab h => ⟨h.1, h.2.1, Nat.lt_of_lt_of_le h.2.2 hab⟩
instance : Inhabited Fi := ⟨⟨ByteArray.empty, [], 0⟩⟩
set_option maxRecDepth 100000 in
/-- A snapshot's files. -/
theorem opn_files : Opn enc Tryz.prog W 22 (Option Addr × Nat × List Fi) (fun y => [.slice y.1 y.2.2.length y.2.1]) (fun y b => Sl W y.1 (fiR y.2.2) ∧ y.2.2.length < b ∧ ∀ f ∈ y.2.2, OkId f.id ∧ f.stamp < 2 ^ 64 ∧ f.path.size < b) := by
  intro n cs x h
  obtain ⟨y, e, h1, -, h3, -, h5⟩ := (opn_slice (enc := enc) (W := W) Tryz.underlying22 (k := 34) (by kernel_rfl) (by decide) file_mono (fun _ => 0) (fun _ _ _ => Nat.zero_le _) opn_file) n cs x h
  exact ⟨y, e, h1, h3, h5⟩
theorem files_fs {y : Option Addr × Nat × List Fi} {b : Nat} (h : Sl W y.1 (fiR y.2.2) ∧ y.2.2.length < b ∧ ∀ f ∈ y.2.2, OkId f.id ∧ f.stamp < 2 ^ 64 ∧ f.path.size < b) (hb : b ≤ 1048576) : FS W (.slice y.1 y.2.2.length y.2.1) y.2.2 :=
  ⟨⟨y.1, y.2.1, rfl, h.1⟩, fun f hf => ⟨(h.2.2 f hf).1, (h.2.2 f hf).2.1, by have := (h.2.2 f hf).2.2; omega⟩, by have := h.2.1; omega⟩
set_option maxRecDepth 100000 in
theorem open_files {base : Nat} {v : Value} {d : DataW H} {p : List MemPlace} (hv : Value.okWide Tryz.prog W .any base 22 v) (h : DataW.Trod enc Tryz.prog W 0 (fun _ => true) true 22 v d p) (hk : Rows.uptoBulk d ≤ 1048576) : ∃ l, FS W v l ∧ l.length ≤ 1048576 := by
  obtain ⟨a0, len, cap, rfl⟩ := okWide_slice Tryz.underlying22 hv
  obtain ⟨y, e, h1⟩ := opn_files.arg h
  have e := (List.cons.inj e).1
  rw [e]
  exact ⟨y.2.2, files_fs h1 hk, by have := h1.2.1; omega⟩
end
end Go.Proofs.YtpcipdkoncmdcaaGreatDoor
namespace Go.Proofs.YtpcipdkoncmdcaaGreatDoor
open Go Go.RowKit
section
variable {P : Program}
theorem run_copy_wide (w : World) (dT sT ty elem : TypeId) (b o dLen dCap : Nat) (a : Addr) (sLen sCap size n : Nat) (cs : List Value)
    (hu : P.underlying dT = some (.slice elem)) (hs : (P.info? elem).map (·.size) = some size) (hm : Nat.min sLen dLen = n) (hn : cs.length = n * size)
    (hsrc : ∀ j v, cs[j]? = some v → w.cell? (a.add j) = some v) (ht : w.there b o cs.length) (h1 : ∀ v ∈ cs, v.oneCell' = true) :
    (Builtin.copy_ #[dT, sT] ty #[.slice (some ⟨b, o, none⟩) dLen dCap, .slice (some a) sLen sCap]).run P w = .ok (.int .i64 n) (w.setCells b o cs) := by
  have hl := run_loadCells_list (P := P) w a cs hsrc
  have hst := run_storeCells_cells (P := P) b o cs 0 w (fun j hj => by simpa using (ht j hj).1) (fun j hj => by simpa using (ht j hj).2) h1
  cases hq : P.info? elem with
  | none => simp [hq] at hs
  | some i =>
    have hi : i.size = size := by simpa [hq] using hs
    simp [Builtin.copy_, run_underlying hu, Builtin.lenOf, Builtin.firstCells, sizeOf, typeInfo, hq, hi, hm, ← hn, hl, hst, goInt]
theorem exec_copy {ev : Operand → Value} {o : Oper} (d s : Operand) (dT sT : TypeId) (ho : o.op = .call { callee := .builtin .copy, args := #[d, s], argTypes := #[dT, sT] }) {dv sv v : Value} {w w' : World} (hd : ev d = dv) (hs : ev s = sv)
    (hr : ∀ ty, (Builtin.copy_ #[dT, sT] ty #[dv, sv]).run P w = .ok v w') : (execOp ev o).run P w = .ok (.value v) w' := by
  unfold execOp
  simp only [ho, resolve, invoke, builtin, Sem.run_bind, Sem.run_pure, Result.andThen_ok, List.map_toArray, List.map_cons, List.map_nil, hd, hs, hr]
theorem exec_append {ev : Operand → Value} {o : Oper} (d s : Operand) (dT sT : TypeId) (ho : o.op = .call { callee := .builtin .append, args := #[d, s], argTypes := #[dT, sT] }) {dv sv v : Value} {w w' : World} (hd : ev d = dv) (hs : ev s = sv)
    (hr : ∀ ty, (Builtin.append_ #[dT, sT] ty #[dv, sv]).run P w = .ok v w') : (execOp ev o).run P w = .ok (.value v) w' := by
  unfold execOp
  simp only [ho, resolve, invoke, builtin, Sem.run_bind, Sem.run_pure, Result.andThen_ok, List.map_toArray, List.map_cons, List.map_nil, hd, hs, hr]
theorem exec_clear {ev : Operand → Value} {o : Oper} (d : Operand) (dT : TypeId) (ho : o.op = .call { callee := .builtin .clear, args := #[d], argTypes := #[dT] }) {dv v : Value} {w w' : World} (hd : ev d = dv)
    (hr : ∀ ty, (Builtin.clear_ #[dT] ty #[dv]).run P w = .ok v w') : (execOp ev o).run P w = .ok (.value v) w' := by
  unfold execOp
  simp only [ho, resolve, invoke, builtin, Sem.run_bind, Sem.run_pure, Result.andThen_ok, List.map_toArray, List.map_cons, List.map_nil, hd, hr]
/-- An operation by its run equation, in a plain region. -/
theorem wp_by {ops : Array Oper} {rest : List Oper} {o : Oper} {a : Act} {w w' : World} {Q : Exit → Act → World → Prop} {v : Value} (hgd : o.guard = none) (hr : (execOp a.eval o).run P w = .ok (.value v) w') (h : wpList P ops Q rest (a.put o.dst v) w') : wpList P ops Q (o :: rest) a w :=
  wpList_plain hgd fun K hK => by
    unfold Oper.wp
    rw [hr]
    exact hK _ _ h
theorem run_clear_wide (w : World) (t ty e : TypeId) (zs : List Value) (z : Value) (ht : P.underlying t = some (.slice e)) (hz : ∀ w, (zeroValue e).run P w = .ok z w) (b o n c : Nat) (hn : n ≠ 0)
    (hzs : (Builtin.zeroCells z.cells n).toList = zs) (hth : w.there b o zs.length) (h1 : ∀ v ∈ zs, v.oneCell' = true) :
    (Builtin.clear_ #[t] ty #[.slice (some ⟨b, o, none⟩) n c]).run P w = .ok (.tuple #[]) (w.setCells b o zs) := by
  have hst := run_storeCells_cells (P := P) b o zs 0 w (fun j hj => by simpa using (hth j hj).1) (fun j hj => by simpa using (hth j hj).2) h1
  cases n with
  | zero => exact absurd rfl hn
  | succ n => simp [Builtin.clear_, run_underlying ht, hz, hzs, hst]
set_option maxRecDepth 100000 in
/-- Zeros appended where there is no room. -/
theorem run_append_zeros (w : World) (t tx ty e : TypeId) (i : TypeInfo) (z : Value) (k : IntKind) (ht : P.underlying t = some (.slice e)) (hx : P.underlying tx = some (.int k)) (hi : P.info? e = some i) (hz : i.zero = some z) (base : Option Addr) (sLen sCap m : Nat) (olds : List Value)
    (hold : (Builtin.firstCells i.size sLen (.slice base sLen sCap)).run P w.drew = .ok olds.toArray w.drew) (hm : 0 < m) (hsz : 0 < i.size) (hmb : m * i.bytes ≤ 281474976710656) (hm63 : m ≤ 9223372036854775807)
    (hg : sCap < sLen + m) (h63 : ((sLen + m : Nat) : Int) ≤ 9223372036854775807) (hfit : Builtin.nextslicecap (sLen + m) sCap * i.bytes ≤ 281474976710656) :
    (Builtin.append_ #[t, tx] ty #[.slice base sLen sCap, .int .i64 m]).run P w =
      .ok (.slice (some ⟨w.heap.size, 0, none⟩) (sLen + m) (grownCap w (sLen + m) sCap e))
        (w.drew.alloc (.cells ((olds ++ (Builtin.zeroCells z.cells m).toList).toArray ++ Builtin.zeroCells z.cells (grownCap w (sLen + m) sCap e - (sLen + m))) e)) := by
  have hn : ¬ (sLen + m ≤ sCap) := by omega
  have h63' : ¬ (9223372036854775807 < ((sLen : Int) + (m : Int))) := by omega
  have h48' : ¬ (281474976710656 < Builtin.nextslicecap (sLen + m) sCap * i.bytes) := by omega
  have hw : IntKind.i64.wrap (m : Int) = (m : Int) := IntWalk.i64_in _ (by omega)
  have hneg : ¬ ((m : Int) < 0) := by omega
  have hmb' : ¬ ((281474976710656 : Int) < (m : Int) * (i.bytes : Int)) := by
    have h : ((m * i.bytes : Nat) : Int) ≤ ((281474976710656 : Nat) : Int) := Int.ofNat_le.2 hmb
    rw [Int.natCast_mul] at h
    omega
  have hnz : ¬ (m * i.size = 0) := by
    have := Nat.mul_pos hm hsz
    omega
  simp [Builtin.append_, run_underlying ht, run_underlying hx, sizeOf, typeInfo, zeroValue, hi, hz, hw, hneg, hmb', hn, h63', h48', hnz, asInt, asIntOf, Question.forced, hold, newRow, grownCap]
  congr 2
  apply Array.ext'
  simp [List.append_assoc]
end
/-- A block's cells from o on, so many as a row of this capacity has. -/
def Rw (w : World) (g o : Nat) (e : TypeId) (N : Nat) (xs : List Value) : Prop := ∃ cur, w.heap[g]? = some (.cells cur e (0, 0)) ∧ o + N ≤ cur.size ∧ ∀ j u, xs[j]? = some u → cur[o + j]? = some u
section
variable {w w' : World} {g o N : Nat} {e : TypeId} {xs : List Value}
theorem OwnG.rw {size n cap : Nat} (h : OwnG w e size (.slice (some ⟨g, o, none⟩) n cap) n xs) : Rw w g o e (cap * size) xs ∧ n ≤ cap ∧ cap ≤ maxLen ∧ xs.length = n * size := by
  obtain ⟨hl, h2⟩ := h
  rcases h2 with ⟨e1, -⟩ | ⟨g', o', cap', cur, e1, h3, h4, h5, h6, h7⟩
  · cases e1
  · injection e1 with e1 _ e3
    injection e1 with e1
    injection e1 with e4 e5 _
    subst e3 e4 e5
    exact ⟨⟨cur, h3, h6, h7⟩, h4, h5, hl⟩
theorem Rw.own {size n cap : Nat} (h : Rw w g o e (cap * size) xs) (hn : n ≤ cap) (hc : cap ≤ maxLen) (hl : n * size ≤ xs.length) : OwnG w e size (.slice (some ⟨g, o, none⟩) n cap) n (xs.take (n * size)) := by
  obtain ⟨cur, h1, h2, h3⟩ := h
  refine ⟨by rw [List.length_take]; omega, .inr ⟨g, o, cap, cur, rfl, h1, hn, hc, h2, fun j u hu => h3 j u ?_⟩⟩
  rw [List.getElem?_take] at hu
  split at hu
  · exact hu
  · cases hu
theorem Rw.cell (h : Rw w g o e N xs) {j : Nat} {u : Value} (hu : xs[j]? = some u) : w.cell? ⟨g, o + j, none⟩ = some u := by
  obtain ⟨cur, h1, -, h3⟩ := h
  simp [World.cell?, h1, h3 j u hu]
theorem Rw.lt (h : Rw w g o e N xs) : g < w.heap.size := by obtain ⟨cur, h1, -⟩ := h; exact (Array.getElem?_eq_some_iff.1 h1).1
theorem Rw.there (h : Rw w g o e N xs) {k m : Nat} (hm : k + m ≤ N) : w.there g (o + k) m := by
  obtain ⟨cur, h1, h2, -⟩ := h
  intro j hj
  have : o + k + j < cur.size := by omega
  exact ⟨by simp [World.cell?, h1, this], by simp [World.frozen?, h1]⟩
theorem Rw.write (h : Rw w g o e N xs) {k : Nat} (hk : k ≤ xs.length) (cs : List Value) (hm : k + cs.length ≤ N) : Rw (w.setCells g (o + k) cs) g o e N (xs.take k ++ (cs ++ xs.drop (k + cs.length))) := by
  obtain ⟨cur, h1, h2, h3⟩ := h
  obtain ⟨cur', c1, c2, c3⟩ := setCells_block g cs (o + k) w cur e (0, 0) h1 (by omega)
  refine ⟨cur', c1, by omega, fun j u hu => ?_⟩
  rw [c3]
  have htl : (xs.take k).length = k := by rw [List.length_take]; omega
  by_cases e1 : j < k
  · rw [List.getElem?_append_left (by omega), List.getElem?_take, if_pos e1] at hu
    rw [if_neg (by omega)]
    exact h3 j u hu
  · rw [List.getElem?_append_right (by omega), htl] at hu
    by_cases e2 : j - k < cs.length
    · rw [List.getElem?_append_left e2] at hu
      rw [if_pos (by omega), show o + j - (o + k) = j - k by omega]; exact hu
    · rw [List.getElem?_append_right (by omega), List.getElem?_drop] at hu
      rw [if_neg (by omega)]
      exact h3 j u (by rw [show j = k + cs.length + (j - k - cs.length) by omega]; exact hu)
theorem Rw.kept {r : Option Nat} (h : Rw w g o e N xs) (hg : w.grownBy w' r) (hne : some g ≠ r) : Rw w' g o e N xs := by
  obtain ⟨cur, h1, h2⟩ := h
  exact ⟨cur, (hg.block g (Array.getElem?_eq_some_iff.1 h1).1 hne).trans h1, h2⟩
end
end Go.Proofs.YtpcipdkoncmdcaaGreatDoor
namespace Go.Proofs.YtpcipdkoncmdcaaGreatDoor
open Go Go.RowKit
end Go.Proofs.YtpcipdkoncmdcaaGreatDoor
namespace Go.Proofs.YtpcipdkoncmdcaaGreatDoor
open Go Go.RowKit
def zF : Fi := ⟨ByteArray.empty, List.replicate 32 0, 0⟩
theorem fiElem : Elem Tryz.prog 22 56 (.agg (fiC zF).toArray) 34 56 := ⟨by kernel_rfl, by kernel_rfl⟩
theorem fiZ : (Value.agg (fiC zF).toArray).cells.size = 34 := by kernel_rfl
theorem fiInfo : (Tryz.prog.info? 56).map (·.size) = some 34 := by kernel_rfl
theorem fiC_mem1 {f : Fi} : ∀ u ∈ fiC f, u.oneCell' = true := by
  have h := fiC_one (f := f)
  rw [List.all_toArray, List.all_eq_true] at h
  exact h
theorem fiR_mem1 {l : List Fi} : ∀ u ∈ fiR l, u.oneCell' = true := by
  intro u hu
  obtain ⟨f, -, h⟩ := List.mem_flatMap.1 hu
  exact fiC_mem1 u h
theorem fiR_app (l m : List Fi) : fiR (l ++ m) = fiR l ++ fiR m := by simp [fiR]
theorem fiR_take {l : List Fi} (h : ∀ f ∈ l, OkFi f) {i : Nat} (hi : i ≤ l.length) : (fiR l).take (i * 34) = fiR (l.take i) := by
  have e : fiR l = fiR (l.take i) ++ fiR (l.drop i) := by rw [← fiR_app, List.take_append_drop]
  have hl : (fiR (l.take i)).length = i * 34 := by rw [fiR_len (fun f hf => h f (List.mem_of_mem_take hf)), List.length_take]; congr 1; omega
  rw [e, ← hl, List.take_left]
theorem fiR_drop {l : List Fi} (h : ∀ f ∈ l, OkFi f) {i : Nat} (hi : i ≤ l.length) : (fiR l).drop (i * 34) = fiR (l.drop i) := by
  have e : fiR l = fiR (l.take i) ++ fiR (l.drop i) := by rw [← fiR_app, List.take_append_drop]
  have hl : (fiR (l.take i)).length = i * 34 := by rw [fiR_len (fun f hf => h f (List.mem_of_mem_take hf)), List.length_take]; congr 1; omega
  rw [e, ← hl, List.drop_left]
/-- A row of files of one's own. -/
structure FR (w : World) (v : Value) (l : List Fi) : Prop where
  row : OwnG w 56 34 v l.length (fiR l)
  ok : ∀ f ∈ l, OkFi f
theorem FR.fs {w : World} {v : Value} {l : List Fi} (h : FR w v l) (hn : l.length ≤ 10000000) : FS w v l := by
  obtain ⟨a, c, e, -, -, hs⟩ := h.row.form
  exact ⟨⟨a, c, e, hs⟩, h.ok, hn⟩
theorem FR.below {w w' : World} {v : Value} {l : List Fi} (h : FR w v l) (hb : Below w.heap.size w w') : FR w' v l := ⟨h.row.below hb, h.ok⟩
theorem FR.kept {w w' : World} {v : Value} {l : List Fi} {r : Option Nat} (h : FR w v l) (hg : w.grownBy w' r) (hne : v.ownBlock = none ∨ v.ownBlock ≠ r) : FR w' v l := ⟨h.row.kept hg hne, h.ok⟩
theorem FR.nil (w : World) : FR w (.slice none 0 0) [] := ⟨OwnG.nil _ _ _, fun _ hf => nomatch hf⟩

set_option maxRecDepth 100000 in
set_option maxHeartbeats 2000000 in
theorem fclone_c {w : World} {v : Value} {l : List Fi} (h : FS w v l) : Calls Tryz.prog 42 #[v] w fun e w' => ∃ v', e = .returned v' ∧ FR w' v' l ∧ (∀ g, v'.ownBlock = some g → w.heap.size ≤ g) ∧ Below w.heap.size w w' := by
  obtain ⟨a, c, rfl, hs⟩ := h.sl
  have hok := h.ok
  have hn := h.n
  have hnil := fun (W : World) (n c : Nat) => Lib.run_eql_slice_nil (P := Tryz.prog) W 22 _ a n c 0 0 Tryz.underlying22
  clear h
  cases a with
  | none =>
    have h0 : l = [] := by
      rcases hs with e | ⟨b, o, e, _⟩
      · have := fiR_len hok; rw [e] at this; exact List.eq_nil_of_length_eq_zero (by simp at this; omega)
      · cases e
    subst h0
    clear hs hok hn
    go_enter Tryz.func42, Tryz.ntmps42
    go_wp2_with fail
    go_ret
    exact ⟨_, rfl, FR.nil _, (fun g hg => by cases hg), Below.refl _ _⟩
  | some ad =>
    have hBE : Below w.heap.size w (w.alloc (.cells #[] 56)) := (Below.refl _ w).alloc (Nat.le_refl _) _
    have hrow : OwnG (w.alloc (.cells #[] 56)) 56 34 (.slice (some ⟨w.heap.size, 0, none⟩) 0 0) 0 [] := ⟨rfl, .inr ⟨w.heap.size, 0, 0, #[], rfl, Array.getElem?_push_size, Nat.le_refl _, Nat.zero_le _, Nat.zero_le _, fun j u hu => nomatch hu⟩⟩
    have hsrc : Src Tryz.prog 34 22 (.slice (some ad) l.length c) l.length (fiR l) (w.alloc (.cells #[] 56)) := by
      refine Src.ofSlice _ Tryz.underlying22 _ l.length c _ (fiR_len hok) (fun j u hu => ?_) fiR_mem1
      rcases hs.below hBE with e | ⟨b, o, e, -, hc⟩
      · rw [e] at hu; cases hu
      · injection e with e
        subst e
        rw [Addr.add_lit]; exact hc j u hu
    have HSRC := Lib.hid hsrc
    have HROW := Lib.hid hrow
    have HBE := Lib.hid hBE
    have HOK := Lib.hid hok
    clear hs hok hsrc hBE hrow
    obtain ⟨n, hnl⟩ : ∃ n, l.length = n := ⟨_, rfl⟩
    have HNL := Lib.hid hnl
    rw [hnl] at HSRC hn ⊢
    clear hnl
    go_enter Tryz.func42, Tryz.ntmps42
    go_wp2_with (refine wp_appG rfl _ _ _ _ rfl fiElem fiZ (v := .slice (some ⟨w.heap.size, 0, none⟩) 0 0) (n := 0) (m := n) rfl HROW.out rfl HSRC.out (by simp only [maxLen]; omega) (by omega) ?_; intro v5 w5 ho5 hg5 hv5)
    go_ret
    rw [Nat.zero_add, List.nil_append, ← HNL.out] at ho5
    refine ⟨_, rfl, ⟨ho5, HOK.out⟩, fun g hg => ?_, HBE.out.grown hg5 HBE.out.size (fun k hk => by cases hk; exact Nat.le_refl _)⟩
    rcases hv5 g hg with h | h
    · cases h; exact Nat.le_refl _
    · exact Nat.le_trans HBE.out.size h

/-- The place that halving comes to. -/
def bsF (p : ByteArray) (l : List Fi) : Nat → Nat → Nat → Nat
  | 0, i, _ => i
  | n + 1, i, j => if i < j then (if PathS.cmp (l.getD ((i + j) / 2) ⟨ByteArray.empty, [], 0⟩).path p < 0 then bsF p l n ((i + j) / 2 + 1) j else bsF p l n i ((i + j) / 2)) else i
def bsI (p : ByteArray) (l : List Fi) : Nat := bsF p l l.length 0 l.length
def bsB (p : ByteArray) (l : List Fi) : Bool := match l[bsI p l]? with | none => false | some f => decide (PathS.cmp f.path p = 0)
end Go.Proofs.YtpcipdkoncmdcaaGreatDoor
namespace Go.Proofs.YtpcipdkoncmdcaaGreatDoor
open Go Go.RowKit
section
variable {P : Program} {ops : Array Oper} {Q : Exit → Act → World → Prop} {rest : List Oper} {o : Oper} {T : Array Value} {D : List Deferred} {w : World}
/-- An operation that yields a value. -/
theorem goW_tk (hg : Region.wanted o (yielded ops T) = true) (d : Nat) (hd : o.dst = some d) (v : Value) (hv : (execOp (Act.eval ⟨T, D⟩) o).run P w = .ok (.value v) w) (h : wpList P ops Q rest ⟨T.setIfInBounds d v, D⟩ w) : wpList P ops Q (o :: rest) ⟨T, D⟩ w :=
  wpList_step fun K hK => by
    rw [if_pos hg]
    unfold Oper.wp
    rw [hv]
    exact hK _ _ (by rw [hd]; exact h)
/-- A load. -/
theorem goW_ld (hg : Region.wanted o (yielded ops T) = true) (d : Nat) (hd : o.dst = some d) (ty : TypeId) (x : Operand) (hop : o.op = .load ty x) (ad : Addr) (v : Value) (hx : Act.eval ⟨T, D⟩ x = .pointer (some ad))
    (hrun : (Instr.loadAt ty (.pointer (some ad))).run P w = .ok v w) (h : wpList P ops Q rest ⟨T.setIfInBounds d v, D⟩ w) : wpList P ops Q (o :: rest) ⟨T, D⟩ w :=
  goW_tk hg d hd v (by unfold execOp; simp only [hop, hx, Sem.run_bind, hrun, Result.andThen_ok, Sem.run_pure]) h
/-- One that isn't wanted. -/
theorem goW_no (hg : Region.wanted o (yielded ops T) = false) (d : Nat) (hd : o.dst = some d) (h : wpList P ops Q rest ⟨T.setIfInBounds d undef, D⟩ w) : wpList P ops Q (o :: rest) ⟨T, D⟩ w :=
  wpList_step fun K hK => by
    rw [if_neg (by rw [hg]; decide)]
    exact hK _ _ (by rw [hd]; exact h)
/-- A move, an assign, a pick. -/
theorem goW_mv (hg : Region.wanted o (yielded ops T) = true) (d : Nat) (hd : o.dst = some d) (x : Operand) (hop : o.op = .move x) (v : Value) (hx : Act.eval ⟨T, D⟩ x = v) (h : wpList P ops Q rest ⟨T.setIfInBounds d v, D⟩ w) : wpList P ops Q (o :: rest) ⟨T, D⟩ w :=
  goW_tk hg d hd v (by unfold execOp; rw [hop, ← hx]; rfl) h
theorem goW_as (hg : Region.wanted o (yielded ops T) = true) (d : Nat) (hd : o.dst = some d) (x : Operand) (hop : o.op = .assign x) (v : Value) (hx : Act.eval ⟨T, D⟩ x = v) (h : wpList P ops Q rest ⟨T.setIfInBounds d v, D⟩ w) : wpList P ops Q (o :: rest) ⟨T, D⟩ w :=
  goW_tk hg d hd v (by unfold execOp; rw [hop, ← hx]; rfl) h
theorem goW_pk (hg : Region.wanted o (yielded ops T) = true) (d : Nat) (hd : o.dst = some d) (c x y : Operand) (hop : o.op = .pick c x y) (b : Bool) (hc : Act.eval ⟨T, D⟩ c = .bool b) (v : Value) (hv : (if b = true then Act.eval ⟨T, D⟩ x else Act.eval ⟨T, D⟩ y) = v) (h : wpList P ops Q rest ⟨T.setIfInBounds d v, D⟩ w) : wpList P ops Q (o :: rest) ⟨T, D⟩ w :=
  goW_tk hg d hd v (by unfold execOp; simp only [hop, hc]; rw [← hv]; rfl) h
/-- A call. -/
theorem goW_call (hg : Region.wanted o (yielded ops T) = true) (d : Nat) (hd : o.dst = some d) (f : FuncId) (l : List Operand) {ats : Array TypeId} (hop : o.op = .call { callee := .value (.func f), args := l.toArray, argTypes := ats })
    (vs : List Value) (hl : l.map (Act.eval ⟨T, D⟩) = vs) (hen : ∀ args w, (callFunc f args).run P w = .ok (.enter f args) w)
    (h : Calls P f vs.toArray w fun e w' => ∃ u, e = .returned u ∧ wpList P ops Q rest ⟨T.setIfInBounds d u, D⟩ w') : wpList P ops Q (o :: rest) ⟨T, D⟩ w := by
  refine wpList_step fun K hK => ?_
  rw [if_pos hg]
  unfold Oper.wp
  have hrun : (execOp (Act.eval ⟨T, D⟩) o).run P w = .ok (.enter f vs.toArray) w := by
    obtain ⟨d', op, ty, pos, af, gd⟩ := o
    simp only at hop
    subst hop
    rw [execOp_call_go]
    have e : (#[] ++ l.toArray.map (Act.eval ⟨T, D⟩) ++ #[] : Array Value) = vs.toArray := by rw [← hl]; simp
    rw [e]
    exact hen _ _
  rw [hrun]
  exact h.mono fun _ _ ⟨u, h1, h2⟩ => by subst h1; exact hK _ _ (by rw [hd]; exact h2)
/-- The same, not to be unfolded (whnf of a list of operations that aren't wanted doesn't come back). -/
@[irreducible] def goP (P : Program) (ops : Array Oper) (Q : Exit → Act → World → Prop) (l : List Oper) (a : Act) (w : World) : Prop := wpList P ops Q l a w
theorem goP_eq {l : List Oper} {a : Act} : goP P ops Q l a w = wpList P ops Q l a w := by unfold goP; rfl
theorem goP_start {id : Nat} {l : List Oper} {a : Act} (h : goP P l.toArray Q l a w) : (Code.region id l.toArray false).wp P Q a w := wp_region_lit (by rw [goP_eq] at h; exact h)
theorem goP_end {a : Act} (h : Q .normal a w) : goP P ops Q [] a w := by rw [goP_eq]; exact wpList_nil h
theorem goP_out {l : List Oper} {a : Act} (h : wpList P ops Q l a w) : goP P ops Q l a w := by rw [goP_eq]; exact h
theorem goP_tk (hg : Region.wanted o (yielded ops T) = true) (d : Nat) (hd : o.dst = some d) (v : Value) (hv : (execOp (Act.eval ⟨T, D⟩) o).run P w = .ok (.value v) w) (h : goP P ops Q rest ⟨T.setIfInBounds d v, D⟩ w) : goP P ops Q (o :: rest) ⟨T, D⟩ w := by
  rw [goP_eq] at h ⊢
  exact goW_tk hg d hd v hv h
theorem goP_ld (hg : Region.wanted o (yielded ops T) = true) (d : Nat) (hd : o.dst = some d) (ty : TypeId) (x : Operand) (hop : o.op = .load ty x) (ad : Addr) (v : Value) (hx : Act.eval ⟨T, D⟩ x = .pointer (some ad))
    (hrun : (Instr.loadAt ty (.pointer (some ad))).run P w = .ok v w) (h : goP P ops Q rest ⟨T.setIfInBounds d v, D⟩ w) : goP P ops Q (o :: rest) ⟨T, D⟩ w := by
  rw [goP_eq] at h ⊢
  exact goW_ld hg d hd ty x hop ad v hx hrun h
theorem goP_no (hg : Region.wanted o (yielded ops T) = false) (d : Nat) (hd : o.dst = some d) (h : goP P ops Q rest ⟨T.setIfInBounds d undef, D⟩ w) : goP P ops Q (o :: rest) ⟨T, D⟩ w := by
  rw [goP_eq] at h ⊢
  exact goW_no hg d hd h
theorem goP_mv (hg : Region.wanted o (yielded ops T) = true) (d : Nat) (hd : o.dst = some d) (x : Operand) (hop : o.op = .move x) (v : Value) (hx : Act.eval ⟨T, D⟩ x = v) (h : goP P ops Q rest ⟨T.setIfInBounds d v, D⟩ w) : goP P ops Q (o :: rest) ⟨T, D⟩ w := by
  rw [goP_eq] at h ⊢
  exact goW_mv hg d hd x hop v hx h
theorem goP_as (hg : Region.wanted o (yielded ops T) = true) (d : Nat) (hd : o.dst = some d) (x : Operand) (hop : o.op = .assign x) (v : Value) (hx : Act.eval ⟨T, D⟩ x = v) (h : goP P ops Q rest ⟨T.setIfInBounds d v, D⟩ w) : goP P ops Q (o :: rest) ⟨T, D⟩ w := by
  rw [goP_eq] at h ⊢
  exact goW_as hg d hd x hop v hx h
theorem goP_pk (hg : Region.wanted o (yielded ops T) = true) (d : Nat) (hd : o.dst = some d) (c x y : Operand) (hop : o.op = .pick c x y) (b : Bool) (hc : Act.eval ⟨T, D⟩ c = .bool b) (v : Value) (hv : (if b = true then Act.eval ⟨T, D⟩ x else Act.eval ⟨T, D⟩ y) = v) (h : goP P ops Q rest ⟨T.setIfInBounds d v, D⟩ w) : goP P ops Q (o :: rest) ⟨T, D⟩ w := by
  rw [goP_eq] at h ⊢
  exact goW_pk hg d hd c x y hop b hc v hv h
theorem goP_call (hg : Region.wanted o (yielded ops T) = true) (d : Nat) (hd : o.dst = some d) (f : FuncId) (l : List Operand) {ats : Array TypeId} (hop : o.op = .call { callee := .value (.func f), args := l.toArray, argTypes := ats })
    (vs : List Value) (hl : l.map (Act.eval ⟨T, D⟩) = vs) (hen : ∀ args w, (callFunc f args).run P w = .ok (.enter f args) w)
    (h : Calls P f vs.toArray w fun e w' => ∃ u, e = .returned u ∧ goP P ops Q rest ⟨T.setIfInBounds d u, D⟩ w') : goP P ops Q (o :: rest) ⟨T, D⟩ w := by
  rw [goP_eq]
  exact goW_call hg d hd f l hop vs hl hen (h.mono fun e w' ⟨u, h1, h2⟩ => ⟨u, h1, by rw [goP_eq] at h2; exact h2⟩)
end
end Go.Proofs.YtpcipdkoncmdcaaGreatDoor
