/- Texts of mine, joined: What came in, opened by its type: slices of whatever, structs field by field. Of every program. | Arrays and floats that came in, opened by their type. Of every program. | Ids, files, snapshots, blobs that came in, opened. | What merging answers, path by path: plain. | One side is the base, or both are alike: plain. | An outcome beside a file. | Walk: is a merging small enough; no blobs. | The files of a clean merge are a snapshot's: plain. | The law of merging again: the walk. -/
import Derived.Test.YtpcipdkoncmdcaaGreatDoorYJoinMerges22
namespace Go.Proofs.YtpcipdkoncmdcaaGreatDoor
open Go Go.ChangeShapes Go.WideShapes Go.ChangeAt Go.RowKit
/-- Whatever is read at type e is one of α, in the cells f. -/
def Opn {H : Type} (enc : TypeId × Value → H) (P : Program) (W : World) (e : TypeId) (α : Type) (f : α → List Value) (ok : α → Nat → Prop) : Prop :=
  ∀ (n : Nat) (cs : List Value) (x : DataW H × List MemPlace), DataW.trod enc P W 0 (fun _ => true) true n e cs = some x → ∃ y : α, cs = f y ∧ ok y (Rows.uptoBulk x.1)

section
variable {H : Type} {enc : TypeId × Value → H} {P : Program} {W : World}
theorem flat_at {α : Type} (f : α → List Value) (k : Nat) : ∀ (l : List α), (∀ y ∈ l, (f y).length = k) → ∀ (i : Nat) (hi : i < l.length) (j : Nat), j < k → (l.flatMap f)[i * k + j]? = (f l[i])[j]?
  | [], _, i, hi, _, _ => by simp at hi
  | y :: l, h, 0, _, j, hj => by
    rw [List.flatMap_cons, Nat.zero_mul, Nat.zero_add, List.getElem?_append_left (by rw [h y (by simp)]; exact hj)]; rfl
  | y :: l, h, i + 1, hi, j, hj => by
    rw [List.flatMap_cons, List.getElem?_append_right (by rw [h y (by simp), Nat.succ_mul]; omega), h y (by simp), show (i + 1) * k + j - k = i * k + j by rw [Nat.succ_mul]; omega]
    exact flat_at f k l (fun z hz => h z (by simp [hz])) i (by simpa using hi) j hj
theorem flat_len {α : Type} (f : α → List Value) (k : Nat) : ∀ (l : List α), (∀ y ∈ l, (f y).length = k) → (l.flatMap f).length = l.length * k
  | [], _ => by simp
  | y :: l, h => by rw [List.flatMap_cons, List.length_append, h y (by simp), flat_len f k l (fun z hz => h z (by simp [hz])), List.length_cons, Nat.succ_mul]; omega

theorem bulk_all {α : Type} {ok : α → Nat → Prop} (hmono : ∀ y a b, a ≤ b → ok y a → ok y b) (D : Nat → DataW H) (T : Nat → α) : ∀ l : List Nat, (∀ i ∈ l, ok (T i) (Rows.uptoBulk (D i))) →
    l.length ≤ Rows.uptoBulkAll (l.map D) ∧ ∀ y ∈ l.map T, ok y (Rows.uptoBulkAll (l.map D))
  | [], _ => ⟨Nat.zero_le _, fun y h => by cases h⟩
  | i :: l, h => by
    obtain ⟨h1, h2⟩ := bulk_all hmono D T l (fun j hj => h j (by simp [hj]))
    have e := bulk_one (D i)
    have e2 : Rows.uptoBulkAll ((i :: l).map D) = Rows.uptoBulk (D i) + Rows.uptoBulkAll (l.map D) := by rw [List.map_cons, Rows.uptoBulkAll]
    rw [e2, List.length_cons]
    refine ⟨by omega, fun y hy => ?_⟩
    rw [List.map_cons, List.mem_cons] at hy
    rcases hy with rfl | hy
    · exact hmono _ _ _ (by omega) (h i (by simp))
    · exact hmono _ _ _ (by omega) (h2 y hy)

/-- The sum of sizes over a list is within its bulk. -/
theorem bulk_sum {α : Type} (g : α → Nat) (D : Nat → DataW H) (T : Nat → α) : ∀ l : List Nat, (∀ i ∈ l, g (T i) ≤ Rows.uptoBulk (D i)) → ((l.map T).map g).sum ≤ Rows.uptoBulkAll (l.map D)
  | [], _ => by simp
  | i :: l, h => by
    have h1 := bulk_sum g D T l (fun j hj => h j (by simp [hj]))
    have h2 := h i (by simp)
    have e2 : Rows.uptoBulkAll ((i :: l).map D) = Rows.uptoBulk (D i) + Rows.uptoBulkAll (l.map D) := by rw [List.map_cons, Rows.uptoBulkAll]
    rw [e2]
    simp only [List.map_cons, List.sum_cons]
    omega

/-- A slice. -/
theorem opn_slice {α : Type} [Inhabited α] {t e : TypeId} {k : Nat} (ht : P.underlying t = some (.slice e)) (hc : P.cellsOf e = k) (hk0 : 0 < k) {f : α → List Value} {ok : α → Nat → Prop} (hmono : ∀ y a b, a ≤ b → ok y a → ok y b) (g : α → Nat) (hg : ∀ y b, ok y b → g y ≤ b)
    (X : Opn enc P W e α f ok) : Opn enc P W t (Option Addr × Nat × List α) (fun y => [.slice y.1 y.2.2.length y.2.1]) (fun y b => Sl W y.1 (y.2.2.flatMap f) ∧ (∀ z ∈ y.2.2, (f z).length = k) ∧ y.2.2.length < b ∧ (y.2.2.map g).sum < b ∧ ∀ z ∈ y.2.2, ok z b) := by
  intro fuel cs x hf
  rcases Go.Deep.open_slice ht hf with ⟨hcs, hx⟩ | ⟨a, len, cap, m, n, D, Pl, hcs, -, hl, -, hmm, hx, hcell⟩
  · subst hcs
    have hb : 0 < Rows.uptoBulk x.1 := by rw [hx]; simp [Rows.uptoBulk]
    exact ⟨(none, 0, []), rfl, .nil _ _, (fun z hz => nomatch hz), hb, hb, (fun z hz => nomatch hz)⟩
  · subst hcs
    simp only [if_true] at hmm
    rw [hc] at hcell
    have each : ∀ i, i < len → ∃ y : α, ok y (Rows.uptoBulk (D i)) ∧ (f y).length = k ∧ ∀ j, j < k → W.cell? ((a.add (i * k)).add j) = (f y)[j]? := by
      intro i hi
      obtain ⟨cs', h1, h2⟩ := hcell i (by omega)
      obtain ⟨y, hy, hok⟩ := X n cs' _ h2
      obtain ⟨_, h3, h4⟩ := World.cells?_some h1
      subst hy
      exact ⟨y, hok, h3, h4⟩
    obtain ⟨T, hT⟩ := Go.Deep.choose_lt each
    have hd : x.1 = .slice ((List.range len).map D) ((List.range (m - len)).map fun j => D (len + j)) := congrArg Prod.fst hx
    obtain ⟨k1, k2⟩ := bulk_all hmono D T (List.range len) (fun i hi => (hT i (List.mem_range.1 hi)).1)
    have k3 := bulk_sum g D T (List.range len) (fun i hi => hg _ _ (hT i (List.mem_range.1 hi)).1)
    have hb : Rows.uptoBulkAll ((List.range len).map D) < Rows.uptoBulk x.1 := by rw [hd]; simp only [Rows.uptoBulk]; omega
    have hlen : ∀ z ∈ (List.range len).map T, (f z).length = k := fun z hz => by
      obtain ⟨i, hi, rfl⟩ := List.mem_map.1 hz
      exact (hT i (List.mem_range.1 hi)).2.1
    rw [List.length_range] at k1
    refine ⟨(some a, cap, (List.range len).map T), by simp, ?_, hlen, by simp; omega, by show (((List.range len).map T).map g).sum < _; omega, fun z hz => hmono _ _ _ (by omega) (k2 z hz)⟩
    by_cases h0 : len = 0
    · subst h0; exact .inl rfl
    · have h1 := (hT 0 (by omega)).2.2 0 hk0
      have h2 := (hT 0 (by omega)).2.1
      rw [List.getElem?_eq_getElem (by omega)] at h1
      have hsp : a.spot = none := cell_spot (b := a.block) (o := a.off) (by simpa [Addr.add] using h1)
      obtain ⟨b, o, sp⟩ := a
      simp at hsp
      subst hsp
      have hbl : b < W.heap.size := by
        have := World.block_lt_of_cell? W _ h1
        simpa [Addr.add] using this
      refine .inr ⟨b, o, rfl, hbl, fun i u hu => ?_⟩
      have hi : i < len * k := by
        have := (List.getElem?_eq_some_iff.1 hu).1
        rw [flat_len f k _ hlen, List.length_map, List.length_range] at this
        exact this
      have hq : i / k < len := Nat.div_lt_of_lt_mul (by rw [Nat.mul_comm]; exact hi)
      have hr : i % k < k := Nat.mod_lt _ hk0
      have hir : i / k * k + i % k = i := by rw [Nat.mul_comm]; exact Nat.div_add_mod i k
      have h5 := flat_at f k _ hlen (i / k) (by rw [List.length_map, List.length_range]; exact hq) (i % k) hr
      rw [hir, hu, List.getElem_map, List.getElem_range] at h5
      have h6 := (hT (i / k) hq).2.2 (i % k) hr
      rw [Addr.add_lit, Addr.add_lit, Nat.add_assoc, hir] at h6
      rw [h6, ← h5]

/-- .. the slice of an argument. -/
theorem Opn.arg {α : Type} {t : TypeId} {f : α → List Value} {ok : α → Nat → Prop} (X : Opn enc P W t α f ok) {v : Value} {d : DataW H} {p : List MemPlace} (h : DataW.Trod enc P W 0 (fun _ => true) true t v d p) : ∃ y : α, v.cells.toList = f y ∧ ok y (Rows.uptoBulk d) := by
  obtain ⟨fuel, hf⟩ := h
  exact X fuel _ _ hf

theorem opn_str {t : TypeId} (ht : P.underlying t = some .string) : Opn enc P W t ByteArray (fun s => [.string s]) (fun s b => s.size < b) := by
  intro n cs x h
  obtain ⟨s, h1, h2, _⟩ := DataW.trod_string ht h
  exact ⟨s, h1, by rw [h2]; rw [bulk_str]; omega⟩
theorem opn_i64 {t : TypeId} (ht : P.underlying t = some (.int .i64)) : Opn enc P W t Int (fun n => [.int .i64 n]) (fun n b => 0 < b ∧ -9223372036854775808 ≤ n ∧ n ≤ 9223372036854775807) := by
  intro n cs x h
  obtain ⟨s, h1, h2, h3⟩ := DataW.trod_int ht h
  exact ⟨s, h1, by rw [h2]; simp [Rows.uptoBulk], i64_wf h3⟩
/-- Bytes: a slice of them. -/
theorem opn_bytes {t e : TypeId} (ht : P.underlying t = some (.slice e)) (hc : P.cellsOf e = 1) (he : P.underlying e = some (.int .u8)) :
    Opn enc P W t (Option Addr × Nat × ByteArray) (fun y => [.slice y.1 y.2.2.size y.2.1]) (fun y b => Sl W y.1 (byteCells y.2.2) ∧ y.2.2.size < b) := by
  have X : Opn enc P W e UInt8 (fun c => [.int .u8 (c.toNat : Int)]) (fun _ b => 0 < b) := by
    intro n cs x h
    obtain ⟨z, h1, h2, h3⟩ := DataW.trod_int he h
    have := int_wf h3 (show (0 : Int) = IntKind.u8.min by decide) (show IntKind.u8.max = (255 : Int) by decide)
    refine ⟨UInt8.ofNat z.toNat, ?_, by rw [h2]; simp [Rows.uptoBulk]⟩
    rw [h1]
    show [Value.int .u8 z] = [Value.int .u8 ((UInt8.ofNat z.toNat).toNat : Int)]
    rw [UInt8.toNat_ofNat', Nat.mod_eq_of_lt (by omega)]
    congr 2
    omega
  intro n cs x h
  obtain ⟨⟨a, c, l⟩, h1, h2, -, h4, -⟩ := opn_slice ht hc (by omega) (fun _ a b hab h => by omega) (fun _ => 0) (fun _ _ _ => Nat.zero_le _) X n cs x h
  have e1 : byteCells ⟨l.toArray⟩ = l.flatMap fun c => [Value.int .u8 (c.toNat : Int)] := by
    unfold byteCells
    rw [List.map_eq_flatMap]
  have e2 : (⟨l.toArray⟩ : ByteArray).size = l.length := by simp [ByteArray.size]
  refine ⟨(a, c, ⟨l.toArray⟩), ?_, ?_, ?_⟩
  · rw [h1]; simp only [e2]
  · show Sl W a (byteCells ⟨l.toArray⟩)
    rw [e1]; exact h2
  · show (⟨l.toArray⟩ : ByteArray).size < _
    rw [e2]; exact h4
end
end Go.Proofs.YtpcipdkoncmdcaaGreatDoor
namespace Go.Proofs.YtpcipdkoncmdcaaGreatDoor
open Go Go.ChangeShapes Go.WideShapes Go.ChangeAt Go.RowKit
section
variable {H : Type} {enc : TypeId × Value → H} {P : Program} {W : World}
theorem opn_f64 {t : TypeId} (ht : P.underlying t = some (.float .f64)) : Opn enc P W t Nat (fun n => [.float .f64 n]) (fun n b => 0 < b ∧ n < 2 ^ 64) := by
  intro n cs x h
  obtain ⟨z, h1, h2, h3⟩ := trod_float ht h
  exact ⟨z, h1, by rw [h2]; simp [Rows.uptoBulk], of_decide_eq_true (show decide (z < 2 ^ 64) = true from h3)⟩
theorem opn_u8 {t : TypeId} (ht : P.underlying t = some (.int .u8)) : Opn enc P W t Nat (fun n => [.int .u8 (n : Int)]) (fun n b => 0 < b ∧ n < 256) := by
  intro n cs x h
  obtain ⟨z, h1, h2, h3⟩ := DataW.trod_int ht h
  have := int_wf h3 (show (0 : Int) = IntKind.u8.min by decide) (show IntKind.u8.max = (255 : Int) by decide)
  refine ⟨z.toNat, ?_, by rw [h2]; simp [Rows.uptoBulk], by omega⟩
  rw [h1]; congr 2; omega
theorem list_ext_flat {α : Type} {f : α → List Value} {k : Nat} (hk0 : 0 < k) {cs : List Value} {l : List α} {n : Nat} (hn : l.length = n) (hc : cs.length = n * k) (hl : ∀ y ∈ l, (f y).length = k) (h : ∀ i (hi : i < l.length), (cs.drop (i * k)).take k = f l[i]) : cs = l.flatMap f := by
  apply List.ext_getElem?
  intro i
  by_cases hi : i < n * k
  · have hq : i / k < l.length := by rw [hn]; exact Nat.div_lt_of_lt_mul (by rw [Nat.mul_comm]; exact hi)
    have hr : i % k < k := Nat.mod_lt _ hk0
    have hir : i / k * k + i % k = i := by rw [Nat.mul_comm]; exact Nat.div_add_mod i k
    have h1 := flat_at f k l hl (i / k) hq (i % k) hr
    rw [hir] at h1
    rw [h1, ← h _ hq, List.getElem?_take, if_pos hr, List.getElem?_drop, hir]
  · rw [List.getElem?_eq_none (by omega), List.getElem?_eq_none (by rw [flat_len f k l hl, hn]; omega)]
/-- An array. -/
theorem opn_arr {α : Type} [Inhabited α] {t e : TypeId} {n k : Nat} (ht : P.underlying t = some (.array n e)) (hc : P.cellsOf e = k) (hC : P.cellsOf t = n * k) (hk0 : 0 < k) {f : α → List Value} {ok : α → Nat → Prop} (hmono : ∀ y a b, a ≤ b → ok y a → ok y b) (g : α → Nat) (hg : ∀ y b, ok y b → g y ≤ b)
    (X : Opn enc P W e α f ok) : Opn enc P W t (List α) (fun l => l.flatMap f) (fun l b => l.length = n ∧ (∀ z ∈ l, (f z).length = k) ∧ (l.map g).sum < b ∧ ∀ z ∈ l, ok z b) := by
  intro fuel cs x h
  obtain ⟨xs, m, -, hx, hcl, hl, hel⟩ := DataW.trod_array ht h
  rw [hC] at hcl
  rw [hc] at hel
  have each : ∀ i, i < n → ∃ y : α, (cs.drop (i * k)).take k = f y ∧ ok y (Rows.uptoBulk (xs.getD i (.nil, [])).1) ∧ (f y).length = k := by
    intro i hi
    have h1 := hel i hi
    have h2 : xs[i]? = some (xs.getD i (.nil, [])) := by rw [List.getD_eq_getElem?_getD, List.getElem?_eq_getElem (by omega)]; rfl
    rw [h2] at h1
    obtain ⟨y, hy, hok⟩ := X m _ _ h1
    refine ⟨y, hy, hok, ?_⟩
    rw [← hy, List.length_take, List.length_drop, hcl]
    have : (i + 1) * k ≤ n * k := Nat.mul_le_mul_right _ hi
    rw [Nat.add_mul, Nat.one_mul] at this
    omega
  obtain ⟨T, hT⟩ := Go.Deep.choose_lt each
  have hlen : ∀ z ∈ (List.range n).map T, (f z).length = k := fun z hz => by
    obtain ⟨i, hi, rfl⟩ := List.mem_map.1 hz
    exact (hT i (List.mem_range.1 hi)).2.2
  have hD : xs.map Prod.fst = (List.range n).map fun i => (xs.getD i (.nil, [])).1 := by
    apply List.ext_getElem?
    intro i
    by_cases hi : i < n
    · rw [List.getElem?_map, List.getElem?_map, List.getElem?_range hi, List.getElem?_eq_getElem (by omega)]
      simp [List.getD_eq_getElem?_getD, List.getElem?_eq_getElem (show i < xs.length by omega)]
    · rw [List.getElem?_eq_none (by simp; omega), List.getElem?_eq_none (by simp; omega)]
  have hd : Rows.uptoBulk x.1 = Rows.uptoBulkAll ((List.range n).map fun i => (xs.getD i (.nil, [])).1) + 1 := by rw [hx, ← hD]; simp only [Rows.uptoBulk]
  obtain ⟨k1, k2⟩ := bulk_all hmono (fun i => (xs.getD i (.nil, [])).1) T (List.range n) (fun i hi => (hT i (List.mem_range.1 hi)).2.1)
  have k3 := bulk_sum g (fun i => (xs.getD i (.nil, [])).1) T (List.range n) (fun i hi => hg _ _ (hT i (List.mem_range.1 hi)).2.1)
  refine ⟨(List.range n).map T, ?_, by simp, hlen, by omega, fun z hz => hmono _ _ _ (by omega) (k2 z hz)⟩
  refine list_ext_flat hk0 (by simp) hcl hlen (fun i hi => ?_)
  rw [List.getElem_map, List.getElem_range]
  exact (hT i (by simpa using hi)).1
end
end Go.Proofs.YtpcipdkoncmdcaaGreatDoor
namespace Go.Proofs.YtpcipdkoncmdcaaGreatDoor
open Go Go.ChangeShapes Go.WideShapes Go.ChangeAt Go.RowKit
section
variable {H : Type} {enc : TypeId × Value → H} {W : World}
theorem flat_nb (l : List Nat) : (l.flatMap fun (n : Nat) => [Value.int .u8 (n : Int)]) = nb l := by
  induction l with
  | nil => rfl
  | cons x l ih => rw [List.flatMap_cons, ih]; rfl
set_option maxRecDepth 100000 in
theorem opn_id : Opn enc Tryz.prog W 43 (List Nat) nb (fun l _ => OkId l) := by
  intro n cs x h
  obtain ⟨y, h1, h2, -, -, h5⟩ := (opn_arr (enc := enc) (W := W) (ok := fun (n : Nat) b => 0 < b ∧ n < 256) id_under (k := 1) (by kernel_rfl) (by kernel_rfl) (by decide) (fun _ a b hab h => ⟨Nat.lt_of_lt_of_le h.1 hab, h.2⟩) (fun _ => 0) (fun _ _ _ => Nat.zero_le _) (opn_u8 Tryz.underlying5)) n cs x h
  exact ⟨y, Eq.trans h1 (flat_nb y), h2, fun z hz => (h5 z hz).2⟩
set_option maxRecDepth 100000 in
theorem opn_file : Opn enc Tryz.prog W 56 Fi fiC (fun f b => OkId f.id ∧ f.stamp < 2 ^ 64 ∧ f.path.size < b) := by
  intro n cs x h
  obtain ⟨xs, m, -, hx, hl, hxl, hf⟩ := DataW.trod_struct Tryz.underlying56 h
  have hxl : xs.length = 3 := hxl
  rcases xs with _ | ⟨x0, _ | ⟨x1, _ | ⟨x2, _ | ⟨x3, l⟩⟩⟩⟩
  · simp at hxl
  · simp at hxl
  · simp at hxl
  · obtain ⟨p, e0, b0⟩ := opn_str (W := W) Tryz.underlying9 m _ x0 (hf 0 _ rfl)
    obtain ⟨i, e1, b1⟩ := opn_id (W := W) m _ x1 (hf 1 _ rfl)
    obtain ⟨s, e2, b2⟩ := opn_f64 (W := W) Tryz.underlying44 m _ x2 (hf 2 _ rfl)
    have hcl : cs.length = 34 := hl.trans (by kernel_rfl)
    have k0 : (Tryz.prog).cellsOf 9 = 1 := by kernel_rfl
    have k1 : (Tryz.prog).cellsOf 43 = 32 := by kernel_rfl
    have k2 : (Tryz.prog).cellsOf 44 = 1 := by kernel_rfl
    have e0 : (cs.drop 0).take 1 = [.string p] := by rw [← k0]; exact e0
    have e1 : (cs.drop 1).take 32 = nb i := by rw [← k1]; exact e1
    have e2 : (cs.drop 33).take 1 = [.float .f64 s] := by rw [← k2]; exact e2
    have hcs : cs = fiC ⟨p, i, s⟩ := by
      have a1 : cs = (cs.drop 0).take 1 ++ ((cs.drop 1).take 32 ++ (cs.drop 33).take 1) := by
        rw [List.take_of_length_le (l := cs.drop 33) (by rw [List.length_drop]; omega), show cs.drop 33 = (cs.drop 1).drop 32 by rw [List.drop_drop], List.take_append_drop, List.drop_zero, List.take_append_drop]
      rw [a1, e0, e1, e2]; rfl
    have hb : Rows.uptoBulk x.1 = Rows.uptoBulk x0.1 + (Rows.uptoBulk x1.1 + (Rows.uptoBulk x2.1 + 0)) + 1 := by
      rw [hx]; simp only [Rows.uptoBulk, Rows.uptoBulkAll, List.map_cons, List.map_nil]
    exact ⟨⟨p, i, s⟩, hcs, b1, b2.2, by show p.size < _; omega⟩
  · simp at hxl
theorem file_mono : ∀ (f : Fi) (a b : Nat), a ≤ b → (OkId f.id ∧ f.stamp < 2 ^ 64 ∧ f.path.size < a) → OkId f.id ∧ f.stamp < 2 ^ 64 ∧ f.path.size < b := fun _ _ _ hab h => ⟨h.1, h.2.1, Nat.lt_of_lt_of_le h.2.2 hab⟩
instance : Inhabited Fi := ⟨⟨ByteArray.empty, [], 0⟩⟩
set_option maxRecDepth 100000 in
/-- A snapshot's files. -/
theorem opn_files : Opn enc Tryz.prog W 22 (Option Addr × Nat × List Fi) (fun y => [.slice y.1 y.2.2.length y.2.1]) (fun y b => Sl W y.1 (fiR y.2.2) ∧ y.2.2.length < b ∧ ∀ f ∈ y.2.2, OkId f.id ∧ f.stamp < 2 ^ 64 ∧ f.path.size < b) := by
  intro n cs x h
  obtain ⟨y, e, h1, -, h3, -, h5⟩ := (opn_slice (enc := enc) (W := W) Tryz.underlying22 (k := 34) (by kernel_rfl) (by decide) file_mono (fun _ => 0) (fun _ _ _ => Nat.zero_le _) opn_file) n cs x h
  exact ⟨y, e, h1, h3, h5⟩
theorem files_fs {y : Option Addr × Nat × List Fi} {b : Nat} (h : Sl W y.1 (fiR y.2.2) ∧ y.2.2.length < b ∧ ∀ f ∈ y.2.2, OkId f.id ∧ f.stamp < 2 ^ 64 ∧ f.path.size < b) (hb : b ≤ 1048576) : FS W (.slice y.1 y.2.2.length y.2.1) y.2.2 :=
  ⟨⟨y.1, y.2.1, rfl, h.1⟩, fun f hf => ⟨(h.2.2 f hf).1, (h.2.2 f hf).2.1, by have := (h.2.2 f hf).2.2; omega⟩, by have := h.2.1; omega⟩
set_option maxRecDepth 100000 in
/-- Three snapshots. -/
theorem open_snaps {base : Nat} {v : Value} {d : DataW H} {p : List MemPlace} (hv : Value.okWide Tryz.prog W .any base 23 v) (h : DataW.Trod enc Tryz.prog W 0 (fun _ => true) true 23 v d p) (hk : Rows.uptoBulk d ≤ 1048576) :
    ∃ va vb vc, ∃ T : T3 (List Fi), v = .agg #[va, vb, vc] ∧ FS W va T.a ∧ FS W vb T.b ∧ FS W vc T.c := by
  obtain ⟨cs, rfl, -⟩ := arr_okWide Tryz.underlying23 hv
  obtain ⟨l, h1, h2, -, -, h5⟩ := (opn_arr (enc := enc) (W := W) Tryz.underlying23 (k := 1) (by kernel_rfl) (by kernel_rfl) (by decide) (ok := fun (y : Option Addr × Nat × List Fi) b => Sl W y.1 (fiR y.2.2) ∧ y.2.2.length < b ∧ ∀ f ∈ y.2.2, OkId f.id ∧ f.stamp < 2 ^ 64 ∧ f.path.size < b) (fun y a b hab h => ⟨h.1, Nat.lt_of_lt_of_le h.2.1 hab, fun f hf => file_mono f a b hab (h.2.2 f hf)⟩) (fun _ => 0) (fun _ _ _ => Nat.zero_le _) opn_files).arg h
  have h1 : cs.toList = l.flatMap fun y => [Value.slice y.1 y.2.2.length y.2.1] := h1
  rcases l with _ | ⟨a, _ | ⟨b, _ | ⟨c, _ | ⟨e, l⟩⟩⟩⟩
  · simp at h2
  · simp at h2
  · simp at h2
  · refine ⟨_, _, _, ⟨a.2.2, b.2.2, c.2.2⟩, ?_, files_fs (h5 a (by simp)) hk, files_fs (h5 b (by simp)) hk, files_fs (h5 c (by simp)) hk⟩
    rw [show cs = (cs.toList).toArray by simp, h1]; rfl
  · simp at h2
end
end Go.Proofs.YtpcipdkoncmdcaaGreatDoor
namespace Go.Proofs.YtpcipdkoncmdcaaGreatDoor
open Go Go.RowKit
/-- The file of a path. -/
def fiAt (l : List Fi) (p : ByteArray) : Option Fi := l.find? fun f => decide (f.path = p)
def thAt (L : List Th) (p : ByteArray) : Option Th := L.find? fun t => decide (t.path = p)
theorem fiAt_some {l : List Fi} {p : ByteArray} {f : Fi} (h : fiAt l p = some f) : f ∈ l ∧ f.path = p := ⟨List.mem_of_find?_eq_some h, by simpa using List.find?_some h⟩
theorem fiAt_none {l : List Fi} {p : ByteArray} : fiAt l p = none ↔ p ∉ l.map (·.path) := by
  unfold fiAt
  rw [List.find?_eq_none]
  constructor
  · intro h hm
    obtain ⟨f, hf, rfl⟩ := List.mem_map.1 hm
    exact h f hf (decide_eq_true rfl)
  · intro h f hf e
    exact h (List.mem_map.2 ⟨f, hf, by simpa using e⟩)
theorem thAt_taken (i : Nat) (f : Fi) (p : ByteArray) : ∀ L : List Th, thAt (taken i f L) p = if p = f.path then some (((thAt L p).getD { zTh with path := p }).add i f) else thAt L p
  | [] => by
    show thAt [({ zTh with path := f.path } : Th).add i f] p = _
    by_cases h : p = f.path
    · rw [if_pos h, h]; simp [thAt, Th.add]
    · rw [if_neg h]
      have h' : ¬ f.path = p := fun e => h e.symm
      simp [thAt, Th.add, h']
  | t :: L => by
    have ih := thAt_taken i f p L
    show thAt (if t.path = f.path then t.add i f :: L else t :: taken i f L) p = _
    have hc : ∀ (s : Th) (M : List Th), thAt (s :: M) p = if s.path = p then some s else thAt M p := by
      intro s M
      unfold thAt
      rw [List.find?_cons]
      by_cases h : s.path = p <;> simp [h]
    by_cases h1 : t.path = f.path
    · rw [if_pos h1, hc, hc]
      show (if t.path = p then _ else _) = _
      by_cases h2 : p = f.path
      · rw [if_pos (h1.trans h2.symm), if_pos h2, if_pos (h1.trans h2.symm)]; rfl
      · have h3 : ¬ t.path = p := fun e => h2 (e.symm.trans h1)
        rw [if_neg h3, if_neg h2, if_neg h3]
    · rw [if_neg h1, hc, hc, ih]
      by_cases h2 : p = f.path
      · have h3 : ¬ t.path = p := fun e => h1 (e.trans h2)
        rw [if_neg h3, if_pos h2, if_pos h2, if_neg h3]
      · rw [if_neg h2, if_neg h2]
theorem thAt_takenAll (i : Nat) (p : ByteArray) : ∀ (fs : List Fi) (L : List Th), (fs.map (·.path)).Nodup → thAt (takenAll i L fs) p = match fiAt fs p with | none => thAt L p | some f => some (((thAt L p).getD { zTh with path := p }).add i f)
  | [], L, _ => rfl
  | f :: fs, L, hn => by
    rw [List.map_cons, List.nodup_cons] at hn
    show thAt (takenAll i (taken i f L) fs) p = _
    rw [thAt_takenAll i p fs (taken i f L) hn.2, thAt_taken]
    have hc : fiAt (f :: fs) p = if f.path = p then some f else fiAt fs p := by
      unfold fiAt
      rw [List.find?_cons]
      by_cases h : f.path = p <;> simp [h]
    rw [hc]
    by_cases h : p = f.path
    · subst h
      have : fiAt fs f.path = none := fiAt_none.2 hn.1
      rw [this, if_pos rfl, if_pos rfl]
    · rw [if_neg h, if_neg (fun e => h e.symm)]
def okT3 (T : T3 (List Fi)) : Prop := (T.a.map (·.path)).Nodup ∧ (T.b.map (·.path)).Nodup ∧ (T.c.map (·.path)).Nodup
/-- A path's three, out of the snapshots. -/
def hasT (T : T3 (List Fi)) (p : ByteArray) : T3 Bool := ⟨(fiAt T.a p).isSome, (fiAt T.b p).isSome, (fiAt T.c p).isSome⟩
def idF : Option Fi → List Nat | none => zId | some f => f.id
def stF : Option Fi → Nat | none => 0 | some f => f.stamp
def idsT (T : T3 (List Fi)) (p : ByteArray) : T3 (List Nat) := ⟨idF (fiAt T.a p), idF (fiAt T.b p), idF (fiAt T.c p)⟩
def stsT (T : T3 (List Fi)) (p : ByteArray) : T3 Nat := ⟨stF (fiAt T.a p), stF (fiAt T.b p), stF (fiAt T.c p)⟩
def thT (T : T3 (List Fi)) (p : ByteArray) : Th := { zTh with path := p, has := hasT T p, ids := idsT T p, sts := stsT T p }
theorem thAt_upT {T : T3 (List Fi)} (h : okT3 T) (p : ByteArray) : thAt (upT T 3) p = if fiAt T.a p = none ∧ fiAt T.b p = none ∧ fiAt T.c p = none then none else some (thT T p) := by
  show thAt (takenAll 2 (takenAll 1 (takenAll 0 [] T.a) T.b) T.c) p = _
  rw [thAt_takenAll 2 p _ _ h.2.2, thAt_takenAll 1 p _ _ h.2.1, thAt_takenAll 0 p _ _ h.1]
  unfold thT hasT idsT stsT
  cases fiAt T.a p <;> cases fiAt T.b p <;> cases fiAt T.c p <;> rfl
theorem thOf_thAt (L : List Th) (p : ByteArray) : thOf L p = (thAt L p).getD zTh := rfl
theorem mem_thAt {L : List Th} {p : ByteArray} : p ∈ L.map (·.path) ↔ thAt L p ≠ none := by
  unfold thAt
  rw [Ne, List.find?_eq_none]
  constructor
  · intro hm h
    obtain ⟨t, ht, rfl⟩ := List.mem_map.1 hm
    exact h t ht (decide_eq_true rfl)
  · intro h
    false_or_by_contra
    rename_i hm
    exact h fun t ht e => hm (List.mem_map.2 ⟨t, ht, by simpa using e⟩)
theorem mem_upT {T : T3 (List Fi)} (h : okT3 T) (p : ByteArray) : p ∈ (upT T 3).map (·.path) ↔ (p ∈ T.a.map (·.path) ∨ p ∈ T.b.map (·.path) ∨ p ∈ T.c.map (·.path)) := by
  rw [mem_thAt, thAt_upT h]
  have e : ∀ l : List Fi, fiAt l p = none ↔ p ∉ l.map (·.path) := fun l => fiAt_none
  by_cases ha : fiAt T.a p = none
  · by_cases hb : fiAt T.b p = none
    · by_cases hc : fiAt T.c p = none
      · rw [if_pos ⟨ha, hb, hc⟩]
        exact ⟨fun h => absurd rfl h, fun h => (h.elim ((e _).1 ha) (fun h => h.elim ((e _).1 hb) ((e _).1 hc))).elim⟩
      · rw [if_neg (fun h => hc h.2.2)]
        exact ⟨fun _ => .inr (.inr (Classical.not_not.1 (fun h => hc ((e _).2 h)))), fun _ => by simp⟩
    · rw [if_neg (fun h => hb h.2.1)]
      exact ⟨fun _ => .inr (.inl (Classical.not_not.1 (fun h => hb ((e _).2 h)))), fun _ => by simp⟩
  · rw [if_neg (fun h => ha h.1)]
    exact ⟨fun _ => .inl (Classical.not_not.1 (fun h => ha ((e _).2 h))), fun _ => by simp⟩
/-- The names that are merged. -/
def nmsT (T : T3 (List Fi)) : List ByteArray := PathS.sorted ((upT T 3).map (·.path))
theorem mem_nms {T : T3 (List Fi)} (h : okT3 T) (p : ByteArray) : p ∈ nmsT T ↔ (p ∈ T.a.map (·.path) ∨ p ∈ T.b.map (·.path) ∨ p ∈ T.c.map (·.path)) := (PathS.sorted_perm _).mem_iff.trans (mem_upT h p)
theorem thOf_nms {T : T3 (List Fi)} (h : okT3 T) {p : ByteArray} (hp : p ∈ nmsT T) : thOf (upT T 3) p = thT T p := by
  have hm := mem_thAt.1 ((PathS.sorted_perm _).mem_iff.1 hp)
  rw [thAt_upT h] at hm
  rw [thOf_thAt, thAt_upT h]
  split at hm
  · exact absurd rfl hm
  · rename_i hn; rw [if_neg hn]; rfl
def decT (src : List Nat → ByteArray × Int) (T : T3 (List Fi)) (p : ByteArray) : Dec := decS src (hasT T p) (idsT T p) zId
def outT (src : List Nat → ByteArray × Int) (T : T3 (List Fi)) (p : ByteArray) : Option Ou := if (decT src T p).keep then some (outOf (decT src T p) (thT T p)) else none
theorem decGo_acc {src : List Nat → ByteArray × Int} {T : T3 (List Fi)} (h : okT3 T) : ∀ (l : List ByteArray) (acc : List Ou), (∀ p ∈ l, p ∈ nmsT T) → (∀ p ∈ l, (decT src T p).err = 0) → decGo src (upT T 3) acc l = (0, acc ++ l.filterMap (outT src T))
  | [], acc, _, _ => by simp [decGo]
  | p :: l, acc, hm, he => by
    have h1 := thOf_nms h (hm p (by simp))
    have h2 := he p (by simp)
    rw [decGo_step (d := decT src T p) h1 rfl, if_neg (by simp [h2]), decGo_acc h l _ (fun q hq => hm q (by simp [hq])) (fun q hq => he q (by simp [hq]))]
    rw [List.filterMap_cons]
    unfold outT
    by_cases hk : (decT src T p).keep = true
    · rw [if_pos hk, if_pos hk]; simp
    · rw [if_neg hk, if_neg hk]
/-- Merging whole. -/
theorem merge_ok {src : List Nat → ByteArray × Int} {T : T3 (List Fi)} (h : okT3 T) (hc : chkA T 3 = 0) (he : ∀ p ∈ nmsT T, (decT src T p).err = 0) : mergeS src (upT T 3) (chkA T 3) = (0, clashed ((nmsT T).filterMap (outT src T))) := by
  unfold mergeS
  rw [hc, if_neg (by simp), show PathS.sorted ((upT T 3).map (·.path)) = nmsT T from rfl, decGo_acc h _ _ (fun p hp => hp) he]
  simp

-- snapshots in their order
theorem chkF_zero {l : List Fi} : ∀ (n k : Nat), chkF l n k = 0 → ∀ j, k ≤ j → j < k + n → chk1 l j = 0
  | 0, k, _, j, h1, h2 => by omega
  | n + 1, k, h, j, h1, h2 => by
    rw [show chkF l (n + 1) k = if chk1 l k ≠ 0 then chk1 l k else chkF l n (k + 1) from rfl] at h
    split at h
    · rename_i hne; exact absurd h hne
    · rename_i he
      by_cases e : j = k
      · subst e; simpa using he
      · exact chkF_zero n (k + 1) h j (by omega) (by omega)
structure OkS (l : List Fi) : Prop where
  n : l.length ≤ 256
  ck : ∀ f ∈ l, PathS.check f.path = 0
  lt : ∀ j (h : j + 1 < l.length), PathS.cmp (l[j]'(by omega)).path l[j + 1].path < 0
  un : ∀ j (h : j + 1 < l.length), PathS.under l[j + 1].path (l[j]'(by omega)).path = false
theorem okS_of {l : List Fi} (h : chkS l = 0) : OkS l := by
  have hn := chkS_len h
  unfold chkS at h
  rw [if_neg (by omega)] at h
  have h1 := chkF_zero _ _ h
  have hck : ∀ j (hj : j < l.length), PathS.check l[j].path = 0 := by
    intro j hj
    false_or_by_contra
    rename_i hne
    have := h1 j (Nat.zero_le _) (by omega)
    rw [chk1_bad hj hne] at this
    exact hne this
  refine ⟨hn, fun f hf => ?_, fun j hj => ?_, fun j hj => ?_⟩
  · obtain ⟨j, hj, rfl⟩ := List.getElem_of_mem hf; exact hck j hj
  · have := h1 (j + 1) (Nat.zero_le _) (by omega)
    rw [chk1_succ hj (hck _ hj)] at this
    split at this
    · cases this
    · omega
  · have := h1 (j + 1) (Nat.zero_le _) (by omega)
    rw [chk1_succ hj (hck _ hj)] at this
    split at this
    · cases this
    · split at this
      · cases this
      · rename_i hu; simpa using hu
theorem cmp_trans {a b c : ByteArray} (h1 : PathS.cmp a b < 0) (h2 : PathS.cmp b c < 0) : PathS.cmp a c < 0 := PathS.cmp_tw.tr a b c h1 h2
theorem OkS.far {l : List Fi} (h : OkS l) : ∀ (d i : Nat) (hj : i + d + 1 < l.length), PathS.cmp (l[i]'(by omega)).path l[i + d + 1].path < 0
  | 0, i, hj => h.lt i hj
  | d + 1, i, hj => cmp_trans (h.far d i (by omega)) (h.lt (i + d + 1) hj)
theorem OkS.far' {l : List Fi} (h : OkS l) {i j : Nat} (hij : i < j) (hj : j < l.length) : PathS.cmp (l[i]'(by omega)).path l[j].path < 0 := by
  have := h.far (j - i - 1) i (by omega)
  simpa only [show i + (j - i - 1) + 1 = j by omega] using this
theorem cmp_self (a : ByteArray) : PathS.cmp a a = 0 := (PathS.cmp_tw.eq0 a a).2 rfl
theorem OkS.nodup {l : List Fi} (h : OkS l) : (l.map (·.path)).Nodup := by
  rw [List.nodup_iff_pairwise_ne, List.pairwise_map, List.pairwise_iff_getElem]
  intro i j hi hj hij e
  have := h.far' hij hj
  rw [e, cmp_self] at this
  omega
end Go.Proofs.YtpcipdkoncmdcaaGreatDoor
namespace Go.Proofs.YtpcipdkoncmdcaaGreatDoor
open Go Go.RowKit
end Go.Proofs.YtpcipdkoncmdcaaGreatDoor
namespace Go.Proofs.YtpcipdkoncmdcaaGreatDoor
open Go Go.RowKit
theorem out_zsz {x : Ov} (h : (ouC x).length = 135) : Tryz.zeroCells54.size = (ouC x).toArray.size := by
  have e1 : Tryz.zeroCells54.size = 135 := by kernel_rfl
  have e2 : (ouC x).toArray.size = 135 := by rw [List.size_toArray, h]
  rw [e1, e2]
theorem out_isz {x : Ov} (h : (ouC x).length = 135) : (Tryz.prog.info? 54).map (·.size) = some (ouC x).toArray.size := by
  have e2 : (ouC x).toArray.size = 135 := by rw [List.size_toArray, h]
  rw [e2]; exact out_info
end Go.Proofs.YtpcipdkoncmdcaaGreatDoor
namespace Go.Proofs.YtpcipdkoncmdcaaGreatDoor
open Go Go.RowKit
end Go.Proofs.YtpcipdkoncmdcaaGreatDoor
namespace Go.Proofs.YtpcipdkoncmdcaaGreatDoor
open Go Go.RowKit
theorem decGo_err {src : List Nat → ByteArray × Int} {T : T3 (List Fi)} (h : okT3 T) : ∀ (l : List ByteArray) (acc : List Ou), (∀ p ∈ l, p ∈ nmsT T) → (decGo src (upT T 3) acc l).1 = 0 → ∀ p ∈ l, (decT src T p).err = 0
  | [], _, _, _, p, hp => by cases hp
  | q :: l, acc, hm, he, p, hp => by
    rw [decGo_step (d := decT src T q) (thOf_nms h (hm q (by simp))) rfl] at he
    by_cases hq : (decT src T q).err = 0
    · rw [if_neg (by simp [hq])] at he
      rcases List.mem_cons.1 hp with rfl | hp
      · exact hq
      · exact decGo_err h l _ (fun x hx => hm x (by simp [hx])) he p hp
    · rw [if_pos hq] at he
      exact absurd he hq
theorem chkA_ok {T : T3 (List Fi)} (h : chkA T 3 = 0) : OkS T.a ∧ OkS T.b ∧ OkS T.c := ⟨okS_of (chkA_zero h 0 (by decide)), okS_of (chkA_zero h 1 (by decide)), okS_of (chkA_zero h 2 (by decide))⟩
/-- What a merge without an error answers. -/
theorem merge_inv {src : List Nat → ByteArray × Int} {T : T3 (List Fi)} (h : (mergeS src (upT T 3) (chkA T 3)).1 = 0) : chkA T 3 = 0 ∧ (∀ p ∈ nmsT T, (decT src T p).err = 0) ∧ (mergeS src (upT T 3) (chkA T 3)).2 = clashed ((nmsT T).filterMap (outT src T)) := by
  have hc : chkA T 3 = 0 := by
    false_or_by_contra
    rename_i hne
    unfold mergeS at h
    rw [if_pos hne] at h
    exact hne h
  obtain ⟨ha, hb, hcc⟩ := chkA_ok hc
  have hk : okT3 T := ⟨ha.nodup, hb.nodup, hcc.nodup⟩
  have he : ∀ p ∈ nmsT T, (decT src T p).err = 0 := by
    unfold mergeS at h
    rw [if_neg (by simp [hc])] at h
    exact decGo_err hk _ _ (fun p hp => hp) h
  exact ⟨hc, he, by rw [merge_ok hk hc he]⟩
theorem nms_len (T : T3 (List Fi)) : (nmsT T).length ≤ T.a.length + T.b.length + T.c.length := by
  unfold nmsT
  rw [PathS.sorted_length, List.length_map]
  have h0 := takenAll_len 0 T.a []
  have h1 := takenAll_len 1 T.b (takenAll 0 [] T.a)
  have h2 := takenAll_len 2 T.c (takenAll 1 (takenAll 0 [] T.a) T.b)
  have e : upT T 3 = takenAll 2 (takenAll 1 (takenAll 0 [] T.a) T.b) T.c := rfl
  rw [e]
  simp at h0
  omega
theorem again_len {src : List Nat → ByteArray × Int} {T : T3 (List Fi)} (he : (mergeS src (upT T 3) (chkA T 3)).1 = 0) : (mergeS src (upT T 3) (chkA T 3)).2.length ≤ T.a.length + T.b.length + T.c.length := by
  obtain ⟨_, _, hout⟩ := merge_inv he
  rw [hout]
  have h1 : (clashed ((nmsT T).filterMap (outT src T))).length = ((nmsT T).filterMap (outT src T)).length := by simp [clashed]
  have h2 := List.length_filterMap_le (outT src T) (nmsT T)
  have h3 := nms_len T
  omega
end Go.Proofs.YtpcipdkoncmdcaaGreatDoor
namespace Go.Proofs.YtpcipdkoncmdcaaGreatDoor
open Go Go.RowKit
theorem wpList_bld {P : Program} {ops : Array Oper} {rest : List Oper} {o : Oper} {a : Act} {w : World} {Q : Exit → Act → World → Prop} {t : TypeId} (hgd : o.guard = none) (parts : Array (Nat × Operand)) (ho : o.op = .build t parts) {vs : Array (Nat × Value)} (hp : (parts.map fun (i, y) => (i, a.eval y)) = vs) {v : Value} (hr : ∀ w, (Instr.build t vs).run P w = .ok v w)
    (h : wpList P ops Q rest (a.put o.dst v) w) : wpList P ops Q (o :: rest) a w :=
  wpList_plain hgd fun K hK => by
    unfold Oper.wp
    rw [exec_build parts ho hp hr]
    exact hK _ _ h
theorem fiC_one' {f : Fi} : ∀ u ∈ fiC f, u.oneCell' = true := by
  have := fiC_one (f := f)
  rw [List.all_toArray, List.all_eq_true] at this
  exact this

theorem fiR_step {F : List Fi} {k : Nat} (hk : k < F.length) : fiR (F.take (k + 1)) = fiR (F.take k) ++ fiC F[k] := by
  rw [List.take_add_one, List.getElem?_eq_getElem hk]
  show (F.take k ++ [F[k]]).flatMap fiC = _
  rw [List.flatMap_append]
  show _ ++ (fiC F[k] ++ []) = _
  rw [List.append_nil]; rfl
end Go.Proofs.YtpcipdkoncmdcaaGreatDoor
