/- Texts of mine, joined: []byte, [2]int and [3]int that came in, opened. | What came in, opened by its type: slices of whatever, structs field by field. Of every program. | What came in, opened by its type: slices, with what is known of their capacity. Of every program. | The law PackScans: its walk. -/
import Derived.Laws.IdiomArrays
import Derived.Test.YtfoamcobpfflbaaDoorZ35
namespace Go.Proofs.YtfoamcobpfflbaaDoor
open Go Go.ChangeShapes Go.WideShapes Go.ChangeAt Go.RowKit

theorem i64_wf {n : Int} (h : (Lit.int .i64 n).wf = true) : -9223372036854775808 ≤ n ∧ n ≤ 9223372036854775807 := int_wf h (by decide) (by decide)

theorem open_bytes {P : Program} {H : Type} {enc : TypeId × Value → H} {W : World} {base : Nat} {v : Value} {d : DataW H} {p : List MemPlace} {t e : TypeId} (ht : P.underlying t = some (.slice e)) (hc : P.cellsOf e = 1) (he : P.underlying e = some (.int .u8))
    (hv : Value.okWide P W .any base t v) (h : DataW.Trod enc P W 0 (fun _ => true) true t v d p) (hk : Rows.uptoBulk d ≤ 1048576) :
    ∃ (a : Option Addr) (c : Nat) (x : ByteArray), v = .slice a x.size c ∧ x.size ≤ 1048576 ∧ Sl W a (byteCells x) := by
  obtain ⟨a, c, xs, rfl, hl, hw, hs⟩ := open_row P ht hc (Value.int .u8) (fun z => 0 ≤ z ∧ z ≤ 255) (fun n u y h => by
    obtain ⟨b, e1, _, hw⟩ := DataW.trod_int he h
    exact ⟨b, (List.cons.inj e1).1, int_wf hw (by decide) (by decide)⟩) hv h hk
  have hsz : (strOfNums xs).size = xs.length := strOfNums_size xs
  refine ⟨a, c, strOfNums xs, by rw [hsz], by rw [hsz]; exact hl, ?_⟩
  have : byteCells (strOfNums xs) = xs.map (Value.int .u8) := by
    unfold byteCells
    rw [strOfNums_data, List.map_map]
    refine List.map_congr_left fun z hz => ?_
    have := hw z hz
    show Value.int .u8 ((UInt8.ofNat z.toNat).toNat : Int) = Value.int .u8 z
    congr 1
    rw [UInt8.toNat_ofNat', Nat.mod_eq_of_lt (by omega)]
    omega
  rw [this]
  exact hs

theorem arr2 {α : Type} {cs : Array α} (h : cs.size = 2) : ∃ c0 c1, cs = #[c0, c1] := by
  obtain ⟨l⟩ := cs
  match l, h with
  | [c0, c1], _ => exact ⟨c0, c1, rfl⟩
theorem arr3 {α : Type} {cs : Array α} (h : cs.size = 3) : ∃ c0 c1 c2, cs = #[c0, c1, c2] := by
  obtain ⟨l⟩ := cs
  match l, h with
  | [c0, c1, c2], _ => exact ⟨c0, c1, c2, rfl⟩

theorem arr_okWide {P : Program} {W : World} {base n : Nat} {v : Value} {t e : TypeId} (ht : P.underlying t = some (.array n e)) (hv : Value.okWide P W .any base t v) : ∃ cs, v = .agg cs ∧ cs.size = P.cellsOf t := by
  simp only [Value.okWide, ht] at hv
  obtain ⟨cs, h1, h2, _⟩ := hv
  exact ⟨cs, h1, h2⟩

theorem open_int2 {P : Program} {H : Type} {enc : TypeId × Value → H} {W : World} {base : Nat} {v : Value} {d : DataW H} {p : List MemPlace} {t e : TypeId} (ht : P.underlying t = some (.array 2 e)) (hc : P.cellsOf e = 1) (hC : P.cellsOf t = 2) (he : P.underlying e = some (.int .i64))
    (hv : Value.okWide P W .any base t v) (h : DataW.Trod enc P W 0 (fun _ => true) true t v d p) :
    ∃ n0 n1 : Int, v = .agg #[.int .i64 n0, .int .i64 n1] ∧ (-9223372036854775808 ≤ n0 ∧ n0 ≤ 9223372036854775807) ∧ (-9223372036854775808 ≤ n1 ∧ n1 ≤ 9223372036854775807) := by
  obtain ⟨cs, rfl, hsz⟩ := arr_okWide ht hv
  obtain ⟨c0, c1, rfl⟩ := arr2 (hsz.trans hC)
  obtain ⟨fuel, hf⟩ := h
  obtain ⟨xs, m, -, -, -, hl, hel⟩ := DataW.trod_array ht hf
  have g : ∀ (i : Nat) (c : Value), i < 2 → ([c0, c1] : List Value)[i]? = some c → ∃ n : Int, c = .int .i64 n ∧ (-9223372036854775808 ≤ n ∧ n ≤ 9223372036854775807) := by
    intro i c hi hci
    have h1 := hel i hi
    have hx : ∃ y, xs[i]? = some y := ⟨_, List.getElem?_eq_getElem (by rw [hl]; exact hi)⟩
    obtain ⟨y, hy⟩ := hx
    have e1 : ((Value.cells (.agg #[c0, c1])).toList.drop (i * P.cellsOf e)).take (P.cellsOf e) = [c] := by
      rw [hc, Nat.mul_one]
      match i, hi, hci with
      | 0, _, h => simp at h; subst h; rfl
      | 1, _, h => simp at h; subst h; rfl
    rw [hy, e1] at h1
    obtain ⟨b, e2, -, hw⟩ := DataW.trod_int he h1
    exact ⟨b, (List.cons.inj e2).1, i64_wf hw⟩
  obtain ⟨n0, rfl, b0⟩ := g 0 c0 (by omega) rfl
  obtain ⟨n1, rfl, b1⟩ := g 1 c1 (by omega) rfl
  exact ⟨n0, n1, rfl, b0, b1⟩

theorem open_int3 {P : Program} {H : Type} {enc : TypeId × Value → H} {W : World} {base : Nat} {v : Value} {d : DataW H} {p : List MemPlace} {t e : TypeId} (ht : P.underlying t = some (.array 3 e)) (hc : P.cellsOf e = 1) (hC : P.cellsOf t = 3) (he : P.underlying e = some (.int .i64))
    (hv : Value.okWide P W .any base t v) (h : DataW.Trod enc P W 0 (fun _ => true) true t v d p) :
    ∃ n0 n1 n2 : Int, v = .agg #[.int .i64 n0, .int .i64 n1, .int .i64 n2] ∧ (-9223372036854775808 ≤ n0 ∧ n0 ≤ 9223372036854775807) ∧ (-9223372036854775808 ≤ n1 ∧ n1 ≤ 9223372036854775807) ∧ (-9223372036854775808 ≤ n2 ∧ n2 ≤ 9223372036854775807) := by
  obtain ⟨cs, rfl, hsz⟩ := arr_okWide ht hv
  obtain ⟨c0, c1, c2, rfl⟩ := arr3 (hsz.trans hC)
  obtain ⟨fuel, hf⟩ := h
  obtain ⟨xs, m, -, -, -, hl, hel⟩ := DataW.trod_array ht hf
  have g : ∀ (i : Nat) (c : Value), i < 3 → ([c0, c1, c2] : List Value)[i]? = some c → ∃ n : Int, c = .int .i64 n ∧ (-9223372036854775808 ≤ n ∧ n ≤ 9223372036854775807) := by
    intro i c hi hci
    have h1 := hel i hi
    have hx : ∃ y, xs[i]? = some y := ⟨_, List.getElem?_eq_getElem (by rw [hl]; exact hi)⟩
    obtain ⟨y, hy⟩ := hx
    have e1 : ((Value.cells (.agg #[c0, c1, c2])).toList.drop (i * P.cellsOf e)).take (P.cellsOf e) = [c] := by
      rw [hc, Nat.mul_one]
      match i, hi, hci with
      | 0, _, h => simp at h; subst h; rfl
      | 1, _, h => simp at h; subst h; rfl
      | 2, _, h => simp at h; subst h; rfl
    rw [hy, e1] at h1
    obtain ⟨b, e2, -, hw⟩ := DataW.trod_int he h1
    exact ⟨b, (List.cons.inj e2).1, i64_wf hw⟩
  obtain ⟨n0, rfl, b0⟩ := g 0 c0 (by omega) rfl
  obtain ⟨n1, rfl, b1⟩ := g 1 c1 (by omega) rfl
  obtain ⟨n2, rfl, b2⟩ := g 2 c2 (by omega) rfl
  exact ⟨n0, n1, n2, rfl, b0, b1, b2⟩
end Go.Proofs.YtfoamcobpfflbaaDoor
namespace Go.Proofs.YtfoamcobpfflbaaDoor
open Go Go.ChangeShapes Go.WideShapes Go.ChangeAt Go.RowKit

/-- Whatever is read at type e is one of α, in the cells f. -/
def Opn {H : Type} (enc : TypeId × Value → H) (P : Program) (W : World) (e : TypeId) (α : Type) (f : α → List Value) (ok : α → Nat → Prop) : Prop :=
  ∀ (n : Nat) (cs : List Value) (x : DataW H × List MemPlace), DataW.trod enc P W 0 (fun _ => true) true n e cs = some x → ∃ y : α, cs = f y ∧ ok y (Rows.uptoBulk x.1)

section
variable {H : Type} {enc : TypeId × Value → H} {P : Program} {W : World}

theorem flat_at {α : Type} (f : α → List Value) (k : Nat) : ∀ (l : List α), (∀ y ∈ l, (f y).length = k) → ∀ (i : Nat) (hi : i < l.length) (j : Nat), j < k → (l.flatMap f)[i * k + j]? = (f l[i])[j]?
  | [], _, i, hi, _, _ => by simp at hi
  | y :: l, h, 0, _, j, hj => by
    rw [List.flatMap_cons, Nat.zero_mul, Nat.zero_add, List.getElem?_append_left (by rw [h y (by simp)]; exact hj)]; rfl
  | y :: l, h, i + 1, hi, j, hj => by
    rw [List.flatMap_cons, List.getElem?_append_right (by rw [h y (by simp), Nat.succ_mul]; omega), h y (by simp), show (i + 1) * k + j - k = i * k + j by rw [Nat.succ_mul]; omega]
    exact flat_at f k l (fun z hz => h z (by simp [hz])) i (by simpa using hi) j hj
theorem flat_len {α : Type} (f : α → List Value) (k : Nat) : ∀ (l : List α), (∀ y ∈ l, (f y).length = k) → (l.flatMap f).length = l.length * k
  | [], _ => by simp
  | y :: l, h => by rw [List.flatMap_cons, List.length_append, h y (by simp), flat_len f k l (fun z hz => h z (by simp [hz])), List.length_cons, Nat.succ_mul]; omega

theorem bulk_all {α : Type} {ok : α → Nat → Prop} (hmono : ∀ y a b, a ≤ b → ok y a → ok y b) (D : Nat → DataW H) (T : Nat → α) : ∀ l : List Nat, (∀ i ∈ l, ok (T i) (Rows.uptoBulk (D i))) →
    l.length ≤ Rows.uptoBulkAll (l.map D) ∧ ∀ y ∈ l.map T, ok y (Rows.uptoBulkAll (l.map D))
  | [], _ => ⟨Nat.zero_le _, fun y h => by cases h⟩
  | i :: l, h => by
    obtain ⟨h1, h2⟩ := bulk_all hmono D T l (fun j hj => h j (by simp [hj]))
    have e := bulk_one (D i)
    have e2 : Rows.uptoBulkAll ((i :: l).map D) = Rows.uptoBulk (D i) + Rows.uptoBulkAll (l.map D) := by rw [List.map_cons, Rows.uptoBulkAll]
    rw [e2, List.length_cons]
    refine ⟨by omega, fun y hy => ?_⟩
    rw [List.map_cons, List.mem_cons] at hy
    rcases hy with rfl | hy
    · exact hmono _ _ _ (by omega) (h i (by simp))
    · exact hmono _ _ _ (by omega) (h2 y hy)

/-- The sum of sizes over a list is within its bulk. -/
theorem bulk_sum {α : Type} (g : α → Nat) (D : Nat → DataW H) (T : Nat → α) : ∀ l : List Nat, (∀ i ∈ l, g (T i) ≤ Rows.uptoBulk (D i)) → ((l.map T).map g).sum ≤ Rows.uptoBulkAll (l.map D)
  | [], _ => by simp
  | i :: l, h => by
    have h1 := bulk_sum g D T l (fun j hj => h j (by simp [hj]))
    have h2 := h i (by simp)
    have e2 : Rows.uptoBulkAll ((i :: l).map D) = Rows.uptoBulk (D i) + Rows.uptoBulkAll (l.map D) := by rw [List.map_cons, Rows.uptoBulkAll]
    rw [e2]
    simp only [List.map_cons, List.sum_cons]
    omega

/-- A slice. -/
theorem opn_slice {α : Type} [Inhabited α] {t e : TypeId} {k : Nat} (ht : P.underlying t = some (.slice e)) (hc : P.cellsOf e = k) (hk0 : 0 < k) {f : α → List Value} {ok : α → Nat → Prop} (hmono : ∀ y a b, a ≤ b → ok y a → ok y b) (g : α → Nat) (hg : ∀ y b, ok y b → g y ≤ b)
    (X : Opn enc P W e α f ok) : Opn enc P W t (Option Addr × Nat × List α) (fun y => [.slice y.1 y.2.2.length y.2.1]) (fun y b => Sl W y.1 (y.2.2.flatMap f) ∧ (∀ z ∈ y.2.2, (f z).length = k) ∧ y.2.2.length < b ∧ (y.2.2.map g).sum < b ∧ ∀ z ∈ y.2.2, ok z b) := by
  intro fuel cs x hf
  rcases Go.Deep.open_slice ht hf with ⟨hcs, hx⟩ | ⟨a, len, cap, m, n, D, Pl, hcs, -, hl, -, hmm, hx, hcell⟩
  · subst hcs
    have hb : 0 < Rows.uptoBulk x.1 := by rw [hx]; simp [Rows.uptoBulk]
    exact ⟨(none, 0, []), rfl, .nil _ _, (fun z hz => nomatch hz), hb, hb, (fun z hz => nomatch hz)⟩
  · subst hcs
    simp only [if_true] at hmm
    rw [hc] at hcell
    have each : ∀ i, i < len → ∃ y : α, ok y (Rows.uptoBulk (D i)) ∧ (f y).length = k ∧ ∀ j, j < k → W.cell? ((a.add (i * k)).add j) = (f y)[j]? := by
      intro i hi
      obtain ⟨cs', h1, h2⟩ := hcell i (by omega)
      obtain ⟨y, hy, hok⟩ := X n cs' _ h2
      obtain ⟨_, h3, h4⟩ := World.cells?_some h1
      subst hy
      exact ⟨y, hok, h3, h4⟩
    obtain ⟨T, hT⟩ := Go.Deep.choose_lt each
    have hd : x.1 = .slice ((List.range len).map D) ((List.range (m - len)).map fun j => D (len + j)) := congrArg Prod.fst hx
    obtain ⟨k1, k2⟩ := bulk_all hmono D T (List.range len) (fun i hi => (hT i (List.mem_range.1 hi)).1)
    have k3 := bulk_sum g D T (List.range len) (fun i hi => hg _ _ (hT i (List.mem_range.1 hi)).1)
    have hb : Rows.uptoBulkAll ((List.range len).map D) < Rows.uptoBulk x.1 := by rw [hd]; simp only [Rows.uptoBulk]; omega
    have hlen : ∀ z ∈ (List.range len).map T, (f z).length = k := fun z hz => by
      obtain ⟨i, hi, rfl⟩ := List.mem_map.1 hz
      exact (hT i (List.mem_range.1 hi)).2.1
    rw [List.length_range] at k1
    refine ⟨(some a, cap, (List.range len).map T), by simp, ?_, hlen, by simp; omega, by show (((List.range len).map T).map g).sum < _; omega, fun z hz => hmono _ _ _ (by omega) (k2 z hz)⟩
    by_cases h0 : len = 0
    · subst h0; exact .inl rfl
    · have h1 := (hT 0 (by omega)).2.2 0 hk0
      have h2 := (hT 0 (by omega)).2.1
      rw [List.getElem?_eq_getElem (by omega)] at h1
      have hsp : a.spot = none := cell_spot (b := a.block) (o := a.off) (by simpa [Addr.add] using h1)
      obtain ⟨b, o, sp⟩ := a
      simp at hsp
      subst hsp
      have hbl : b < W.heap.size := by
        have := World.block_lt_of_cell? W _ h1
        simpa [Addr.add] using this
      refine .inr ⟨b, o, rfl, hbl, fun i u hu => ?_⟩
      have hi : i < len * k := by
        have := (List.getElem?_eq_some_iff.1 hu).1
        rw [flat_len f k _ hlen, List.length_map, List.length_range] at this
        exact this
      have hq : i / k < len := Nat.div_lt_of_lt_mul (by rw [Nat.mul_comm]; exact hi)
      have hr : i % k < k := Nat.mod_lt _ hk0
      have hir : i / k * k + i % k = i := by rw [Nat.mul_comm]; exact Nat.div_add_mod i k
      have h5 := flat_at f k _ hlen (i / k) (by rw [List.length_map, List.length_range]; exact hq) (i % k) hr
      rw [hir, hu, List.getElem_map, List.getElem_range] at h5
      have h6 := (hT (i / k) hq).2.2 (i % k) hr
      rw [Addr.add_lit, Addr.add_lit, Nat.add_assoc, hir] at h6
      rw [h6, ← h5]

/-- .. the slice of an argument. -/
theorem Opn.arg {α : Type} {t : TypeId} {f : α → List Value} {ok : α → Nat → Prop} (X : Opn enc P W t α f ok) {v : Value} {d : DataW H} {p : List MemPlace} (h : DataW.Trod enc P W 0 (fun _ => true) true t v d p) : ∃ y : α, v.cells.toList = f y ∧ ok y (Rows.uptoBulk d) := by
  obtain ⟨fuel, hf⟩ := h
  exact X fuel _ _ hf

theorem opn_str {t : TypeId} (ht : P.underlying t = some .string) : Opn enc P W t ByteArray (fun s => [.string s]) (fun s b => s.size < b) := by
  intro n cs x h
  obtain ⟨s, h1, h2, _⟩ := DataW.trod_string ht h
  exact ⟨s, h1, by rw [h2]; rw [bulk_str]; omega⟩
theorem opn_i64 {t : TypeId} (ht : P.underlying t = some (.int .i64)) : Opn enc P W t Int (fun n => [.int .i64 n]) (fun n b => 0 < b ∧ -9223372036854775808 ≤ n ∧ n ≤ 9223372036854775807) := by
  intro n cs x h
  obtain ⟨s, h1, h2, h3⟩ := DataW.trod_int ht h
  exact ⟨s, h1, by rw [h2]; simp [Rows.uptoBulk], i64_wf h3⟩
theorem opn_bool {t : TypeId} (ht : P.underlying t = some .bool) : Opn enc P W t Bool (fun b => [.bool b]) (fun _ b => 0 < b) := by
  intro n cs x h
  obtain ⟨s, h1, h2⟩ := DataW.trod_bool ht h
  exact ⟨s, h1, by rw [h2]; simp [Rows.uptoBulk]⟩

theorem byteCells_len (x : ByteArray) : (byteCells x).length = x.size := by
  unfold byteCells; rw [List.length_map, Array.length_toList]; rfl

/-- Bytes: a slice of them. -/
theorem opn_bytes {t e : TypeId} (ht : P.underlying t = some (.slice e)) (hc : P.cellsOf e = 1) (he : P.underlying e = some (.int .u8)) :
    Opn enc P W t (Option Addr × Nat × ByteArray) (fun y => [.slice y.1 y.2.2.size y.2.1]) (fun y b => Sl W y.1 (byteCells y.2.2) ∧ y.2.2.size < b) := by
  have X : Opn enc P W e UInt8 (fun c => [.int .u8 (c.toNat : Int)]) (fun _ b => 0 < b) := by
    intro n cs x h
    obtain ⟨z, h1, h2, h3⟩ := DataW.trod_int he h
    have := int_wf h3 (show (0 : Int) = IntKind.u8.min by decide) (show IntKind.u8.max = (255 : Int) by decide)
    refine ⟨UInt8.ofNat z.toNat, ?_, by rw [h2]; simp [Rows.uptoBulk]⟩
    rw [h1]
    show [Value.int .u8 z] = [Value.int .u8 ((UInt8.ofNat z.toNat).toNat : Int)]
    rw [UInt8.toNat_ofNat', Nat.mod_eq_of_lt (by omega)]
    congr 2
    omega
  intro n cs x h
  obtain ⟨⟨a, c, l⟩, h1, h2, -, h4, -⟩ := opn_slice ht hc (by omega) (fun _ a b hab h => by omega) (fun _ => 0) (fun _ _ _ => Nat.zero_le _) X n cs x h
  have e1 : byteCells ⟨l.toArray⟩ = l.flatMap fun c => [Value.int .u8 (c.toNat : Int)] := by
    unfold byteCells
    rw [List.map_eq_flatMap]
  have e2 : (⟨l.toArray⟩ : ByteArray).size = l.length := by simp [ByteArray.size]
  refine ⟨(a, c, ⟨l.toArray⟩), ?_, ?_, ?_⟩
  · rw [h1]; simp only [e2]
  · show Sl W a (byteCells ⟨l.toArray⟩)
    rw [e1]; exact h2
  · show (⟨l.toArray⟩ : ByteArray).size < _
    rw [e2]; exact h4
end
end Go.Proofs.YtfoamcobpfflbaaDoor
namespace Go.Proofs.YtfoamcobpfflbaaDoor
open Go Go.ChangeShapes Go.WideShapes Go.ChangeAt Go.RowKit

/-- A slice's capacity. -/
def CapOk (a : Option Addr) (n c : Nat) : Prop := n ≤ c ∧ c ≤ maxLen ∧ (a = none → c = 0)
theorem CapOk.take {a : Option Addr} {n c m : Nat} (h : CapOk a n c) (hm : m ≤ n) : CapOk a m c := ⟨Nat.le_trans hm h.1, h.2⟩

section
variable {H : Type} {enc : TypeId × Value → H} {P : Program} {W : World}

/-- A slice. -/
theorem opn_slice2 {α : Type} [Inhabited α] {t e : TypeId} {k : Nat} (ht : P.underlying t = some (.slice e)) (hc : P.cellsOf e = k) (hk0 : 0 < k) {f : α → List Value} {ok : α → Nat → Prop} (hmono : ∀ y a b, a ≤ b → ok y a → ok y b) (g : α → Nat) (hg : ∀ y b, ok y b → g y ≤ b)
    (X : Opn enc P W e α f ok) : Opn enc P W t (Option Addr × Nat × List α) (fun y => [.slice y.1 y.2.2.length y.2.1]) (fun y b => Sl W y.1 (y.2.2.flatMap f) ∧ (∀ z ∈ y.2.2, (f z).length = k) ∧ y.2.2.length < b ∧ (y.2.2.map g).sum < b ∧ (∀ z ∈ y.2.2, ok z b) ∧ CapOk y.1 y.2.2.length y.2.1) := by
  intro fuel cs x hf
  rcases Go.Deep.open_slice ht hf with ⟨hcs, hx⟩ | ⟨a, len, cap, m, n, D, Pl, hcs, -, hl, hcm, hmm, hx, hcell⟩
  · subst hcs
    have hb : 0 < Rows.uptoBulk x.1 := by rw [hx]; simp [Rows.uptoBulk]
    exact ⟨(none, 0, []), rfl, .nil _ _, (fun z hz => nomatch hz), hb, hb, (fun z hz => nomatch hz), Nat.le_refl _, Nat.zero_le _, fun _ => rfl⟩
  · subst hcs
    simp only [if_true] at hmm
    rw [hc] at hcell
    have each : ∀ i, i < len → ∃ y : α, ok y (Rows.uptoBulk (D i)) ∧ (f y).length = k ∧ ∀ j, j < k → W.cell? ((a.add (i * k)).add j) = (f y)[j]? := by
      intro i hi
      obtain ⟨cs', h1, h2⟩ := hcell i (by omega)
      obtain ⟨y, hy, hok⟩ := X n cs' _ h2
      obtain ⟨_, h3, h4⟩ := World.cells?_some h1
      subst hy
      exact ⟨y, hok, h3, h4⟩
    obtain ⟨T, hT⟩ := Go.Deep.choose_lt each
    have hd : x.1 = .slice ((List.range len).map D) ((List.range (m - len)).map fun j => D (len + j)) := congrArg Prod.fst hx
    obtain ⟨k1, k2⟩ := bulk_all hmono D T (List.range len) (fun i hi => (hT i (List.mem_range.1 hi)).1)
    have k3 := bulk_sum g D T (List.range len) (fun i hi => hg _ _ (hT i (List.mem_range.1 hi)).1)
    have hb : Rows.uptoBulkAll ((List.range len).map D) < Rows.uptoBulk x.1 := by rw [hd]; simp only [Rows.uptoBulk]; omega
    have hlen : ∀ z ∈ (List.range len).map T, (f z).length = k := fun z hz => by
      obtain ⟨i, hi, rfl⟩ := List.mem_map.1 hz
      exact (hT i (List.mem_range.1 hi)).2.1
    rw [List.length_range] at k1
    refine ⟨(some a, cap, (List.range len).map T), by simp, ?_, hlen, by simp; omega, by show (((List.range len).map T).map g).sum < _; omega, fun z hz => hmono _ _ _ (by omega) (k2 z hz), by simpa using hl, hcm, fun h => (by cases h)⟩
    by_cases h0 : len = 0
    · subst h0; exact .inl rfl
    · have h1 := (hT 0 (by omega)).2.2 0 hk0
      have h2 := (hT 0 (by omega)).2.1
      rw [List.getElem?_eq_getElem (by omega)] at h1
      have hsp : a.spot = none := cell_spot (b := a.block) (o := a.off) (by simpa [Addr.add] using h1)
      obtain ⟨b, o, sp⟩ := a
      simp at hsp
      subst hsp
      have hbl : b < W.heap.size := by
        have := World.block_lt_of_cell? W _ h1
        simpa [Addr.add] using this
      refine .inr ⟨b, o, rfl, hbl, fun i u hu => ?_⟩
      have hi : i < len * k := by
        have := (List.getElem?_eq_some_iff.1 hu).1
        rw [flat_len f k _ hlen, List.length_map, List.length_range] at this
        exact this
      have hq : i / k < len := Nat.div_lt_of_lt_mul (by rw [Nat.mul_comm]; exact hi)
      have hr : i % k < k := Nat.mod_lt _ hk0
      have hir : i / k * k + i % k = i := by rw [Nat.mul_comm]; exact Nat.div_add_mod i k
      have h5 := flat_at f k _ hlen (i / k) (by rw [List.length_map, List.length_range]; exact hq) (i % k) hr
      rw [hir, hu, List.getElem_map, List.getElem_range] at h5
      have h6 := (hT (i / k) hq).2.2 (i % k) hr
      rw [Addr.add_lit, Addr.add_lit, Nat.add_assoc, hir] at h6
      rw [h6, ← h5]

/-- Bytes: a slice of them. -/
theorem opn_bytes2 {t e : TypeId} (ht : P.underlying t = some (.slice e)) (hc : P.cellsOf e = 1) (he : P.underlying e = some (.int .u8)) :
    Opn enc P W t (Option Addr × Nat × ByteArray) (fun y => [.slice y.1 y.2.2.size y.2.1]) (fun y b => Sl W y.1 (byteCells y.2.2) ∧ y.2.2.size < b ∧ CapOk y.1 y.2.2.size y.2.1) := by
  have X : Opn enc P W e UInt8 (fun c => [.int .u8 (c.toNat : Int)]) (fun _ b => 0 < b) := by
    intro n cs x h
    obtain ⟨z, h1, h2, h3⟩ := DataW.trod_int he h
    have := int_wf h3 (show (0 : Int) = IntKind.u8.min by decide) (show IntKind.u8.max = (255 : Int) by decide)
    refine ⟨UInt8.ofNat z.toNat, ?_, by rw [h2]; simp [Rows.uptoBulk]⟩
    rw [h1]
    show [Value.int .u8 z] = [Value.int .u8 ((UInt8.ofNat z.toNat).toNat : Int)]
    rw [UInt8.toNat_ofNat', Nat.mod_eq_of_lt (by omega)]
    congr 2
    omega
  intro n cs x h
  obtain ⟨⟨a, c, l⟩, h1, h2, -, h4, -, -, h5⟩ := opn_slice2 ht hc (by omega) (fun _ a b hab h => by omega) (fun _ => 0) (fun _ _ _ => Nat.zero_le _) X n cs x h
  have e1 : byteCells ⟨l.toArray⟩ = l.flatMap fun c => [Value.int .u8 (c.toNat : Int)] := by
    unfold byteCells
    rw [List.map_eq_flatMap]
  have e2 : (⟨l.toArray⟩ : ByteArray).size = l.length := by simp [ByteArray.size]
  refine ⟨(a, c, ⟨l.toArray⟩), ?_, ?_, ?_, ?_⟩
  · rw [h1]; simp only [e2]
  · show Sl W a (byteCells ⟨l.toArray⟩)
    rw [e1]; exact h2
  · show (⟨l.toArray⟩ : ByteArray).size < _
    rw [e2]; exact h4
  · show CapOk a (⟨l.toArray⟩ : ByteArray).size c
    rw [e2]; exact h5

theorem open_bytes2 {base : Nat} {v : Value} {d : DataW H} {p : List MemPlace} {t e : TypeId} (ht : P.underlying t = some (.slice e)) (hc : P.cellsOf e = 1) (he : P.underlying e = some (.int .u8))
    (hv : Value.okWide P W .any base t v) (h : DataW.Trod enc P W 0 (fun _ => true) true t v d p) (hk : Rows.uptoBulk d ≤ 1048576) :
    ∃ (a : Option Addr) (c : Nat) (x : ByteArray), v = .slice a x.size c ∧ x.size ≤ 1048576 ∧ Sl W a (byteCells x) ∧ CapOk a x.size c := by
  obtain ⟨a0, len, cap, rfl⟩ := okWide_slice ht hv
  obtain ⟨⟨a, c, x⟩, h1, h2, h3, h4⟩ := (opn_bytes2 (P := P) (W := W) (enc := enc) ht hc he).arg h
  simp [Value.cells] at h1
  obtain ⟨rfl, rfl, rfl⟩ := h1
  exact ⟨a0, cap, x, rfl, by simp only at h3; omega, h2, h4⟩
end
end Go.Proofs.YtfoamcobpfflbaaDoor
namespace Go.Proofs.YtfoamcobpfflbaaDoor
open Go Go.RowKit Go.Maps
open VfsS (St)

set_option maxRecDepth 100000 in
theorem bytes_to {w : World} {a : Option Addr} {c n m : Nat} (hm : m ≤ c) : (Instr.slice 43 (.slice a n c) none (some (.int .i64 (m : Int))) none).run Tryd.prog w = .ok (.slice a m c) w := by
  have ht : Tryd.prog.underlying 43 = some (.slice (Tryd.prog.elem 43)) := Tryd.underlying43
  have hsz : ∀ W, (sizeOf (Tryd.prog.elem 43)).run Tryd.prog W = .ok 1 W := fun W => by simp [go_sem]
  have h0 : (0 : Int) ≤ (m : Int) := by omega
  have h1 : (m : Int) ≤ (c : Int) := by omega
  rw [run_slice_h w _ _ _ _ ht _ _ h0 h1, hsz]
  cases a <;> simp [Result.andThen, sliced, Addr.add]

set_option maxRecDepth 100000 in
set_option maxHeartbeats 1000000 in
theorem lawScans_c (a : Option Addr) (c : Nat) (b : ByteArray) (w : World) (hg : Gl w) (sl : Sl w a (byteCells b)) (hl : b.size ≤ 1048576) (hc : CapOk a b.size c) :
    Calls Tryd.prog 4 #[.slice a b.size c] w fun e w' => e = .returned (.bool true) ∧ Below w.heap.size w w' := by
  rw [nb_ba] at sl
  have hbt := bl_lt b
  rw [← bl_len] at hl hc ⊢
  generalize bl b = L at *
  obtain ⟨hc1, hc2, hc3⟩ := hc
  go_enter Tryd.func4, Tryd.ntmps4
  go_upto_region 3 with (go_at_call 13; refine (awake15_c _ hg).mono ?_; rintro e w0 ⟨rfl, hb0⟩)
  have HB0 := Lib.hid hb0
  have hs0 := sl.below hb0
  clear hb0 sl
  go_upto_if 12 with fail
  go_cut [0] from 8 (fun v0 wx => ∃ B : List Nat, v0 = .slice a B.length c ∧ Sl w0 a (nb B) ∧ (∀ x ∈ B, x < 256) ∧ B.length ≤ 1500 ∧ B.length ≤ c ∧ wx = w0)
  case first =>
    by_cases hbig : 1500 < L.length
    · have hd : decide ((L.length : Int) > 1500) = true := decide_eq_true (by omega)
      have hd' : decide ((1500 : Int) < (L.length : Int)) = true := decide_eq_true (by omega)
      have hto : ∀ W, (Instr.slice 43 (.slice a L.length c) none (some (.int .i64 1500)) none).run Tryd.prog W = .ok (.slice a 1500 c) W := fun W => bytes_to (m := 1500) (by omega)
      go_wp2_with fail
      go_meet
      case rel =>
        have hl15 : (L.take 1500).length = 1500 := by rw [List.length_take]; omega
        refine ⟨L.take 1500, by rw [hl15], ?_, fun x hx => hbt x (List.mem_of_mem_take hx), by omega, by omega, rfl⟩
        have := hs0.take 1500
        rwa [show (nb L).take 1500 = nb (L.take 1500) by unfold nb; rw [List.map_take]] at this
    · have hd : decide ((L.length : Int) > 1500) = false := decide_eq_false (by omega)
      have hd' : decide ((1500 : Int) < (L.length : Int)) = false := decide_eq_false (by omega)
      go_wp2_with fail
      go_meet
      case rel => exact ⟨L, rfl, hs0, hbt, by omega, hc1, rfl⟩
  case rest =>
    obtain ⟨B, rfl, hsB, hBb, hBl, hBc, rfl⟩ := hcut
    have HSC := Lib.hid (scan_c (c := c) hsB hBb (by omega) hBc hc2 hc3)
    have HSB := Lib.hid hsB
    have HBB := Lib.hid hBb
    clear hsB hBb hs0 hbt hc1 hl
    go_upto_region 6 with (go_at_call 38; refine HSC.out.mono ?_; rintro e w3 ⟨v3, ps, rfl, hP3, hps⟩)
    have hc9 := run_str_of (P := Tryd.prog) Tryd.underlying43 Tryd.underlying5 Tryd.underlying9 (b := ofL B) (by rw [byteCells_ofL HBB.out]; exact HSB.out.below hP3.b) c
    rw [ofL_size] at hc9
    have hrs := rscan_c (w := w3) (ofL B) (by rw [ofL_size]; omega)
    rw [bl_ofL HBB.out] at hrs
    have HRS := Lib.hid hrs
    clear hrs
    go_upto_region 7 with (go_at_call 39; refine HRS.out.mono ?_; rintro e w4 ⟨v4, rfl, hR4⟩)
    obtain ⟨a3, c3, rfl, -, -, hs3⟩ := hP3.r.form
    obtain ⟨a4, c4, rfl, -, -, hs4⟩ := hR4.r.form
    have hs3 := hs3.below hR4.b
    have hq4 : ∀ q ∈ ps, PrtOk w4 q := fun q hq => (hP3.q q hq).below hR4.b
    have hbo : Hid (Below w.heap.size w w4) := (HB0.out.trans (hP3.b.mono HB0.out.size)).trans (hR4.b.mono (HB0.out.trans (hP3.b.mono HB0.out.size)).size)
    have hpl : ps.length ≤ 1500 := by have := PackS.scan_len HBB.out; rw [← hps, List.length_map] at this; omega
    rw [← hps] at hs4 ⊢
    rw [← hps] at hR4
    have hlen : (ps.map fun q => q.2.2).length = ps.length := List.length_map _
    have HLN := Lib.hid hlen
    rw [hlen]
    clear hP3 hR4 HSC HRS hc9 hlen hps
    go_wp2_with fail
    go_loopw [38] (fun iv wx => ∃ i : Nat, i ≤ ps.length ∧ iv = .int .i64 i ∧ Below w4.heap.size w4 wx) (fun iv _ => (ps.length - intOf iv).toNat)
    case atStart => exact ⟨0, Nat.zero_le _, rfl, Below.refl _ _⟩
    case round =>
      obtain ⟨i, hi, rfl, hbr⟩ := hrel
      by_cases hil : i < ps.length
      · have hd : decide ((i : Int) < (ps.length : Int)) = true := decide_eq_true (by omega)
        obtain ⟨x, o, rfl, hx, hcx⟩ := hs3.at (k := i) (by rw [prow_len]; exact hil)
        obtain ⟨y, o2, rfl, hy, hcy⟩ := hs4.at (k := i) (by unfold srow; rw [List.length_map, List.length_map]; exact hil)
        have hci := hcx i (by rw [prow_len]; exact hil)
        have hpe : (prow ps)[i]'(by rw [prow_len]; exact hil) = .slice ps[i].1 ps[i].2.2.length ps[i].2.1 := by unfold prow; rw [List.getElem_map]
        rw [hpe] at hci
        have hcj := hcy i (by unfold srow; rw [List.length_map, List.length_map]; exact hil)
        have hpj : (srow (ps.map fun q => q.2.2))[i]'(by unfold srow; rw [List.length_map, List.length_map]; exact hil) = .string (ofL ps[i].2.2) := by unfold srow; rw [List.getElem_map, List.getElem_map]
        rw [hpj] at hcj
        have hq := hq4 ps[i] (List.getElem_mem hil)
        have HQ := Lib.hid hq
        generalize ps[i] = part at *
        obtain ⟨pa, pc, pl⟩ := part
        simp only at hci hcj
        have HS12 : Hid (∀ W, Below w4.heap.size w4 W → W.cell? ⟨x, o + i, none⟩ = some (.slice pa pl.length pc) ∧ W.cell? ⟨y, o2 + i, none⟩ = some (.string (ofL pl)) ∧ (convert 43 9 (.slice pa pl.length pc)).run Tryd.prog W = .ok (.string (ofL pl)) W) := fun W hb => by
          refine ⟨(hb.cell (p := ⟨x, o + i, none⟩) hx).trans hci, (hb.cell (p := ⟨y, o2 + i, none⟩) hy).trans hcj, ?_⟩
          have := run_str_of (P := Tryd.prog) Tryd.underlying43 Tryd.underlying5 Tryd.underlying9 (b := ofL pl) (w := W) (by rw [byteCells_ofL HQ.out.2]; exact (HQ.out.below hb).sl) pc
          rwa [ofL_size] at this
        have hcmp : ((ofL pl).toList == (ofL pl).toList) = true := beq_self_eq_true _
        have HBD : Hid (Below w4.heap.size w4 wr.drew) := hbr.trans (below_dN ((Below.refl _ wr).mono hbr.size) 1)
        have hw1 : IntKind.i64.wrap ((i : Int) + 1) = ((i + 1 : Nat) : Int) := IntWalk.i64_in _ (by omega)
        have b0 : (0 : Int) ≤ (i : Int) := by omega
        have b1 : (i : Int) < (ps.length : Int) := by omega
        clear hq hci hcj hpe hpj hcx hcy hbr
        go_wp2_with fail
        go_region_held3 (fun W => W.cell? ⟨x, o + i, none⟩ = some (.slice pa pl.length pc) ∧ W.cell? ⟨y, o2 + i, none⟩ = some (.string (ofL pl)) ∧ (convert 43 9 (.slice pa pl.length pc)).run Tryd.prog W = .ok (.string (ofL pl)) W)
          (first | exact HS12.out _ HBD.out | go_keep) (first | fail)
        all_goals
          go_wp2_with fail
          go_roundw
          case rel => exact ⟨i + 1, by omega, by first | rfl | go_num, HBD.out⟩
          case measure => simp [intOf]; omega
      · have hd : decide ((i : Int) < (ps.length : Int)) = false := decide_eq_false (by omega)
        go_wp2_with fail
        go_ret
        exact ⟨rfl, hbo.out.trans (hbr.mono hbo.out.size)⟩
end Go.Proofs.YtfoamcobpfflbaaDoor
