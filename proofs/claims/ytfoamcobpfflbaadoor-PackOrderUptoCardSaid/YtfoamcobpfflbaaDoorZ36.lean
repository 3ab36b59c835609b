/- Texts of mine, joined: []byte, [2]int and [3]int that came in, opened. | What came in, opened by its type: slices of whatever, structs field by field. Of every program. | What came in, opened by its type: slices, with what is known of their capacity. Of every program. -/
import Derived.Laws.IdiomArrays
import Derived.Test.YtfoamcobpfflbaaDoorZ35
namespace Go.Proofs.YtfoamcobpfflbaaDoor
open Go Go.ChangeShapes Go.WideShapes Go.ChangeAt Go.RowKit

theorem i64_wf {n : Int} (h : (Lit.int .i64 n).wf = true) : -9223372036854775808 ≤ n ∧ n ≤ 9223372036854775807 := int_wf h (by decide) (by decide)

theorem open_bytes {P : Program} {H : Type} {enc : TypeId × Value → H} {W : World} {base : Nat} {v : Value} {d : DataW H} {p : List MemPlace} {t e : TypeId} (ht : P.underlying t = some (.slice e)) (hc : P.cellsOf e = 1) (he : P.underlying e = some (.int .u8))
    (hv : Value.okWide P W .any base t v) (h : DataW.Trod enc P W 0 (fun _ => true) true t v d p) (hk : Rows.uptoBulk d ≤ 1048576) :
    ∃ (a : Option Addr) (c : Nat) (x : ByteArray), v = .slice a x.size c ∧ x.size ≤ 1048576 ∧ Sl W a (byteCells x) := by
  obtain ⟨a, c, xs, rfl, hl, hw, hs⟩ := open_row P ht hc (Value.int .u8) (fun z => 0 ≤ z ∧ z ≤ 255) (fun n u y h => by
    obtain ⟨b, e1, _, hw⟩ := DataW.trod_int he h
    exact ⟨b, (List.cons.inj e1).1, int_wf hw (by decide) (by decide)⟩) hv h hk
  have hsz : (strOfNums xs).size = xs.length := strOfNums_size xs
  refine ⟨a, c, strOfNums xs, by rw [hsz], by rw [hsz]; exact hl, ?_⟩
  have : byteCells (strOfNums xs) = xs.map (Value.int .u8) := by
    unfold byteCells
    rw [strOfNums_data, List.map_map]
    refine List.map_congr_left fun z hz => ?_
    have := hw z hz
    show Value.int .u8 ((UInt8.ofNat z.toNat).toNat : Int) = Value.int .u8 z
    congr 1
    rw [UInt8.toNat_ofNat', Nat.mod_eq_of_lt (by omega)]
    omega
  rw [this]
  exact hs

theorem arr2 {α : Type} {cs : Array α} (h : cs.size = 2) : ∃ c0 c1, cs = #[c0, c1] := by
  obtain ⟨l⟩ := cs
  match l, h with
  | [c0, c1], _ => exact ⟨c0, c1, rfl⟩
theorem arr3 {α : Type} {cs : Array α} (h : cs.size = 3) : ∃ c0 c1 c2, cs = #[c0, c1, c2] := by
  obtain ⟨l⟩ := cs
  match l, h with
  | [c0, c1, c2], _ => exact ⟨c0, c1, c2, rfl⟩

theorem arr_okWide {P : Program} {W : World} {base n : Nat} {v : Value} {t e : TypeId} (ht : P.underlying t = some (.array n e)) (hv : Value.okWide P W .any base t v) : ∃ cs, v = .agg cs ∧ cs.size = P.cellsOf t := by
  simp only [Value.okWide, ht] at hv
  obtain ⟨cs, h1, h2, _⟩ := hv
  exact ⟨cs, h1, h2⟩

theorem open_int2 {P : Program} {H : Type} {enc : TypeId × Value → H} {W : World} {base : Nat} {v : Value} {d : DataW H} {p : List MemPlace} {t e : TypeId} (ht : P.underlying t = some (.array 2 e)) (hc : P.cellsOf e = 1) (hC : P.cellsOf t = 2) (he : P.underlying e = some (.int .i64))
    (hv : Value.okWide P W .any base t v) (h : DataW.Trod enc P W 0 (fun _ => true) true t v d p) :
    ∃ n0 n1 : Int, v = .agg #[.int .i64 n0, .int .i64 n1] ∧ (-9223372036854775808 ≤ n0 ∧ n0 ≤ 9223372036854775807) ∧ (-9223372036854775808 ≤ n1 ∧ n1 ≤ 9223372036854775807) := by
  obtain ⟨cs, rfl, hsz⟩ := arr_okWide ht hv
  obtain ⟨c0, c1, rfl⟩ := arr2 (hsz.trans hC)
  obtain ⟨fuel, hf⟩ := h
  obtain ⟨xs, m, -, -, -, hl, hel⟩ := DataW.trod_array ht hf
  have g : ∀ (i : Nat) (c : Value), i < 2 → ([c0, c1] : List Value)[i]? = some c → ∃ n : Int, c = .int .i64 n ∧ (-9223372036854775808 ≤ n ∧ n ≤ 9223372036854775807) := by
    intro i c hi hci
    have h1 := hel i hi
    have hx : ∃ y, xs[i]? = some y := ⟨_, List.getElem?_eq_getElem (by rw [hl]; exact hi)⟩
    obtain ⟨y, hy⟩ := hx
    have e1 : ((Value.cells (.agg #[c0, c1])).toList.drop (i * P.cellsOf e)).take (P.cellsOf e) = [c] := by
      rw [hc, Nat.mul_one]
      match i, hi, hci with
      | 0, _, h => simp at h; subst h; rfl
      | 1, _, h => simp at h; subst h; rfl
    rw [hy, e1] at h1
    obtain ⟨b, e2, -, hw⟩ := DataW.trod_int he h1
    exact ⟨b, (List.cons.inj e2).1, i64_wf hw⟩
  obtain ⟨n0, rfl, b0⟩ := g 0 c0 (by omega) rfl
  obtain ⟨n1, rfl, b1⟩ := g 1 c1 (by omega) rfl
  exact ⟨n0, n1, rfl, b0, b1⟩

theorem open_int3 {P : Program} {H : Type} {enc : TypeId × Value → H} {W : World} {base : Nat} {v : Value} {d : DataW H} {p : List MemPlace} {t e : TypeId} (ht : P.underlying t = some (.array 3 e)) (hc : P.cellsOf e = 1) (hC : P.cellsOf t = 3) (he : P.underlying e = some (.int .i64))
    (hv : Value.okWide P W .any base t v) (h : DataW.Trod enc P W 0 (fun _ => true) true t v d p) :
    ∃ n0 n1 n2 : Int, v = .agg #[.int .i64 n0, .int .i64 n1, .int .i64 n2] ∧ (-9223372036854775808 ≤ n0 ∧ n0 ≤ 9223372036854775807) ∧ (-9223372036854775808 ≤ n1 ∧ n1 ≤ 9223372036854775807) ∧ (-9223372036854775808 ≤ n2 ∧ n2 ≤ 9223372036854775807) := by
  obtain ⟨cs, rfl, hsz⟩ := arr_okWide ht hv
  obtain ⟨c0, c1, c2, rfl⟩ := arr3 (hsz.trans hC)
  obtain ⟨fuel, hf⟩ := h
  obtain ⟨xs, m, -, -, -, hl, hel⟩ := DataW.trod_array ht hf
  have g : ∀ (i : Nat) (c : Value), i < 3 → ([c0, c1, c2] : List Value)[i]? = some c → ∃ n : Int, c = .int .i64 n ∧ (-9223372036854775808 ≤ n ∧ n ≤ 9223372036854775807) := by
    intro i c hi hci
    have h1 := hel i hi
    have hx : ∃ y, xs[i]? = some y := ⟨_, List.getElem?_eq_getElem (by rw [hl]; exact hi)⟩
    obtain ⟨y, hy⟩ := hx
    have e1 : ((Value.cells (.agg #[c0, c1, c2])).toList.drop (i * P.cellsOf e)).take (P.cellsOf e) = [c] := by
      rw [hc, Nat.mul_one]
      match i, hi, hci with
      | 0, _, h => simp at h; subst h; rfl
      | 1, _, h => simp at h; subst h; rfl
      | 2, _, h => simp at h; subst h; rfl
    rw [hy, e1] at h1
    obtain ⟨b, e2, -, hw⟩ := DataW.trod_int he h1
    exact ⟨b, (List.cons.inj e2).1, i64_wf hw⟩
  obtain ⟨n0, rfl, b0⟩ := g 0 c0 (by omega) rfl
  obtain ⟨n1, rfl, b1⟩ := g 1 c1 (by omega) rfl
  obtain ⟨n2, rfl, b2⟩ := g 2 c2 (by omega) rfl
  exact ⟨n0, n1, n2, rfl, b0, b1, b2⟩
end Go.Proofs.YtfoamcobpfflbaaDoor
namespace Go.Proofs.YtfoamcobpfflbaaDoor
open Go Go.ChangeShapes Go.WideShapes Go.ChangeAt Go.RowKit

/-- Whatever is read at type e is one of α, in the cells f. -/
def Opn {H : Type} (enc : TypeId × Value → H) (P : Program) (W : World) (e : TypeId) (α : Type) (f : α → List Value) (ok : α → Nat → Prop) : Prop :=
  ∀ (n : Nat) (cs : List Value) (x : DataW H × List MemPlace), DataW.trod enc P W 0 (fun _ => true) true n e cs = some x → ∃ y : α, cs = f y ∧ ok y (Rows.uptoBulk x.1)

section
variable {H : Type} {enc : TypeId × Value → H} {P : Program} {W : World}

theorem flat_at {α : Type} (f : α → List Value) (k : Nat) : ∀ (l : List α), (∀ y ∈ l, (f y).length = k) → ∀ (i : Nat) (hi : i < l.length) (j : Nat), j < k → (l.flatMap f)[i * k + j]? = (f l[i])[j]?
  | [], _, i, hi, _, _ => by simp at hi
  | y :: l, h, 0, _, j, hj => by
    rw [List.flatMap_cons, Nat.zero_mul, Nat.zero_add, List.getElem?_append_left (by rw [h y (by simp)]; exact hj)]; rfl
  | y :: l, h, i + 1, hi, j, hj => by
    rw [List.flatMap_cons, List.getElem?_append_right (by rw [h y (by simp), Nat.succ_mul]; omega), h y (by simp), show (i + 1) * k + j - k = i * k + j by rw [Nat.succ_mul]; omega]
    exact flat_at f k l (fun z hz => h z (by simp [hz])) i (by simpa using hi) j hj
theorem flat_len {α : Type} (f : α → List Value) (k : Nat) : ∀ (l : List α), (∀ y ∈ l, (f y).length = k) → (l.flatMap f).length = l.length * k
  | [], _ => by simp
  | y :: l, h => by rw [List.flatMap_cons, List.length_append, h y (by simp), flat_len f k l (fun z hz => h z (by simp [hz])), List.length_cons, Nat.succ_mul]; omega

theorem bulk_all {α : Type} {ok : α → Nat → Prop} (hmono : ∀ y a b, a ≤ b → ok y a → ok y b) (D : Nat → DataW H) (T : Nat → α) : ∀ l : List Nat, (∀ i ∈ l, ok (T i) (Rows.uptoBulk (D i))) →
    l.length ≤ Rows.uptoBulkAll (l.map D) ∧ ∀ y ∈ l.map T, ok y (Rows.uptoBulkAll (l.map D))
  | [], _ => ⟨Nat.zero_le _, fun y h => by cases h⟩
  | i :: l, h => by
    obtain ⟨h1, h2⟩ := bulk_all hmono D T l (fun j hj => h j (by simp [hj]))
    have e := bulk_one (D i)
    have e2 : Rows.uptoBulkAll ((i :: l).map D) = Rows.uptoBulk (D i) + Rows.uptoBulkAll (l.map D) := by rw [List.map_cons, Rows.uptoBulkAll]
    rw [e2, List.length_cons]
    refine ⟨by omega, fun y hy => ?_⟩
    rw [List.map_cons, List.mem_cons] at hy
    rcases hy with rfl | hy
    · exact hmono _ _ _ (by omega) (h i (by simp))
    · exact hmono _ _ _ (by omega) (h2 y hy)

/-- The sum of sizes over a list is within its bulk. -/
theorem bulk_sum {α : Type} (g : α → Nat) (D : Nat → DataW H) (T : Nat → α) : ∀ l : List Nat, (∀ i ∈ l, g (T i) ≤ Rows.uptoBulk (D i)) → ((l.map T).map g).sum ≤ Rows.uptoBulkAll (l.map D)
  | [], _ => by simp
  | i :: l, h => by
    have h1 := bulk_sum g D T l (fun j hj => h j (by simp [hj]))
    have h2 := h i (by simp)
    have e2 : Rows.uptoBulkAll ((i :: l).map D) = Rows.uptoBulk (D i) + Rows.uptoBulkAll (l.map D) := by rw [List.map_cons, Rows.uptoBulkAll]
    rw [e2]
    simp only [List.map_cons, List.sum_cons]
    omega

/-- A slice. -/
theorem opn_slice {α : Type} [Inhabited α] {t e : TypeId} {k : Nat} (ht : P.underlying t = some (.slice e)) (hc : P.cellsOf e = k) (hk0 : 0 < k) {f : α → List Value} {ok : α → Nat → Prop} (hmono : ∀ y a b, a ≤ b → ok y a → ok y b) (g : α → Nat) (hg : ∀ y b, ok y b → g y ≤ b)
    (X : Opn enc P W e α f ok) : Opn enc P W t (Option Addr × Nat × List α) (fun y => [.slice y.1 y.2.2.length y.2.1]) (fun y b => Sl W y.1 (y.2.2.flatMap f) ∧ (∀ z ∈ y.2.2, (f z).length = k) ∧ y.2.2.length < b ∧ (y.2.2.map g).sum < b ∧ ∀ z ∈ y.2.2, ok z b) := by
  intro fuel cs x hf
  rcases Go.Deep.open_slice ht hf with ⟨hcs, hx⟩ | ⟨a, len, cap, m, n, D, Pl, hcs, -, hl, -, hmm, hx, hcell⟩
  · subst hcs
    have hb : 0 < Rows.uptoBulk x.1 := by rw [hx]; simp [Rows.uptoBulk]
    exact ⟨(none, 0, []), rfl, .nil _ _, (fun z hz => nomatch hz), hb, hb, (fun z hz => nomatch hz)⟩
  · subst hcs
    simp only [if_true] at hmm
    rw [hc] at hcell
    have each : ∀ i, i < len → ∃ y : α, ok y (Rows.uptoBulk (D i)) ∧ (f y).length = k ∧ ∀ j, j < k → W.cell? ((a.add (i * k)).add j) = (f y)[j]? := by
      intro i hi
      obtain ⟨cs', h1, h2⟩ := hcell i (by omega)
      obtain ⟨y, hy, hok⟩ := X n cs' _ h2
      obtain ⟨_, h3, h4⟩ := World.cells?_some h1
      subst hy
      exact ⟨y, hok, h3, h4⟩
    obtain ⟨T, hT⟩ := Go.Deep.choose_lt each
    have hd : x.1 = .slice ((List.range len).map D) ((List.range (m - len)).map fun j => D (len + j)) := congrArg Prod.fst hx
    obtain ⟨k1, k2⟩ := bulk_all hmono D T (List.range len) (fun i hi => (hT i (List.mem_range.1 hi)).1)
    have k3 := bulk_sum g D T (List.range len) (fun i hi => hg _ _ (hT i (List.mem_range.1 hi)).1)
    have hb : Rows.uptoBulkAll ((List.range len).map D) < Rows.uptoBulk x.1 := by rw [hd]; simp only [Rows.uptoBulk]; omega
    have hlen : ∀ z ∈ (List.range len).map T, (f z).length = k := fun z hz => by
      obtain ⟨i, hi, rfl⟩ := List.mem_map.1 hz
      exact (hT i (List.mem_range.1 hi)).2.1
    rw [List.length_range] at k1
    refine ⟨(some a, cap, (List.range len).map T), by simp, ?_, hlen, by simp; omega, by show (((List.range len).map T).map g).sum < _; omega, fun z hz => hmono _ _ _ (by omega) (k2 z hz)⟩
    by_cases h0 : len = 0
    · subst h0; exact .inl rfl
    · have h1 := (hT 0 (by omega)).2.2 0 hk0
      have h2 := (hT 0 (by omega)).2.1
      rw [List.getElem?_eq_getElem (by omega)] at h1
      have hsp : a.spot = none := cell_spot (b := a.block) (o := a.off) (by simpa [Addr.add] using h1)
      obtain ⟨b, o, sp⟩ := a
      simp at hsp
      subst hsp
      have hbl : b < W.heap.size := by
        have := World.block_lt_of_cell? W _ h1
        simpa [Addr.add] using this
      refine .inr ⟨b, o, rfl, hbl, fun i u hu => ?_⟩
      have hi : i < len * k := by
        have := (List.getElem?_eq_some_iff.1 hu).1
        rw [flat_len f k _ hlen, List.length_map, List.length_range] at this
        exact this
      have hq : i / k < len := Nat.div_lt_of_lt_mul (by rw [Nat.mul_comm]; exact hi)
      have hr : i % k < k := Nat.mod_lt _ hk0
      have hir : i / k * k + i % k = i := by rw [Nat.mul_comm]; exact Nat.div_add_mod i k
      have h5 := flat_at f k _ hlen (i / k) (by rw [List.length_map, List.length_range]; exact hq) (i % k) hr
      rw [hir, hu, List.getElem_map, List.getElem_range] at h5
      have h6 := (hT (i / k) hq).2.2 (i % k) hr
      rw [Addr.add_lit, Addr.add_lit, Nat.add_assoc, hir] at h6
      rw [h6, ← h5]

/-- .. the slice of an argument. -/
theorem Opn.arg {α : Type} {t : TypeId} {f : α → List Value} {ok : α → Nat → Prop} (X : Opn enc P W t α f ok) {v : Value} {d : DataW H} {p : List MemPlace} (h : DataW.Trod enc P W 0 (fun _ => true) true t v d p) : ∃ y : α, v.cells.toList = f y ∧ ok y (Rows.uptoBulk d) := by
  obtain ⟨fuel, hf⟩ := h
  exact X fuel _ _ hf

theorem opn_str {t : TypeId} (ht : P.underlying t = some .string) : Opn enc P W t ByteArray (fun s => [.string s]) (fun s b => s.size < b) := by
  intro n cs x h
  obtain ⟨s, h1, h2, _⟩ := DataW.trod_string ht h
  exact ⟨s, h1, by rw [h2]; rw [bulk_str]; omega⟩
theorem opn_i64 {t : TypeId} (ht : P.underlying t = some (.int .i64)) : Opn enc P W t Int (fun n => [.int .i64 n]) (fun n b => 0 < b ∧ -9223372036854775808 ≤ n ∧ n ≤ 9223372036854775807) := by
  intro n cs x h
  obtain ⟨s, h1, h2, h3⟩ := DataW.trod_int ht h
  exact ⟨s, h1, by rw [h2]; simp [Rows.uptoBulk], i64_wf h3⟩
theorem opn_bool {t : TypeId} (ht : P.underlying t = some .bool) : Opn enc P W t Bool (fun b => [.bool b]) (fun _ b => 0 < b) := by
  intro n cs x h
  obtain ⟨s, h1, h2⟩ := DataW.trod_bool ht h
  exact ⟨s, h1, by rw [h2]; simp [Rows.uptoBulk]⟩

theorem byteCells_len (x : ByteArray) : (byteCells x).length = x.size := by
  unfold byteCells; rw [List.length_map, Array.length_toList]; rfl

/-- Bytes: a slice of them. -/
theorem opn_bytes {t e : TypeId} (ht : P.underlying t = some (.slice e)) (hc : P.cellsOf e = 1) (he : P.underlying e = some (.int .u8)) :
    Opn enc P W t (Option Addr × Nat × ByteArray) (fun y => [.slice y.1 y.2.2.size y.2.1]) (fun y b => Sl W y.1 (byteCells y.2.2) ∧ y.2.2.size < b) := by
  have X : Opn enc P W e UInt8 (fun c => [.int .u8 (c.toNat : Int)]) (fun _ b => 0 < b) := by
    intro n cs x h
    obtain ⟨z, h1, h2, h3⟩ := DataW.trod_int he h
    have := int_wf h3 (show (0 : Int) = IntKind.u8.min by decide) (show IntKind.u8.max = (255 : Int) by decide)
    refine ⟨UInt8.ofNat z.toNat, ?_, by rw [h2]; simp [Rows.uptoBulk]⟩
    rw [h1]
    show [Value.int .u8 z] = [Value.int .u8 ((UInt8.ofNat z.toNat).toNat : Int)]
    rw [UInt8.toNat_ofNat', Nat.mod_eq_of_lt (by omega)]
    congr 2
    omega
  intro n cs x h
  obtain ⟨⟨a, c, l⟩, h1, h2, -, h4, -⟩ := opn_slice ht hc (by omega) (fun _ a b hab h => by omega) (fun _ => 0) (fun _ _ _ => Nat.zero_le _) X n cs x h
  have e1 : byteCells ⟨l.toArray⟩ = l.flatMap fun c => [Value.int .u8 (c.toNat : Int)] := by
    unfold byteCells
    rw [List.map_eq_flatMap]
  have e2 : (⟨l.toArray⟩ : ByteArray).size = l.length := by simp [ByteArray.size]
  refine ⟨(a, c, ⟨l.toArray⟩), ?_, ?_, ?_⟩
  · rw [h1]; simp only [e2]
  · show Sl W a (byteCells ⟨l.toArray⟩)
    rw [e1]; exact h2
  · show (⟨l.toArray⟩ : ByteArray).size < _
    rw [e2]; exact h4
end
end Go.Proofs.YtfoamcobpfflbaaDoor
namespace Go.Proofs.YtfoamcobpfflbaaDoor
open Go Go.ChangeShapes Go.WideShapes Go.ChangeAt Go.RowKit

/-- A slice's capacity. -/
def CapOk (a : Option Addr) (n c : Nat) : Prop := n ≤ c ∧ c ≤ maxLen ∧ (a = none → c = 0)
theorem CapOk.take {a : Option Addr} {n c m : Nat} (h : CapOk a n c) (hm : m ≤ n) : CapOk a m c := ⟨Nat.le_trans hm h.1, h.2⟩

section
variable {H : Type} {enc : TypeId × Value → H} {P : Program} {W : World}

/-- A slice. -/
theorem opn_slice2 {α : Type} [Inhabited α] {t e : TypeId} {k : Nat} (ht : P.underlying t = some (.slice e)) (hc : P.cellsOf e = k) (hk0 : 0 < k) {f : α → List Value} {ok : α → Nat → Prop} (hmono : ∀ y a b, a ≤ b → ok y a → ok y b) (g : α → Nat) (hg : ∀ y b, ok y b → g y ≤ b)
    (X : Opn enc P W e α f ok) : Opn enc P W t (Option Addr × Nat × List α) (fun y => [.slice y.1 y.2.2.length y.2.1]) (fun y b => Sl W y.1 (y.2.2.flatMap f) ∧ (∀ z ∈ y.2.2, (f z).length = k) ∧ y.2.2.length < b ∧ (y.2.2.map g).sum < b ∧ (∀ z ∈ y.2.2, ok z b) ∧ CapOk y.1 y.2.2.length y.2.1) := by
  intro fuel cs x hf
  rcases Go.Deep.open_slice ht hf with ⟨hcs, hx⟩ | ⟨a, len, cap, m, n, D, Pl, hcs, -, hl, hcm, hmm, hx, hcell⟩
  · subst hcs
    have hb : 0 < Rows.uptoBulk x.1 := by rw [hx]; simp [Rows.uptoBulk]
    exact ⟨(none, 0, []), rfl, .nil _ _, (fun z hz => nomatch hz), hb, hb, (fun z hz => nomatch hz), Nat.le_refl _, Nat.zero_le _, fun _ => rfl⟩
  · subst hcs
    simp only [if_true] at hmm
    rw [hc] at hcell
    have each : ∀ i, i < len → ∃ y : α, ok y (Rows.uptoBulk (D i)) ∧ (f y).length = k ∧ ∀ j, j < k → W.cell? ((a.add (i * k)).add j) = (f y)[j]? := by
      intro i hi
      obtain ⟨cs', h1, h2⟩ := hcell i (by omega)
      obtain ⟨y, hy, hok⟩ := X n cs' _ h2
      obtain ⟨_, h3, h4⟩ := World.cells?_some h1
      subst hy
      exact ⟨y, hok, h3, h4⟩
    obtain ⟨T, hT⟩ := Go.Deep.choose_lt each
    have hd : x.1 = .slice ((List.range len).map D) ((List.range (m - len)).map fun j => D (len + j)) := congrArg Prod.fst hx
    obtain ⟨k1, k2⟩ := bulk_all hmono D T (List.range len) (fun i hi => (hT i (List.mem_range.1 hi)).1)
    have k3 := bulk_sum g D T (List.range len) (fun i hi => hg _ _ (hT i (List.mem_range.1 hi)).1)
    have hb : Rows.uptoBulkAll ((List.range len).map D) < Rows.uptoBulk x.1 := by rw [hd]; simp only [Rows.uptoBulk]; omega
    have hlen : ∀ z ∈ (List.range len).map T, (f z).length = k := fun z hz => by
      obtain ⟨i, hi, rfl⟩ := List.mem_map.1 hz
      exact (hT i (List.mem_range.1 hi)).2.1
    rw [List.length_range] at k1
    refine ⟨(some a, cap, (List.range len).map T), by simp, ?_, hlen, by simp; omega, by show (((List.range len).map T).map g).sum < _; omega, fun z hz => hmono _ _ _ (by omega) (k2 z hz), by simpa using hl, hcm, fun h => (by cases h)⟩
    by_cases h0 : len = 0
    · subst h0; exact .inl rfl
    · have h1 := (hT 0 (by omega)).2.2 0 hk0
      have h2 := (hT 0 (by omega)).2.1
      rw [List.getElem?_eq_getElem (by omega)] at h1
      have hsp : a.spot = none := cell_spot (b := a.block) (o := a.off) (by simpa [Addr.add] using h1)
      obtain ⟨b, o, sp⟩ := a
      simp at hsp
      subst hsp
      have hbl : b < W.heap.size := by
        have := World.block_lt_of_cell? W _ h1
        simpa [Addr.add] using this
      refine .inr ⟨b, o, rfl, hbl, fun i u hu => ?_⟩
      have hi : i < len * k := by
        have := (List.getElem?_eq_some_iff.1 hu).1
        rw [flat_len f k _ hlen, List.length_map, List.length_range] at this
        exact this
      have hq : i / k < len := Nat.div_lt_of_lt_mul (by rw [Nat.mul_comm]; exact hi)
      have hr : i % k < k := Nat.mod_lt _ hk0
      have hir : i / k * k + i % k = i := by rw [Nat.mul_comm]; exact Nat.div_add_mod i k
      have h5 := flat_at f k _ hlen (i / k) (by rw [List.length_map, List.length_range]; exact hq) (i % k) hr
      rw [hir, hu, List.getElem_map, List.getElem_range] at h5
      have h6 := (hT (i / k) hq).2.2 (i % k) hr
      rw [Addr.add_lit, Addr.add_lit, Nat.add_assoc, hir] at h6
      rw [h6, ← h5]

/-- Bytes: a slice of them. -/
theorem opn_bytes2 {t e : TypeId} (ht : P.underlying t = some (.slice e)) (hc : P.cellsOf e = 1) (he : P.underlying e = some (.int .u8)) :
    Opn enc P W t (Option Addr × Nat × ByteArray) (fun y => [.slice y.1 y.2.2.size y.2.1]) (fun y b => Sl W y.1 (byteCells y.2.2) ∧ y.2.2.size < b ∧ CapOk y.1 y.2.2.size y.2.1) := by
  have X : Opn enc P W e UInt8 (fun c => [.int .u8 (c.toNat : Int)]) (fun _ b => 0 < b) := by
    intro n cs x h
    obtain ⟨z, h1, h2, h3⟩ := DataW.trod_int he h
    have := int_wf h3 (show (0 : Int) = IntKind.u8.min by decide) (show IntKind.u8.max = (255 : Int) by decide)
    refine ⟨UInt8.ofNat z.toNat, ?_, by rw [h2]; simp [Rows.uptoBulk]⟩
    rw [h1]
    show [Value.int .u8 z] = [Value.int .u8 ((UInt8.ofNat z.toNat).toNat : Int)]
    rw [UInt8.toNat_ofNat', Nat.mod_eq_of_lt (by omega)]
    congr 2
    omega
  intro n cs x h
  obtain ⟨⟨a, c, l⟩, h1, h2, -, h4, -, -, h5⟩ := opn_slice2 ht hc (by omega) (fun _ a b hab h => by omega) (fun _ => 0) (fun _ _ _ => Nat.zero_le _) X n cs x h
  have e1 : byteCells ⟨l.toArray⟩ = l.flatMap fun c => [Value.int .u8 (c.toNat : Int)] := by
    unfold byteCells
    rw [List.map_eq_flatMap]
  have e2 : (⟨l.toArray⟩ : ByteArray).size = l.length := by simp [ByteArray.size]
  refine ⟨(a, c, ⟨l.toArray⟩), ?_, ?_, ?_, ?_⟩
  · rw [h1]; simp only [e2]
  · show Sl W a (byteCells ⟨l.toArray⟩)
    rw [e1]; exact h2
  · show (⟨l.toArray⟩ : ByteArray).size < _
    rw [e2]; exact h4
  · show CapOk a (⟨l.toArray⟩ : ByteArray).size c
    rw [e2]; exact h5

theorem open_bytes2 {base : Nat} {v : Value} {d : DataW H} {p : List MemPlace} {t e : TypeId} (ht : P.underlying t = some (.slice e)) (hc : P.cellsOf e = 1) (he : P.underlying e = some (.int .u8))
    (hv : Value.okWide P W .any base t v) (h : DataW.Trod enc P W 0 (fun _ => true) true t v d p) (hk : Rows.uptoBulk d ≤ 1048576) :
    ∃ (a : Option Addr) (c : Nat) (x : ByteArray), v = .slice a x.size c ∧ x.size ≤ 1048576 ∧ Sl W a (byteCells x) ∧ CapOk a x.size c := by
  obtain ⟨a0, len, cap, rfl⟩ := okWide_slice ht hv
  obtain ⟨⟨a, c, x⟩, h1, h2, h3, h4⟩ := (opn_bytes2 (P := P) (W := W) (enc := enc) ht hc he).arg h
  simp [Value.cells] at h1
  obtain ⟨rfl, rfl, rfl⟩ := h1
  exact ⟨a0, cap, x, rfl, by simp only at h3; omega, h2, h4⟩
end
end Go.Proofs.YtfoamcobpfflbaaDoor
