/- []byte, [2]int and [3]int that came in, opened. -/
import Derived.Test.YtfoamcobpfflbaaDoorKitO
import Derived.Laws.IdiomArrays
namespace Go.Proofs.YtfoamcobpfflbaaDoor
open Go Go.ChangeShapes Go.WideShapes Go.ChangeAt Go.RowKit

theorem i64_wf {n : Int} (h : (Lit.int .i64 n).wf = true) : -9223372036854775808 ≤ n ∧ n ≤ 9223372036854775807 := int_wf h (by decide) (by decide)

theorem open_bytes {P : Program} {H : Type} {enc : TypeId × Value → H} {W : World} {base : Nat} {v : Value} {d : DataW H} {p : List MemPlace} {t e : TypeId} (ht : P.underlying t = some (.slice e)) (hc : P.cellsOf e = 1) (he : P.underlying e = some (.int .u8))
    (hv : Value.okWide P W .any base t v) (h : DataW.Trod enc P W 0 (fun _ => true) true t v d p) (hk : Rows.uptoBulk d ≤ 1048576) :
    ∃ (a : Option Addr) (c : Nat) (x : ByteArray), v = .slice a x.size c ∧ x.size ≤ 1048576 ∧ Sl W a (byteCells x) := by
  obtain ⟨a, c, xs, rfl, hl, hw, hs⟩ := open_row P ht hc (Value.int .u8) (fun z => 0 ≤ z ∧ z ≤ 255) (fun n u y h => by
    obtain ⟨b, e1, _, hw⟩ := DataW.trod_int he h
    exact ⟨b, (List.cons.inj e1).1, int_wf hw (by decide) (by decide)⟩) hv h hk
  have hsz : (strOfNums xs).size = xs.length := strOfNums_size xs
  refine ⟨a, c, strOfNums xs, by rw [hsz], by rw [hsz]; exact hl, ?_⟩
  have : byteCells (strOfNums xs) = xs.map (Value.int .u8) := by
    unfold byteCells
    rw [strOfNums_data, List.map_map]
    refine List.map_congr_left fun z hz => ?_
    have := hw z hz
    show Value.int .u8 ((UInt8.ofNat z.toNat).toNat : Int) = Value.int .u8 z
    congr 1
    rw [UInt8.toNat_ofNat', Nat.mod_eq_of_lt (by omega)]
    omega
  rw [this]
  exact hs

theorem arr2 {α : Type} {cs : Array α} (h : cs.size = 2) : ∃ c0 c1, cs = #[c0, c1] := by
  obtain ⟨l⟩ := cs
  match l, h with
  | [c0, c1], _ => exact ⟨c0, c1, rfl⟩
theorem arr3 {α : Type} {cs : Array α} (h : cs.size = 3) : ∃ c0 c1 c2, cs = #[c0, c1, c2] := by
  obtain ⟨l⟩ := cs
  match l, h with
  | [c0, c1, c2], _ => exact ⟨c0, c1, c2, rfl⟩

theorem arr_okWide {P : Program} {W : World} {base n : Nat} {v : Value} {t e : TypeId} (ht : P.underlying t = some (.array n e)) (hv : Value.okWide P W .any base t v) : ∃ cs, v = .agg cs ∧ cs.size = P.cellsOf t := by
  simp only [Value.okWide, ht] at hv
  obtain ⟨cs, h1, h2, _⟩ := hv
  exact ⟨cs, h1, h2⟩

theorem open_int2 {P : Program} {H : Type} {enc : TypeId × Value → H} {W : World} {base : Nat} {v : Value} {d : DataW H} {p : List MemPlace} {t e : TypeId} (ht : P.underlying t = some (.array 2 e)) (hc : P.cellsOf e = 1) (hC : P.cellsOf t = 2) (he : P.underlying e = some (.int .i64))
    (hv : Value.okWide P W .any base t v) (h : DataW.Trod enc P W 0 (fun _ => true) true t v d p) :
    ∃ n0 n1 : Int, v = .agg #[.int .i64 n0, .int .i64 n1] ∧ (-9223372036854775808 ≤ n0 ∧ n0 ≤ 9223372036854775807) ∧ (-9223372036854775808 ≤ n1 ∧ n1 ≤ 9223372036854775807) := by
  obtain ⟨cs, rfl, hsz⟩ := arr_okWide ht hv
  obtain ⟨c0, c1, rfl⟩ := arr2 (hsz.trans hC)
  obtain ⟨fuel, hf⟩ := h
  obtain ⟨xs, m, -, -, -, hl, hel⟩ := DataW.trod_array ht hf
  have g : ∀ (i : Nat) (c : Value), i < 2 → ([c0, c1] : List Value)[i]? = some c → ∃ n : Int, c = .int .i64 n ∧ (-9223372036854775808 ≤ n ∧ n ≤ 9223372036854775807) := by
    intro i c hi hci
    have h1 := hel i hi
    have hx : ∃ y, xs[i]? = some y := ⟨_, List.getElem?_eq_getElem (by rw [hl]; exact hi)⟩
    obtain ⟨y, hy⟩ := hx
    have e1 : ((Value.cells (.agg #[c0, c1])).toList.drop (i * P.cellsOf e)).take (P.cellsOf e) = [c] := by
      rw [hc, Nat.mul_one]
      match i, hi, hci with
      | 0, _, h => simp at h; subst h; rfl
      | 1, _, h => simp at h; subst h; rfl
    rw [hy, e1] at h1
    obtain ⟨b, e2, -, hw⟩ := DataW.trod_int he h1
    exact ⟨b, (List.cons.inj e2).1, i64_wf hw⟩
  obtain ⟨n0, rfl, b0⟩ := g 0 c0 (by omega) rfl
  obtain ⟨n1, rfl, b1⟩ := g 1 c1 (by omega) rfl
  exact ⟨n0, n1, rfl, b0, b1⟩

theorem open_int3 {P : Program} {H : Type} {enc : TypeId × Value → H} {W : World} {base : Nat} {v : Value} {d : DataW H} {p : List MemPlace} {t e : TypeId} (ht : P.underlying t = some (.array 3 e)) (hc : P.cellsOf e = 1) (hC : P.cellsOf t = 3) (he : P.underlying e = some (.int .i64))
    (hv : Value.okWide P W .any base t v) (h : DataW.Trod enc P W 0 (fun _ => true) true t v d p) :
    ∃ n0 n1 n2 : Int, v = .agg #[.int .i64 n0, .int .i64 n1, .int .i64 n2] ∧ (-9223372036854775808 ≤ n0 ∧ n0 ≤ 9223372036854775807) ∧ (-9223372036854775808 ≤ n1 ∧ n1 ≤ 9223372036854775807) ∧ (-9223372036854775808 ≤ n2 ∧ n2 ≤ 9223372036854775807) := by
  obtain ⟨cs, rfl, hsz⟩ := arr_okWide ht hv
  obtain ⟨c0, c1, c2, rfl⟩ := arr3 (hsz.trans hC)
  obtain ⟨fuel, hf⟩ := h
  obtain ⟨xs, m, -, -, -, hl, hel⟩ := DataW.trod_array ht hf
  have g : ∀ (i : Nat) (c : Value), i < 3 → ([c0, c1, c2] : List Value)[i]? = some c → ∃ n : Int, c = .int .i64 n ∧ (-9223372036854775808 ≤ n ∧ n ≤ 9223372036854775807) := by
    intro i c hi hci
    have h1 := hel i hi
    have hx : ∃ y, xs[i]? = some y := ⟨_, List.getElem?_eq_getElem (by rw [hl]; exact hi)⟩
    obtain ⟨y, hy⟩ := hx
    have e1 : ((Value.cells (.agg #[c0, c1, c2])).toList.drop (i * P.cellsOf e)).take (P.cellsOf e) = [c] := by
      rw [hc, Nat.mul_one]
      match i, hi, hci with
      | 0, _, h => simp at h; subst h; rfl
      | 1, _, h => simp at h; subst h; rfl
      | 2, _, h => simp at h; subst h; rfl
    rw [hy, e1] at h1
    obtain ⟨b, e2, -, hw⟩ := DataW.trod_int he h1
    exact ⟨b, (List.cons.inj e2).1, i64_wf hw⟩
  obtain ⟨n0, rfl, b0⟩ := g 0 c0 (by omega) rfl
  obtain ⟨n1, rfl, b1⟩ := g 1 c1 (by omega) rfl
  obtain ⟨n2, rfl, b2⟩ := g 2 c2 (by omega) rfl
  exact ⟨n0, n1, n2, rfl, b0, b1, b2⟩
end Go.Proofs.YtfoamcobpfflbaaDoor
