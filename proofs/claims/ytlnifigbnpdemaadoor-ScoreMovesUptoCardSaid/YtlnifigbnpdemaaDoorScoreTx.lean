/- Texts that came in: rows of a path and lines. -/
import Derived.Test.YtlnifigbnpdemaaDoorScoreBase
import Derived.Test.YtlnifigbnpdemaaDoorScoreOn
import Derived.Deep.SlicePairs
namespace Go.Proofs.YtlnifigbnpdemaaDoor
open Go Go.ChangeShapes Go.WideShapes Go.ChangeAt Go.RowKit

set_option maxRecDepth 100000 in
theorem strs_trod {H : Type} {enc : TypeId × Value → H} {W : World} {v : Value} {fuel : Nat} {x : DataW H × List MemPlace} (hf : DataW.trod enc Tryd.prog W 0 (fun _ => true) true fuel 22 [v] = some x) :
    ∃ (a : Option Addr) (c : Nat) (ss : List ByteArray), v = .slice a ss.length c ∧ Sl W a (ss.map Value.string) ∧ ss.length ≤ Rows.uptoBulk x.1 := by
  rcases open_strings Tryd.underlying22 Tryd.underlying9 (by kernel_rfl) hf with ⟨hcs, hx⟩ | ⟨a, len, cap, ss, hcs, _, hl, hm, hz, hx, hcell, hws⟩
  · obtain rfl := (List.cons.inj hcs).1
    exact ⟨none, 0, [], rfl, .nil _ _, Nat.zero_le _⟩
  · obtain rfl := (List.cons.inj hcs).1
    simp at hz
    have hd : x.1 = .slice (strs (ss.take len)) (strs (ss.drop len)) := congrArg Prod.fst hx
    rw [hd]
    simp only [Rows.uptoBulk]
    have hlt : (ss.take len).length = len := by rw [List.length_take]; omega
    have hlen := bulk_length (strs (H := H) (ss.take len))
    have hsl : (strs (H := H) (ss.take len)).length = len := by unfold strs; rw [List.length_map, hlt]
    refine ⟨some a, cap, ss.take len, by rw [hlt], ?_, by rw [hlt]; omega⟩
    by_cases h0 : len = 0
    · subst h0; simp [Sl]
    · have h1 := hcell 0 (by omega)
      have hsp : a.spot = none := cell_spot (b := a.block) (o := a.off) (by simpa [Addr.add] using h1)
      obtain ⟨b, o, sp⟩ := a
      simp at hsp
      subst hsp
      refine .inr ⟨b, o, rfl, World.block_lt_of_cell? W _ h1, fun i u hu => ?_⟩
      have hi : i < len := by
        have := (List.getElem?_eq_some_iff.1 hu).1
        rw [List.length_map, hlt] at this; exact this
      have h2 := hcell i (by omega)
      rw [Addr.add_lit] at h2
      rw [h2]
      rw [List.getElem?_map, List.getElem?_take, if_pos hi] at hu
      rw [List.getD_eq_getElem?_getD]
      rw [List.getElem?_eq_getElem (by omega)] at hu ⊢
      simpa using hu

theorem bulk_texts {H : Type} (D0 D1 : Nat → DataW H) (T : Nat → Tx) : ∀ l : List Nat, (∀ i ∈ l, (T i).path.size ≤ Rows.uptoBulk (D0 i) ∧ (T i).lines.length ≤ Rows.uptoBulk (D1 i)) →
    l.length + totL (l.map T) ≤ Rows.uptoBulkAll (l.map fun i => DataW.agg [D0 i, D1 i]) ∧ ∀ t ∈ l.map T, t.path.size ≤ Rows.uptoBulkAll (l.map fun i => DataW.agg [D0 i, D1 i])
  | [], _ => ⟨by simp [totL], fun t h => by cases h⟩
  | i :: l, h => by
    obtain ⟨h1, h2⟩ := bulk_texts D0 D1 T l (fun j hj => h j (by simp [hj]))
    obtain ⟨h3, h4⟩ := h i (by simp)
    have e1 : totL ((i :: l).map T) = (T i).lines.length + totL (l.map T) := by simp [totL]
    have e2 : Rows.uptoBulkAll ((i :: l).map fun i => DataW.agg [D0 i, D1 i]) = Rows.uptoBulk (DataW.agg [D0 i, D1 i]) + Rows.uptoBulkAll (l.map fun i => DataW.agg [D0 i, D1 i]) := by rw [List.map_cons, Rows.uptoBulkAll]
    have e3 : Rows.uptoBulk (D0 i) + Rows.uptoBulk (D1 i) + 1 ≤ Rows.uptoBulk (DataW.agg [D0 i, D1 i]) := by simp only [Rows.uptoBulk, Rows.uptoBulkAll]; omega
    rw [e1, e2, List.length_cons]
    refine ⟨by omega, fun t ht => ?_⟩
    rw [List.map_cons, List.mem_cons] at ht
    rcases ht with e | ht
    · subst e; omega
    · have := h2 t ht; omega

set_option maxRecDepth 100000 in
/-- A slice of texts that came in. -/
theorem open_texts {H : Type} {enc : TypeId × Value → H} {W : World} {base : Nat} {v : Value} {d : DataW H} {p : List MemPlace} (hv : Value.okWide Tryd.prog W .any base 32 v)
    (h : DataW.Trod enc Tryd.prog W 0 (fun _ => true) true 32 v d p) (hk : Rows.uptoBulk d ≤ 1048576) :
    ∃ (a : Option Addr) (c : Nat) (ts : List Tx), v = .slice a ts.length c ∧ TxS W a ts ∧ ts.length ≤ 1048576 ∧ totL ts ≤ 1048576 ∧ ∀ t ∈ ts, t.path.size ≤ 1048576 := by
  obtain ⟨a0, len, cap, rfl⟩ := okWide_slice Tryd.underlying32 hv
  obtain ⟨fuel, hf⟩ := h
  rcases Go.Deep.open_slice_pairs Tryd.underlying32 Tryd.underlying48 (by kernel_rfl) rfl rfl (by kernel_rfl) (by kernel_rfl) hf with ⟨hcs, hx⟩ | ⟨a, len', cap', m, n, V0, V1, D0, D1, P0, P1, hcs, _, hl, hm, hmm, hx, hcell⟩
  · simp [Value.cells] at hcs
    obtain ⟨rfl, rfl, rfl⟩ := hcs
    exact ⟨none, 0, [], rfl, .inl rfl, by simp, by simp [totL], by simp⟩
  · simp [Value.cells] at hcs
    obtain ⟨rfl, rfl, rfl⟩ := hcs
    simp at hmm
    have each : ∀ i, i < len → ∃ t : Tx, V0 i = .string t.path ∧ t.path.size ≤ Rows.uptoBulk (D0 i) ∧ t.lines.length ≤ Rows.uptoBulk (D1 i) ∧ ∃ ad c, V1 i = .slice ad t.lines.length c ∧ Sl W ad (t.lines.map Value.string) := by
      intro i hi
      obtain ⟨_, _, h0, h1⟩ := hcell i (by omega)
      obtain ⟨s, hs, hd, _⟩ := DataW.trod_string Tryd.underlying9 h0
      have hs := (List.cons.inj hs).1
      have hd := congrArg Prod.fst hd
      obtain ⟨ad, c, ss, e1, e2, e3⟩ := strs_trod h1
      exact ⟨⟨s, ss⟩, hs, by rw [show D0 i = _ from hd, bulk_str]; exact Nat.le_succ _, e3, ad, c, e1, e2⟩
    obtain ⟨T, hT⟩ := Go.Deep.choose_lt each
    have hd : d = .slice ((List.range len).map fun i => .agg [D0 i, D1 i]) ((List.range (m - len)).map fun j => .agg [D0 (len + j), D1 (len + j)]) := congrArg Prod.fst hx
    rw [hd] at hk
    simp only [Rows.uptoBulk] at hk
    obtain ⟨k1, k2⟩ := bulk_texts D0 D1 T (List.range len) (fun i hi => ⟨(hT i (List.mem_range.1 hi)).2.1, (hT i (List.mem_range.1 hi)).2.2.1⟩)
    rw [List.length_range] at k1
    refine ⟨some a, cap, (List.range len).map T, by simp, ?_, by simp; omega, by omega, fun t ht => by have := k2 t ht; omega⟩
    by_cases h0 : len = 0
    · subst h0; exact .inl rfl
    · have h1 := (hcell 0 (by omega)).1
      have hsp : a.spot = none := cell_spot (b := a.block) (o := a.off) (by simpa [Addr.add] using h1)
      obtain ⟨b, o, sp⟩ := a
      simp at hsp
      subst hsp
      refine .inr ⟨b, o, rfl, World.block_lt_of_cell? W _ (by simpa [Addr.add_lit] using h1), fun i hi => ?_⟩
      have hi' : i < len := by simpa using hi
      obtain ⟨c0, c1, _, _⟩ := hcell i (by omega)
      obtain ⟨v0, _, _, ad, c, v1, hsl⟩ := hT i hi'
      rw [Addr.add_lit] at c0 c1
      simp only [List.getElem_map, List.getElem_range]
      exact ⟨by rw [c0, v0], ad, c, by rw [Nat.add_assoc, c1, v1], hsl⟩
end Go.Proofs.YtlnifigbnpdemaaDoor
