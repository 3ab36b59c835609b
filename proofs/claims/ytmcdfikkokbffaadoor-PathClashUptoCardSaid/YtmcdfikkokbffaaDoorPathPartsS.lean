/- Right paths are their names put together. No program in sight. -/
import Derived.Test.YtmcdfikkokbffaaDoorPathJoin
namespace Go.Proofs.YtmcdfikkokbffaaDoor
namespace PathS
open Go

theorem getD_at' (l : List ByteArray) (k : Nat) (h : k < l.length) : l.getD k ByteArray.empty = l[k] := by rw [List.getD_eq_getElem?_getD, List.getElem?_eq_getElem h]; rfl

def joinB (l : List ByteArray) : ByteArray := joinTo l l.length

theorem joinB_data (l : List ByteArray) : (joinB l).data.toList = joinL (l.map fun b => b.data.toList) := by
  rw [joinB, joinTo_data _ _ (Nat.le_refl _), List.take_length]

theorem pieces_join : ∀ (xs : List (List UInt8)), xs ≠ [] → (∀ x ∈ xs, 47 ∉ x) → piecesA [] (joinL xs) = xs
  | [], h, _ => absurd rfl h
  | [a], _, h => by rw [joinL, piecesA_none _ _ (h a (by simp))]; rfl
  | a :: b :: l, _, h => by
    rw [joinL, piecesA_cut _ _ _ (h a (by simp)), pieces_join (b :: l) (by simp) (fun x hx => h x (List.mem_cons_of_mem _ hx))]; rfl

theorem name_parts {s : ByteArray} (h : name s = true) : 47 ∉ s.data.toList ∧ s.size ≠ 0 := by
  unfold name nameL at h
  simp only [Bool.and_eq_true, bne_iff_ne, ne_eq, List.all_eq_true] at h
  obtain ⟨⟨⟨⟨h1, _⟩, _⟩, _⟩, h2⟩ := h
  refine ⟨fun hm => ?_, fun e => h1 (List.eq_nil_of_length_eq_zero (by rw [← Lib.size_eq]; exact e))⟩
  have := h2 47 hm
  revert this; decide

theorem spl_joinB {l : List ByteArray} (h : l ≠ []) (hn : l.all name = true) : spl (joinB l) = l := by
  have hn := List.all_eq_true.1 hn
  have hp := pieces_join (l.map fun b => b.data.toList) (by simpa using h) (by
    intro x hx
    obtain ⟨b, hb, rfl⟩ := List.mem_map.1 hx
    exact (name_parts (hn b hb)).1)
  have hs : (joinB l).size ≠ 0 := by
    intro e
    have h0 : (joinB l).data.toList = [] := List.eq_nil_of_length_eq_zero (by rw [← Lib.size_eq]; exact e)
    rw [← joinB_data, h0] at hp
    obtain ⟨b, r, rfl⟩ := List.exists_cons_of_ne_nil h
    simp [piecesA] at hp
    exact (name_parts (hn b (by simp))).2 (by rw [Lib.size_eq, hp.1]; rfl)
  rw [spl, if_neg hs, pcs, joinB_data, hp, List.map_map]
  have e : (mkB ∘ fun b : ByteArray => b.data.toList) = id := funext mkB_data
  rw [e, List.map_id]

theorem check_ok (s : ByteArray) : check s = 0 ↔ s.size ≤ 255 ∧ (spl s).length ≤ 16 ∧ (spl s).all name = true ∧ (spl s).length ≠ 0 := by
  unfold check
  rw [split_spl]
  constructor
  · intro h
    split at h
    · omega
    · split at h
      · split at h
        · omega
        · exact ⟨by omega, by omega, by assumption, by assumption⟩
      · omega
  · rintro ⟨h1, h2, h3, h4⟩
    rw [if_neg (by omega), if_pos h3, if_neg h4]

theorem check_join {l : List ByteArray} (h : l ≠ []) (hn : l.all name = true) (h16 : l.length ≤ 16) (h255 : (joinB l).size ≤ 255) : check (joinB l) = 0 := by
  rw [check_ok, spl_joinB h hn]
  exact ⟨h255, h16, hn, fun e => h (List.eq_nil_of_length_eq_zero e)⟩

theorem join_spl (p : ByteArray) : joinB (spl p) = p := by
  apply ba_ext
  rw [joinB_data, spl_map, List.map_map]
  have e : ((fun b : ByteArray => b.data.toList) ∘ mkB) = id := funext data_mkB
  rw [e, List.map_id, joinL_pl]

theorem parent_join (p : ByteArray) (h : 2 ≤ (spl p).length) : parent p = joinB (spl p).dropLast := by
  unfold parent joinB
  rw [split_spl, if_neg (by omega), List.length_dropLast]

theorem all_dropLast {l : List ByteArray} (h : l.all name = true) : l.dropLast.all name = true := by
  rw [List.all_eq_true] at h ⊢
  intro x hx; exact h x (List.dropLast_subset _ hx)

theorem parent_spl (p : ByteArray) (h : 2 ≤ (spl p).length) (hn : (spl p).all name = true) : spl (parent p) = (spl p).dropLast := by
  rw [parent_join p h, spl_joinB (by intro e; have := congrArg List.length e; simp at this; omega) (all_dropLast hn)]

theorem parent_size (p : ByteArray) : (parent p).size ≤ p.size := by
  rw [parent_last, Lib.size_eq, extract_list, Lib.size_eq]
  simp
  omega

theorem parent_check (p : ByteArray) (h : 2 ≤ (spl p).length) (hc : check p = 0) : check (parent p) = 0 := by
  obtain ⟨h1, h2, h3, h4⟩ := (check_ok p).1 hc
  rw [check_ok, parent_spl p h h3, List.length_dropLast]
  have := parent_size p
  exact ⟨by omega, by omega, all_dropLast h3, by omega⟩

theorem parent_under (p : ByteArray) (h : 2 ≤ (spl p).length) (hc : check p = 0) : under p (parent p) = true := by
  obtain ⟨h1, h2, h3, h4⟩ := (check_ok p).1 hc
  refine (under_spl _ _).2 ⟨[(spl p).getLast (by intro e; rw [e] at h; simp at h)], by simp, ?_⟩
  rw [parent_spl p h h3, List.dropLast_concat_getLast]

theorem joinB_snoc (l : List ByteArray) (x : ByteArray) (h : l ≠ []) : joinB (l ++ [x]) = joinB l ++ ⟨#[47]⟩ ++ x := by
  apply ba_ext
  rw [joinB_data, List.map_append, joinL_append _ _ (by simpa using h) (by simp), ← joinB_data]
  simp [joinL]

theorem parent_whole (p : ByteArray) (h : 2 ≤ (spl p).length) : parent p ++ ⟨#[47]⟩ ++ (spl p).getD ((spl p).length - 1) ByteArray.empty = p := by
  have hne : spl p ≠ [] := by intro e; rw [e] at h; simp at h
  have hg : (spl p).getD ((spl p).length - 1) ByteArray.empty = (spl p).getLast hne := by
    rw [List.getD_eq_getElem?_getD, List.getElem?_eq_getElem (by omega), List.getLast_eq_getElem]; rfl
  rw [hg, parent_join p h, ← joinB_snoc _ _ (by intro e; have := congrArg List.length e; simp at this; omega), List.dropLast_concat_getLast, join_spl]

theorem under_root (p : ByteArray) (h : p.size ≠ 0) : under p ByteArray.empty = true := by
  have : ByteArray.empty.size = 0 := rfl
  simp [under, h]

theorem check_size {p : ByteArray} (h : check p = 0) : p.size ≠ 0 := by
  intro e
  have := ((check_ok p).1 h).2.2.2
  apply this
  simp [spl, e]

theorem parent_one (p : ByteArray) (h : (spl p).length < 2) : parent p = ByteArray.empty := by
  unfold parent
  rw [split_spl, if_pos h]

end PathS
end Go.Proofs.YtmcdfikkokbffaaDoor
