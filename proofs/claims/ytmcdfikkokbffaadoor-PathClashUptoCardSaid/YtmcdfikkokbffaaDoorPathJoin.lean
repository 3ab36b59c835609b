/- Names put together, parents. No program in sight. -/
import Derived.Test.YtmcdfikkokbffaaDoorPathOrd
import Derived.Lib.Join
import Derived.Lib.LastIndexByte
namespace Go.Proofs.YtmcdfikkokbffaaDoor
namespace PathS
open Go

theorem joinTo_data (l : List ByteArray) : ∀ k, k ≤ l.length → (joinTo l k).data.toList = joinL ((l.take k).map fun b => b.data.toList)
  | 0, _ => by simp [joinTo, joinL]
  | k + 1, h => by
    have ih := joinTo_data l k (by omega)
    have hd : l.getD k ByteArray.empty = l[k] := by rw [List.getD_eq_getElem?_getD, List.getElem?_eq_getElem (by omega)]; rfl
    rw [joinTo, hd, List.take_succ_eq_append_getElem (by omega), List.map_append]
    by_cases h0 : 0 < k
    · rw [if_pos h0, joinL_append _ _ (by simp; exact ⟨by omega, fun e => by subst e; simp at h⟩) (by simp), ← ih]
      simp [joinL]
    · have : k = 0 := by omega
      subst this
      simp [joinTo, joinL]

theorem join_joinL : ∀ xs : List (List UInt8), Lib.join xs [47] = joinL xs
  | [] => rfl
  | [a] => by simp [Lib.join, List.intercalate, joinL]
  | a :: b :: l => by
    have := join_joinL (b :: l)
    simp only [Lib.join, List.intercalate, List.intersperse, joinL] at this ⊢
    rw [← this]
    cases l <;> simp [List.intersperse]

theorem getBang (s : ByteArray) (i : Nat) (h : i < s.size) : s.data[i]! = s.data.toList[i]'(by simpa using h) := by
  rw [getElem!_pos s.data i (by simpa using h)]; simp

theorem parent_last (p : ByteArray) : parent p = p.extract 0 (Lib.lastIndexByte p 47).toNat := by
  unfold parent
  rw [split_spl]
  apply ba_ext
  rw [extract_list, List.drop_zero]
  unfold Lib.lastIndexByte
  rcases Lib.lastIdx_spec p 47 p.size with ⟨h1, h2⟩ | ⟨i, h0, h1, h2, h3⟩
  · rw [h1]
    have hn : 47 ∉ p.data.toList := by
      intro hm
      obtain ⟨j, hj, e⟩ := List.getElem_of_mem hm
      have hj' : j < p.size := by simpa using hj
      apply h2 j hj'
      rw [getBang p j hj', e]; rfl
    have hl : (spl p).length < 2 := by
      unfold spl
      split
      · simp
      · rw [pcs, piecesA_none _ _ hn]; simp
    rw [if_pos hl]; rfl
  · rw [h1]
    have hg : p.data.toList[i]'(by simpa using h0) = 47 := by
      rw [getBang p i h0] at h2
      exact UInt8.toNat_inj.1 (by have : ((47 : UInt8).toNat : Int) = 47 := rfl; omega)
    have hp : p.data.toList = p.data.toList.take i ++ 47 :: p.data.toList.drop (i + 1) := by
      conv => lhs; rw [← List.take_append_drop i p.data.toList, List.drop_eq_getElem_cons (by simpa using h0), hg]
    have hr : 47 ∉ p.data.toList.drop (i + 1) := by
      intro hm
      obtain ⟨j, hj, e⟩ := List.getElem_of_mem hm
      rw [List.length_drop] at hj
      have hj' : i + 1 + j < p.size := by rw [Lib.size_eq]; omega
      apply h3 (i + 1 + j) (by omega) hj'
      rw [List.getElem_drop] at e
      rw [getBang p _ hj', e]; rfl
    have hsz : ¬ p.size = 0 := by omega
    have hpl : pl p = piecesA [] (p.data.toList.take i) ++ [p.data.toList.drop (i + 1)] := by
      rw [pl, if_neg hsz]
      conv => lhs; rw [hp]
      rw [piecesA_append, piecesA_none _ _ hr]; rfl
    have hlen : ¬ (spl p).length < 2 := by
      rw [spl_map, hpl]
      obtain ⟨a, r, e⟩ := List.exists_cons_of_ne_nil (piecesA_ne [] (p.data.toList.take i))
      rw [e]; simp
    rw [if_neg hlen, joinTo_data _ _ (by simp), List.take_of_length_le (by simp), spl_map, hpl]
    simp only [List.map_append, List.map_cons, List.map_nil, List.dropLast_concat, List.map_map]
    have e2 : ((fun b : ByteArray => b.data.toList) ∘ mkB) = id := funext data_mkB
    rw [e2, List.map_id, joinL_piecesA]
    simp

end PathS
end Go.Proofs.YtmcdfikkokbffaaDoor
