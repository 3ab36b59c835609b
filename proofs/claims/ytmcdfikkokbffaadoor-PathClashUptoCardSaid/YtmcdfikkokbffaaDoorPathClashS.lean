/- Clashes of paths, and the deepest common folder. No program in sight. -/
import Derived.Test.YtmcdfikkokbffaaDoorPathSortSpec
import Derived.Test.YtmcdfikkokbffaaDoorPathPartsS
namespace Go.Proofs.YtmcdfikkokbffaaDoor
namespace PathS
open Go

/-- Is x the path y, or does it lie under it? -/
def cl (x y : ByteArray) : Prop := x = y ∨ under x y = true

def clashA : List ByteArray → ByteArray × ByteArray
  | [] => (ByteArray.empty, ByteArray.empty)
  | [_] => (ByteArray.empty, ByteArray.empty)
  | a :: b :: r => if b = a ∨ under b a = true then (b, a) else clashA (b :: r)

theorem clashA_skip (l : List ByteArray) : ∀ k, k < l.length → (∀ j (h : j + 1 < l.length), j < k → ¬ cl (l[j + 1]'h) (l[j]'(by omega))) → clashA l = clashA (l.drop k)
  | 0, _, _ => rfl
  | k + 1, hk, h => by
    rw [clashA_skip l k (by omega) (fun j hj hjk => h j hj (by omega))]
    rw [List.drop_eq_getElem_cons (show k < l.length by omega), List.drop_eq_getElem_cons hk, clashA]
    exact if_neg (h k hk (by omega))

theorem clashA_none (l : List ByteArray) (h : ∀ j (h : j + 1 < l.length), ¬ cl (l[j + 1]'h) (l[j]'(by omega))) : clashA l = (ByteArray.empty, ByteArray.empty) := by
  by_cases h0 : l.length = 0
  · rw [List.eq_nil_of_length_eq_zero h0]; rfl
  · rw [clashA_skip l (l.length - 1) (by omega) (fun j hj _ => h j hj), List.drop_eq_getElem_cons (show l.length - 1 < l.length by omega), List.drop_eq_nil_of_le (by omega)]
    rfl

theorem clashA_hit (l : List ByteArray) (i : Nat) (hi : i + 1 < l.length) (h : ∀ j (hj : j + 1 < l.length), j < i → ¬ cl (l[j + 1]'hj) (l[j]'(by omega))) (hc : cl (l[i + 1]'hi) (l[i]'(by omega))) : clashA l = (l[i + 1]'hi, l[i]'(by omega)) := by
  rw [clashA_skip l i (by omega) h, List.drop_eq_getElem_cons (show i < l.length by omega), List.drop_eq_getElem_cons hi, clashA]
  exact if_pos hc

theorem le_antisymm {a b : ByteArray} (h1 : le a b) (h2 : le b a) : a = b := by
  unfold le at h1 h2
  have := cmp_tw.anti a b
  exact (cmp_tw.eq0 a b).1 (by omega)

/-- What lies between a path and one that clashes with it clashes with it, too. -/
theorem between {a m c : ByteArray} (h1 : le a m) (h2 : le m c) (h : cl c a) : cl m a := by
  rcases h with rfl | h
  · exact .inl (le_antisymm h2 h1)
  · by_cases e : m = a
    · exact .inl e
    · right
      cases hu : under m a
      · have h3 : cmp a m < 0 := by
          rcases cmp_tw.rng a m with h | h | h
          · omega
          · exact absurd ((cmp_tw.eq0 a m).1 h).symm e
          · unfold le at h1; omega
        have h4 := order_last c a m h hu h3
        unfold le at h2
        have := cmp_tw.anti c m
        omega
      · rfl

/-- The first place of a sorted list that clashes with one ahead clashes with the one just ahead. -/
theorem first_just (l : List ByteArray) (hs : l.Pairwise le) (i k : Nat) (hi : i < l.length) (hk : k < i) (hc : cl (l[i]'hi) (l[k]'(by omega)))
    (h : ∀ i' (hi' : i' < l.length), i' < i → ∀ k' (hk' : k' < i'), ¬ cl (l[i']'hi') (l[k']'(by omega))) : k + 1 = i := by
  by_cases e : k + 1 = i
  · exact e
  · exfalso
    have hp := List.pairwise_iff_getElem.1 hs
    exact h (k + 1) (by omega) (by omega) k (by omega) (between (hp k (k + 1) (by omega) (by omega) (by omega)) (hp (k + 1) i (by omega) hi (by omega)) hc)

theorem ins_perm (x : ByteArray) (out : List ByteArray) : (ins x out).Perm (x :: out) := by
  unfold ins
  generalize insPos x out out.length = p
  have h : (x :: out).Perm (x :: (out.take p ++ out.drop p)) := by rw [List.take_append_drop]
  refine List.Perm.trans ?_ h.symm
  rw [List.append_assoc, List.singleton_append]
  exact List.perm_middle

theorem sortTo_perm (l : List ByteArray) : ∀ k, k ≤ l.length → (sortTo l k).Perm (l.take k)
  | 0, _ => by simp [sortTo]
  | k + 1, h => by
    have hd : l.getD k ByteArray.empty = l[k] := getD_at l k (by omega)
    have ht : l.take (k + 1) = l.take k ++ [l[k]] := List.take_succ_eq_append_getElem (by omega)
    rw [sortTo, hd, ht]
    refine (ins_perm _ _).trans ?_
    refine List.Perm.trans ((sortTo_perm l k (by omega)).cons _) ?_
    exact (List.perm_append_singleton _ _).symm

def sorted (l : List ByteArray) : List ByteArray := sortTo l l.length

theorem sorted_perm (l : List ByteArray) : (sorted l).Perm l := by
  have := sortTo_perm l l.length (Nat.le_refl _)
  rwa [List.take_length] at this

theorem sorted_pw (l : List ByteArray) : (sorted l).Pairwise le := sortTo_sorted l l.length

/-- Whatever is a permutation, and in order, is the same list. -/
theorem sorted_one {l m : List ByteArray} (hp : m.Perm l) (hs : m.Pairwise le) : m = sorted l :=
  List.Perm.eq_of_pairwise (fun _ _ _ _ h1 h2 => le_antisymm h1 h2) hs (sorted_pw l) (hp.trans (sorted_perm l).symm)

theorem sorted_length (l : List ByteArray) : (sorted l).length = l.length := sortTo_length l l.length

def clash (l : List ByteArray) : ByteArray × ByteArray := clashA (sorted l)

end PathS
end Go.Proofs.YtmcdfikkokbffaaDoor
