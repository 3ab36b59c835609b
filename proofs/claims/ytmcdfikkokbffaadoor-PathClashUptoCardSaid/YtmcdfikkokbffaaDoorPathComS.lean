/- The deepest common folder of right paths. No program in sight. -/
import Derived.Test.YtmcdfikkokbffaaDoorPathPartsS
namespace Go.Proofs.YtmcdfikkokbffaaDoor
namespace PathS
open Go

/-- The names of the folder in which a path lies. -/
def D (p : ByteArray) : List ByteArray := (spl p).dropLast

def lcp : List ByteArray → List ByteArray → List ByteArray
  | a :: x, b :: y => if a = b then a :: lcp x y else []
  | _, _ => []

theorem lcp_left : ∀ x y, lcp x y <+: x
  | [], _ => by simp [lcp]
  | a :: x, [] => by simp [lcp]
  | a :: x, b :: y => by
    unfold lcp
    split
    · exact (List.prefix_cons_inj a).2 (lcp_left x y)
    · exact List.nil_prefix

theorem lcp_right : ∀ x y, lcp x y <+: y
  | [], _ => by simp [lcp]
  | a :: x, [] => by simp [lcp]
  | a :: x, b :: y => by
    unfold lcp
    split
    · rename_i h; subst h; exact (List.prefix_cons_inj a).2 (lcp_right x y)
    · exact List.nil_prefix

theorem lcp_max : ∀ z x y : List ByteArray, z <+: x → z <+: y → z <+: lcp x y
  | [], _, _, _, _ => List.nil_prefix
  | c :: z, [], _, h, _ => by simp at h
  | c :: z, _ :: _, [], _, h => by simp at h
  | c :: z, a :: x, b :: y, h1, h2 => by
    rw [List.cons_prefix_cons] at h1 h2
    unfold lcp
    rw [if_pos (by rw [← h1.1, ← h2.1]), ← h1.1, List.prefix_cons_inj]
    exact lcp_max z x y h1.2 h2.2

def comF (acc : List ByteArray) (l : List ByteArray) : List ByteArray := l.foldl (fun a p => lcp a (D p)) acc

theorem comF_left : ∀ (l acc : List ByteArray), comF acc l <+: acc
  | [], _ => List.prefix_refl _
  | p :: l, acc => (comF_left l (lcp acc (D p))).trans (lcp_left _ _)

theorem comF_each : ∀ (l acc : List ByteArray), ∀ p ∈ l, comF acc l <+: D p
  | [], _, _, h => by cases h
  | q :: l, acc, p, h => by
    rcases List.mem_cons.1 h with rfl | h
    · exact (comF_left l (lcp acc (D p))).trans (lcp_right _ _)
    · exact comF_each l (lcp acc (D q)) p h

theorem comF_max (z : List ByteArray) : ∀ (l acc : List ByteArray), z <+: acc → (∀ p ∈ l, z <+: D p) → z <+: comF acc l
  | [], _, h, _ => h
  | q :: l, acc, h, h2 => comF_max z l (lcp acc (D q)) (lcp_max _ _ _ h (h2 q (by simp))) (fun p hp => h2 p (by simp [hp]))

def com : List ByteArray → List ByteArray
  | [] => []
  | a :: l => comF (D a) l

theorem com_each (l : List ByteArray) : ∀ p ∈ l, com l <+: D p := by
  cases l with
  | nil => intro p h; cases h
  | cons a l =>
    intro p h
    rcases List.mem_cons.1 h with rfl | h
    · exact comF_left l _
    · exact comF_each l _ p h

theorem com_max (z : List ByteArray) (a : ByteArray) (l : List ByteArray) (h : ∀ p ∈ a :: l, z <+: D p) : z <+: com (a :: l) :=
  comF_max z l _ (h a (by simp)) (fun p hp => h p (by simp [hp]))

theorem spl_parent (p : ByteArray) (h : check p = 0) : spl (parent p) = D p := by
  obtain ⟨h1, h2, h3, h4⟩ := (check_ok p).1 h
  by_cases h5 : 2 ≤ (spl p).length
  · exact parent_spl p h5 h3
  · rw [parent_one p (by omega)]
    have : D p = [] := List.eq_nil_of_length_eq_zero (by rw [D, List.length_dropLast]; omega)
    rw [this]; rfl

theorem D_names (p : ByteArray) (h : check p = 0) : (D p).all name = true := all_dropLast ((check_ok p).1 h).2.2.1

theorem all_prefix {x y : List ByteArray} (h : x <+: y) (hy : y.all name = true) : x.all name = true := by
  rw [List.all_eq_true] at hy ⊢
  intro a ha; exact hy a (h.subset ha)

theorem joinB_nil : joinB [] = ByteArray.empty := rfl

theorem joinB_ne {l : List ByteArray} (h : l ≠ []) (hn : l.all name = true) : (joinB l).size ≠ 0 := by
  intro e
  have h2 := spl_joinB h hn
  rw [spl, if_pos e] at h2
  exact h h2.symm

/-- A path lies under a folder just if the folder's names are the first of its own. -/
theorem under_joinB (p : ByteArray) (B : List ByteArray) (hB : B ≠ []) (hn : B.all name = true) : under p (joinB B) = true ↔ B <+: D p := by
  rw [under_spl, spl_joinB hB hn]
  constructor
  · rintro ⟨R, hR, e⟩
    refine ⟨R.dropLast, ?_⟩
    rw [D, e, List.dropLast_append_of_ne_nil hR]
  · rintro ⟨t, ht⟩
    have hne : spl p ≠ [] := by
      intro e
      rw [D, e] at ht
      simp at ht
      exact hB ht.1
    refine ⟨t ++ [(spl p).getLast hne], by simp, ?_⟩
    rw [← List.append_assoc, ht, D, List.dropLast_concat_getLast]

theorem joinB_parent (B : List ByteArray) (hB : B ≠ []) (hn : B.all name = true) : parent (joinB B) = joinB B.dropLast := by
  by_cases h : 2 ≤ B.length
  · rw [parent_join _ (by rw [spl_joinB hB hn]; exact h), spl_joinB hB hn]
  · rw [parent_one _ (by rw [spl_joinB hB hn]; omega)]
    have : B.dropLast = [] := List.eq_nil_of_length_eq_zero (by rw [List.length_dropLast]; omega)
    rw [this]; rfl

/-- What the program's inner loop reckons. -/
theorem lcp_step : ∀ (j : Nat) (x y : List ByteArray), j ≤ x.length → j ≤ y.length → x.take j = y.take j → lcp x y = x.take j ++ lcp (x.drop j) (y.drop j)
  | 0, _, _, _, _, _ => by simp
  | j + 1, [], _, h, _, _ => by simp at h
  | j + 1, _ :: _, [], _, h, _ => by simp at h
  | j + 1, a :: x, b :: y, h1, h2, h => by
    simp only [List.take_succ_cons, List.cons.injEq] at h
    rw [lcp, if_pos h.1, lcp_step j x y (by simpa using h1) (by simpa using h2) h.2]
    simp

theorem lcp_stop (j : Nat) (x y : List ByteArray) (h1 : j ≤ x.length) (h2 : j ≤ y.length) (h : x.take j = y.take j) (hs : ∀ (a : j < x.length) (b : j < y.length), x[j] ≠ y[j]) : lcp x y = x.take j := by
  rw [lcp_step j x y h1 h2 h]
  have : lcp (x.drop j) (y.drop j) = [] := by
    by_cases a : j < x.length
    · by_cases b : j < y.length
      · rw [List.drop_eq_getElem_cons a, List.drop_eq_getElem_cons b, lcp, if_neg (hs a b)]
      · rw [List.drop_eq_nil_of_le (as := y) (by omega), List.drop_eq_getElem_cons a]; rfl
    · rw [List.drop_eq_nil_of_le (as := x) (by omega)]; rfl
  rw [this, List.append_nil]

theorem parent_lt (p : ByteArray) (h : p.size ≠ 0) : (parent p).size < p.size := by
  rw [parent_last, Lib.size_eq, extract_list, List.drop_zero, List.length_take, ← Lib.size_eq]
  unfold Lib.lastIndexByte
  rcases Lib.lastIdx_spec p 47 p.size with ⟨h1, _⟩ | ⟨i, h1, h2, _⟩
  · rw [h1]; simp; omega
  · rw [h2]; simp; omega

/-- The program's search for the deepest folder: no folder that is too deep holds all; the right one does. -/
theorem com_under (p0 : ByteArray) (r : List ByteArray) (hv : ∀ s ∈ p0 :: r, check s = 0) (m : Nat) (h1 : (com (p0 :: r)).length ≤ m) (h2 : m ≤ (D p0).length) (h0 : m ≠ 0) :
    (∀ p ∈ p0 :: r, under p (joinB ((D p0).take m)) = true) ↔ m = (com (p0 :: r)).length := by
  have hn0 := D_names p0 (hv p0 (by simp))
  have hpre : (D p0).take m <+: D p0 := List.take_prefix _ _
  have hne : (D p0).take m ≠ [] := by intro e; have := congrArg List.length e; rw [List.length_take, List.length_nil] at this; omega
  have hn := all_prefix hpre hn0
  have hlen : ((D p0).take m).length = m := by rw [List.length_take]; omega
  constructor
  · intro h
    have := (com_max ((D p0).take m) p0 r (fun p hp => (under_joinB p _ hne hn).1 (h p hp))).length_le
    omega
  · intro e p hp
    refine (under_joinB p _ hne hn).2 ?_
    have h3 := com_each (p0 :: r) p hp
    have h4 := com_each (p0 :: r) p0 (by simp)
    rwa [show (D p0).take m = com (p0 :: r) from by rw [e]; exact (List.prefix_iff_eq_take.1 h4).symm]

theorem com_take (p0 : ByteArray) (r : List ByteArray) : (D p0).take (com (p0 :: r)).length = com (p0 :: r) := (List.prefix_iff_eq_take.1 (com_each (p0 :: r) p0 (by simp))).symm

theorem joinB_up (p0 : ByteArray) (hv : check p0 = 0) (m : Nat) (h2 : m + 1 ≤ (D p0).length) : parent (joinB ((D p0).take (m + 1))) = joinB ((D p0).take m) := by
  have hne : (D p0).take (m + 1) ≠ [] := by intro e; have := congrArg List.length e; rw [List.length_take, List.length_nil] at this; omega
  rw [joinB_parent _ hne (all_prefix (List.take_prefix _ _) (D_names p0 hv)), List.dropLast_eq_take, List.length_take, List.take_take]
  congr 2; omega

end PathS
end Go.Proofs.YtmcdfikkokbffaaDoor
