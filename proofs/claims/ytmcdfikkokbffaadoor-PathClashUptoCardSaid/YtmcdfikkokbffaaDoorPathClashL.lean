/- The plain law of PathClash. No program in sight. -/
import Derived.Test.YtmcdfikkokbffaaDoorPathClashS
import Derived.Test.YtmcdfikkokbffaaDoorPathComS
namespace Go.Proofs.YtmcdfikkokbffaaDoor
namespace PathS
open Go

/-- Two paths that do not clash. -/
def R (x y : ByteArray) : Prop := ¬ cl x y ∧ ¬ cl y x

theorem R_symm {x y : ByteArray} (h : R x y) : R y x := ⟨h.2, h.1⟩

theorem clashA_cases (l : List ByteArray) : (∃ j, ∃ h : j + 1 < l.length, clashA l = (l[j + 1], l[j]) ∧ cl l[j + 1] l[j]) ∨ (clashA l = (ByteArray.empty, ByteArray.empty) ∧ ∀ j (h : j + 1 < l.length), ¬ cl l[j + 1] l[j]) := by
  match l with
  | [] => exact .inr ⟨rfl, fun j h => absurd h (by simp)⟩
  | [a] => exact .inr ⟨rfl, fun j h => absurd h (by simp)⟩
  | a :: b :: r =>
    rw [clashA]
    by_cases e : b = a ∨ under b a = true
    · rw [if_pos e]
      exact .inl ⟨0, by simp, rfl, e⟩
    · rw [if_neg e]
      rcases clashA_cases (b :: r) with ⟨j, h, h1, h2⟩ | ⟨h1, h2⟩
      · exact .inl ⟨j + 1, by simpa using h, h1, h2⟩
      · refine .inr ⟨h1, fun j h => ?_⟩
        match j with
        | 0 => exact e
        | j + 1 => exact h2 j (by simpa using h)

theorem sorted_R (s : List ByteArray) (hs : s.Pairwise le) (hn : ∀ j (h : j + 1 < s.length), ¬ cl s[j + 1] s[j]) : s.Pairwise R := by
  rw [List.pairwise_iff_getElem] at hs ⊢
  intro k i hk hi hki
  have h1 : ¬ cl s[i] s[k] := by
    intro h
    by_cases e : k + 1 = i
    · subst e; exact hn k hi h
    · exact hn k (by omega) (between (hs k (k + 1) hk (by omega) (by omega)) (hs (k + 1) i (by omega) hi (by omega)) h)
  refine ⟨?_, h1⟩
  rintro (h | h)
  · exact h1 (.inl h.symm)
  · have h2 := hs k i hk hi hki
    have h3 := under_after h
    unfold le at h2
    have := cmp_tw.anti s[k] s[i]
    omega

theorem clash_cases (l : List ByteArray) (hv : ∀ s ∈ l, check s = 0) : ((clash l).1 = ByteArray.empty ∧ (clash l).2 = ByteArray.empty ∧ l.Pairwise R) ∨ ((clash l).1.size ≠ 0 ∧ ((clash l).1 ∈ l ∧ (clash l).2 ∈ l) ∧ cl (clash l).1 (clash l).2 ∧ ¬ l.Pairwise R) := by
  have hp := (sorted_perm l).pairwise_iff (R := R) (fun h => R_symm h)
  rcases clashA_cases (sorted l) with ⟨j, h, h1, h2⟩ | ⟨h1, h2⟩
  · right
    rw [clash, h1]
    have m1 : (sorted l)[j + 1] ∈ l := (sorted_perm l).mem_iff.1 (List.getElem_mem _)
    have m2 : (sorted l)[j] ∈ l := (sorted_perm l).mem_iff.1 (List.getElem_mem _)
    refine ⟨?_, ⟨m1, m2⟩, h2, fun hR => ?_⟩
    · have := check_size (hv _ m1); omega
    · exact (List.pairwise_iff_getElem.1 (hp.2 hR) j (j + 1) (by omega) h (by omega)).2 h2
  · left
    rw [clash, h1]
    exact ⟨rfl, rfl, hp.1 (sorted_R _ (sorted_pw l) h2)⟩

theorem not_R {l : List ByteArray} {i k : Nat} (hi : i < l.length) (hk : k < l.length) (hne : i ≠ k) (h : cl l[i] l[k]) : ¬ l.Pairwise R := by
  intro hp
  rw [List.pairwise_iff_getElem] at hp
  rcases Nat.lt_or_gt_of_ne hne with h1 | h1
  · exact (hp i k hi hk h1).1 h
  · exact (hp k i hk hi h1).2 h

theorem all_R {l : List ByteArray} (h : ∀ i (hi : i < l.length) k (hk : k < l.length), i ≠ k → ¬ cl l[i] l[k]) : l.Pairwise R := by
  rw [List.pairwise_iff_getElem]
  intro i k hi hk hik
  exact ⟨h i hi k hk (by omega), h k hk i hi (by omega)⟩

/-- Each path lies in the common folder. -/
theorem com_in (l : List ByteArray) (hv : ∀ s ∈ l, check s = 0) : ∀ p ∈ l, under p (joinB (com l)) = true := by
  intro p hp
  have hl := com_each l p hp
  by_cases h0 : com l = []
  · rw [h0]
    exact under_root p (by have := check_size (hv p hp); omega)
  · exact (under_joinB p _ h0 (all_prefix hl (D_names p (hv p hp)))).2 hl

theorem spl_com (l : List ByteArray) (hv : ∀ s ∈ l, check s = 0) : spl (joinB (com l)) = com l := by
  cases l with
  | nil => rfl
  | cons p0 r =>
    by_cases h0 : com (p0 :: r) = []
    · rw [h0]; rfl
    · exact spl_joinB h0 (all_prefix (com_each _ p0 (by simp)) (D_names p0 (hv p0 (by simp))))

/-- There is no deeper one. -/
theorem com_deep (p0 : ByteArray) (r : List ByteArray) (h : ∀ p ∈ p0 :: r, (com (p0 :: r)).length + 1 < (spl p).length ∧ (spl p)[(com (p0 :: r)).length]? = (spl p0)[(com (p0 :: r)).length]?) : False := by
  have h0 := (h p0 (by simp)).1
  have hz : ∀ p ∈ p0 :: r, com (p0 :: r) ++ [(spl p0)[(com (p0 :: r)).length]] <+: D p := by
    intro p hp
    obtain ⟨h1, h2⟩ := h p hp
    have hpre := com_each (p0 :: r) p hp
    have hlen : (com (p0 :: r)).length < (D p).length := by rw [D, List.length_dropLast]; omega
    have e1 : (D p)[(com (p0 :: r)).length] = (spl p0)[(com (p0 :: r)).length] := by
      rw [List.getElem?_eq_getElem (by omega), List.getElem?_eq_getElem (by omega)] at h2
      simp only [D, List.getElem_dropLast]
      exact Option.some.inj h2
    rw [← e1]
    have e2 : com (p0 :: r) = (D p).take (com (p0 :: r)).length := List.prefix_iff_eq_take.1 hpre
    have e3 := List.take_succ_eq_append_getElem hlen
    have e4 : com (p0 :: r) ++ [(D p)[(com (p0 :: r)).length]] = (D p).take ((com (p0 :: r)).length + 1) := by
      rw [e3]; congr 1
    rw [e4]
    exact List.take_prefix _ _
  have := (com_max _ p0 r hz).length_le
  simp at this
  omega

/-- What is known at the place i, k of the search for two that clash. -/
def AnyP (l : List ByteArray) (any : Bool) (i k : Nat) : Prop :=
  (any = true → ¬ l.Pairwise R) ∧ (any = false → (∀ i' (h : i' < l.length), i' < i → ∀ k' (h' : k' < l.length), i' ≠ k' → ¬ cl l[i'] l[k']) ∧ ∀ (h : i < l.length) k' (h' : k' < l.length), k' < k → i ≠ k' → ¬ cl l[i] l[k'])

theorem anyP_start (l : List ByteArray) : AnyP l false 0 0 :=
  ⟨fun h => (Bool.false_ne_true h).elim, fun _ => ⟨fun i' _ h => absurd h (by omega), fun _ k' _ h => absurd h (by omega)⟩⟩

theorem anyP_next {l : List ByteArray} {any : Bool} {i : Nat} (h : AnyP l any i l.length) : AnyP l any (i + 1) 0 := by
  refine ⟨h.1, fun e => ⟨fun i' hi' hlt k' hk' hne => ?_, fun _ k' _ hk => absurd hk (by omega)⟩⟩
  obtain ⟨h1, h2⟩ := h.2 e
  by_cases e2 : i' = i
  · subst e2; exact h2 hi' k' hk' hk' hne
  · exact h1 i' hi' (by omega) k' hk' hne

theorem anyP_true {l : List ByteArray} {i k : Nat} (h : AnyP l true i k) : AnyP l true i (k + 1) := ⟨h.1, fun e => (Bool.false_ne_true e.symm).elim⟩

theorem anyP_hit {l : List ByteArray} {i k : Nat} (hi : i < l.length) (hk : k < l.length) (hne : i ≠ k) (h : cl l[i] l[k]) : AnyP l true i (k + 1) :=
  ⟨fun _ => not_R hi hk hne h, fun e => (Bool.false_ne_true e.symm).elim⟩

theorem anyP_miss {l : List ByteArray} {i k : Nat} (h : AnyP l false i k) (hm : ∀ (hi : i < l.length) (hk : k < l.length), i ≠ k → ¬ cl l[i] l[k]) : AnyP l false i (k + 1) := by
  refine ⟨h.1, fun _ => ⟨(h.2 rfl).1, fun hi k' hk' hlt hne => ?_⟩⟩
  by_cases e : k' = k
  · subst e; exact hm hi hk' hne
  · exact (h.2 rfl).2 hi k' hk' (by omega) hne

theorem anyP_end {l : List ByteArray} {any : Bool} (h : AnyP l any l.length 0) : (any = true ∧ ¬ l.Pairwise R) ∨ (any = false ∧ l.Pairwise R) := by
  cases any
  · exact .inr ⟨rfl, all_R fun i hi k hk hne => (h.2 rfl).1 i hi hi k hk hne⟩
  · exact .inl ⟨rfl, h.1 rfl⟩

/-- What is known of the paths up to the place k in the search for a deeper folder. -/
def DeepP (l : List ByteArray) (n k : Nat) (deeper : Bool) : Prop :=
  deeper = true → l ≠ [] ∧ ∀ j (h : j < l.length), j < k → n + 1 < (spl l[j]).length ∧ (spl l[j])[n]? = (spl (l.getD 0 ByteArray.empty))[n]?

theorem deep_end {l : List ByteArray} {d : Bool} (h : DeepP l (com l).length l.length d) : d = false := by
  cases d with
  | false => rfl
  | true =>
    obtain ⟨h0, h1⟩ := h rfl
    cases l with
    | nil => exact absurd rfl h0
    | cons p0 r =>
      refine (com_deep p0 r fun p hp => ?_).elim
      obtain ⟨j, hj, rfl⟩ := List.getElem_of_mem hp
      have := h1 j hj hj
      simpa using this

theorem deep_step {l : List ByteArray} {n k : Nat} (hk : k < l.length) (h : DeepP l n k true) (h1 : n + 1 < (spl l[k]).length) (h2 : (spl l[k])[n]? = (spl (l.getD 0 ByteArray.empty))[n]?) : DeepP l n (k + 1) true := by
  intro _
  refine ⟨(h rfl).1, fun j hj hlt => ?_⟩
  by_cases e : j = k
  · subst e; exact ⟨h1, h2⟩
  · exact (h rfl).2 j hj (by omega)

theorem deep_no {l : List ByteArray} {n k : Nat} : DeepP l n k false := fun h => (Bool.false_ne_true h).elim

theorem deep_start {l : List ByteArray} {n : Nat} (h : l ≠ []) : DeepP l n 0 true := fun _ => ⟨h, fun _ _ h => absurd h (by omega)⟩

end PathS
end Go.Proofs.YtmcdfikkokbffaaDoor
