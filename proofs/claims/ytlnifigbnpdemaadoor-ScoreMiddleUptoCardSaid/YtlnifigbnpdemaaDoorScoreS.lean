/- The longest common list of two lists: plain. No program in sight. -/
import Derived.Lib.Hide
namespace Go.Proofs.YtlnifigbnpdemaaDoor
namespace ScoreS

variable {β : Type} [DecidableEq β]

/-- How long the longest list is that stands in both. -/
def L : List β → List β → Nat
  | [], _ => 0
  | _ :: _, [] => 0
  | a :: x, b :: y => if a = b then L x y + 1 else max (L x (b :: y)) (L (a :: x) y)
termination_by x y => x.length + y.length

theorem L_nil (y : List β) : L [] y = 0 := by rw [L]
theorem L_nil' (x : List β) : L x [] = 0 := by cases x <;> rw [L]
theorem L_same (a : β) (x y : List β) : L (a :: x) (a :: y) = L x y + 1 := by rw [L, if_pos rfl]
theorem L_other {a b : β} (h : a ≠ b) (x y : List β) : L (a :: x) (b :: y) = max (L x (b :: y)) (L (a :: x) y) := by rw [L, if_neg h]

theorem L_symm : ∀ x y : List β, L x y = L y x
  | [], y => by rw [L_nil, L_nil']
  | a :: x, [] => by rw [L_nil, L_nil']
  | a :: x, b :: y => by
    by_cases h : a = b
    · subst h; rw [L_same, L_same, L_symm x y]
    · rw [L_other h, L_other (fun e => h e.symm), L_symm x (b :: y), L_symm (a :: x) y, Nat.max_comm]
termination_by x y => x.length + y.length

/-- A line more on the one side: at most one more. -/
theorem L_step : ∀ (a : β) (x y : List β), L x y ≤ L (a :: x) y ∧ L (a :: x) y ≤ L x y + 1
  | a, x, [] => by rw [L_nil', L_nil']; omega
  | a, [], b :: y => by
    have := L_step a [] y
    rw [L_nil] at this ⊢
    by_cases h : a = b
    · subst h; rw [L_same, L_nil]; omega
    · rw [L_other h, L_nil]; omega
  | a, c :: x, b :: y => by
    have h1 := L_step a (c :: x) y
    have h2 := L_step c x y
    have h3 := L_step c x (b :: y)
    have h4 : L (c :: x) y ≤ L (c :: x) (b :: y) ∧ L (c :: x) (b :: y) ≤ L (c :: x) y + 1 := by
      rw [L_symm (c :: x) y, L_symm (c :: x) (b :: y)]
      exact L_step b y (c :: x)
    by_cases h : a = b
    · subst h; rw [L_same]; omega
    · rw [L_other h]; omega
termination_by _ x y => x.length + y.length

theorem L_step' (b : β) (x y : List β) : L x y ≤ L x (b :: y) ∧ L x (b :: y) ≤ L x y + 1 := by
  rw [L_symm x y, L_symm x (b :: y)]; exact L_step b y x

/-- The table that asks all three ways. -/
theorem L_three (a b : β) (x y : List β) : L (a :: x) (b :: y) = if a = b then max (max (L x (b :: y)) (L (a :: x) y)) (L x y + 1) else max (L x (b :: y)) (L (a :: x) y) := by
  by_cases h : a = b
  · subst h
    have h1 := L_step a x y
    have h2 := L_step' a x y
    rw [if_pos rfl, L_same]; omega
  · rw [if_neg h, L_other h]

theorem L_le : ∀ x y : List β, L x y ≤ x.length
  | [], y => by rw [L_nil]; exact Nat.zero_le _
  | a :: x, y => Nat.le_trans (L_step a x y).2 (by simpa using L_le x y)

theorem L_le' (x y : List β) : L x y ≤ y.length := by rw [L_symm]; exact L_le y x

theorem L_self : ∀ x : List β, L x x = x.length
  | [] => L_nil _
  | a :: x => by rw [L_same, L_self x]; rfl

/-- All of both stands in both only if they are the same. -/
theorem L_full : ∀ x y : List β, L x y = x.length → x.length = y.length → x = y
  | [], y, _, h => (List.eq_nil_of_length_eq_zero (by simpa using h.symm)).symm
  | a :: x, [], _, h => by simp at h
  | a :: x, b :: y, h1, h2 => by
    simp only [List.length_cons] at h1 h2
    by_cases h : a = b
    · subst h
      rw [L_same] at h1
      rw [L_full x y (by omega) (by omega)]
    · rw [L_other h] at h1
      have h3 := L_le x (b :: y)
      have h4 := L_le' (a :: x) y
      omega

theorem L_twice (x y : List β) : 2 * L x y ≤ x.length + y.length := by
  have := L_le x y; have := L_le' x y; omega

theorem L_twice_iff (x y : List β) : 2 * L x y = x.length + y.length ↔ x = y := by
  constructor
  · intro h
    have h1 := L_le x y; have h2 := L_le' x y
    exact L_full x y (by omega) (by omega)
  · rintro rfl
    rw [L_self]; omega

/-- The places of a longest common list, from the places i, k on. -/
def P (i k : Nat) : List β → List β → List (Nat × Nat)
  | [], _ => []
  | _ :: _, [] => []
  | a :: x, b :: y => if a = b then (i, k) :: P (i + 1) (k + 1) x y else if L (a :: x) y ≤ L x (b :: y) then P (i + 1) k x (b :: y) else P i (k + 1) (a :: x) y
termination_by x y => x.length + y.length

theorem P_length : ∀ (i k : Nat) (x y : List β), (P i k x y).length = L x y
  | i, k, [], y => by rw [P, L_nil]; rfl
  | i, k, a :: x, [] => by rw [P, L_nil']; rfl
  | i, k, a :: x, b :: y => by
    rw [P]
    by_cases h : a = b
    · rw [if_pos h, List.length_cons, P_length]; subst h; rw [L_same]
    · rw [if_neg h, L_other h]
      by_cases h2 : L (a :: x) y ≤ L x (b :: y)
      · rw [if_pos h2, P_length]; omega
      · rw [if_neg h2, P_length]; omega
termination_by _ _ x y => x.length + y.length

/-- The reference's test is the program's. -/
theorem turn_iff {a b : β} (h : a ≠ b) (x y : List β) : L x (b :: y) = L (a :: x) (b :: y) ↔ L (a :: x) y ≤ L x (b :: y) := by
  rw [L_other h]; omega

end ScoreS
end Go.Proofs.YtlnifigbnpdemaaDoor
