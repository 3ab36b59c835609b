/- The table of the longest common lists as a row of numbers: plain. -/
import Derived.Test.YtlnifigbnpdemaaDoorScoreS
namespace Go.Proofs.YtlnifigbnpdemaaDoor
namespace ScoreS

variable {β : Type} [DecidableEq β]

/-- The place in the row is the place in the table. -/
theorem place_inj {wd i k i' k' : Nat} (h1 : k < wd) (h2 : k' < wd) (h : i * wd + k = i' * wd + k') : i = i' ∧ k = k' := by
  have e1 : (i * wd + k) / wd = i := by rw [Nat.mul_comm, Nat.mul_add_div (by omega), Nat.div_eq_of_lt h1]; rfl
  have e2 : (i' * wd + k') / wd = i' := by rw [Nat.mul_comm, Nat.mul_add_div (by omega), Nat.div_eq_of_lt h2]; rfl
  have e3 : i = i' := by rw [← e1, ← e2, h]
  subst e3
  exact ⟨rfl, by omega⟩

theorem place_lt {m n i k : Nat} (h1 : i ≤ m) (h2 : k ≤ n) : i * (n + 1) + k < (m + 1) * (n + 1) := by
  have : i * (n + 1) ≤ m * (n + 1) := Nat.mul_le_mul_right _ h1
  rw [Nat.add_mul, Nat.one_mul]; omega

/-- What the table holds when the rows from i + 1 on, and of row i the places from k on, are filled: i, k: the next to be filled is (i, k - 1). -/
def Done (a b : List β) (i k : Nat) (f : Nat → Nat) : Prop :=
  ∀ i' k', i' ≤ a.length → k' ≤ b.length → (i < i' ∨ (i' = i ∧ k ≤ k') ∨ i' = a.length ∨ k' = b.length) → f (i' * (b.length + 1) + k') = L (a.drop i') (b.drop k')

theorem done_start (a b : List β) : Done a b a.length 0 fun _ => 0 := by
  intro i' k' h1 h2 h
  rcases h with h | ⟨h, _⟩ | h | h
  · omega
  · rw [h, List.drop_length, L_nil]
  · rw [h, List.drop_length, L_nil]
  · rw [h, List.drop_length, L_nil']

theorem done_row {a b : List β} {i : Nat} {f : Nat → Nat} (h : Done a b (i + 1) 0 f) : Done a b i b.length f := by
  intro i' k' h1 h2 h3
  refine h i' k' h1 h2 ?_
  omega

theorem done_set {a b : List β} {i k : Nat} {f : Nat → Nat} (hi : i < a.length) (hk : k < b.length) (h : Done a b i (k + 1) f) (v : Nat) (hv : v = L (a.drop i) (b.drop k)) :
    Done a b i k fun x => if x = i * (b.length + 1) + k then v else f x := by
  intro i' k' h1 h2 h3
  by_cases e : i' * (b.length + 1) + k' = i * (b.length + 1) + k
  · obtain ⟨rfl, rfl⟩ := place_inj (by omega) (by omega) e
    show (if _ then _ else _) = _
    rw [if_pos rfl, hv]
  · show (if _ then _ else _) = _
    rw [if_neg e]
    refine h i' k' h1 h2 ?_
    rcases h3 with h3 | ⟨rfl, h3⟩ | h3 | h3
    · exact .inl h3
    · have : k' ≠ k := fun e2 => e (by rw [e2])
      exact .inr (.inl ⟨rfl, by omega⟩)
    · exact .inr (.inr (.inl h3))
    · exact .inr (.inr (.inr h3))

/-- The three neighbours, and what is put. -/
theorem done_next {a b : List β} {i k : Nat} {f : Nat → Nat} (hi : i < a.length) (hk : k < b.length) (h : Done a b i (k + 1) f) :
    f ((i + 1) * (b.length + 1) + k) = L (a.drop (i + 1)) (b.drop k) ∧ f (i * (b.length + 1) + (k + 1)) = L (a.drop i) (b.drop (k + 1)) ∧ f ((i + 1) * (b.length + 1) + (k + 1)) = L (a.drop (i + 1)) (b.drop (k + 1)) :=
  ⟨h _ _ (by omega) (by omega) (.inl (by omega)), h _ _ (by omega) (by omega) (.inr (.inl ⟨rfl, by omega⟩)), h _ _ (by omega) (by omega) (.inl (by omega))⟩

theorem L_at {a b : List β} {i k : Nat} (hi : i < a.length) (hk : k < b.length) :
    L (a.drop i) (b.drop k) = if a[i] = b[k] then L (a.drop (i + 1)) (b.drop (k + 1)) + 1 else max (L (a.drop (i + 1)) (b.drop k)) (L (a.drop i) (b.drop (k + 1))) := by
  rw [List.drop_eq_getElem_cons hi, List.drop_eq_getElem_cons hk, L]

theorem L_at3 {a b : List β} {i k : Nat} (hi : i < a.length) (hk : k < b.length) :
    L (a.drop i) (b.drop k) = if a[i] = b[k] then max (max (L (a.drop (i + 1)) (b.drop k)) (L (a.drop i) (b.drop (k + 1)))) (L (a.drop (i + 1)) (b.drop (k + 1)) + 1) else max (L (a.drop (i + 1)) (b.drop k)) (L (a.drop i) (b.drop (k + 1))) := by
  rw [List.drop_eq_getElem_cons hi, List.drop_eq_getElem_cons hk, L_three]

theorem P_at {a b : List β} {i k : Nat} (hi : i < a.length) (hk : k < b.length) :
    P i k (a.drop i) (b.drop k) = if a[i] = b[k] then (i, k) :: P (i + 1) (k + 1) (a.drop (i + 1)) (b.drop (k + 1)) else if L (a.drop i) (b.drop (k + 1)) ≤ L (a.drop (i + 1)) (b.drop k) then P (i + 1) k (a.drop (i + 1)) (b.drop k) else P i (k + 1) (a.drop i) (b.drop (k + 1)) := by
  rw [List.drop_eq_getElem_cons hi, List.drop_eq_getElem_cons hk, P]

end ScoreS
end Go.Proofs.YtlnifigbnpdemaaDoor
