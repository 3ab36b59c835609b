/- The order of paths in plain Lean. No program in sight. -/
import Derived.Test.YtlnifigbnpdemaaDoorPathPlain
namespace Go.Proofs.YtlnifigbnpdemaaDoor
namespace PathS
open Go

/-- A three-way comparing that is an order. -/
structure Tw {α : Type} (f : α → α → Int) : Prop where
  rng : ∀ a b, f a b = -1 ∨ f a b = 0 ∨ f a b = 1
  eq0 : ∀ a b, f a b = 0 ↔ a = b
  anti : ∀ a b, f b a = -f a b
  tr : ∀ a b c, f a b < 0 → f b c < 0 → f a c < 0

theorem Tw.le {α : Type} {f : α → α → Int} (h : Tw f) (a b c : α) (h1 : f a b ≤ 0) (h2 : f b c ≤ 0) : f a c ≤ 0 := by
  by_cases e1 : f a b = 0
  · rw [(h.eq0 a b).1 e1]; exact h2
  · by_cases e2 : f b c = 0
    · rw [← (h.eq0 b c).1 e2]; exact h1
    · have := h.tr a b c (by omega) (by omega); omega

theorem lt_irrefl8 (a : List UInt8) : ¬ a < a := List.lt_irrefl a

theorem cmpB_tw : Tw cmpB where
  rng a b := by unfold cmpB; split; exact .inl rfl; split; exact .inr (.inl rfl); exact .inr (.inr rfl)
  eq0 a b := by
    unfold cmpB
    constructor
    · intro h
      split at h
      · cases h
      · split at h
        · exact ba_ext ‹_›
        · cases h
    · intro h; subst h; rw [if_neg (List.lt_irrefl _), if_pos rfl]
  anti a b := by
    unfold cmpB
    by_cases h1 : a.data.toList < b.data.toList
    · rw [if_pos h1, if_neg (List.lt_asymm h1), if_neg]
      · rfl
      · intro e; rw [e] at h1; exact List.lt_irrefl _ h1
    · by_cases h2 : a.data.toList = b.data.toList
      · rw [h2, if_neg (List.lt_irrefl _), if_pos rfl]; rfl
      · have h3 : b.data.toList < a.data.toList := by
          by_cases h3 : b.data.toList < a.data.toList
          · exact h3
          · exact absurd (List.le_antisymm (List.not_lt.1 h3) (List.not_lt.1 h1)) h2
        rw [if_pos h3, if_neg h1, if_neg h2]
  tr a b c := by
    unfold cmpB
    intro h1 h2
    have e1 : a.data.toList < b.data.toList := by
      by_cases h : a.data.toList < b.data.toList
      · exact h
      · rw [if_neg h] at h1; split at h1 <;> omega
    have e2 : b.data.toList < c.data.toList := by
      by_cases h : b.data.toList < c.data.toList
      · exact h
      · rw [if_neg h] at h2; split at h2 <;> omega
    rw [if_pos (List.lt_trans e1 e2)]; omega

theorem cmpL_rng : ∀ x y, cmpL x y = -1 ∨ cmpL x y = 0 ∨ cmpL x y = 1
  | [], [] => .inr (.inl rfl)
  | [], _ :: _ => .inl rfl
  | _ :: _, [] => .inr (.inr rfl)
  | a :: x, b :: y => by
    unfold cmpL
    split
    · exact cmpL_rng x y
    · exact cmpB_tw.rng a b

theorem cmpL_eq0 : ∀ x y, cmpL x y = 0 ↔ x = y
  | [], [] => by simp [cmpL]
  | [], _ :: _ => by simp [cmpL]
  | _ :: _, [] => by simp [cmpL]
  | a :: x, b :: y => by
    unfold cmpL
    split
    · rename_i h
      rw [cmpL_eq0 x y, (cmpB_tw.eq0 a b).1 h]; simp
    · rename_i h
      constructor
      · intro e; exact absurd e h
      · intro e; injection e with e1 e2; exact absurd ((cmpB_tw.eq0 a b).2 e1) h

theorem cmpL_anti : ∀ x y, cmpL y x = -cmpL x y
  | [], [] => rfl
  | [], _ :: _ => rfl
  | _ :: _, [] => rfl
  | a :: x, b :: y => by
    unfold cmpL
    have h := cmpB_tw.anti a b
    by_cases h0 : cmpB a b = 0
    · rw [if_pos h0, if_pos (by omega), cmpL_anti x y]
    · rw [if_neg h0, if_neg (by omega), h]

theorem cmpL_tr : ∀ x y z, cmpL x y < 0 → cmpL y z < 0 → cmpL x z < 0
  | [], [], z => by intro h; simp [cmpL] at h
  | _ :: _, [], z => by intro h; simp [cmpL] at h
  | x, _ :: _, [] => by intro _ h; simp [cmpL] at h
  | [], _ :: _, _ :: _ => by intro _ _; simp [cmpL]
  | a :: x, b :: y, c :: z => by
    unfold cmpL
    intro h1 h2
    by_cases e1 : cmpB a b = 0
    · rw [if_pos e1] at h1
      have := (cmpB_tw.eq0 a b).1 e1
      subst this
      by_cases e2 : cmpB a c = 0
      · rw [if_pos e2] at h2 ⊢
        exact cmpL_tr x y z h1 h2
      · rw [if_neg e2] at h2 ⊢
        exact h2
    · rw [if_neg e1] at h1
      by_cases e2 : cmpB b c = 0
      · have := (cmpB_tw.eq0 b c).1 e2
        subst this
        rw [if_neg e1]; exact h1
      · rw [if_neg e2] at h2
        have := cmpB_tw.tr a b c h1 h2
        rw [if_neg (by omega)]; exact this

theorem cmpL_tw : Tw cmpL := ⟨cmpL_rng, cmpL_eq0, cmpL_anti, cmpL_tr⟩

/-- Pieces put together again. -/
def joinL : List (List UInt8) → List UInt8
  | [] => []
  | [a] => a
  | a :: b :: l => a ++ 47 :: joinL (b :: l)

theorem piecesA_ne (cur l : List UInt8) : piecesA cur l ≠ [] := by
  induction l generalizing cur with
  | nil => simp [piecesA]
  | cons c l ih => unfold piecesA; split; simp; exact ih _

theorem joinL_piecesA : ∀ (l cur : List UInt8), joinL (piecesA cur l) = cur ++ l
  | [], cur => by simp [piecesA, joinL]
  | c :: l, cur => by
    unfold piecesA
    split
    · rename_i h
      subst h
      obtain ⟨b, r, hb⟩ := List.exists_cons_of_ne_nil (piecesA_ne [] l)
      have := joinL_piecesA l []
      rw [hb] at this ⊢
      rw [joinL, this]; simp
    · rw [joinL_piecesA l _]; simp

theorem joinL_append : ∀ (a b : List (List UInt8)), a ≠ [] → b ≠ [] → joinL (a ++ b) = joinL a ++ 47 :: joinL b
  | [], _, h, _ => absurd rfl h
  | [x], b, _, h => by
    obtain ⟨c, r, rfl⟩ := List.exists_cons_of_ne_nil h
    simp [joinL]
  | x :: y :: l, b, _, h => by
    have := joinL_append (y :: l) b (by simp) h
    simp only [List.cons_append, joinL] at this ⊢
    rw [this]; simp

theorem piecesA_append : ∀ (f r cur : List UInt8), piecesA cur (f ++ 47 :: r) = piecesA cur f ++ piecesA [] r
  | [], r, cur => by simp [piecesA]
  | c :: f, r, cur => by
    simp only [List.cons_append, piecesA]
    split
    · rw [piecesA_append f r []]; simp
    · exact piecesA_append f r _

def pl (s : ByteArray) : List (List UInt8) := if s.size = 0 then [] else piecesA [] s.data.toList

theorem spl_map (s : ByteArray) : spl s = (pl s).map mkB := by unfold spl pl; split <;> simp [pcs]

theorem joinL_pl (s : ByteArray) : joinL (pl s) = s.data.toList := by
  unfold pl
  split
  · rename_i h
    rw [List.eq_nil_of_length_eq_zero (l := s.data.toList) (by rw [← Lib.size_eq]; exact h)]; rfl
  · rw [joinL_piecesA]; rfl

theorem mkB_inj {a b : List UInt8} (h : mkB a = mkB b) : a = b := by rw [← data_mkB a, ← data_mkB b, h]

theorem pl_inj {a b : ByteArray} (h : pl a = pl b) : a = b := ba_ext (by rw [← joinL_pl a, ← joinL_pl b, h])

theorem spl_inj {a b : ByteArray} (h : spl a = spl b) : a = b := by
  rw [spl_map, spl_map] at h
  exact pl_inj (List.map_inj_right (fun _ _ e => mkB_inj e) |>.1 h)

theorem cmp_eq (a b : ByteArray) : cmp a b = cmpL (spl a) (spl b) := by rw [cmp, split_spl, split_spl]

theorem cmp_tw : Tw cmp where
  rng a b := by rw [cmp_eq]; exact cmpL_rng _ _
  eq0 a b := by
    rw [cmp_eq, cmpL_eq0]
    exact ⟨spl_inj, fun h => by rw [h]⟩
  anti a b := by rw [cmp_eq, cmp_eq]; exact cmpL_anti _ _
  tr a b c := by rw [cmp_eq, cmp_eq, cmp_eq]; exact cmpL_tr _ _ _

/-- What lies under a folder that isn't empty: its pieces go on. -/
theorem under_spl (p f : ByteArray) : under p f = true ↔ ∃ R, R ≠ [] ∧ spl p = spl f ++ R := by
  unfold under
  by_cases hf : f.size = 0
  · rw [if_pos hf]
    have hs : spl f = [] := by simp [spl, hf]
    rw [hs]
    by_cases hp : p.size = 0
    · have hs2 : spl p = [] := by simp [spl, hp]
      rw [hs2]
      simp [hp]
    · simp only [ne_eq, hp, not_false_eq_true, decide_true, true_iff, List.nil_append]
      exact ⟨spl p, by unfold spl; rw [if_neg hp]; simp [pcs, piecesA_ne], rfl⟩
  · rw [if_neg hf]
    have hpf : pl f = piecesA [] f.data.toList := by simp [pl, hf]
    rw [List.isPrefixOf_iff_prefix]
    constructor
    · rintro ⟨r, hr⟩
      have hr : f.data.toList ++ 47 :: r = p.data.toList := by rw [← hr]; simp
      have hp : ¬ p.size = 0 := by rw [Lib.size_eq, ← hr]; simp
      refine ⟨(piecesA [] r).map mkB, by simp [piecesA_ne], ?_⟩
      rw [spl_map, spl_map, hpf, pl, if_neg hp, ← hr, piecesA_append, List.map_append]
    · rintro ⟨R, hR, h⟩
      rw [spl_map, spl_map] at h
      have h2 : pl p = pl f ++ R.map (fun b => b.data.toList) := by
        have := congrArg (List.map (fun b : ByteArray => b.data.toList)) h
        simpa [List.map_map, Function.comp_def, data_mkB] using this
      have h3 := congrArg joinL h2
      rw [joinL_pl, joinL_append _ _ (by rw [hpf]; exact piecesA_ne _ _) (by simpa using hR), joinL_pl] at h3
      exact ⟨joinL (R.map (fun b => b.data.toList)), by rw [h3]; simp⟩

theorem cmpL_longer : ∀ (A R : List ByteArray), R ≠ [] → cmpL (A ++ R) A = 1
  | [], R, h => by obtain ⟨a, r, rfl⟩ := List.exists_cons_of_ne_nil h; rfl
  | a :: A, R, h => by
    simp only [List.cons_append, cmpL]
    rw [if_pos ((cmpB_tw.eq0 a a).2 rfl)]
    exact cmpL_longer A R h

theorem under_cmp {p f : ByteArray} (h : under p f = true) : cmp p f = 1 := by
  obtain ⟨R, hR, e⟩ := (under_spl p f).1 h
  rw [cmp_eq, e]; exact cmpL_longer _ _ hR

theorem cmpL_beyond : ∀ (B C : List ByteArray), cmpL B C = -1 → (∃ R, R ≠ [] ∧ C = B ++ R) ∨ ∀ r, cmpL (B ++ r) C = -1
  | [], [], h => by simp [cmpL] at h
  | [], c :: C, _ => .inl ⟨c :: C, by simp, rfl⟩
  | _ :: _, [], h => by simp [cmpL] at h
  | b :: B, c :: C, h => by
    unfold cmpL at h
    by_cases e : cmpB b c = 0
    · rw [if_pos e] at h
      have := (cmpB_tw.eq0 b c).1 e
      subst this
      rcases cmpL_beyond B C h with ⟨R, hR, rfl⟩ | h2
      · exact .inl ⟨R, hR, rfl⟩
      · refine .inr fun r => ?_
        simp only [List.cons_append, cmpL]
        rw [if_pos e]; exact h2 r
    · rw [if_neg e] at h
      refine .inr fun r => ?_
      simp only [List.cons_append, cmpL]
      rw [if_neg e]; exact h

/-- The last line of the law. -/
theorem order_last (a b c : ByteArray) (h1 : under a b = true) (h2 : under c b = false) (h3 : cmp b c < 0) : cmp a c < 0 := by
  obtain ⟨R, hR, e⟩ := (under_spl a b).1 h1
  rw [cmp_eq] at h3 ⊢
  have h3' : cmpL (spl b) (spl c) = -1 := by rcases cmpL_rng (spl b) (spl c) with h | h | h <;> omega
  rcases cmpL_beyond _ _ h3' with ⟨R', hR', e'⟩ | h
  · have := (under_spl c b).2 ⟨R', hR', e'⟩
    rw [this] at h2; cases h2
  · rw [e, h]; omega

end PathS
end Go.Proofs.YtlnifigbnpdemaaDoor
