/- The order of moves is one; lists of moves as cells. -/
import Derived.Test.YtlnifigbnpdemaaDoorScoreSort
namespace Go.Proofs.YtlnifigbnpdemaaDoor
open Go Go.RowKit Go.Sort

theorem fkey_inj {x y : Nat} (hx : cn x < 18446744073709551616) (hy : cn y < 18446744073709551616) (h : fkey x = fkey y) : cn x = cn y := by
  unfold fkey at h
  split at h <;> split at h <;> omega

theorem mb_ext {x y : Mb} (h : x.val = y.val) : x = y := by cases x; cases y; simp at h; subst h; rfl

theorem mv_ext {x y : Mv} (h1 : x.src = y.src) (h2 : x.dst = y.dst) (h3 : x.sc = y.sc) : x = y := by cases x; cases y; simp at *; exact ⟨h1, h2, h3⟩

theorem orI_lt3 (p q : Nat) (r t : Int) : orI [if p < q then -1 else if q < p then 1 else 0, r, t] < 0 ↔ p < q ∨ (p = q ∧ (r < 0 ∨ (r = 0 ∧ t < 0))) := by
  simp only [orI]
  rcases Nat.lt_trichotomy p q with h | h | h
  · simp only [if_pos h]
    rw [if_neg (by decide)]
    constructor
    · intro e; omega
    · intro e; omega
  · subst h; simp
    split <;> (try split) <;> omega
  · simp only [if_neg (show ¬ p < q by omega), if_pos h]
    rw [if_neg (by decide)]
    constructor
    · intro e; omega
    · intro e; omega

theorem ordI_lt {x y : Mv} : ordI x y < 0 ↔ fkey y.sc < fkey x.sc ∨ (fkey y.sc = fkey x.sc ∧ (PathS.cmp x.src y.src < 0 ∨ (PathS.cmp x.src y.src = 0 ∧ PathS.cmp x.dst y.dst < 0))) :=
  orI_lt3 _ _ _ _

theorem ordB_anti (x y : Mb) (h : ordB x y < 0) : ¬ ordB y x < 0 := by
  unfold ordB at *
  rw [ordI_lt] at *
  have a1 := PathS.cmp_tw.anti x.val.src y.val.src
  have a2 := PathS.cmp_tw.anti x.val.dst y.val.dst
  omega

theorem ordB_tr (x y z : Mb) (h1 : ordB x y < 0) (h2 : ordB y z < 0) : ordB x z < 0 := by
  unfold ordB at *
  rw [ordI_lt] at *
  rcases h1 with h1 | ⟨e1, h1⟩
  · left; rcases h2 with h2 | ⟨e2, _⟩ <;> omega
  · rcases h2 with h2 | ⟨e2, h2⟩
    · left; omega
    · right
      refine ⟨by omega, ?_⟩
      rcases h1 with h1 | ⟨s1, h1⟩
      · left
        rcases h2 with h2 | ⟨s2, _⟩
        · exact PathS.cmp_tw.tr _ _ _ h1 h2
        · rw [← (PathS.cmp_tw.eq0 _ _).1 s2]; exact h1
      · rw [(PathS.cmp_tw.eq0 _ _).1 s1]
        rcases h2 with h2 | ⟨s2, h2⟩
        · exact .inl h2
        · exact .inr ⟨s2, PathS.cmp_tw.tr _ _ _ h1 h2⟩

theorem ordB_tot (x y : Mb) (h1 : ¬ ordB x y < 0) (h2 : ¬ ordB y x < 0) : x = y := by
  unfold ordB at *
  rw [ordI_lt] at h1 h2
  have a1 := PathS.cmp_tw.anti x.val.src y.val.src
  have a2 := PathS.cmp_tw.anti x.val.dst y.val.dst
  have k : fkey x.val.sc = fkey y.val.sc := by omega
  have e1 : PathS.cmp x.val.src y.val.src = 0 := by omega
  have e2 : PathS.cmp x.val.dst y.val.dst = 0 := by omega
  have e3 := fkey_inj (cn_lt x.ok3) (cn_lt y.ok3) k
  rw [x.ok4, y.ok4] at e3
  exact mb_ext (mv_ext ((PathS.cmp_tw.eq0 _ _).1 e1) ((PathS.cmp_tw.eq0 _ _).1 e2) e3)

theorem swoB : SWO (ltOf ordB) where
  irrefl x := by
    cases h : ltOf ordB x x
    · rfl
    · have h := of_decide_eq_true h
      exact absurd h (ordB_anti x x h)
  trans x y z h1 h2 := decide_eq_true (ordB_tr x y z (of_decide_eq_true h1) (of_decide_eq_true h2))
  ntrans x y z h1 h2 := by
    have h1 := of_decide_eq_false h1
    have h2 := of_decide_eq_false h2
    refine decide_eq_false fun h3 => ?_
    by_cases e : ordB y x < 0
    · exact h2 (ordB_tr y x z e h3)
    · have := ordB_tot x y h1 e
      subst this
      exact h2 h3

/-- Moves as cells. -/
def mrow (l : List Mv) : List Value := l.flatMap encM

theorem mrow_len (l : List Mv) : (mrow l).length = l.length * 3 := by
  induction l with
  | nil => rfl
  | cons x l ih => rw [mrow, List.flatMap_cons, List.length_append, show (encM x).length = 3 from rfl, show (l.flatMap encM).length = _ from ih, List.length_cons]; omega

theorem mrow_at (l : List Mv) (j : Nat) (hj : j < l.length * 3) : (mrow l)[j]? = some ((encM (l[j / 3]'(by omega)))[j % 3]'(by show j % 3 < 3; omega)) := by
  induction l generalizing j with
  | nil => simp at hj
  | cons x l ih =>
    rw [mrow, List.flatMap_cons]
    by_cases h : j < 3
    · rw [List.getElem?_append_left (by exact h)]
      have e1 : j / 3 = 0 := by omega
      have e2 : j % 3 = j := by omega
      simp only [e1, e2, List.getElem_cons_zero]
      exact List.getElem?_eq_getElem _
    · rw [List.getElem?_append_right (by show 3 ≤ j; omega)]
      have h3 := ih (j - 3) (by simp at hj; omega)
      rw [show j - (encM x).length = j - 3 from rfl]
      rw [show l.flatMap encM = mrow l from rfl, h3]
      have e1 : j / 3 = (j - 3) / 3 + 1 := by omega
      have e2 : j % 3 = (j - 3) % 3 := by omega
      simp only [e1, e2, List.getElem_cons_succ]
end Go.Proofs.YtlnifigbnpdemaaDoor
