/- The reference's picking: the best one first, what touches it is dropped. -/
import Derived.Test.YtlnifigbnpdemaaDoorScoreOn
namespace Go.Proofs.YtlnifigbnpdemaaDoor
open Go Go.RowKit Go.Sort

theorem ordI_tr (x y z : Mv) (h1 : ordI x y < 0) (h2 : ordI y z < 0) : ordI x z < 0 := by
  rw [ordI_lt] at *
  rcases h1 with h1 | ⟨e1, h1⟩
  · left; rcases h2 with h2 | ⟨e2, _⟩ <;> omega
  · rcases h2 with h2 | ⟨e2, h2⟩
    · left; omega
    · right
      refine ⟨by omega, ?_⟩
      rcases h1 with h1 | ⟨s1, h1⟩
      · left
        rcases h2 with h2 | ⟨s2, _⟩
        · exact PathS.cmp_tw.tr _ _ _ h1 h2
        · rw [← (PathS.cmp_tw.eq0 _ _).1 s2]; exact h1
      · rw [(PathS.cmp_tw.eq0 _ _).1 s1]
        rcases h2 with h2 | ⟨s2, h2⟩
        · exact .inl h2
        · exact .inr ⟨s2, PathS.cmp_tw.tr _ _ _ h1 h2⟩

theorem ordI_irr (x : Mv) : ¬ ordI x x < 0 := by
  rw [ordI_lt]
  have a1 := PathS.cmp_tw.anti x.src x.src
  have a2 := PathS.cmp_tw.anti x.dst x.dst
  omega

theorem ordI_tot (x y : Mv) (hx : okM x) (hy : okM y) (h1 : ¬ ordI x y < 0) (h2 : ¬ ordI y x < 0) : x = y := by
  have := ordB_tot ⟨x, hx.1, hx.2.1, hx.2.2.1, hx.2.2.2⟩ ⟨y, hy.1, hy.2.1, hy.2.2.1, hy.2.2.2⟩ h1 h2
  injection this

/-- Of the first j the one at b is the best. -/
def Best (l : List Mv) (j b : Nat) : Prop := b < j ∧ ∃ hb : b < l.length, ∀ i (hi : i < l.length), i < j → ¬ ordI l[i] l[b] < 0

theorem Best.one {l : List Mv} (h : 0 < l.length) : Best l 1 0 := by
  refine ⟨by omega, h, fun i hi hj => ?_⟩
  obtain rfl : i = 0 := by omega
  exact ordI_irr _

theorem Best.up {l : List Mv} {j b : Nat} (h : Best l j b) (hj : j < l.length) (hlt : ordI l[j] (l[b]'h.2.1) < 0) : Best l (j + 1) j := by
  obtain ⟨h1, hb, h2⟩ := h
  refine ⟨by omega, hj, fun i hi hij hc => ?_⟩
  rcases Nat.lt_or_ge i j with e | e
  · exact h2 i hi e (ordI_tr _ _ _ hc hlt)
  · obtain rfl : i = j := by omega
    exact ordI_irr _ hc

theorem Best.keep {l : List Mv} {j b : Nat} (h : Best l j b) (hj : j < l.length) (hlt : ¬ ordI l[j] (l[b]'h.2.1) < 0) : Best l (j + 1) b := by
  obtain ⟨h1, hb, h2⟩ := h
  refine ⟨by omega, hb, fun i hi hij => ?_⟩
  rcases Nat.lt_or_ge i j with e | e
  · exact h2 i hi e
  · obtain rfl : i = j := by omega
    exact hlt

theorem Best.done {l : List Mv} {b : Nat} (h : Best l l.length b) : ∀ x ∈ l, ¬ ordI x (l[b]'h.2.1) < 0 := by
  intro x hx
  obtain ⟨i, hi, rfl⟩ := List.getElem_of_mem hx
  exact h.2.2 i hi hi

/-- What is kept beside a taken one. -/
def offB (m x : Mv) : Bool := !decide (x.src = m.src) && !decide (x.dst = m.dst)

theorem used_one (m x : Mv) : used [m] x = !offB m x := by
  simp [used, offB, eq_comm]

theorem grd_filter (m : Mv) : ∀ (t out : List Mv), used out = used out → (∀ x, offB m x = false → used out x = true) → grd out t = grd out (t.filter (offB m))
  | [], _, _, _ => rfl
  | x :: t, out, _, h => by
    cases hx : offB m x
    · rw [List.filter_cons_of_neg (by rw [hx]; decide), grd, if_pos (h x hx)]
      exact grd_filter m t out rfl h
    · rw [List.filter_cons_of_pos hx, grd, grd]
      split
      · exact grd_filter m t out rfl h
      · exact grd_filter m t (out ++ [x]) rfl fun y hy => by rw [used_append, h y hy]; rfl

/-- What remains to be picked from leads to R. -/
def Rem (R all out : List Mv) : Prop := ∃ l : List Mv, l.Perm all ∧ l.Pairwise (fun x y => ¬ ordI y x < 0) ∧ (∀ x ∈ all, used out x = false) ∧ grd out l = R ∧ ∀ x ∈ all, okM x

theorem Rem.step {R all out : List Mv} (h : Rem R all out) {m : Mv} (hm : m ∈ all) (hmin : ∀ x ∈ all, ¬ ordI x m < 0) : Rem R (all.filter (offB m)) (out ++ [m]) := by
  obtain ⟨l, hp, hs, hu, hg, hok⟩ := h
  cases l with
  | nil => exact absurd (hp.mem_iff.2 hm) (by simp)
  | cons a t =>
    have ha : a ∈ all := hp.mem_iff.1 (by simp)
    rw [List.pairwise_cons] at hs
    have e : a = m := by
      rcases List.mem_cons.1 (hp.mem_iff.2 hm) with e | e
      · exact e.symm
      · exact ordI_tot a m (hok a ha) (hok m hm) (hmin a ha) (hs.1 m e)
    subst e
    have hf : (a :: t).filter (offB a) = t.filter (offB a) := List.filter_cons_of_neg (by simp [offB])
    refine ⟨t.filter (offB a), ?_, hs.2.sublist List.filter_sublist, fun x hx => ?_, ?_, fun x hx => hok x (List.mem_filter.1 hx).1⟩
    · rw [← hf]; exact hp.filter _
    · obtain ⟨h1, h2⟩ := List.mem_filter.1 hx
      rw [used_append, hu x h1, used_one, h2]; rfl
    · rw [← hg, grd, if_neg (by rw [hu a ha]; decide), grd_filter a t (out ++ [a]) rfl]
      intro x hx
      rw [used_append, used_one, hx]; simp

theorem Rem.done {R out : List Mv} (h : Rem R [] out) : out = R := by
  obtain ⟨l, hp, _, _, hg, _⟩ := h
  have : l = [] := List.Perm.eq_nil hp
  subst this
  exact hg

theorem Rem.start {l' all : List Mv} (hp : l'.Perm all) (hs : l'.Pairwise (fun x y => ¬ ordI y x < 0)) (hok : ∀ x ∈ all, okM x) : Rem (grd [] l') all [] :=
  ⟨l', hp, hs, fun _ _ => rfl, rfl, hok⟩

theorem off_less {all : List Mv} {m : Mv} (hm : m ∈ all) : (all.filter (offB m)).length < all.length := by
  rw [List.length_filter_lt_length_iff_exists]
  exact ⟨m, hm, by simp [offB]⟩

theorem off_take (m : Mv) (all : List Mv) (k : Nat) (hk : k < all.length) : (all.take (k + 1)).filter (offB m) = (all.take k).filter (offB m) ++ (if offB m all[k] then [all[k]] else []) := by
  rw [List.take_succ_eq_append_getElem hk, List.filter_append]
  congr 1
  cases h : offB m all[k]
  · rw [List.filter_cons_of_neg (by rw [h]; decide)]; rfl
  · rw [List.filter_cons_of_pos h]; rfl
end Go.Proofs.YtlnifigbnpdemaaDoor
