/- Texts of mine, joined: Of graphs: a node more changes nothing of the others; what is lacking makes the whole. No program in sight. | The laws' graph, in plain Lean: of two nodes that come from two the bases are both. | Small laws for walks: readable slices, owned rows, one-element appends; each holds of every program. -/
import Derived.WalkKit
import Derived.WalkSpells
import Derived.WalkLawsBesides
import Derived.Lib.Hide
import Derived.Deep.AppendLies
import Derived.Deep.Onto
import Derived.Lib.Strings
import Derived.Sort.Grow
import Derived.Deep.Draws
import Derived.Test.YtoeoablmcelohaaZ1
namespace Go.Proofs.Ytoeoablmcelohaa
namespace DagS
theorem filterMap_eq {α β : Type} {f f' : α → Option β} : ∀ {l : List α}, (∀ x ∈ l, f x = f' x) → l.filterMap f = l.filterMap f'
  | [], _ => rfl
  | x :: l, h => by rw [List.filterMap_cons, List.filterMap_cons, h x (.head _), filterMap_eq fun y hy => h y (.tail _ hy)]
section
open Classical
variable {g : List Nd} {z : Nd} {a b c x y : ByteArray} {l : List ByteArray} {i j : Nat}
theorem find_more (h : a ≠ z.name) : find (g ++ [z]) a = find g a := by
  rw [find_append, if_neg (fun e => h e.symm)]
  cases find g a <;> rfl
theorem Wf.par_more (h : Wf g) (hi : i < g.length) : par (g ++ [z]) i = par g i := by
  unfold par
  rw [pars_append_lt hi]
  refine filterMap_eq fun s hs => ?_
  obtain ⟨k, _, e⟩ := h.back i s hs
  rw [e, find_append_some e]
theorem Wf.fr_more (h : Wf g) (hi : i < g.length) : Fr (g ++ [z]) i j ↔ Fr g i j := by
  constructor
  · intro hf
    revert hi
    induction hf with
    | refl => exact fun _ => .refl _
    | step a b _ ih =>
      intro hi
      rw [h.par_more hi] at b
      exact .step a b (ih (Nat.lt_trans (h.par_lt _ _ b) hi))
  · intro hf
    revert hi
    induction hf with
    | refl => exact fun _ => .refl _
    | step a b _ ih =>
      intro hi
      have hlt := Nat.lt_trans (h.par_lt _ _ b) hi
      rw [← h.par_more (z := z) hi] at b
      exact .step a b (ih hlt)
theorem Wf.comes_more (h : Wf g) (hz : find g z.name = none) (ha : a ≠ z.name) : Comes (g ++ [z]) a b ↔ Comes g a b := by
  unfold Comes
  constructor
  · rintro ⟨i, j, e1, e2, hf⟩
    rw [find_more ha] at e1
    have hi := find_lt e1
    have hf := (h.fr_more hi).1 hf
    have hj := h.fr_le hf
    have hb : b ≠ z.name := fun e => by
      rw [e, find_append, hz, if_pos rfl] at e2
      injection e2 with e2
      omega
    rw [find_more hb] at e2
    exact ⟨i, j, e1, e2, hf⟩
  · rintro ⟨i, j, e1, e2, hf⟩
    exact ⟨i, j, find_append_some e1, find_append_some e2, (h.fr_more (find_lt e1)).2 hf⟩
theorem Wf.tips_more (h : Wf g) (hz : find g z.name = none) (hl : ∀ s ∈ l, s ≠ z.name) : tipsL (g ++ [z]) l = tipsL g l := by
  refine srt_ext (tips_srt _ _) (tips_srt _ _) fun x => ?_
  rw [mem_tips, mem_tips]
  unfold Tip
  constructor
  · rintro ⟨h1, h2, h3⟩
    exact ⟨h1, by rwa [find_more (hl x h1)] at h2, fun y hy => (h3 y hy).imp id fun hn hc => hn ((h.comes_more hz (hl y hy)).2 hc)⟩
  · rintro ⟨h1, h2, h3⟩
    exact ⟨h1, by rwa [find_more (hl x h1)], fun y hy => (h3 y hy).imp id fun hn hc => hn ((h.comes_more hz (hl y hy)).1 hc)⟩
theorem Wf.bases_more (h : Wf g) (h' : Wf (g ++ [z])) (hz : find g z.name = none) (ha : a ≠ z.name) (hb : b ≠ z.name) : basesL (g ++ [z]) a b = basesL g a b := by
  have hm : ∀ x, x ∈ bothL (g ++ [z]) a b ↔ x ∈ bothL g a b := fun x => by rw [h'.mem_both, h.mem_both, h.comes_more hz ha, h.comes_more hz hb]
  unfold basesL
  rw [← h.tips_more hz (l := bothL g a b)]
  · exact tips_ext fun x => Tip.congr hm
  · intro s hs e
    exact (h.mem_both.1 hs).1.right (e ▸ hz)
theorem Wf.anc_more (h : Wf g) (hl : ∀ s ∈ l, s ≠ z.name) : ancS (g ++ [z]) l i ↔ ancS g l i := by
  rw [anc_iff, anc_iff]
  constructor
  · rintro ⟨s, hs, k, e, hf⟩
    rw [find_more (hl s hs)] at e
    exact ⟨s, hs, k, e, (h.fr_more (find_lt e)).1 hf⟩
  · rintro ⟨s, hs, k, e, hf⟩
    exact ⟨s, hs, k, find_append_some e, (h.fr_more (find_lt e)).2 hf⟩
theorem upto_more {n : Nat} {P Q : Nat → Prop} (h : ∀ i, P i ↔ Q i) (hn : ∀ i, Q i → i < n) : upto (n + 1) P = upto n Q := by
  have h1 := upto_asc (n + 1) P
  have h2 := upto_asc n Q
  have h3 := desc_ext (a := (upto (n + 1) P).reverse) (b := (upto n Q).reverse) (by rw [List.pairwise_reverse]; exact h1) (by rw [List.pairwise_reverse]; exact h2) fun i => by
    rw [List.mem_reverse, List.mem_reverse, mem_upto, mem_upto, h i]
    exact ⟨fun hh => ⟨hn i hh.2, hh.2⟩, fun hh => ⟨by omega, hh.2⟩⟩
  rw [← List.reverse_reverse (upto (n + 1) P), h3, List.reverse_reverse]
theorem Wf.miss_more (h : Wf g) {k l : List ByteArray} (hk : ∀ s ∈ k, s ≠ z.name) (hl : ∀ s ∈ l, s ≠ z.name) : missL (g ++ [z]) k l = missL g k l := by
  unfold missL
  rw [List.length_append, List.length_singleton, upto_more (n := g.length) (Q := fun i => ancS g k i ∧ ¬ ancS g l i) (fun i => by rw [h.anc_more hk, h.anc_more hl]) (fun i hi => h.anc_lt hi.1)]
  exact List.map_congr_left fun i hi => nm_append_lt (mem_upto.1 hi).1
/-- A node that was taken. -/
theorem add_ok {s : ByteArray} {l : List ByteArray} (h : (add g s l).2 = 0) : find g s = none ∧ (∀ p ∈ l, find g p ≠ none) ∧ (add g s l).1 = g ++ [⟨s, withA [] l⟩] := by
  unfold add at h ⊢
  split at h
  · cases h
  · rename_i h1
    split at h
    · cases h
    · rename_i h2
      split at h
      · cases h
      · rename_i h3
        refine ⟨by cases e : find g s with | none => rfl | some k => rw [e] at h1; exact absurd rfl h1, fun p hp e => h2 ⟨p, hp, e⟩, ?_⟩
        rw [if_neg h1, if_neg h2, if_neg h3]
theorem add_no {s : ByteArray} {l : List ByteArray} (h : (add g s l).2 ≠ 0) (hg : g.length < 65536) : find g s ≠ none ∨ l ≠ [] := by
  unfold add at h
  split at h
  · rename_i h1
    exact .inl fun e => by rw [e] at h1; cases h1
  · split at h
    · rename_i h2
      obtain ⟨p, hp, _⟩ := h2
      exact .inr fun e => by rw [e] at hp; cases hp
    · rw [if_neg (by omega)] at h
      exact absurd rfl h
/-- It comes from its parents, none of them from it. -/
theorem Wf.new_comes (h : Wf g) {s p : ByteArray} {l : List ByteArray} (hs : find g s = none) (hp : p ∈ l) (hf : find g p ≠ none) :
    Comes (g ++ [⟨s, withA [] l⟩]) s p ∧ ¬ Comes (g ++ [⟨s, withA [] l⟩]) p s := by
  cases e : find g p with
  | none => exact absurd e hf
  | some j =>
    have hne : p ≠ s := fun e2 => hf (e2 ▸ hs)
    have e1 : find (g ++ [⟨s, withA [] l⟩]) s = some g.length := by rw [find_append, hs, if_pos rfl]; rfl
    refine ⟨⟨g.length, j, e1, find_append_some e, .step rfl ?_ (.refl _)⟩, fun hc => ?_⟩
    · unfold par
      rw [pars_append_eq]
      exact List.mem_filterMap.2 ⟨p, (withA_mem l [] p).2 (.inr hp), find_append_some e⟩
    · have := ((h.comes_more (z := ⟨s, withA [] l⟩) hs (a := p) hne).1 hc).right
      exact this hs

/-- The parents of one that is lacking: they are had, or lacking and ahead of it. -/
theorem Wf.miss_pars (h : Wf g) {want have' : List ByteArray} {A B : List ByteArray} {n p : ByteArray} (hm : missL g want have' = A ++ n :: B) (hp : p ∈ parsL g n) : p ∈ ancL g have' ∨ p ∈ A := by
  have hn : n ∈ missL g want have' := by rw [hm]; exact List.mem_append.2 (.inr (.head _))
  obtain ⟨⟨s, hs, hc⟩, h2⟩ := h.mem_miss.1 hn
  by_cases hk : p ∈ ancL g have'
  · exact .inl hk
  · refine .inr ?_
    have hcp : Comes g n p := by
      unfold parsL at hp
      cases e : find g n with
      | none => rw [e] at hp; cases hp
      | some i =>
        rw [e] at hp
        obtain ⟨j, hj, e2⟩ := h.back i p hp
        exact ⟨i, j, e, e2, .step rfl (List.mem_filterMap.2 ⟨p, hp, e2⟩) (.refl _)⟩
    have hne : n ≠ p := fun e => by
      subst e
      unfold parsL at hp
      cases e : find g n with
      | none => rw [e] at hp; cases hp
      | some i =>
        rw [e] at hp
        obtain ⟨j, hj, e2⟩ := h.back i n hp
        rw [e] at e2; injection e2 with e2; omega
    have hpm : p ∈ missL g want have' := h.mem_miss.2 ⟨⟨s, hs, hc.trans hcp⟩, fun hh => hk (h.mem_anc.2 hh)⟩
    -- the places stand in order
    rw [hm] at hpm
    rcases List.mem_append.1 hpm with h5 | h5
    · exact h5
    · rcases List.mem_cons.1 h5 with e | h5
      · exact absurd e.symm hne
      · exfalso
        obtain ⟨i, j, e1, e2, hf⟩ := hcp
        have hle := h.fr_le hf
        unfold missL at hm
        obtain ⟨A', B', e3, rfl, e4⟩ := List.map_eq_append_iff.1 hm
        obtain ⟨n', B'', rfl, e5, rfl⟩ := List.map_eq_cons_iff.1 e4
        obtain ⟨p', hp', e6⟩ := List.mem_map.1 h5
        have hasc := upto_asc g.length fun i => ancS g want i ∧ ¬ ancS g have' i
        have hin := fun k => (mem_upto (n := g.length) (P := fun i => ancS g want i ∧ ¬ ancS g have' i) (i := k)).1
        rw [e3] at hasc hin
        have h7 := (List.pairwise_cons.1 (List.pairwise_append.1 hasc).2.1).1 p' hp'
        have h8 := (hin n' (List.mem_append.2 (.inr (.head _)))).1
        have h9 := (hin p' (List.mem_append.2 (.inr (.tail _ hp')))).1
        have f1 := h.dist.find h8
        have f2 := h.dist.find h9
        rw [e5, e1] at f1
        rw [e6, e2] at f2
        injection f1 with f1
        injection f2 with f2
        omega
theorem Wf.miss_new (h : Wf g) {want have' : List ByteArray} {A B : List ByteArray} {n : ByteArray} (hm : missL g want have' = A ++ n :: B) : n ∉ ancL g have' ∧ n ∉ A := by
  have hn : n ∈ missL g want have' := by rw [hm]; exact List.mem_append.2 (.inr (.head _))
  refine ⟨fun hh => (h.mem_miss.1 hn).2 (h.mem_anc.1 hh), fun hA => ?_⟩
  unfold missL at hm
  obtain ⟨A', B', e3, rfl, e4⟩ := List.map_eq_append_iff.1 hm
  obtain ⟨n', B'', rfl, e5, rfl⟩ := List.map_eq_cons_iff.1 e4
  obtain ⟨p', hp', e6⟩ := List.mem_map.1 hA
  have hasc := upto_asc g.length fun i => ancS g want i ∧ ¬ ancS g have' i
  have hin := fun k => (mem_upto (n := g.length) (P := fun i => ancS g want i ∧ ¬ ancS g have' i) (i := k)).1
  rw [e3] at hasc hin
  have h7 := (List.pairwise_append.1 hasc).2.2 p' hp' n' (.head _)
  have := h.dist.inj (hin p' (List.mem_append.2 (.inl hp'))).1 (hin n' (List.mem_append.2 (.inr (.head _)))).1 (e6.trans e5.symm)
  omega
theorem Wf.miss_whole (h : Wf g) {want have' : List ByteArray} (hx : x ∈ ancL g want) : x ∈ ancL g have' ∨ x ∈ missL g want have' := by
  by_cases hk : x ∈ ancL g have'
  · exact .inl hk
  · exact .inr (h.mem_miss.2 ⟨h.mem_anc.1 hx, fun hh => hk (h.mem_anc.2 hh)⟩)
theorem Wf.miss_none (h : Wf g) {want have' : List ByteArray} (hs : ∀ s ∈ want, s ∈ have') : missL g want have' = [] := by
  cases e : missL g want have' with
  | nil => rfl
  | cons n B =>
    have hn : n ∈ missL g want have' := by rw [e]; exact .head _
    obtain ⟨⟨s, h1, h2⟩, h3⟩ := h.mem_miss.1 hn
    exact absurd ⟨s, hs s h1, h2⟩ h3
end
end DagS
end Go.Proofs.Ytoeoablmcelohaa
namespace Go.Proofs.Ytoeoablmcelohaa
namespace DagS
open Classical

theorem add_new {g : List Nd} {s : ByteArray} {l : List ByteArray} (h1 : find g s = none) (h2 : ∀ p ∈ l, find g p ≠ none) (h3 : g.length < 65536) : add g s l = (g ++ [⟨s, withA [] l⟩], 0) := by
  unfold add
  rw [h1, if_neg (by simp), if_neg (fun ⟨p, h4, h5⟩ => h2 p h4 h5), if_neg (by omega)]

def nA : ByteArray := ⟨#[97]⟩
def nB : ByteArray := ⟨#[98]⟩
def nX : ByteArray := ⟨#[120]⟩
def nY : ByteArray := ⟨#[121]⟩
def nZ : ByteArray := ⟨#[122]⟩
def nZZ : ByteArray := ⟨#[122, 122]⟩
def g1 : List Nd := [⟨nA, []⟩]
def g2 : List Nd := [⟨nA, []⟩, ⟨nB, []⟩]
def g3 : List Nd := [⟨nA, []⟩, ⟨nB, []⟩, ⟨nX, [nA, nB]⟩]
def g4 : List Nd := [⟨nA, []⟩, ⟨nB, []⟩, ⟨nX, [nA, nB]⟩, ⟨nY, [nA, nB]⟩]
theorem srt_ab : Srt [nA, nB] := by
  refine List.Pairwise.cons (fun b hb => ?_) (List.pairwise_singleton _ _)
  rw [List.mem_singleton] at hb
  subst hb
  show less nA nB
  unfold less nA nB
  decide
theorem with_ab : withA [] [nA, nB] = [nA, nB] := srt_ext (withA_srt _ .nil) srt_ab fun x => by rw [withA_mem]; simp
theorem with_ba : withA [] [nB, nA] = [nA, nB] := srt_ext (withA_srt _ .nil) srt_ab fun x => by rw [withA_mem]; simp [or_comm]
theorem a1 : add [] nA [] = (g1, 0) := add_new rfl (fun p h => nomatch h) (by decide)
theorem a2 : add g1 nB [] = (g2, 0) := add_new (by decide) (fun p h => nomatch h) (by decide)
theorem f_ab {p : ByteArray} (h : p = nA ∨ p = nB) : find g2 p ≠ none ∧ find g3 p ≠ none := by
  rcases h with rfl | rfl
  · exact ⟨by decide, by decide⟩
  · exact ⟨by decide, by decide⟩
theorem a3 : add g2 nX [nB, nA] = (g3, 0) := by
  rw [add_new (by decide) (fun p h => (f_ab (by simpa [or_comm] using h)).1) (by decide), with_ba]; rfl
theorem a4 : add g3 nY [nA, nB] = (g4, 0) := by
  rw [add_new (by decide) (fun p h => (f_ab (by simpa using h)).2) (by decide), with_ab]; rfl
theorem a5 : add g4 nX [] = (g4, 5) := by unfold add; rw [if_pos (by decide)]
theorem a6 : add g4 nZ [nZZ] = (g4, 4) := by
  unfold add
  rw [if_neg (by decide), if_pos ⟨nZZ, .head _, by decide⟩]
theorem wf1 : Wf g1 := by have := Wf.nil.add nA []; rwa [a1] at this
theorem wf2 : Wf g2 := by have := wf1.add nB []; rwa [a2] at this
theorem wf3 : Wf g3 := by have := wf2.add nX [nB, nA]; rwa [a3] at this
theorem wf4 : Wf g4 := by have := wf3.add nY [nA, nB]; rwa [a4] at this

theorem fr_inv {g : List Nd} {i j : Nat} (h : Fr g i j) : i = j ∨ ∃ k ∈ par g i, Fr g k j := by
  cases h with
  | refl => exact .inl rfl
  | step a b c => exact .inr ⟨_, b, c⟩
theorem p0 : par g4 0 = [] := by decide
theorem p1 : par g4 1 = [] := by decide
theorem p2 : par g4 2 = [0, 1] := by decide
theorem p3 : par g4 3 = [0, 1] := by decide
theorem fr0 {j : Nat} (h : Fr g4 0 j) : j = 0 := by
  rcases fr_inv h with e | ⟨k, hk, _⟩
  · exact e.symm
  · rw [p0] at hk; cases hk
theorem fr1 {j : Nat} (h : Fr g4 1 j) : j = 1 := by
  rcases fr_inv h with e | ⟨k, hk, _⟩
  · exact e.symm
  · rw [p1] at hk; cases hk
theorem fr01 {i j : Nat} (hp : par g4 i = [0, 1]) (h : Fr g4 i j) : j = i ∨ j = 0 ∨ j = 1 := by
  rcases fr_inv h with e | ⟨k, hk, hf⟩
  · exact .inl e.symm
  · rw [hp] at hk
    rcases List.mem_cons.1 hk with rfl | hk
    · exact .inr (.inl (fr0 hf))
    · rw [List.mem_singleton] at hk
      subst hk
      exact .inr (.inr (fr1 hf))
theorem comes_of {s z : ByteArray} {i : Nat} (hs : find g4 s = some i) (h : Comes g4 s z) : ∃ j, Fr g4 i j ∧ z = nm g4 j := by
  obtain ⟨i', j, e1, e2, hf⟩ := h
  rw [hs] at e1; injection e1 with e1; subst e1
  exact ⟨j, hf, (find_nm e2).symm⟩
theorem cA {z : ByteArray} : Comes g4 nA z ↔ z = nA := by
  constructor
  · intro h
    obtain ⟨j, hf, e⟩ := comes_of (show find g4 nA = some 0 by decide) h
    rw [fr0 hf] at e; exact e
  · rintro rfl; exact comes_refl.2 (by decide)
theorem cB {z : ByteArray} : Comes g4 nB z ↔ z = nB := by
  constructor
  · intro h
    obtain ⟨j, hf, e⟩ := comes_of (show find g4 nB = some 1 by decide) h
    rw [fr1 hf] at e; exact e
  · rintro rfl; exact comes_refl.2 (by decide)
theorem cX {z : ByteArray} : Comes g4 nX z ↔ z = nX ∨ z = nA ∨ z = nB := by
  constructor
  · intro h
    obtain ⟨j, hf, e⟩ := comes_of (show find g4 nX = some 2 by decide) h
    rcases fr01 p2 hf with rfl | rfl | rfl
    · exact .inl e
    · exact .inr (.inl e)
    · exact .inr (.inr e)
  · rintro (rfl | rfl | rfl)
    · exact comes_refl.2 (by decide)
    · exact ⟨2, 0, by decide, by decide, .step rfl (by rw [p2]; exact .head _) (.refl _)⟩
    · exact ⟨2, 1, by decide, by decide, .step rfl (by rw [p2]; exact .tail _ (.head _)) (.refl _)⟩
theorem cY {z : ByteArray} : Comes g4 nY z ↔ z = nY ∨ z = nA ∨ z = nB := by
  constructor
  · intro h
    obtain ⟨j, hf, e⟩ := comes_of (show find g4 nY = some 3 by decide) h
    rcases fr01 p3 hf with rfl | rfl | rfl
    · exact .inl e
    · exact .inr (.inl e)
    · exact .inr (.inr e)
  · rintro (rfl | rfl | rfl)
    · exact comes_refl.2 (by decide)
    · exact ⟨3, 0, by decide, by decide, .step rfl (by rw [p3]; exact .head _) (.refl _)⟩
    · exact ⟨3, 1, by decide, by decide, .step rfl (by rw [p3]; exact .tail _ (.head _)) (.refl _)⟩
theorem both_xy {z : ByteArray} : z ∈ bothL g4 nX nY ↔ z = nA ∨ z = nB := by
  rw [wf4.mem_both, cX, cY]
  constructor
  · rintro ⟨rfl | h, h2⟩
    · rcases h2 with h2 | h2 | h2
      · exact absurd h2 (by decide)
      · exact .inl h2
      · exact .inr h2
    · exact h
  · exact fun h => ⟨.inr h, .inr h⟩
theorem bases_xy : basesL g4 nX nY = [nA, nB] := by
  refine srt_ext (tips_srt _ _) srt_ab fun z => ?_
  unfold basesL
  rw [mem_tips]
  unfold Tip
  rw [both_xy, List.mem_cons, List.mem_singleton]
  constructor
  · exact fun h => h.1
  · intro h
    refine ⟨h, by rcases h with rfl | rfl <;> decide, fun y hy => ?_⟩
    rw [both_xy] at hy
    rcases h with rfl | rfl
    · rcases hy with rfl | rfl
      · exact .inl rfl
      · exact .inr fun h => absurd (cB.1 h) (by decide)
    · rcases hy with rfl | rfl
      · exact .inr fun h => absurd (cA.1 h) (by decide)
      · exact .inl rfl
end DagS
end Go.Proofs.Ytoeoablmcelohaa
namespace Go.Proofs.Ytoeoablmcelohaa
open Go Go.RowKit

/-- A slice's address a: behind it the list xs of one-cell values lies. -/
def Sl (w : World) (a : Option Addr) (xs : List Value) : Prop :=
  xs = [] ∨ ∃ b o, a = some ⟨b, o, none⟩ ∧ b < w.heap.size ∧ ∀ i u, xs[i]? = some u → w.cell? ⟨b, o + i, none⟩ = some u

theorem Sl.nil (w : World) (a : Option Addr) : Sl w a [] := .inl rfl

theorem Sl.below {w w' : World} {a : Option Addr} {xs : List Value} (h : Sl w a xs) (hb : Below w.heap.size w w') : Sl w' a xs := by
  rcases h with h | ⟨b, o, ha, hlt, hc⟩
  · exact .inl h
  · exact .inr ⟨b, o, ha, Nat.lt_of_lt_of_le hlt hb.size, fun i u hu => by rw [hb.cell (p := ⟨b, o + i, none⟩) hlt]; exact hc i u hu⟩

theorem Sl.drew {w : World} {a : Option Addr} {xs : List Value} (h : Sl w a xs) : Sl w.drew a xs := h

theorem Sl.at {w : World} {a : Option Addr} {xs : List Value} (h : Sl w a xs) {k : Nat} (hk : k < xs.length) :
    ∃ b o, a = some ⟨b, o, none⟩ ∧ b < w.heap.size ∧ ∀ i (hi : i < xs.length), w.cell? ⟨b, o + i, none⟩ = some xs[i] := by
  rcases h with h | ⟨b, o, ha, hlt, hc⟩
  · subst h; simp at hk
  · exact ⟨b, o, ha, hlt, fun i hi => hc i _ (List.getElem?_eq_getElem hi)⟩

/-- The part of a slice from i on up to j. -/
theorem Sl.part {w : World} {b o : Nat} {xs : List Value} (h : Sl w (some ⟨b, o, none⟩) xs) (i j : Nat) : Sl w (some ⟨b, o + i, none⟩) ((xs.take j).drop i) := by
  rcases h with h | ⟨b', o', ha, hlt, hc⟩
  · subst h; simp [Sl]
  · cases ha
    refine .inr ⟨b, o + i, rfl, hlt, fun k u hu => ?_⟩
    rw [Nat.add_assoc]
    refine hc (i + k) u ?_
    rw [List.getElem?_drop, List.getElem?_take] at hu
    split at hu
    · exact hu
    · cases hu

theorem Sl.take {w : World} {a : Option Addr} {xs : List Value} (h : Sl w a xs) (j : Nat) : Sl w a (xs.take j) := by
  rcases h with h | ⟨b, o, ha, hlt, hc⟩
  · subst h; simp [Sl]
  · refine .inr ⟨b, o, ha, hlt, fun i u hu => hc i u ?_⟩
    rw [List.getElem?_take] at hu
    split at hu
    · exact hu
    · cases hu

/-- What is owned can be read. -/
theorem own_sl {w : World} {base : Nat} {e : TypeId} {v : Value} {xs : List Value} {n : Nat} (h : w.ownsRow base e 1 v n xs) :
    ∃ a c, v = .slice a n c ∧ n = xs.length ∧ n ≤ c ∧ Sl w a xs := by
  have hl := h.1
  rcases h.2 with ⟨rfl, rfl⟩ | ⟨g, cap, cur, rfl, hb, hg, h1, h2, h3, h4⟩
  · have : xs = [] := List.eq_nil_of_length_eq_zero (by omega)
    subst this
    exact ⟨none, 0, rfl, rfl, Nat.le_refl _, .nil _ _⟩
  · refine ⟨_, cap, rfl, by omega, h1, .inr ⟨g, 0, rfl, (Array.getElem?_eq_some_iff.1 hg).1, fun i u hu => ?_⟩⟩
    have := h.cells (g := g) rfl i u hu
    rwa [show (⟨g, 0, none⟩ : Addr).add i = ⟨g, 0 + i, none⟩ from by unfold Addr.add; split <;> simp_all] at this

theorem own_some {w : World} {base : Nat} {e : TypeId} {v : Value} {xs : List Value} {n : Nat} (h : w.ownsRow base e 1 v n xs) (hv : v ≠ .slice none 0 0) :
    ∃ g c, v = .slice (some ⟨g, 0, none⟩) n c ∧ n ≤ c ∧ base ≤ g ∧ g < w.heap.size ∧ Sl w (some ⟨g, 0, none⟩) xs := by
  obtain ⟨a, c, rfl, _, hc, hs⟩ := own_sl h
  rcases h.2 with ⟨h1, _⟩ | ⟨g, cap, cur, h1, hb, hg, _⟩
  · exact absurd h1 hv
  · injection h1 with h1 h2 h3
    subst h1
    exact ⟨g, c, rfl, hc, hb, (Array.getElem?_eq_some_iff.1 hg).1, hs⟩

theorem own_ne {w : World} {base : Nat} {e : TypeId} {s : Nat} {v : Value} {xs : List Value} {n : Nat} (h : w.ownsRow base e s v n xs) (hn : 0 < n) : v ≠ .slice none 0 0 := by
  rintro rfl
  rcases h.2 with ⟨_, h0⟩ | ⟨_, _, _, h0, _⟩
  · omega
  · cases h0

theorem own_slc {w : World} {base : Nat} {e : TypeId} {v : Value} {xs : List Value} {n : Nat} (h : w.ownsRow base e 1 v n xs) :
    ∃ a c, v = .slice a n c ∧ n ≤ c ∧ (a = none → c = 0) ∧ Sl w a xs := by
  obtain ⟨a, c, rfl, _, hc, hs⟩ := own_sl h
  refine ⟨a, c, rfl, hc, ?_, hs⟩
  rintro rfl
  rcases h.2 with ⟨h1, _⟩ | ⟨_, _, _, h1, _⟩
  · injection h1
  · injection h1 with h1 _ _; cases h1

/-- An owned row stays owned where nothing below a later heap's end has turned. -/
theorem own_below {w w' : World} {base : Nat} {e : TypeId} {s : Nat} {v : Value} {n : Nat} {xs : List Value} (h : w.ownsRow base e s v n xs) (hb : Below w.heap.size w w') : w'.ownsRow base e s v n xs := by
  refine h.kept (row := none) ⟨hb.os, hb.tape, hb.output, hb.size, fun k hk _ => hb.block k hk⟩ ?_
  cases hv : v.ownBlock <;> simp

/-- An element type's row of the program's table, under one name. -/
structure Elem (P : Program) (t e : TypeId) (z : Value) (size bytes : Nat) : Prop where
  under : P.underlying t = some (.slice e)
  info : (P.info? e).map (fun i => (i.zero, i.size, i.bytes)) = some (some z, size, bytes)

theorem below_of_grown {w w' : World} {base : Nat} {v : Value} {row : List Value} {e : TypeId} {s n : Nat} (h : w.ownsRow base e s v n row) (hg : w.grownBy w' v.ownBlock) (hb : base ≤ w.heap.size) : Below base w w' :=
  (Below.refl base w).grown hg hb fun k hk => (h.lt k hk).1

/-- 'append(s, x)' of one element of one cell, s the call's own. -/
theorem wp_app1 {P : Program} {ops : Array Oper} {rest : List Oper} {o : Oper} {a : Act} {Q : Exit → Act → World → Prop} {w : World} (hgd : o.guard = none) (s x : Operand) (t : TypeId)
    (ho : o.op = .call { callee := .builtin .append, args := #[s, x], argTypes := #[t, t] })
    {e : TypeId} {z : Value} {bytes : Nat} (E : Elem P t e z 1 bytes) (hz : z.oneCell' = true) {base : Nat} {v : Value} {n : Nat} {xs : List Value} {u : Value}
    (hs : a.eval s = v) (hown : w.ownsRow base e 1 v n xs) (hx : a.eval x = .slice (some ⟨w.heap.size, 0, none⟩) 1 1) (hu : u.oneCell' = true)
    (hn : (n + 1) * bytes ≤ 140737488355328) (h63 : n + 1 ≤ maxLen) (hbase : base ≤ w.heap.size)
    (h : ∀ v' w', w'.ownsRow base e 1 v' (n + 1) (xs ++ [u]) → w.grownBy w' v.ownBlock → Below base w w' → wpList P ops Q rest (a.put o.dst v') w') :
    wpList P ops Q (o :: rest) a (w.alloc (.cells #[u] e)) := by
  obtain ⟨i, hi, h1, h2, h3⟩ := info_parts E.info
  refine wpList_append_own _ hgd s x t ho base e i z 1 bytes E.under hi h1 h2 h3 ?_ (by decide) v n xs hs (hown.alloc _) _ 1 1 [u] hx rfl (cell_one_new _ _ _) ?_ h63 hn ?_ ?_
  · cases z <;> first | rfl | cases hz
  · intro y hy
    rw [List.mem_singleton] at hy
    subst hy
    exact hu
  · have : (w.alloc (.cells #[u] e)).heap.size = w.heap.size + 1 := by simp
    omega
  · intro v' w' h4 h5 _
    have h6 : w.grownBy w' v.ownBlock := (World.grownBy_alloc w _ _).trans h5
    exact h v' w' h4 h6 (below_of_grown hown h6 hbase)

/-- Nothing old has turned, and no draw is taken back. -/
def Gr (w w' : World) : Prop := Below w.heap.size w w' ∧ w.drawn ≤ w'.drawn

theorem Gr.refl (w : World) : Gr w w := ⟨Below.refl _ _, Nat.le_refl _⟩
theorem Gr.trans {a b c : World} (h : Gr a b) (k : Gr b c) : Gr a c := ⟨h.1.trans (k.1.mono h.1.size), Nat.le_trans h.2 k.2⟩
theorem Gr.alloc {a w : World} (h : Gr a w) (o : Obj) : Gr a (w.alloc o) := ⟨h.1.alloc h.1.size o, h.2⟩
theorem Gr.drew {a w : World} (h : Gr a w) : Gr a w.drew := ⟨h.1.drew, Nat.le_trans h.2 (Nat.le_succ _)⟩

theorem Gr.form {w w' : World} (h : Gr w w') : ∃ q os', w' = Go.Sort.grow (w.drewN q) os' := by
  obtain ⟨hb, hd⟩ := h
  refine ⟨w'.drawn - w.drawn, w'.heap.extract w.heap.size w'.heap.size, ?_⟩
  have hh : w'.heap = w.heap ++ w'.heap.extract w.heap.size w'.heap.size := by
    apply Array.ext_getElem?
    intro i
    rw [Array.getElem?_append]
    split
    · rename_i hi; exact hb.block i hi
    · rename_i hi
      rw [Array.getElem?_extract]
      split
      · congr 1; omega
      · rename_i h2
        have := hb.size
        rw [Array.getElem?_eq_none (by omega)]
  cases w
  cases w'
  obtain ⟨h1, h2, h3, h4, h5⟩ := hb
  simp only at h1 h2 h3 hd hh
  subst h1 h2 h3
  simp only [Go.Sort.grow, World.drewN]
  congr 1
  omega

theorem below_dN {B : Nat} {a w : World} (h : Below B a w) (q : Nat) : Below B a (w.drewN q) := ⟨h.os, h.tape, h.output, h.size, h.block⟩

theorem isEmpty_iff (s : ByteArray) : s.toList.isEmpty = decide (s.size = 0) := by
  rw [Lib.toList_data, Lib.size_eq]
  cases s.data.toList <;> simp

theorem byte_eq (c : UInt8) (n : UInt8) : ((c.toNat : Int) == (n.toNat : Int)) = decide (c = n) := by
  rw [Bool.eq_iff_iff]
  simp [Int.ofNat_inj, UInt8.toNat_inj]

theorem ret_bool {a b : Bool} (h : b = a) : Ending.returned (.bool a) = .returned (.bool b) := by rw [h]
theorem ret_str {a b : ByteArray} (h : b = a) : Ending.returned (.string a) = .returned (.string b) := by rw [h]
theorem ret_i64 {k : IntKind} {a b : Int} (h : b = a) : Ending.returned (.int k a) = .returned (.int k b) := by rw [h]
theorem ret_pair {x : ByteArray × ByteArray} {a b : ByteArray} (h : x = (a, b)) : Ending.returned (.tuple #[.string a, .string b]) = .returned (.tuple #[.string x.1, .string x.2]) := by rw [h]
theorem ret_congr {a b : Value} (h : a = b) : Ending.returned a = .returned b := by rw [h]

end Go.Proofs.Ytoeoablmcelohaa
