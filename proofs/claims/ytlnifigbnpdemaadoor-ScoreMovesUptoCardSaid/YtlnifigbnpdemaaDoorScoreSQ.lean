/- The stable sort of any length: block by block, pass by pass; the walk. -/
import Derived.Test.YtlnifigbnpdemaaDoorScoreSZ
import Derived.Test.YtlnifigbnpdemaaDoorScoreSt
namespace Go.Proofs.YtlnifigbnpdemaaDoor
namespace SymS
open Go.Sort
variable {α : Type} [Inhabited α] {lt : α → α → Bool}

/-- Sorted block by block. -/
def Blk (lt : α → α → Bool) (n s : Nat) (d : Array α) : Prop := ∀ t, SortedIn lt (t * s) (min ((t + 1) * s) n) d

/-- A pass under way: the first q pairs of blocks are merged. -/
structure Pass (lt : α → α → Bool) (n s q : Nat) (d : Array α) : Prop where
  left : ∀ t, t < q → SortedIn lt (t * (2 * s)) ((t + 1) * (2 * s)) d
  right : ∀ t, 2 * q ≤ t → SortedIn lt (t * s) (min ((t + 1) * s) n) d

theorem Pass.start {n s : Nat} {d : Array α} (h : Blk lt n s d) : Pass lt n s 0 d := ⟨fun t h => by omega, fun t _ => h t⟩

theorem two_mul_s (q s : Nat) : (2 * q) * s = q * (2 * s) := by rw [Nat.mul_comm 2 q, Nat.mul_assoc]

theorem Pass.runs {n s q : Nat} {d : Array α} (h : Pass lt n s q d) : SortedIn lt (q * (2 * s)) (min (q * (2 * s) + s) n) d ∧ SortedIn lt (q * (2 * s) + s) (min (q * (2 * s) + 2 * s) n) d := by
  have h1 := h.right (2 * q) (Nat.le_refl _)
  have h2 := h.right (2 * q + 1) (by omega)
  rw [Nat.add_mul, Nat.one_mul, two_mul_s] at h1
  rw [Nat.add_mul, Nat.add_mul, Nat.add_mul, Nat.one_mul, two_mul_s, show q * (2 * s) + s + s = q * (2 * s) + 2 * s by omega] at h2
  exact ⟨h1, h2⟩

theorem mul_le_of_lt {t q s : Nat} (h : t < q) : (t + 1) * s ≤ q * s := Nat.mul_le_mul_right s h

theorem Pass.step {n s q : Nat} {d d' : Array α} (h : Pass lt n s q d) (hq : q * (2 * s) + 2 * s ≤ n) (hm : Merged lt (q * (2 * s)) (q * (2 * s) + 2 * s) d d') : Pass lt n s (q + 1) d' := by
  refine ⟨fun t ht => ?_, fun t ht => ?_⟩
  · rcases Nat.lt_or_ge t q with e | e
    · exact sortedIn_out hm.1 (h.left t e) (.inl (mul_le_of_lt e))
    · obtain rfl : t = q := by omega
      have := hm.2
      rwa [show t * (2 * s) + 2 * s = (t + 1) * (2 * s) by rw [Nat.add_mul, Nat.one_mul]] at this
  · refine sortedIn_out hm.1 (h.right t (by omega)) (.inr ?_)
    have := Nat.mul_le_mul_right s ht
    rw [two_mul_s, Nat.add_mul, Nat.one_mul] at this
    exact this

theorem Pass.last {n s q : Nat} {d d' : Array α} (h : Pass lt n s q d) (hq : n < q * (2 * s) + 2 * s) (hm : PermIn (q * (2 * s)) n d d') (hs : SortedIn lt (q * (2 * s)) n d') (hqn : q * (2 * s) ≤ n) : Blk lt n (2 * s) d' := by
  intro t
  rcases Nat.lt_trichotomy t q with e | e | e
  · have h1 := mul_le_of_lt (s := 2 * s) e
    rw [Nat.min_eq_left (by omega)]
    exact sortedIn_out hm (h.left t e) (.inl h1)
  · subst e
    intro i j h1 h2 h3
    exact hs i j h1 h2 (by omega)
  · have h1 := mul_le_of_lt (s := 2 * s) e
    rw [Nat.add_mul, Nat.one_mul] at h1
    intro i j h2 h3 h4
    omega

/-- The first blocks, as the insertion leaves them. -/
theorem blk_first {n q : Nat} {d : Array α} (h : ∀ t, t < q → SortedIn lt (t * 20) ((t + 1) * 20) d) (hq : n < q * 20 + 20) (hl : SortedIn lt (q * 20) n d) : Blk lt n 20 d := by
  intro t
  rcases Nat.lt_trichotomy t q with e | e | e
  · intro i j h1 h2 h3
    exact h t e i j h1 h2 (by omega)
  · subst e
    intro i j h1 h2 h3
    exact hl i j h1 h2 (by omega)
  · intro i j h2 h3 h4
    omega

theorem blk_end {n s : Nat} {d : Array α} (h : Blk lt n s d) (hs : n ≤ s) : SortedIn lt 0 n d := by
  have := h 0
  rw [Nat.zero_mul, Nat.zero_add, Nat.one_mul, Nat.min_eq_right hs] at this
  exact this
end SymS

open Go Go.RowKit Go.Sort Go.Shelf Go.Lib

theorem hasP : Has Tryd.prog 3 where
  mixed := by kernel_rfl
  fsw := Tryd.func68
  fro := Tryd.func60
  fsy := Tryd.func46
  esw := enters_of Tryd.func68 (by kernel_rfl) rfl
  ero := enters_of Tryd.func60 (by kernel_rfl) rfl
  esy := enters_of Tryd.func46 (by kernel_rfl) rfl
  aE := Tryd.isAgg43
  zE := Tryd.sizeOf43
  t0 := Tryd.underlying0
  a0 := Tryd.isAgg0
  z0 := Tryd.sizeOf0
  v0 := Tryd.zeroValue0
  t3 := Tryd.underlying3
  a3 := Tryd.isAgg3
  z3 := Tryd.sizeOf3
  v3 := Tryd.zeroValue3
  t4 := Tryd.underlying4
  a4 := Tryd.isAgg4
  z4 := Tryd.sizeOf4
  v4 := Tryd.zeroValue4
  t22 := Tryd.underlying34
  a22 := Tryd.isAgg34
  z22 := Tryd.sizeOf34
  v22 := Tryd.zeroValue34
  t25 := Tryd.underlying70
  a25 := Tryd.isAgg70
  z25 := Tryd.sizeOf70
  v25 := Tryd.zeroValue70
  t92 := Tryd.underlying92
  a92 := Tryd.isAgg92
  z92 := Tryd.sizeOf92
  v92 := Tryd.zeroValue92

theorem rowB {w : World} {g : Nat} {d : Array Mb} (hH : HoldsK encB 3 w g 0 d) (hgl : g < w.heap.size) : RowK encB 3 w g 0 d :=
  ⟨fun _ => rfl, fun x v hv => by
    simp only [encB, encM, List.mem_cons, List.not_mem_nil, or_false] at hv
    rcases hv with rfl | rfl | rfl <;> rfl, hH, hgl⟩

/-- The insertion sort of a part, from a world of the sort's to one. -/
theorem ins_swk (g c a b : Nat) (A B : Int) (hA : A = a) (hB : B = b) (d0 dk : Array Mb) (w0 w : World) (hg : Gl w0) (hgg : 1 < g) (hgl : g < w0.heap.size) (hH : HoldsK encB 3 w0 g 0 d0) (hs : dk.size = d0.size) (S : SWK encB 3 w0 g 0 dk w) (hab : a ≤ b) (hb : b ≤ d0.size) (hsz : d0.size < 1000000) :
    Calls Tryd.prog 45 #[.slice (some ⟨g, 0, none⟩) d0.size c, .int .i64 A, .int .i64 B, .func (.func 28) #[] #[]] w fun e w' => e = .returned (.tuple #[]) ∧ ∃ d', SymS.Merged (ltOf ordB) a b dk d' ∧ SWK encB 3 w0 g 0 d' w' := by
  subst hA hB
  have hb0 : RowKit.Below g w0 w := by
    obtain ⟨n, os, rfl⟩ := S
    exact below_sortWorldK encB 3 w0 g 0 n dk os hgl
  have hgw : Gl w := hg.below2 hb0 hgg
  have hglw : g < w.heap.size := S.lt hgl
  have hHw : HoldsK encB 3 w g 0 dk := S.holds hgl hH hs
  have R := rowB hH hgl
  have h := AnyQ.insertionSortCmpFunc laysI 3 (Tryd.isAgg43) (Tryd.sizeOf43) encB R.hk R.h1 ordB 28 #[] g 0 c a b dk w enter_order (cmp_lays g dk w hgw hgg hglw) hHw hglw hab (by omega) (by omega)
  rw [hs] at h
  refine (show Calls Tryd.prog 45 _ w _ from h).mono ?_
  rintro e w' ⟨rfl, n, os, rfl⟩
  have hi := insertionSort_holds (lt := ltOf ordB) swoB dk a b hab (by omega)
  exact ⟨rfl, _, hi, S.on hgl n _ os hi.1.1⟩
end Go.Proofs.YtlnifigbnpdemaaDoor
