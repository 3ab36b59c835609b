/- slices.SortStableFunc over moves: the row holds a sorted list of the same moves. -/
import Derived.Test.YtlnifigbnpdemaaDoorScoreM
namespace Go.Proofs.YtlnifigbnpdemaaDoor
open Go Go.RowKit Go.Sort

def okM (m : Mv) : Prop := m.src.size ≤ 10000000 ∧ m.dst.size ≤ 10000000 ∧ m.sc < 2 ^ 64 ∧ cn m.sc = m.sc

def packM : (l : List Mv) → (∀ s ∈ l, okM s) → List Mb
  | [], _ => []
  | s :: l, h => ⟨s, (h s (by simp)).1, (h s (by simp)).2.1, (h s (by simp)).2.2.1, (h s (by simp)).2.2.2⟩ :: packM l (fun x hx => h x (by simp [hx]))

theorem packM_val : ∀ (l : List Mv) (hz : ∀ s ∈ l, okM s), (packM l hz).map (·.val) = l
  | [], _ => rfl
  | s :: l, h => by rw [packM, List.map_cons, packM_val l]

/-- What a row of the sort's holds, cell by cell. -/
theorem flat_mrow (d : Array Mb) (j : Nat) (hj : j < d.size * 3) : some ((flatK encB 3 d)[j]!) = (mrow (d.toList.map (·.val)))[j]? := by
  rw [get_flatK encB 3 d j hj, mrow_at _ j (by simpa using hj)]
  have h1 : j / 3 < d.size := by omega
  rw [getElem!_pos d (j / 3) h1]
  simp only [List.getElem_map, Array.getElem_toList]
  rw [getElem!_pos]
  rfl

theorem holds_own {w : World} {base : Nat} {g c n : Nat} {d : Array Mb} (hown : w.ownsRow base 43 3 (.slice (some ⟨g, 0, none⟩) n c) n (mrow (d.toList.map (·.val)))) (hn : d.size = n) : HoldsK encB 3 w g 0 d := by
  intro j hj
  rw [size_flatK] at hj
  rw [Nat.zero_add]
  refine ⟨?_, hown.frozenAt j⟩
  rw [hown.cellAt j (by omega), ← flat_mrow d j hj]
  rfl

theorem sl_holds {w : World} {g : Nat} {d : Array Mb} (h : HoldsK encB 3 w g 0 d) (hg : g < w.heap.size) : Sl w (some ⟨g, 0, none⟩) (mrow (d.toList.map (·.val))) := by
  refine .inr ⟨g, 0, rfl, hg, fun j u hu => ?_⟩
  have hj : j < d.size * 3 := by
    have := (List.getElem?_eq_some_iff.1 hu).1
    rw [mrow_len] at this; simpa using this
  have := (h j (by rw [size_flatK]; exact hj)).1
  rw [this, ← hu, ← flat_mrow d j hj]
  rfl

set_option maxRecDepth 100000 in
theorem ins_nil (a : Option Addr) (c : Nat) (w : World) : Calls Tryd.prog 45 #[.slice a 0 c, .int .i64 0, .int .i64 0, .func (.func 28) #[] #[]] w fun e w' => e = .returned (.tuple #[]) ∧ w' = w := by
  go_enter Tryd.func45, Tryd.ntmps45
  go_wp2_with fail
  go_loopw [8] (fun a wr => a = .int .i64 1 ∧ wr = w) (fun _ _ => 0)
  case atStart => exact ⟨rfl, rfl⟩
  case round =>
    obtain ⟨rfl, rfl⟩ := hrel
    go_wp2_with fail
    go_end0
    exact ⟨rfl, rfl⟩

set_option maxRecDepth 100000 in
theorem sortst_nil (a : Option Addr) (c : Nat) (w : World) : Calls Tryd.prog 27 #[.slice a 0 c, .func (.func 28) #[] #[]] w fun e w' => e = .returned (.tuple #[]) ∧ w' = w := by
  have hst : Calls Tryd.prog 39 #[.slice a 0 c, .int .i64 0, .func (.func 28) #[] #[]] w fun e w' => e = .returned (.tuple #[]) ∧ w' = w := by
    go_enter Tryd.func39, Tryd.ntmps39
    go_wp2_with fail
    go_loopw [7, 8] (fun a b wr => a = .int .i64 0 ∧ b = .int .i64 20 ∧ wr = w) (fun _ _ _ => 0)
    case atStart => exact ⟨rfl, rfl, rfl⟩
    case round =>
      obtain ⟨rfl, rfl, rfl⟩ := hrel
      go_wp2_with fail
      refine (ins_nil a c wr).mono ?_
      rintro e w2 ⟨rfl, rfl⟩
      go_wp2_with fail
      obtain ⟨W, hW⟩ : ∃ W, W = w2 := ⟨_, rfl⟩
      go_loopw [6] (fun a wx => a = .int .i64 20 ∧ wx = W) (fun _ _ => 0)
      case atStart => exact ⟨rfl, hW.symm⟩
      case round =>
        obtain ⟨rfl, rfl⟩ := hrel
        go_wp2_with fail
        go_end0
        exact ⟨rfl, by first | rfl | exact hW⟩
  go_enter Tryd.func27, Tryd.ntmps27
  go_wp2_with fail
  refine hst.mono ?_
  rintro e w2 ⟨rfl, rfl⟩
  go_wp2_with fail
  go_end0
  exact ⟨rfl, rfl⟩

theorem sortst_c (base g c : Nat) (l : List Mv) (w : World) (hg : Gl w) (hbase : 1 < base) (hown : w.ownsRow base 43 3 (.slice (some ⟨g, 0, none⟩) l.length c) l.length (mrow l)) (hz : ∀ s ∈ l, okM s) (hn : l.length < 20) :
    Calls Tryd.prog 27 #[.slice (some ⟨g, 0, none⟩) l.length c, .func (.func 28) #[] #[]] w fun e w' => e = .returned (.tuple #[]) ∧
      ∃ l' : List Mv, l'.Perm l ∧ l'.Pairwise (fun x y => ¬ ordI y x < 0) ∧ Sl w' (some ⟨g, 0, none⟩) (mrow l') ∧ Below base w w' := by
  have hgb := hown.lt g rfl
  have hlen : (packM l hz).toArray.size = l.length := by have := congrArg List.length (packM_val l hz); simpa using this
  have hH : HoldsK encB 3 w g 0 (packM l hz).toArray := holds_own (by rw [List.toList_toArray, packM_val]; exact hown) hlen
  have hsm := stable_small g c (packM l hz).toArray w hg (by omega) hgb.2 hH (by omega)
  have hins := insertionSort_holds (lt := ltOf ordB) swoB (packM l hz).toArray 0 (packM l hz).toArray.size (Nat.zero_le _) (Nat.le_refl _)
  have hfin : ∀ m os, ∃ l' : List Mv, l'.Perm l ∧ l'.Pairwise (fun x y => ¬ ordI y x < 0) ∧ Sl (sortWorldK encB 3 w g 0 m (Sort.insertionSort (ltOf ordB) (packM l hz).toArray 0 (packM l hz).toArray.size) os) (some ⟨g, 0, none⟩) (mrow l') ∧ Below base w (sortWorldK encB 3 w g 0 m (Sort.insertionSort (ltOf ordB) (packM l hz).toArray 0 (packM l hz).toArray.size) os) := by
    intro m os
    obtain ⟨hp, hs⟩ := hins
    obtain ⟨p1, p2, p3⟩ := hp
    generalize Sort.insertionSort (ltOf ordB) (packM l hz).toArray 0 (packM l hz).toArray.size = d' at *
    refine ⟨d'.toList.map (·.val), ?_, ?_, ?_, (below_sortWorldK encB 3 w g 0 m d' os hgb.2).mono hgb.1⟩
    · have h1 : (d'.toList).Perm (packM l hz) := by
        have e1 : (d'.extract 0 (packM l hz).toArray.size).toList = d'.toList := by rw [← p1]; simp
        have e2 : ((packM l hz).toArray.extract 0 (packM l hz).toArray.size).toList = packM l hz := by simp
        rwa [e1, e2] at p3
      have := h1.map (·.val)
      rwa [packM_val] at this
    · rw [List.pairwise_map, List.pairwise_iff_getElem]
      intro i j hi hj hij
      have hi' : i < d'.size := by simpa using hi
      have hj' : j < d'.size := by simpa using hj
      have := hs i j (Nat.zero_le _) hij (by rw [← p1]; exact hj')
      rw [getElem!_pos d' i hi', getElem!_pos d' j hj'] at this
      simp only [Array.getElem_toList]
      exact of_decide_eq_false this
    · refine sl_holds (holdsK_sortWorldK_c encB 3 w g 0 (packM l hz).toArray d' m os hH hgb.2 p1) ?_
      have := size_sortWorldK_c encB 3 w g 0 m d' os
      omega
  rw [hlen] at hsm
  have HF := Lib.hid hfin
  have HM := Lib.hid hsm
  clear hfin hsm hins hH
  go_enter Tryd.func27, Tryd.ntmps27
  go_wp2_with fail
  refine HM.out.mono ?_
  rintro e w2 ⟨rfl, m, os, rfl⟩
  have HR := Lib.hid (HF.out m os)
  rw [hlen] at HR
  go_wp2_with fail
  go_end0
  exact ⟨rfl, HR.out⟩
end Go.Proofs.YtlnifigbnpdemaaDoor
