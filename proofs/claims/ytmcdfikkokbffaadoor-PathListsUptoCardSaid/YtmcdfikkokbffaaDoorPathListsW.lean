/- The walk of the law PathLists. -/
import Derived.Test.YtmcdfikkokbffaaDoorPathClashV
import Derived.Test.YtmcdfikkokbffaaDoorPathComV
namespace Go.Proofs.YtmcdfikkokbffaaDoor
open Go Go.RowKit

set_option maxRecDepth 100000 in
set_option maxHeartbeats 2000000 in
theorem lists_c (a : Option Addr) (c : Nat) (ss : List ByteArray) (w : World) (hg : Gl w) (hs : Sl w a (ss.map Value.string)) (hl : ss.length ≤ 10000000) (hz : ∀ s ∈ ss, s.size ≤ 10000000) :
    Calls Tryd.prog 7 #[.slice a ss.length c] w fun e w' => e = .returned (.bool true) ∧ Below w.heap.size w w' := by
  go_enter Tryd.func7, Tryd.ntmps7
  go_wp2_with fail
  refine (awake_c w hg).mono ?_
  rintro e w1 ⟨rfl, b1⟩
  go_wp2_with fail
  refine (valid_c a c ss w1 (hg.below b1 (Nat.le_refl _)) (hs.below b1) (by omega) hz).mono ?_
  rintro e w2 ⟨v, rfl, hown, b2⟩
  have b12 := b1.trans (b2.mono b1.size)
  have hvl : (ss.filter fun s => PathS.check s == 0).length ≤ 10000000 := Nat.le_trans (List.length_filter_le _ _) hl
  have HVZ : Hid (∀ s ∈ ss.filter (fun s => PathS.check s == 0), s.size ≤ 10000000) := fun s h => hz s (List.mem_filter.1 h).1
  have HV : Hid (∀ s ∈ ss.filter (fun s => PathS.check s == 0), PathS.check s = 0) := fun s h => by simpa using (List.mem_filter.1 h).2
  generalize ss.filter (fun s => PathS.check s == 0) = l at *
  obtain ⟨av, cv, rfl, hcv, hn0, hx⟩ := own_slc hown
  clear hown hz
  have HN0 := Lib.hid hn0
  clear hn0
  go_wp2_with fail
  refine (pclash_c av cv l w2 (hg.below b12 (Nat.le_refl _)) hx HN0.out hvl HVZ.out).mono ?_
  rintro e w3 ⟨rfl, b3⟩
  have b13 := b12.trans (b3.mono b12.size)
  have hx3 := hx.below b3
  go_wp2_with fail
  refine (ref_clash av cv l w3 hx3 hvl HVZ.out).mono ?_
  rintro e w4 ⟨rfl, b4⟩
  have b14 := b13.trans (b4.mono b13.size)
  have hx4 := hx3.below b4
  go_wp2_with fail
  refine (pcommon_c av cv l w4 (hg.below b14 (Nat.le_refl _)) hx4 hcv hvl HVZ.out HV.out).mono ?_
  rintro e w5 ⟨rfl, b5⟩
  have b15 := b14.trans (b5.mono b14.size)
  have hx5 := hx4.below b5
  go_wp2_with fail
  refine (ref_common av cv l w5 hx5 hvl HVZ.out HV.out).mono ?_
  rintro e w6 ⟨rfl, b6⟩
  have b16 := b15.trans (b6.mono b15.size)
  go_wp2_with fail
  go_ret
  exact ⟨rfl, b16⟩
end Go.Proofs.YtmcdfikkokbffaaDoor
