/- Walks: Common, the program's and the reference's. -/
import Derived.Test.YtmcdfikkokbffaaDoorPathLooksW
import Derived.Test.YtmcdfikkokbffaaDoorPathComS
namespace Go.Proofs.YtmcdfikkokbffaaDoor
open Go Go.RowKit

theorem tot_prefix {x y : List ByteArray} (h : x <+: y) : tot x ≤ tot y := by
  obtain ⟨t, rfl⟩ := h
  unfold tot
  rw [List.map_append, List.sum_append]
  omega

theorem cmps_q (a b : ByteArray) (z : Int) (h : PathS.cmpB a b = z) (w : World) : Calls Tryd.prog 41 #[.string a, .string b] w fun e w' => e = .returned (.int .i64 z) ∧ w' = w :=
  (cmps_c a b w).mono fun _ _ ⟨he, hw⟩ => ⟨by rw [he, h], hw.symm⟩

set_option maxRecDepth 100000 in
set_option maxHeartbeats 2000000 in
theorem pcommon_c (a : Option Addr) (c : Nat) (l : List ByteArray) (w : World) (hg : Gl w) (hs : Sl w a (l.map Value.string)) (hlc : l.length ≤ c) (hl : l.length ≤ 10000000) (hz : ∀ s ∈ l, s.size ≤ 10000000) (hv : ∀ s ∈ l, PathS.check s = 0) :
    Calls Tryd.prog 28 #[.slice a l.length c] w fun e w' => e = .returned (.string (PathS.joinB (PathS.com l))) ∧ Below w.heap.size w w' := by
  by_cases h0 : l = []
  · subst h0
    go_enter Tryd.func28, Tryd.ntmps28
    go_wp2_with fail
    go_ret
    exact ⟨rfl, Below.refl _ _⟩
  obtain ⟨p0, r, rfl⟩ := List.exists_cons_of_ne_nil h0
  obtain ⟨b, o, rfl, hbl, hc⟩ := hs.at (k := 0) (by simp)
  have hc0 : w.cell? ⟨b, o, none⟩ = some (.string p0) := by have := hc 0 (by simp); simpa using this
  have hsr : Sl w (some ⟨b, o + 1, none⟩) (r.map Value.string) := by
    have := Sl.part (w := w) (b := b) (o := o) (xs := (p0 :: r).map Value.string) hs 1 (r.length + 1)
    rw [List.take_of_length_le (by simp)] at this
    simpa using this
  have HCOM : Hid (PathS.com (p0 :: r) = PathS.comF (PathS.D p0) r) := by show _ = _; rfl
  have hz0 := hz p0 (by simp)
  have hv0 := hv p0 (by simp)
  have HZ : Hid (∀ s ∈ r, s.size ≤ 10000000) := fun s h => hz s (by simp [h])
  have HV : Hid (∀ s ∈ r, PathS.check s = 0) := fun s h => hv s (by simp [h])
  have HL0 := Lib.hid (PathS.parent_last p0)
  have hps := PathS.parent_size p0
  have HSP := Lib.hid (PathS.spl_parent p0 hv0)
  have HG := Lib.hid (fun (W : World) (hb : Below w.heap.size w W) => hg.below hb (Nat.le_refl _))
  have htd : tot (PathS.D p0) ≤ 100000000 := Nat.le_trans (tot_dropLast _) (by rw [← PathS.split_spl]; exact tot_split p0 hz0)
  have hld : (PathS.D p0).length ≤ 10000001 := by
    have := split_len p0
    rw [PathS.split_spl] at this
    rw [PathS.D, List.length_dropLast]; omega
  clear hc h0 hz hv hv0
  simp only [List.length_cons] at hlc hl ⊢
  have hne : ((r.length : Int) + 1 == 0) = false := beq_eq_false_iff_ne.2 (by omega)
  by_cases hc1 : c = 1
  · subst hc1
    have hr : r = [] := List.eq_nil_of_length_eq_zero (by omega)
    subst hr
    go_enter Tryd.func28, Tryd.ntmps28
    go_wp2_with fail
    refine (parent_c p0 w (by omega)).mono ?_
    rw [← HL0.out]
    rintro e w1 ⟨rfl, rfl⟩
    go_wp2_with fail
    refine (split_c2 _ w (by assumption) (by omega)).mono ?_
    rw [HSP.out]
    rintro e w2 ⟨an, ca, rfl, hca, hsn, hb2⟩
    go_wp2_with fail
    refine wp_loop_rounds 1 ?_
    rw [rounds_succ]
    go_wp2_with fail
    refine (pjoin_c an ca _ w2 hsn hca htd (by omega)).mono ?_
    rintro e w3 ⟨rfl, hb3⟩
    go_wp2_with fail
    go_ret
    exact ⟨ret_str (by rw [HCOM.out]; rfl), hb2.1.trans (hb3.mono hb2.1.size)⟩
  · go_enter Tryd.func28, Tryd.ntmps28
    go_wp2_with fail
    refine (parent_c p0 w (by omega)).mono ?_
    rw [← HL0.out]
    rintro e w1 ⟨rfl, rfl⟩
    go_wp2_with fail
    refine (split_c2 _ w (by assumption) (by omega)).mono ?_
    rw [HSP.out]
    rintro e w2 ⟨an, ca, rfl, hca, hsn, hb2⟩
    have hb2 := hb2.1
    go_wp2_with fail
    go_loopw [3, 19] (fun t i wr => ∃ (k : Nat) (acc : List ByteArray), k ≤ r.length ∧ i = .int .i64 k ∧ t = .slice an acc.length ca ∧ acc.length ≤ ca ∧ Sl w2 an (acc.map Value.string) ∧ Hid (acc = PathS.comF (PathS.D p0) (r.take k)) ∧ Below w.heap.size w wr ∧ Below w2.heap.size w2 wr) (fun _ i _ => r.length - (intOf i).toNat)
    case atStart => exact ⟨0, PathS.D p0, by omega, rfl, rfl, hca, hsn, by show _ = _; rfl, hb2, Below.refl _ _⟩
    case round =>
      obtain ⟨k, acc, hk, rfl, rfl, hac, hsa, HA, hbw, hb2w⟩ := hrel
      have hat : tot acc ≤ 100000000 := by rw [HA.out]; exact Nat.le_trans (tot_prefix (PathS.comF_left _ _)) htd
      have hal : acc.length ≤ 10000001 := by rw [HA.out]; exact Nat.le_trans (PathS.comF_left _ _).length_le hld
      by_cases hlt : k < r.length
      · obtain ⟨b3, o3, hb3e, hbl3, hc3⟩ := hsr.at (k := k) (by simpa using hlt)
        have hck : wr.cell? ⟨b, o + 1 + k, none⟩ = some (.string r[k]) := by
          cases hb3e
          rw [hbw.cell (p := ⟨b, o + 1 + k, none⟩) hbl, hc3 k (by simpa using hlt), List.getElem_map]
        clear hb3e hc3
        have hzk := HZ.out _ (List.getElem_mem hlt)
        have HS2 := Lib.hid (PathS.spl_parent r[k] (HV.out _ (List.getElem_mem hlt)))
        have HL2 := Lib.hid (PathS.parent_last r[k])
        have hps2 := PathS.parent_size r[k]
        have hq : (PathS.D r[k]).length ≤ 10000001 := by
          have := split_len r[k]
          rw [PathS.split_spl] at this
          rw [PathS.D, List.length_dropLast]; omega
        have HT : Hid (PathS.lcp acc (PathS.D r[k]) = PathS.comF (PathS.D p0) (r.take (k + 1))) := by
          show _ = _
          rw [List.take_succ_eq_append_getElem hlt, PathS.comF, List.foldl_append, HA.out]; rfl
        generalize r[k] = p at *
        go_wp2_with fail
        refine (parent_c p wr (by omega)).mono ?_
        rw [← HL2.out]
        rintro e w3 ⟨rfl, rfl⟩
        go_wp2_with fail
        refine (split_c2 _ wr (HG.out _ hbw) (by omega)).mono ?_
        rw [HS2.out]
        rintro e w4 ⟨aq, cq, rfl, hcq, hsq, hb4⟩
        have hb4 := hb4.1
        generalize PathS.D p = d at *
        have hb24 := hb2w.trans (hb4.mono hb2w.size)
        have hbw4 := hbw.trans (hb4.mono hbw.size)
        have hsa4 := hsa.below hb24
        go_wp2_with fail
        go_loopw [7] (fun t wi => ∃ j : Nat, j ≤ acc.length ∧ j ≤ d.length ∧ t = .int .i64 j ∧ Hid (acc.take j = d.take j) ∧ Below w.heap.size w wi ∧ Below w4.heap.size w4 wi) (fun t _ => acc.length - (intOf t).toNat)
        case atStart => exact ⟨0, by omega, by omega, rfl, by show _ = _; simp, hbw4, Below.refl _ _⟩
        case round =>
          obtain ⟨j, hj1, hj2, rfl, HJ, hbi, hb4i⟩ := hrel
          by_cases hja : j < acc.length
          · by_cases hjd : j < d.length
            · obtain ⟨b5, o5, rfl, hbl5, hc5⟩ := hsa4.at (k := j) (by simpa using hja)
              obtain ⟨b6, o6, rfl, hbl6, hc6⟩ := hsq.at (k := j) (by simpa using hjd)
              have hcx : wr.cell? ⟨b5, o5 + j, none⟩ = some (.string acc[j]) := by rw [hb4i.cell (p := ⟨b5, o5 + j, none⟩) hbl5, hc5 j (by simpa using hja), List.getElem_map]
              have hcy : wr.cell? ⟨b6, o6 + j, none⟩ = some (.string d[j]) := by rw [hb4i.cell (p := ⟨b6, o6 + j, none⟩) hbl6, hc6 j (by simpa using hjd), List.getElem_map]
              clear hc5 hc6
              have hm : decide ((j : Int) < min (acc.length : Int) (d.length : Int)) = true := by simp; omega
              have HSTOP : Hid (acc[j] ≠ d[j] → PathS.lcp acc d = acc.take j) := fun hne => PathS.lcp_stop j acc d hj1 hj2 HJ.out (fun _ _ => hne)
              have HGO : Hid (acc[j] = d[j] → acc.take (j + 1) = d.take (j + 1)) := by
                intro he
                rw [List.take_succ_eq_append_getElem hja, List.take_succ_eq_append_getElem hjd, HJ.out, he]
              generalize acc[j] = x at *
              generalize d[j] = y at *
              have hi0 : (0 : Int) ≤ j := by omega
              have hi1 : (j : Int) < acc.length := by omega
              have hi2 : (j : Int) < d.length := by omega
              by_cases he : x = y
              · have HQ := Lib.hid (cmps_q x y 0 ((PathS.cmpB_tw.eq0 x y).2 he))
                have HG2 := Lib.hid (HGO.out he)
                clear he
                go_wp2_with fail
                go_quiet ((go_at_call 41; exact Calls.quiet_of_same (HQ.out _)))
                go_wp2_with fail
                go_roundw
                case rel => exact ⟨j + 1, by omega, by omega, by go_num, HG2, below_dN hbi _, below_dN hb4i _⟩
                case measure => simp [intOf]; omega
              · have hcz : PathS.cmpB x y ≠ 0 := fun h => he ((PathS.cmpB_tw.eq0 x y).1 h)
                have HE := Lib.hid (HSTOP.out he)
                obtain ⟨z, hz⟩ : ∃ z, PathS.cmpB x y = z := ⟨_, rfl⟩
                have HQ := Lib.hid (cmps_q x y z hz)
                have hz0 : (z == 0) = false := beq_eq_false_iff_ne.2 (by rw [← hz]; exact hcz)
                clear he hcz hz
                go_wp2_with fail
                go_quiet ((go_at_call 41; exact Calls.quiet_of_same (HQ.out _)))
                go_wp2_with fail
                go_roundw
                case rel => exact ⟨k + 1, acc.take j, by omega, by go_num, by rw [List.length_take, Nat.min_eq_left hj1], by rw [List.length_take]; omega, by rw [List.map_take]; exact hsa.take j, by show _ = _; rw [← HE.out, HT.out], below_dN hbi _, below_dN (hb24.trans (hb4i.mono hb24.size)) _⟩
                case measure => simp [intOf]; omega
            · have hm : decide ((j : Int) < min (acc.length : Int) (d.length : Int)) = false := by simp; omega
              have HE : Hid (PathS.lcp acc d = acc.take j) := PathS.lcp_stop j acc d hj1 hj2 HJ.out (fun _ b => absurd b hjd)
              go_wp2_with fail
              go_quiet (fail)
              go_wp2_with fail
              go_roundw
              case rel => exact ⟨k + 1, acc.take j, by omega, by go_num, by rw [List.length_take, Nat.min_eq_left hj1], by rw [List.length_take]; omega, by rw [List.map_take]; exact hsa.take j, by show _ = _; rw [← HE.out, HT.out], below_dN hbi _, below_dN (hb24.trans (hb4i.mono hb24.size)) _⟩
              case measure => simp [intOf]; omega
          · have hm : decide ((j : Int) < min (acc.length : Int) (d.length : Int)) = false := by simp; omega
            have HE : Hid (PathS.lcp acc d = acc.take j) := PathS.lcp_stop j acc d hj1 hj2 HJ.out (fun a _ => absurd a hja)
            go_wp2_with fail
            go_quiet (fail)
            go_wp2_with fail
            go_roundw
            case rel => exact ⟨k + 1, acc.take j, by omega, by go_num, by rw [List.length_take, Nat.min_eq_left hj1], by rw [List.length_take]; omega, by rw [List.map_take]; exact hsa.take j, by show _ = _; rw [← HE.out, HT.out], below_dN hbi _, below_dN (hb24.trans (hb4i.mono hb24.size)) _⟩
            case measure => simp [intOf]; omega
      · obtain rfl : k = r.length := by omega
        have HF : Hid (PathS.joinTo acc acc.length = PathS.joinB (PathS.com (p0 :: r))) := by
          show _ = _
          rw [HCOM.out]
          have := HA.out
          rw [List.take_length] at this
          rw [← this]; rfl
        go_wp2_with fail
        refine (pjoin_c an ca acc wr (hsa.below hb2w) hac hat (by omega)).mono ?_
        rintro e w3 ⟨rfl, hb3⟩
        go_wp2_with fail
        go_ret
        exact ⟨ret_str HF.out.symm, hbw.trans (hb3.mono hbw.size)⟩
end Go.Proofs.YtmcdfikkokbffaaDoor
