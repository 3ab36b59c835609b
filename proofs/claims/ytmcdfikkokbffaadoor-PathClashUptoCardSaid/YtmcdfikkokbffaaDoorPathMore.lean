/- Walks: lying under, parents, the filter 'valid', and 'awake'. -/
import Derived.Test.YtmcdfikkokbffaaDoorPathCmp
namespace Go.Proofs.YtmcdfikkokbffaaDoor
open Go Go.RowKit

set_option maxRecDepth 100000 in
set_option maxHeartbeats 400000 in
theorem under_c (p f : ByteArray) (w : World) (hf : f.size ≤ 100000000) :
    Calls Tryd.prog 12 #[.string p, .string f] w fun e w' => e = .returned (.bool (PathS.under p f)) ∧ w = w' := by
  have ef := isEmpty_iff f
  have ep := isEmpty_iff p
  have hap : (f ++ ⟨#[47]⟩ : ByteArray).data.toList = f.data.toList ++ [47] := by simp
  have HU : Hid (PathS.under p f = if f.size = 0 then decide (p.size ≠ 0) else Lib.hasPrefix p.data.toList (f ++ ⟨#[47]⟩ : ByteArray).data.toList) := by show _ = _; rw [hap]; rfl
  clear hap
  by_cases h1 : f.size = 0
  · have g1 : f.toList.isEmpty = true := by rw [ef]; simpa using h1
    have hf0 : f = ByteArray.empty := PathS.ba_ext (by rw [List.eq_nil_of_length_eq_zero (l := f.data.toList) (by rw [← Lib.size_eq]; exact h1)]; rfl)
    by_cases h2 : p.size = 0
    · have g2 : p.toList.isEmpty = true := by rw [ep]; simpa using h2
      have hp0 : p = ByteArray.empty := PathS.ba_ext (by rw [List.eq_nil_of_length_eq_zero (l := p.data.toList) (by rw [← Lib.size_eq]; exact h2)]; rfl)
      have HF : Hid (PathS.under p f = false) := by show _ = _; rw [HU.out, if_pos h1, h2]; rfl
      clear h1 h2 ef ep HU
      go_enter Tryd.func12, Tryd.ntmps12
      go_wp2_with (go_at_call 31; refine (Tryd.strings_HasPrefix _ _ _).mono ?_; rintro e w1 ⟨rfl, rfl⟩)
      all_goals go_ret
      all_goals exact ⟨ret_bool HF.out, rfl⟩
    · have g2 : p.toList.isEmpty = false := by rw [ep]; simpa using h2
      have HF : Hid (PathS.under p f = true) := by show _ = _; rw [HU.out, if_pos h1]; simpa using h2
      clear h1 h2 ef ep HU hf0
      go_enter Tryd.func12, Tryd.ntmps12
      go_wp2_with fail
      go_ret
      exact ⟨ret_bool HF.out, rfl⟩
  · have g1 : f.toList.isEmpty = false := by rw [ef]; simpa using h1
    have HF : Hid (PathS.under p f = Lib.hasPrefix p.data.toList (f ++ ⟨#[47]⟩ : ByteArray).data.toList) := by show _ = _; rw [HU.out, if_neg h1]
    clear h1 ef ep HU
    go_enter Tryd.func12, Tryd.ntmps12
    go_wp2_with fail
    refine (Tryd.strings_HasPrefix _ _ _).mono ?_
    rintro e w1 ⟨rfl, rfl⟩
    cases hx : Lib.hasPrefix p.data.toList (f ++ ⟨#[47]⟩ : ByteArray).data.toList
    all_goals
      have HX := Lib.hid hx
      clear hx
      go_wp2_with fail
      go_ret
      exact ⟨ret_bool (by rw [HF.out, HX.out]), rfl⟩

theorem parent_c (p : ByteArray) (w : World) (hp : p.size ≤ 100000000) :
    Calls Tryd.prog 22 #[.string p] w fun e w' => e = .returned (.string (p.extract 0 (Lib.lastIndexByte p 47).toNat)) ∧ w = w' := by
  have hr := Lib.lastIdx_spec p 47 p.size
  have hr2 : -1 ≤ Lib.lastIndexByte p 47 ∧ Lib.lastIndexByte p 47 < p.size := by
    unfold Lib.lastIndexByte
    rcases hr with ⟨h, _⟩ | ⟨i, h1, h2, _⟩
    · rw [h]; omega
    · rw [h2]; omega
  clear hr
  have hc : (∃ k : Nat, Hid (Lib.lastIndexByte p 47 = k) ∧ k ≤ p.size ∧ Hid ((Lib.lastIndexByte p 47).toNat = k)) ∨ (Hid (Lib.lastIndexByte p 47 = -1) ∧ Hid ((Lib.lastIndexByte p 47).toNat = 0)) := by
    by_cases h : 0 ≤ Lib.lastIndexByte p 47
    · exact .inl ⟨(Lib.lastIndexByte p 47).toNat, by show _ = _; omega, by omega, by show _ = _; rfl⟩
    · exact .inr ⟨by show _ = _; omega, by show _ = _; omega⟩
  clear hr2
  go_enter Tryd.func22, Tryd.ntmps22
  go_wp2_with fail
  refine (Tryd.strings_LastIndexByte p 47 (by omega) _).mono ?_
  rintro e w1 ⟨rfl, rfl⟩
  rcases hc with ⟨k, H1, hk, H2⟩ | ⟨H1, H2⟩
  · rw [H1.out]
    have g1 : max (k : Int) 0 = k := by omega
    go_wp2_with fail
    go_ret
    exact ⟨ret_str (by rw [H2.out]), rfl⟩
  · rw [H1.out]
    go_wp2_with fail
    go_ret
    exact ⟨ret_str (by rw [H2.out]; rfl), rfl⟩

set_option maxRecDepth 100000 in
set_option maxHeartbeats 400000 in
theorem valid_c (a : Option Addr) (c : Nat) (ss : List ByteArray) (w : World) (hg : Gl w) (hs : Sl w a (ss.map Value.string)) (hl : ss.length ≤ 100000000) (hz : ∀ s ∈ ss, s.size ≤ 10000000) :
    Calls Tryd.prog 10 #[.slice a ss.length c] w fun e w' => ∃ v, e = .returned v ∧ w'.ownsRow w.heap.size 9 1 v (ss.filter fun s => PathS.check s == 0).length ((ss.filter fun s => PathS.check s == 0).map Value.string) ∧ Below w.heap.size w w' := by
  have HF : Hid (ss.filter (fun s => PathS.check s == 0) = (ss.take ss.length).filter (fun s => PathS.check s == 0)) := by show _ = _; rw [List.take_length]
  have HZ := Lib.hid hz
  clear hz
  go_enter Tryd.func10, Tryd.ntmps10
  go_wp2_with fail
  go_loopw [3, 8] (fun out i wr => ∃ k : Nat, k ≤ ss.length ∧ i = .int .i64 k ∧ wr.ownsRow w.heap.size 9 1 out ((ss.take k).filter fun s => PathS.check s == 0).length (((ss.take k).filter fun s => PathS.check s == 0).map Value.string) ∧ Below w.heap.size w wr) (fun _ i _ => ss.length - (intOf i).toNat)
  case atStart => exact ⟨0, by omega, rfl, World.ownsRow_nil _ _ _ _, Below.refl _ _⟩
  case round =>
    obtain ⟨k, hk, rfl, hown, hb⟩ := hrel
    generalize hacc : (ss.take k).filter (fun s => PathS.check s == 0) = acc at *
    have HA := Lib.hid hacc; clear hacc
    by_cases hlt : k < ss.length
    · obtain ⟨b, o, rfl, hbl, hc⟩ := hs.at (k := k) (by simpa using hlt)
      have hcell : wr.cell? ⟨b, o + k, none⟩ = some (.string ss[k]) := by
        rw [hb.cell (p := ⟨b, o + k, none⟩) hbl, hc k (by simpa using hlt), List.getElem_map]
      clear hc
      have hal : acc.length ≤ k := by rw [← HA.out]; exact Nat.le_trans (List.length_filter_le _ _) (List.length_take_le _ _)
      have HT : Hid ((ss.take (k + 1)).filter (fun s => PathS.check s == 0) = acc ++ [ss[k]].filter (fun s => PathS.check s == 0)) := by
        show _ = _; rw [List.take_succ_eq_append_getElem hlt, List.filter_append, HA.out]
      have hsz : ss[k].size ≤ 10000000 := HZ.out _ (List.getElem_mem hlt)
      have hgr := hg.below hb (Nat.le_refl _)
      generalize hck : PathS.check ss[k] = ck at *
      have HC := Lib.hid hck; clear hck
      go_wp2_with fail
      refine (check_c ss[k] wr hgr (by omega)).mono ?_
      rw [HC.out]
      rintro e w1 ⟨rfl, hb1⟩
      have hb2 := hb.trans (hb1.mono hb.size)
      have hown1 := own_below hown hb1
      have hbs := hb1.size
      have hbs2 := hb.size
      by_cases h0 : ck = 0
      · have g0 : (ck == 0) = true := by simpa using h0
        have HT2 : Hid ((ss.take (k + 1)).filter (fun s => PathS.check s == 0) = acc ++ [ss[k]]) := by show _ = _; rw [HT.out]; simp [HC.out, h0]
        clear h0
        have hcell1 : w1.cell? ⟨b, o + k, none⟩ = some (.string ss[k]) := by rw [hb1.cell (p := ⟨b, o + k, none⟩) (show b < wr.heap.size by omega)]; exact hcell
        go_wp2_with (at_builtin; refine wp_app1 rfl _ _ _ rfl ES rfl rfl hown1 rfl rfl (by omega) (by simp [maxLen]; omega) (by omega) ?_)
        intro v' w2 hown2 _ hb3
        go_wp2_with fail
        go_roundw
        case rel => exact ⟨k + 1, by omega, by go_num, by rw [HT2.out]; simpa using hown2, hb2.trans hb3⟩
        case measure => simp [intOf]; omega
      · have g0 : (ck == 0) = false := by simpa using h0
        have HT2 : Hid ((ss.take (k + 1)).filter (fun s => PathS.check s == 0) = acc) := by show _ = _; rw [HT.out]; simp [HC.out, h0]
        clear h0
        go_wp2_with fail
        go_roundw
        case rel => exact ⟨k + 1, by omega, by go_num, by rw [HT2.out]; exact hown1, hb2⟩
        case measure => simp [intOf]; omega
    · have HE : Hid (ss.filter (fun s => PathS.check s == 0) = acc) := by show _ = _; rw [HF.out, ← HA.out, List.take_of_length_le (by omega), List.take_of_length_le (by omega)]
      go_wp2_with fail
      go_ret
      exact ⟨_, rfl, by rw [HE.out]; exact hown, hb⟩

set_option maxRecDepth 100000 in
set_option maxHeartbeats 400000 in
theorem awake_c (w : World) (hg : Gl w) :
    Calls Tryd.prog 9 #[] w fun e w' => e = .returned (.bool true) ∧ Below w.heap.size w w' := by
  have k1 := Lib.hid (show PathS.check ⟨#[97, 47, 98]⟩ = 0 by decide +kernel)
  have k2 := Lib.hid (show PathS.check ⟨#[97, 47, 47, 98]⟩ = 50 by decide +kernel)
  have k3 := Lib.hid (show PathS.cmp ⟨#[97]⟩ ⟨#[97, 47, 98]⟩ = -1 by decide +kernel)
  have k4 := Lib.hid (show PathS.cmp ⟨#[97, 47, 98]⟩ ⟨#[97, 46, 98]⟩ = -1 by decide +kernel)
  have k5 := Lib.hid (show (⟨#[97, 47, 98]⟩ : ByteArray).extract 0 (Lib.lastIndexByte ⟨#[97, 47, 98]⟩ 47).toNat = ⟨#[97]⟩ by decide +kernel)
  have k6 := Lib.hid (show PathS.under ⟨#[97, 47, 98]⟩ ⟨#[97]⟩ = true by decide +kernel)
  have k7 := Lib.hid (show PathS.under ⟨#[97, 46, 98]⟩ ⟨#[97]⟩ = false by decide +kernel)
  have k8 := Lib.hid (show PathS.name ⟨#[120]⟩ = true by decide +kernel)
  go_enter Tryd.func9, Tryd.ntmps9
  go_wp2_with fail
  refine (check_c _ w hg (by decide)).mono ?_
  rw [k1.out]; rintro e w1 ⟨rfl, b1⟩
  have g1 := hg.below b1 (Nat.le_refl _)
  go_wp2_with fail
  refine (check_c _ w1 g1 (by decide)).mono ?_
  rw [k2.out]; rintro e w2 ⟨rfl, b2⟩
  have g2 := g1.below b2 (Nat.le_refl _)
  go_wp2_with fail
  refine (cmp_c _ _ w2 g2 (by decide) (by decide)).mono ?_
  rw [k3.out]; rintro e w3 ⟨rfl, b3⟩
  have g3 := g2.below b3 (Nat.le_refl _)
  go_wp2_with fail
  refine (cmp_c _ _ w3 g3 (by decide) (by decide)).mono ?_
  rw [k4.out]; rintro e w4 ⟨rfl, b4⟩
  go_wp2_with fail
  refine (parent_c _ w4 (by decide)).mono ?_
  rw [k5.out]; rintro e w5 ⟨rfl, rfl⟩
  go_wp2_with fail
  refine (under_c _ _ _ (by decide)).mono ?_
  rw [k6.out]; rintro e w6 ⟨rfl, rfl⟩
  go_wp2_with fail
  refine (under_c _ _ _ (by decide)).mono ?_
  rw [k7.out]; rintro e w7 ⟨rfl, rfl⟩
  go_wp2_with fail
  refine (name_c _ _).mono ?_
  rw [k8.out]; rintro e w8 ⟨rfl, b8⟩
  go_wp2_with fail
  go_ret
  have b34 := b3.trans (b4.mono b3.size)
  have b24 := b2.trans (b34.mono b2.size)
  have b14 := b1.trans (b24.mono b1.size)
  exact ⟨rfl, b14.trans (b8.mono b14.size)⟩

end Go.Proofs.YtmcdfikkokbffaaDoor
