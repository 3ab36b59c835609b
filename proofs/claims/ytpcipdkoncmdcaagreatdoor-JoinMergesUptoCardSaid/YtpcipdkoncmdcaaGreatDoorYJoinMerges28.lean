/- Texts of mine, joined: Walk of the document's tree: Check. -/
import Derived.Test.YtpcipdkoncmdcaaGreatDoorYJoinMerges27
namespace Go.Proofs.YtpcipdkoncmdcaaGreatDoor
open Go Go.RowKit
set_option maxRecDepth 100000 in
set_option maxHeartbeats 8000000 in
theorem rcheck_c {w : World} {v : Value} {l : List Fi} (h : FS w v l) : Calls Tryz.prog 30 #[v] w fun e w' => e = .returned (.int .i64 (chkS l)) ∧ Below w.heap.size w w' := by
  have hn := h.n
  have HS := Lib.hid h
  obtain ⟨a, c, rfl⟩ := h.lit
  clear h
  go_enter Tryz.func30, Tryz.ntmps30
  by_cases hbig : 256 < l.length
  · have HC : Hid (chkS l = 2) := if_pos hbig
    have d1 : decide ((l.length : Int) > 256) = true := decide_eq_true (by omega)
    have d2 : decide ((256 : Int) < (l.length : Int)) = true := decide_eq_true (by omega)
    have d3 : decide (256 < l.length) = true := decide_eq_true hbig
    go_wp2_with fail
    go_ret
    exact ⟨by rw [HC.out]; rfl, Below.refl _ _⟩
  · have HC : Hid (chkS l = chkF l (l.length - 0) 0) := if_neg hbig
    have d1 : decide ((l.length : Int) > 256) = false := decide_eq_false (by omega)
    have d2 : decide ((256 : Int) < (l.length : Int)) = false := decide_eq_false (by omega)
    have d3 : decide (256 < l.length) = false := decide_eq_false hbig
    go_upto_region 4 with fail
    clear d1 d2 d3 hbig
    go_loopw [3] (fun iv wx => ∃ k : Nat, k ≤ l.length ∧ iv = .int .i64 k ∧ Hid (chkS l = chkF l (l.length - k) k) ∧ Hid (Below w.heap.size w wx)) (fun iv _ => (l.length - intOf iv).toNat)
    case atStart => exact ⟨0, Nat.zero_le _, rfl, HC, Below.refl _ _⟩
    case round =>
      obtain ⟨k, hk, rfl, HC, HB⟩ := hrel
      by_cases hlt : k < l.length
      · have d1 : decide ((k : Int) < (l.length : Int)) = true := decide_eq_true (by omega)
        have d2 : decide (k < l.length) = true := decide_eq_true hlt
        have d3 : (0 : Int) ≤ (k : Int) := by omega
        have d4 : (k : Int) < (l.length : Int) := by omega
        have dw : IntKind.i64.wrap ((k : Int) + 1) = ((k + 1 : Nat) : Int) := IntWalk.i64_in _ (by omega)
        obtain ⟨b, o, c', e, hbl, hr⟩ := (HS.out.below HB.out).at hlt
        injection e with e1 _ e2
        subst e1 e2
        have hst := chkF_step hlt
        rw [← HC.out] at hst
        have HST := Lib.hid hst
        have hpz : l[k].path.size ≤ 2000000 := (HS.out.ok _ (List.getElem_mem hlt)).pz
        have hpw : wr.cell? ⟨b, o + k * 34, none⟩ = some (.string l[k].path) := hr k hlt 0 (.string l[k].path) rfl
        have HPR : Hid (∀ j (hj : j < l.length), ∀ W, Below wr.heap.size wr W → W.cell? ⟨b, o + j * 34, none⟩ = some (.string l[j].path)) := fun j hj W hW => (hW.cell (p := ⟨b, o + j * 34, none⟩) hbl).trans (by have := hr j hj 0 (.string l[j].path) rfl; exact this)
        have HCK := Lib.hid (ref_check l[k].path wr (by omega))
        obtain ⟨ck, hck⟩ : ∃ ck, PathS.check l[k].path = ck := ⟨_, rfl⟩
        rw [hck] at HCK
        clear hst hr HC hbl
        by_cases hc0 : ck = 0
        · subst hc0
          go_upto_region 9 with (go_at_call 56; refine HCK.out.mono ?_; rintro e W6 ⟨rfl, hb6⟩; have HB6 := Lib.hid (HB.out.trans (hb6.mono HB.out.size)); have HBR6 := Lib.hid hb6; clear hb6)
          clear HCK
          have hp6 : W6.cell? ⟨b, o + k * 34, none⟩ = some (.string l[k].path) := HPR.out k hlt W6 HBR6.out
          clear hpw
          rcases Nat.eq_zero_or_pos k with hk0 | hk0
          · have HZ : Hid (chk1 l k = 0) := by show _ = _; subst hk0; exact chk1_zero hlt hck
            have d5 : decide ((k : Int) > 0) = false := decide_eq_false (by omega)
            have d6 : decide ((0 : Int) < (k : Int)) = false := decide_eq_false (by omega)
            have d7 : decide (0 < k) = false := decide_eq_false (by omega)
            clear hck hk0 hp6
            refine wp_region_hz (fun _ => True) (.tk 0 (.tk 1 (.tk 2 (.tk 3 (.tk 4 (.tk 5 (.tk 6 (.tk 7 (.tk 8 (.tk 9 (.tk 10 (.tk 11 (.tk 12 (.tk 13 (.tk 14 (.tk 15 (.tk 16 (.nil)))))))))))))))))) (by kernel_rfl) (by kernel_rfl) (fun _ _ _ _ _ h => h) ?_
            refine goZ_tk rfl rfl 23 rfl (.int .i64 k) (fun _ => rfl) ?_; simp only [zT, zA, zB]
            refine goZ_tk rfl rfl 24 rfl (.bool false) (fun _ => by go_simp) ?_; simp only [zT, zA, zB]
            refine goZ_tk rfl rfl 25 rfl (.bool false) (fun _ => rfl) ?_; simp only [zT, zA, zB]
            refine goZ_no rfl rfl 26 rfl ?_; simp only [zT, zA, zB]
            refine goZ_no rfl rfl 27 rfl ?_; simp only [zT, zA, zB]
            refine goZ_no rfl rfl 28 rfl ?_; simp only [zT, zA, zB]
            refine goZ_no rfl rfl 29 rfl ?_; simp only [zT, zA, zB]
            refine goZ_no rfl rfl 30 rfl ?_; simp only [zT, zA, zB]
            refine goZ_no rfl rfl 31 rfl ?_; simp only [zT, zA, zB]
            refine goZ_no rfl rfl 32 rfl ?_; simp only [zT, zA, zB]
            refine goZ_no rfl rfl 33 rfl ?_; simp only [zT, zA, zB]
            refine goZ_no rfl rfl 34 rfl ?_; simp only [zT, zA, zB]
            refine goZ_no rfl rfl 35 rfl ?_; simp only [zT, zA, zB]
            refine goZ_no rfl rfl 36 rfl ?_; simp only [zT, zA, zB]
            refine goZ_no rfl rfl 37 rfl ?_; simp only [zT, zA, zB]
            refine goZ_no rfl rfl 38 rfl ?_; simp only [zT, zA, zB]
            refine goZ_tk rfl rfl 39 rfl (.bool false) (fun _ => rfl) ?_; simp only [zT, zA, zB]
            refine goZ_end ?_
            go_upto_region 11 with fail
            refine wp_region_hz (fun _ => True) (.tk 0 (.tk 1 (.tk 2 (.tk 3 (.tk 4 (.tk 5 (.tk 6 (.tk 7 (.tk 8 (.tk 9 (.tk 10 (.tk 11 (.tk 12 (.tk 13 (.tk 14 (.tk 15 (.nil))))))))))))))))) (by kernel_rfl) (by kernel_rfl) (fun _ _ _ _ _ h => h) ?_
            refine goZ_tk rfl rfl 40 rfl (.int .i64 k) (fun _ => rfl) ?_; simp only [zT, zA, zB]
            refine goZ_tk rfl rfl 41 rfl (.bool false) (fun _ => by go_simp) ?_; simp only [zT, zA, zB]
            refine goZ_tk rfl rfl 42 rfl (.bool false) (fun _ => rfl) ?_; simp only [zT, zA, zB]
            refine goZ_no rfl rfl 43 rfl ?_; simp only [zT, zA, zB]
            refine goZ_no rfl rfl 44 rfl ?_; simp only [zT, zA, zB]
            refine goZ_no rfl rfl 45 rfl ?_; simp only [zT, zA, zB]
            refine goZ_no rfl rfl 46 rfl ?_; simp only [zT, zA, zB]
            refine goZ_no rfl rfl 47 rfl ?_; simp only [zT, zA, zB]
            refine goZ_no rfl rfl 48 rfl ?_; simp only [zT, zA, zB]
            refine goZ_no rfl rfl 49 rfl ?_; simp only [zT, zA, zB]
            refine goZ_no rfl rfl 50 rfl ?_; simp only [zT, zA, zB]
            refine goZ_no rfl rfl 51 rfl ?_; simp only [zT, zA, zB]
            refine goZ_no rfl rfl 52 rfl ?_; simp only [zT, zA, zB]
            refine goZ_no rfl rfl 53 rfl ?_; simp only [zT, zA, zB]
            refine goZ_no rfl rfl 54 rfl ?_; simp only [zT, zA, zB]
            refine goZ_tk rfl rfl 55 rfl (.bool false) (fun _ => rfl) ?_; simp only [zT, zA, zB]
            refine goZ_end ?_
            rw [if_neg (by rw [HZ.out]; decide)] at HST
            go_wp2_with fail
            go_roundw
            case rel => exact ⟨k + 1, hlt, by go_num, HST, HB6.out.trans ((below_dN (below_dN (Below.refl _ W6) 1) 1).mono HB6.out.size)⟩
            case measure => simp [intOf]; omega
          · have hj : k - 1 < l.length := by omega
            have HZ : Hid (chk1 l k = if 0 ≤ PathS.cmp (l[k - 1]'hj).path l[k].path then 92 else if PathS.under l[k].path (l[k - 1]'hj).path then 110 else 0) := by
              show _ = _
              obtain ⟨j, rfl⟩ : ∃ j, k = j + 1 := ⟨k - 1, by omega⟩
              exact chk1_succ hlt hck
            have d5 : decide ((k : Int) > 0) = true := decide_eq_true (by omega)
            have d6 : decide ((0 : Int) < (k : Int)) = true := decide_eq_true (by omega)
            have d7 : decide (0 < k) = true := decide_eq_true (by omega)
            have dw2 : IntKind.i64.wrap ((k : Int) - 1) = ((k - 1 : Nat) : Int) := by rw [show (k : Int) - 1 = ((k - 1 : Nat) : Int) by omega]; exact IntWalk.i64_in _ (by omega)
            have d8 : (0 : Int) ≤ ((k - 1 : Nat) : Int) := by omega
            have d9 : ((k - 1 : Nat) : Int) < (l.length : Int) := by omega
            have hpv := HPR.out (k - 1) hj W6 HBR6.out
            have hpvz := (HS.out.ok _ (List.getElem_mem hj)).pz
            have hbb : b < W6.heap.size := by have := hpv; exact World.block_lt_of_cell? _ _ this
            clear hck HPR
            generalize (l[k - 1]'hj).path = pv at *
            generalize l[k].path = cu at *
            have HB61 : Hid (Below w.heap.size w (W6.drewN 1)) := HB6.out.trans ((below_dN (Below.refl _ W6) 1).mono HB6.out.size)
            have HCM := Lib.hid (ref_cmp pv cu (W6.drewN 1) (by omega) (by omega))
            obtain ⟨z, hz⟩ : ∃ z, decide (0 ≤ PathS.cmp pv cu) = z := ⟨_, rfl⟩
            have hz2 : decide (PathS.cmp pv cu ≥ 0) = z := hz
            have hs0 : (fun W : World => W.cell? ⟨b, o + (k - 1) * 34, none⟩ = some (.string pv) ∧ W.cell? ⟨b, o + k * 34, none⟩ = some (.string cu)) (W6.drewN 1) := ⟨hpv, hp6⟩
            refine wp_region_hz (fun W : World => W.cell? ⟨b, o + (k - 1) * 34, none⟩ = some (.string pv) ∧ W.cell? ⟨b, o + k * 34, none⟩ = some (.string cu)) (.tk 0 (.tk 1 (.tk 2 (.tk 3 (.tk 4 (.tk 5 (.tk 6 (.tk 7 (.tk 8 (.tk 9 (.tk 10 (.tk 11 (.tk 12 (.tk 13 (.fc 14 (.tk 15 (.tk 16 (.nil)))))))))))))))))) (by kernel_rfl) (by kernel_rfl) (fun _ _ _ _ _ h => h) ?_
            refine goZ_tk rfl rfl 23 rfl (.int .i64 k) (fun _ => rfl) ?_; simp only [zT, zA, zB]
            refine goZ_tk rfl rfl 24 rfl (.bool true) (fun _ => by go_simp) ?_; simp only [zT, zA, zB]
            refine goZ_tk rfl rfl 25 rfl (.bool true) (fun _ => rfl) ?_; simp only [zT, zA, zB]
            refine goZ_tk rfl rfl 26 rfl (.slice (some ⟨b, o, none⟩) l.length c) (fun _ => rfl) ?_; simp only [zT, zA, zB]
            refine goZ_tk rfl rfl 27 rfl (.int .i64 k) (fun _ => rfl) ?_; simp only [zT, zA, zB]
            refine goZ_tk rfl rfl 28 rfl (.int .i64 ((k - 1 : Nat) : Int)) (fun _ => by go_simp) ?_; simp only [zT, zA, zB]
            refine goZ_tk rfl rfl 29 rfl (.pointer (some ⟨b, o + (k - 1) * 34, none⟩)) (fun _ => by go_simp) ?_; simp only [zT, zA, zB]
            refine goZ_tk rfl rfl 30 rfl (.pointer (some ⟨b, o + (k - 1) * 34, none⟩)) (fun _ => rfl) ?_; simp only [zT, zA, zB]
            refine goZ_ld rfl rfl 31 rfl 9 _ rfl ⟨b, o + (k - 1) * 34, none⟩ (.string pv) rfl (fun W hS => ld_str9 _ _ W hS.1) (hs0) ?_; simp only [zT, zA, zB]
            refine goZ_tk rfl rfl 32 rfl (.slice (some ⟨b, o, none⟩) l.length c) (fun _ => rfl) ?_; simp only [zT, zA, zB]
            refine goZ_tk rfl rfl 33 rfl (.int .i64 k) (fun _ => rfl) ?_; simp only [zT, zA, zB]
            refine goZ_tk rfl rfl 34 rfl (.pointer (some ⟨b, o + k * 34, none⟩)) (fun _ => by go_simp) ?_; simp only [zT, zA, zB]
            refine goZ_tk rfl rfl 35 rfl (.pointer (some ⟨b, o + k * 34, none⟩)) (fun _ => rfl) ?_; simp only [zT, zA, zB]
            refine goZ_ld rfl rfl 36 rfl 9 _ rfl ⟨b, o + k * 34, none⟩ (.string cu) rfl (fun W hS => ld_str9 _ _ W hS.2) (hs0) ?_; simp only [zT, zA, zB]
            refine goZ_call (ds' := []) rfl rfl (by kernel_rfl) 37 rfl 57 _ rfl [.string pv, .string cu] rfl (enters_of Tryz.func57 (by kernel_rfl) rfl) ((HCM.out).mono ?_)
            rintro e W7 ⟨rfl, hb7⟩
            have HB7 := Lib.hid hb7
            clear hb7 hs0
            refine ⟨(.int .i64 (PathS.cmp pv cu)), rfl, fun h => absurd rfl h, ?_⟩; simp only [zT, zA, zB]
            refine goZ_tk rfl rfl 38 rfl (.bool z) (fun _ => by go_simp) ?_; simp only [zT, zA, zB]
            refine goZ_tk rfl rfl 39 rfl (.bool z) (fun _ => rfl) ?_; simp only [zT, zA, zB]
            refine goZ_end ?_
            have HB7w : Hid (Below w.heap.size w W7) := HB61.out.trans (HB7.out.mono HB61.out.size)
            have hpv7 : W7.cell? ⟨b, o + (k - 1) * 34, none⟩ = some (.string pv) := (HB7.out.cell (p := ⟨b, o + (k - 1) * 34, none⟩) hbb).trans hpv
            have hp7 : W7.cell? ⟨b, o + k * 34, none⟩ = some (.string cu) := (HB7.out.cell (p := ⟨b, o + k * 34, none⟩) hbb).trans hp6
            clear hpv hp6 HB7 HCM HB61
            cases z with
            | true =>
              have HF : Hid (chkS l = 92) := by show _ = _; rw [HST.out, HZ.out, if_pos (of_decide_eq_true hz)]; rfl
              clear hz hz2
              go_wp2_with fail
              go_ret
              exact ⟨by rw [HF.out]; rfl, HB7w.out⟩
            | false =>
              rw [if_neg (of_decide_eq_false hz)] at HZ
              clear hz hz2
              obtain ⟨y, hy⟩ : ∃ y, PathS.under cu pv = y := ⟨_, rfl⟩
              have HUN : Hid (∀ W, Calls Tryz.prog 34 #[.string cu, .string pv] W fun e w' => e = .returned (.bool y) ∧ W = w') := fun W => by have := ref_under cu pv W (by omega) (by omega); rw [hy] at this; exact this
              rw [hy] at HZ
              clear hy
              go_upto_region 11 with fail
              have hs0 : (fun W : World => W.cell? ⟨b, o + (k - 1) * 34, none⟩ = some (.string pv) ∧ W.cell? ⟨b, o + k * 34, none⟩ = some (.string cu)) (W7.drewN 1) := ⟨hpv7, hp7⟩
              refine wp_region_hz (fun W : World => W.cell? ⟨b, o + (k - 1) * 34, none⟩ = some (.string pv) ∧ W.cell? ⟨b, o + k * 34, none⟩ = some (.string cu)) (.tk 0 (.tk 1 (.tk 2 (.tk 3 (.tk 4 (.tk 5 (.tk 6 (.tk 7 (.tk 8 (.tk 9 (.tk 10 (.tk 11 (.tk 12 (.tk 13 (.fc 14 (.tk 15 (.nil))))))))))))))))) (by kernel_rfl) (by kernel_rfl) (fun _ _ _ _ _ h => h) ?_
              refine goZ_tk rfl rfl 40 rfl (.int .i64 k) (fun _ => rfl) ?_; simp only [zT, zA, zB]
              refine goZ_tk rfl rfl 41 rfl (.bool true) (fun _ => by go_simp) ?_; simp only [zT, zA, zB]
              refine goZ_tk rfl rfl 42 rfl (.bool true) (fun _ => rfl) ?_; simp only [zT, zA, zB]
              refine goZ_tk rfl rfl 43 rfl (.slice (some ⟨b, o, none⟩) l.length c) (fun _ => rfl) ?_; simp only [zT, zA, zB]
              refine goZ_tk rfl rfl 44 rfl (.int .i64 k) (fun _ => rfl) ?_; simp only [zT, zA, zB]
              refine goZ_tk rfl rfl 45 rfl (.pointer (some ⟨b, o + k * 34, none⟩)) (fun _ => by go_simp) ?_; simp only [zT, zA, zB]
              refine goZ_tk rfl rfl 46 rfl (.pointer (some ⟨b, o + k * 34, none⟩)) (fun _ => rfl) ?_; simp only [zT, zA, zB]
              refine goZ_ld rfl rfl 47 rfl 9 _ rfl ⟨b, o + k * 34, none⟩ (.string cu) rfl (fun W hS => ld_str9 _ _ W hS.2) (hs0) ?_; simp only [zT, zA, zB]
              refine goZ_tk rfl rfl 48 rfl (.slice (some ⟨b, o, none⟩) l.length c) (fun _ => rfl) ?_; simp only [zT, zA, zB]
              refine goZ_tk rfl rfl 49 rfl (.int .i64 k) (fun _ => rfl) ?_; simp only [zT, zA, zB]
              refine goZ_tk rfl rfl 50 rfl (.int .i64 ((k - 1 : Nat) : Int)) (fun _ => by go_simp) ?_; simp only [zT, zA, zB]
              refine goZ_tk rfl rfl 51 rfl (.pointer (some ⟨b, o + (k - 1) * 34, none⟩)) (fun _ => by go_simp) ?_; simp only [zT, zA, zB]
              refine goZ_tk rfl rfl 52 rfl (.pointer (some ⟨b, o + (k - 1) * 34, none⟩)) (fun _ => rfl) ?_; simp only [zT, zA, zB]
              refine goZ_ld rfl rfl 53 rfl 9 _ rfl ⟨b, o + (k - 1) * 34, none⟩ (.string pv) rfl (fun W hS => ld_str9 _ _ W hS.1) (hs0) ?_; simp only [zT, zA, zB]
              refine goZ_call (ds' := []) rfl rfl (by kernel_rfl) 54 rfl 34 _ rfl [.string cu, .string pv] rfl (enters_of Tryz.func34 (by kernel_rfl) rfl) ((HUN.out _).mono ?_)
              rintro e W8 ⟨rfl, hw8⟩
              have hw8 := hw8.symm
              subst hw8
              clear hs0
              refine ⟨(.bool y), rfl, fun h => absurd rfl h, ?_⟩; simp only [zT, zA, zB]
              refine goZ_tk rfl rfl 55 rfl (.bool y) (fun _ => rfl) ?_; simp only [zT, zA, zB]
              refine goZ_end ?_
              have HB8 : Hid (Below w.heap.size w (W7.drewN 1)) := HB7w.out.trans ((below_dN (Below.refl _ W7) 1).mono HB7w.out.size)
              cases y with
              | true =>
                have HF : Hid (chkS l = 110) := by show _ = _; rw [HST.out, HZ.out]; rfl
                go_wp2_with fail
                go_ret
                exact ⟨by rw [HF.out]; rfl, HB8.out⟩
              | false =>
                rw [HZ.out] at HST
                have HST2 : Hid (chkS l = chkF l (l.length - (k + 1)) (k + 1)) := HST.out
                clear HST
                go_wp2_with fail
                go_roundw
                case rel => exact ⟨k + 1, hlt, by go_num, HST2, HB8.out⟩
                case measure => simp [intOf]; omega
        · have e0 : (ck == 0) = false := beq_eq_false_iff_ne.2 hc0
          have HF : Hid (chkS l = ck) := by show _ = _; rw [HST.out, chk1_bad hlt (by rw [hck]; exact hc0), hck, if_pos hc0]
          go_wp2_with (go_at_call 56; refine HCK.out.mono ?_; rintro e W6 ⟨rfl, hb6⟩; have HB6 := Lib.hid (HB.out.trans (hb6.mono HB.out.size)); clear hb6)
          go_ret
          exact ⟨by rw [HF.out]; rfl, HB6.out⟩
      · have hkl : k = l.length := by omega
        have HF : Hid (chkS l = 0) := by show _ = _; rw [HC.out, hkl, Nat.sub_self]; rfl
        have d1 : decide ((k : Int) < (l.length : Int)) = false := decide_eq_false (by omega)
        have d2 : decide (k < l.length) = false := decide_eq_false hlt
        clear hkl HC
        go_wp2_with fail
        go_ret
        exact ⟨by rw [HF.out]; rfl, HB.out⟩
end Go.Proofs.YtpcipdkoncmdcaaGreatDoor
