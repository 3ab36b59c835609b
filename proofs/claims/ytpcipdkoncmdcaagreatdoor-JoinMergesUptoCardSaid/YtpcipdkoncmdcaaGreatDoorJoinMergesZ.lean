/- The law JoinMerges answers true for all arguments of bulk at most 1048576: the row's statement and its card. Conditions: the row's own (laid tables as the card ties them; bulk). -/
import Derived.Test.YtpcipdkoncmdcaaGreatDoorYJoinMerges35
namespace Go.Proofs.YtpcipdkoncmdcaaGreatDoor
open Go Go.RowKit Go.Maps

theorem bool_same (b : Bool) (w : World) : (binOp .eql 4 (.bool b) (.bool b)).run Tryz.prog w = .ok (.bool true) w := by rw [bool_eql]; simp

set_option maxRecDepth 100000 in
set_option maxHeartbeats 8000000 in
theorem merges_c {w : World} {va vb vc v : Value} {T : T3 (List Fi)} {l : List LB} (ha : FS w va T.a) (hb : FS w vb T.b) (hc : FS w vc T.c) (h : RB w v l) (hs : sumB l ≤ 1048576) (hg : Gl w) :
    Calls Tryz.prog 3 #[.agg #[va, vb, vc], v] w fun e w' => e = .returned (.bool true) ∧ Below w.heap.size w w' := by
  have HFA := Lib.hid ha
  have HFB := Lib.hid hb
  have HFC := Lib.hid hc
  have HRB := Lib.hid h
  have HGL := Lib.hid hg
  have HSB := Lib.hid hs
  obtain ⟨W1, hW1⟩ : ∃ W1, w.alloc (.cells #[va, vb, vc] 23 (0, 0)) = W1 := ⟨_, rfl⟩
  have HB1 : Hid (Below w.heap.size w W1) := by show Below _ _ _; rw [← hW1]; exact (Below.refl _ w).alloc (Nat.le_refl _) _
  have hblk : W1.heap[w.heap.size]? = some (.cells #[va, vb, vc] 23 (0, 0)) := by rw [← hW1]; exact Array.getElem?_push_size
  have HBLK1 := Lib.hid hblk
  have HLT1 : Hid (w.heap.size < W1.heap.size) := (Array.getElem?_eq_some_iff.1 hblk).1
  have HW1 := Lib.hid hW1
  have HAW := Lib.hid (awake_c W1 (hg.below HB1.out (Nat.le_refl _)))
  obtain ⟨aa, ca, rfl⟩ := ha.lit
  obtain ⟨ab, cb, rfl⟩ := hb.lit
  obtain ⟨ac, cc, rfl⟩ := hc.lit
  obtain ⟨ab', cb', rfl⟩ := h.lit
  clear ha hb hc h hs hg hW1 hblk
  go_enter Tryz.func3, Tryz.ntmps3
  go_upto_region 1 with fail
  rw [HW1.out]
  clear HW1
  go_upto_region 3 with (go_at_call 10; refine HAW.out.mono ?_; rintro e W2 ⟨rfl, hb2⟩)
  have HB2 := Lib.hid (HB1.out.trans (hb2.mono HB1.out.size))
  have HBLK2 : Hid (W2.heap[w.heap.size]? = _) := (hb2.block _ HLT1.out).trans HBLK1.out
  have HLT2 : Hid (w.heap.size < W2.heap.size) := Nat.lt_of_lt_of_le HLT1.out hb2.size
  clear hb2 HB1 HBLK1 HLT1 HAW
  have hsm := small_c (HFA.out.below HB2.out) (HFB.out.below HB2.out) (HFC.out.below HB2.out) (HRB.out.below HB2.out) HSB.out
  obtain ⟨z, hz⟩ : ∃ z, (decide (sumB l ≤ 600) && decide (T.a.length + T.b.length + T.c.length ≤ 90)) = z := ⟨_, rfl⟩
  rw [hz] at hsm
  cases z with
  | false =>
    have HSM := Lib.hid hsm
    clear hsm
    go_wp2_with (first
      | (refine wp_loadB rfl 23 _ rfl w.heap.size rfl HBLK2.out _ Tryz.underlying23 rfl (by kernel_rfl) ?_)
      | (go_at_call 11; refine HSM.out.mono ?_; rintro e W3 ⟨rfl, hb3⟩))
    go_ret
    exact ⟨rfl, HB2.out.trans (hb3.mono HB2.out.size)⟩
  | true =>
    have HSM := Lib.hid hsm
    rw [Bool.and_eq_true, decide_eq_true_eq, decide_eq_true_eq] at hz
    have HZ6 : Hid (sumB l ≤ 600) := hz.1
    have HN : Hid (T.a.length + T.b.length + T.c.length ≤ 90) := hz.2
    clear hsm hz
    go_upto_region 5 with (first
      | (refine wp_loadB rfl 23 _ rfl w.heap.size rfl HBLK2.out _ Tryz.underlying23 rfl (by kernel_rfl) ?_)
      | (go_at_call 11; refine HSM.out.mono ?_; rintro e W3 ⟨rfl, hb3⟩))
    have HB3 := Lib.hid (HB2.out.trans (hb3.mono HB2.out.size))
    have HBLK3 : Hid (W3.heap[w.heap.size]? = some (.cells #[.slice aa T.a.length ca, .slice ab T.b.length cb, .slice ac T.c.length cc] 23 (0, 0))) := (hb3.block _ HLT2.out).trans HBLK2.out
    have HLT3 : Hid (w.heap.size < W3.heap.size) := Nat.lt_of_lt_of_le HLT2.out hb3.size
    clear hb3 HB2 HBLK2 HLT2 HSM
    have HLA := Lib.hid (laid_c (HRB.out.below HB3.out))
    go_upto_region 6 with (go_at_call 12; refine HLA.out.mono ?_; rintro e W5 ⟨lv, rfl, hbs, hb5⟩)
    obtain ⟨la, lc, rfl⟩ := hbs.lit
    have HBLK5 : Hid (W5.heap[w.heap.size]? = some (.cells #[.slice aa T.a.length ca, .slice ab T.b.length cb, .slice ac T.c.length cc] 23 (0, 0))) := (hb5.block _ HLT3.out).trans HBLK3.out
    have HLT5 : Hid (w.heap.size < W5.heap.size) := Nat.lt_of_lt_of_le HLT3.out hb5.size
    have HB5 := Lib.hid (HB3.out.trans (hb5.mono HB3.out.size))
    have HBS5 := Lib.hid hbs
    have HMC := Lib.hid (merge_c (T := T) (HFA.out.below HB5.out) (HFB.out.below HB5.out) (HFC.out.below HB5.out) (HGL.out.below HB5.out (Nat.le_refl _)) (bs_size HZ6.out) HBS5.out)
    clear hbs hb5 HLA HB3 HBLK3 HLT3
    refine goP_start ?_
    refine goP_ld rfl 22 rfl 23 _ rfl ⟨w.heap.size, 0, none⟩ (.agg #[.slice aa T.a.length ca, .slice ab T.b.length cb, .slice ac T.c.length cc]) rfl (ld_blk Tryz.underlying23 rfl (by kernel_rfl) _ HBLK5.out) ?_; simp only [zT, zA, zB]
    refine goP_mv rfl 23 rfl _ rfl (.slice la (l.map toBl).length lc) rfl ?_; simp only [zT, zA, zB]
    refine goP_tk rfl 24 rfl (.agg #[.slice la (l.map toBl).length lc]) (exec_build _ rfl (by simp [Act.eval]) (rb_shelf _ _ _) _) ?_; simp only [zT, zA, zB]
    refine goP_tk rfl 25 rfl (SrcV (.slice la (l.map toBl).length lc)) (by first | rfl | go_simp) ?_; simp only [zT, zA, zB]
    refine goP_call rfl 26 rfl 13 _ rfl [(.agg #[.slice aa T.a.length ca, .slice ab T.b.length cb, .slice ac T.c.length cc]), (SrcV (.slice la (l.map toBl).length lc))] rfl (enters_of Tryz.func13 (by kernel_rfl) rfl) ((HMC.out).mono ?_)
    rintro e W6 ⟨ov, V, rfl, hV, hMO⟩
    refine ⟨(.tuple #[ov, .int .i64 (mergeS (textS (l.map toBl)) (upT T 3) (chkA T 3)).1]), rfl, ?_⟩; simp only [zT, zA, zB]
    refine goP_mv rfl 21 rfl _ rfl (.tuple #[ov, .int .i64 (mergeS (textS (l.map toBl)) (upT T 3) (chkA T 3)).1]) rfl ?_; simp only [zT, zA, zB]
    refine goP_tk rfl 27 rfl ov (by first | rfl | go_simp) ?_; simp only [zT, zA, zB]
    refine goP_tk rfl 28 rfl (.int .i64 (mergeS (textS (l.map toBl)) (upT T 3) (chkA T 3)).1) (by first | rfl | go_simp) ?_; simp only [zT, zA, zB]
    refine goP_as rfl 6 rfl _ rfl ov rfl ?_; simp only [zT, zA, zB]
    refine goP_as rfl 7 rfl _ rfl (.int .i64 (mergeS (textS (l.map toBl)) (upT T 3) (chkA T 3)).1) rfl ?_; simp only [zT, zA, zB]
    refine goP_end ?_
    have HB6 := Lib.hid (HB5.out.trans (hMO.below.mono HB5.out.size))
    have HBLK6 : Hid (W6.heap[w.heap.size]? = some (.cells #[.slice aa T.a.length ca, .slice ab T.b.length cb, .slice ac T.c.length cc] 23 (0, 0))) := (hMO.below.block _ HLT5.out).trans HBLK5.out
    have HLT6 : Hid (w.heap.size < W6.heap.size) := Nat.lt_of_lt_of_le HLT5.out hMO.below.size
    have HBS6 := Lib.hid (HBS5.out.below hMO.below)
    have HOA := Lib.hid hMO.or
    have HTA : Hid (∀ x ∈ V, Tx W6 x.tv x.o.text) := fun x hx => (hMO.tx x hx).1.tx
    have HVA := Lib.hid hV
    clear hMO hV HB5 HBLK5 HLT5 HBS5 HMC
    have hn1 := fun h => merge_nil (src := textS (l.map toBl)) (T := T) h
    have hl1 := fun h => again_len (src := textS (l.map toBl)) (T := T) h
    have hnl : (mergeS (textS (l.map toBl)) (upT T 3) (chkA T 3)).2.length ≤ 90 := by
      by_cases he : (mergeS (textS (l.map toBl)) (upT T 3) (chkA T 3)).1 = 0
      · have h := hl1 he; have h2 := HN.out; omega
      · rw [hn1 he]; exact Nat.zero_le _
    have HNL := Lib.hid hnl
    clear hn1 hl1 hnl
    have HDM : Hid (∀ W (p1 p2 p3 s : Value), FS W p1 T.a → FS W p2 T.b → FS W p3 T.c → BS W s (l.map toBl) → Calls Tryz.prog 14 #[p1, p2, p3, s] W fun e w' => ∃ v, e = .returned (.tuple #[v, .int .i64 (mergeS (textS (l.map toBl)) (upT T 3) (chkA T 3)).1]) ∧ DR w' v (mergeS (textS (l.map toBl)) (upT T 3) (chkA T 3)).2 ∧ Below W.heap.size W w') := fun W p1 p2 p3 s h1 h2 h3 h4 => dmerge_c h1 h2 h3 h4 (bs_size HZ6.out)
    obtain ⟨R, hR⟩ : ∃ R, mergeS (textS (l.map toBl)) (upT T 3) (chkA T 3) = R := ⟨_, rfl⟩
    rw [hR] at HVA HNL HDM ⊢
    clear hR
    obtain ⟨er, os⟩ := R
    have HVA : Hid (V.map (·.o) = os) := HVA
    have HNL : Hid (os.length ≤ 90) := HNL
    have HDM : Hid (∀ W (p1 p2 p3 s : Value), FS W p1 T.a → FS W p2 T.b → FS W p3 T.c → BS W s (l.map toBl) → Calls Tryz.prog 14 #[p1, p2, p3, s] W fun e w' => ∃ v, e = .returned (.tuple #[v, .int .i64 er]) ∧ DR w' v os ∧ Below W.heap.size W w') := HDM
    go_upto_region 7 with fail
    have HB7 : Hid (Below w.heap.size w (W6.drewN 1)) := below_dN HB6.out 1
    have HX7 : Hid (Below W6.heap.size W6 (W6.drewN 1)) := below_dN (Below.refl _ W6) 1
    have HLT7 : Hid (w.heap.size < (W6.drewN 1).heap.size) := HLT6.out
    have hs0 : (W6.drewN 1).heap[w.heap.size]? = some (.cells #[.slice aa T.a.length ca, .slice ab T.b.length cb, .slice ac T.c.length cc] 23 (0, 0)) := HBLK6.out
    have HPA := Lib.hid (plain_c (HFA.out.below HB7.out))
    refine wp_region_hz (fun W => W.heap[w.heap.size]? = some (.cells #[.slice aa T.a.length ca, .slice ab T.b.length cb, .slice ac T.c.length cc] 23 (0, 0))) (.tk 0 (.tk 1 (.tk 3 (.tk 4 (.tk 6 (.tk 7 (.tk 9 (.fc 2 (.fc 5 (.fc 8 (.fc 10 (.tk 11 (.tk 12 (.tk 13 (.tk 14 (.tk 15 (.nil))))))))))))))))) (by kernel_rfl) (by kernel_rfl) (fun _ _ _ _ _ h => h) ?_
    refine goZ_tk rfl rfl 30 rfl (.pointer (some ⟨w.heap.size, 0, none⟩)) (fun _ => by go_simp) ?_; simp only [zT, zA, zB]
    refine goZ_ld rfl rfl 31 rfl 22 _ rfl ⟨w.heap.size, 0, none⟩ (.slice aa T.a.length ca) rfl (fun W hS => ld_files _ _ _ _ W (by have h : W.heap[w.heap.size]? = _ := hS; simp only [World.cell?, h]; rfl)) (hs0) ?_; simp only [zT, zA, zB]
    refine goZ_tk rfl rfl 33 rfl (.pointer (some ⟨w.heap.size, 1, none⟩)) (fun _ => by go_simp) ?_; simp only [zT, zA, zB]
    refine goZ_ld rfl rfl 34 rfl 22 _ rfl ⟨w.heap.size, 1, none⟩ (.slice ab T.b.length cb) rfl (fun W hS => ld_files _ _ _ _ W (by have h : W.heap[w.heap.size]? = _ := hS; simp only [World.cell?, h]; rfl)) (hs0) ?_; simp only [zT, zA, zB]
    refine goZ_tk rfl rfl 36 rfl (.pointer (some ⟨w.heap.size, 2, none⟩)) (fun _ => by go_simp) ?_; simp only [zT, zA, zB]
    refine goZ_ld rfl rfl 37 rfl 22 _ rfl ⟨w.heap.size, 2, none⟩ (.slice ac T.c.length cc) rfl (fun W hS => ld_files _ _ _ _ W (by have h : W.heap[w.heap.size]? = _ := hS; simp only [World.cell?, h]; rfl)) (hs0) ?_; simp only [zT, zA, zB]
    refine goZ_tk rfl rfl 39 rfl (.slice la (l.map toBl).length lc) (fun _ => rfl) ?_; simp only [zT, zA, zB]
    refine goZ_call (ds' := [7, 4]) rfl rfl (by kernel_rfl) 32 rfl 15 _ rfl [(.slice aa T.a.length ca)] rfl (enters_of Tryz.func15 (by kernel_rfl) rfl) ((HPA.out).mono ?_)
    rintro e W8 ⟨pv0, rfl, hp8, hb8⟩
    have hs1 := (hb8.block _ HLT7.out).trans hs0
    have HB8 := Lib.hid (HB7.out.trans (hb8.mono HB7.out.size))
    have HX8 := Lib.hid (HX7.out.trans (hb8.mono HX7.out.size))
    have HLT8 : Hid (w.heap.size < W8.heap.size) := Nat.lt_of_lt_of_le HLT7.out hb8.size
    have HQ0_8 := Lib.hid hp8
    have HPB := Lib.hid (plain_c (HFB.out.below HB8.out))
    clear hb8 hp8
    refine ⟨pv0, rfl, fun _ => hs1, ?_⟩; simp only [zT, zA, zB]
    refine goZ_call (ds' := [7]) rfl rfl (by kernel_rfl) 35 rfl 15 _ rfl [(.slice ab T.b.length cb)] rfl (enters_of Tryz.func15 (by kernel_rfl) rfl) ((HPB.out).mono ?_)
    rintro e W9 ⟨pv1, rfl, hp9, hb9⟩
    have hs2 := (hb9.block _ HLT8.out).trans hs1
    have HB9 := Lib.hid (HB8.out.trans (hb9.mono HB8.out.size))
    have HX9 := Lib.hid (HX8.out.trans (hb9.mono HX8.out.size))
    have HLT9 : Hid (w.heap.size < W9.heap.size) := Nat.lt_of_lt_of_le HLT8.out hb9.size
    have HQ1_9 := Lib.hid hp9
    have HQ0_9 := Lib.hid (HQ0_8.out.below hb9)
    have HPC := Lib.hid (plain_c (HFC.out.below HB9.out))
    clear hb9 hp9
    refine ⟨pv1, rfl, fun _ => hs2, ?_⟩; simp only [zT, zA, zB]
    refine goZ_call (ds' := []) rfl rfl (by kernel_rfl) 38 rfl 15 _ rfl [(.slice ac T.c.length cc)] rfl (enters_of Tryz.func15 (by kernel_rfl) rfl) ((HPC.out).mono ?_)
    rintro e W10 ⟨pv2, rfl, hp10, hb10⟩
    have hs3 := (hb10.block _ HLT9.out).trans hs2
    have HB10 := Lib.hid (HB9.out.trans (hb10.mono HB9.out.size))
    have HX10 := Lib.hid (HX9.out.trans (hb10.mono HX9.out.size))
    have HLT10 : Hid (w.heap.size < W10.heap.size) := Nat.lt_of_lt_of_le HLT9.out hb10.size
    have HQ2_10 := Lib.hid hp10
    have HQ0_10 := Lib.hid (HQ0_9.out.below hb10)
    have HQ1_10 := Lib.hid (HQ1_9.out.below hb10)
    have HBS10 := Lib.hid (HBS6.out.below HX10.out)
    clear hb10 hp10
    refine ⟨pv2, rfl, fun h => absurd rfl h, ?_⟩; simp only [zT, zA, zB]
    refine goZ_call (ds' := []) rfl rfl (by kernel_rfl) 40 rfl 14 _ rfl [pv0, pv1, pv2, (.slice la (l.map toBl).length lc)] rfl (enters_of Tryz.func14 (by kernel_rfl) rfl) (((HDM.out W10 _ _ _ _ HQ0_10.out HQ1_10.out HQ2_10.out HBS10.out)).mono ?_)
    rintro e W11 ⟨dv, rfl, hdr, hbb⟩
    refine ⟨(.tuple #[dv, .int .i64 er]), rfl, fun h => absurd rfl h, ?_⟩; simp only [zT, zA, zB]
    refine goZ_tk rfl rfl 29 rfl (.tuple #[dv, .int .i64 er]) (fun _ => rfl) ?_; simp only [zT, zA, zB]
    refine goZ_tk rfl rfl 41 rfl dv (fun _ => by first | rfl | go_simp) ?_; simp only [zT, zA, zB]
    refine goZ_tk rfl rfl 42 rfl (.int .i64 er) (fun _ => by first | rfl | go_simp) ?_; simp only [zT, zA, zB]
    refine goZ_tk rfl rfl 8 rfl dv (fun _ => rfl) ?_; simp only [zT, zA, zB]
    refine goZ_tk rfl rfl 9 rfl (.int .i64 er) (fun _ => rfl) ?_; simp only [zT, zA, zB]
    refine goZ_end ?_
    have HB11 := Lib.hid (HB10.out.trans (hbb.mono HB10.out.size))
    have HX11 := Lib.hid (HX10.out.trans (hbb.mono HX10.out.size))
    have HDR := Lib.hid hdr
    clear hdr hbb HB10 HX10 HBS10 HB6 HBLK6 HLT6 HBS6 HDM
    obtain ⟨da, dc, rfl⟩ := HDR.out.lit
    have HOA11 := Lib.hid (HOA.out.below HX11.out)
    have HTA11 : Hid (∀ x ∈ V, Tx W11 x.tv x.o.text) := fun x hx => (HTA.out x hx).below HX11.out
    have HVL : Hid (V.length ≤ 90) := by show V.length ≤ 90; have h := congrArg List.length HVA.out; rw [List.length_map] at h; rw [h]; exact HNL.out
    have hVL := HVL.out
    have HOC := Lib.hid (outcomes_c HOA11.out HTA11.out (by omega))
    have e0 : (er == er) = true := beq_self_eq_true _
    have e0n : (er != er) = false := by unfold bne; rw [e0]; rfl
    clear HOA HTA HX11
    go_upto_region 8 with fail
    refine goP_start ?_
    refine goP_mv rfl 43 rfl _ rfl (.int .i64 er) rfl ?_; simp only [zT, zA, zB]
    refine goP_mv rfl 44 rfl _ rfl (.int .i64 er) rfl ?_; simp only [zT, zA, zB]
    refine goP_tk rfl 45 rfl (.bool false) (by go_simp) ?_; simp only [zT, zA, zB]
    refine goP_mv rfl 46 rfl _ rfl (.bool false) rfl ?_; simp only [zT, zA, zB]
    refine goP_mv rfl 47 rfl _ rfl ov rfl ?_; simp only [zT, zA, zB]
    refine goP_call rfl 48 rfl 17 _ rfl [ov] rfl (enters_of Tryz.func17 (by kernel_rfl) rfl) ((HOC.out).mono ?_)
    rintro e W12 ⟨uv, rfl, hdo, hb12⟩
    have HB12 := Lib.hid (HB11.out.trans (hb12.mono HB11.out.size))
    have HDR12 := Lib.hid (HDR.out.below hb12)
    have HOA12 := Lib.hid (HOA11.out.below hb12)
    have hdo : DR W12 uv os := by have h := HVA.out; rw [h] at hdo; exact hdo
    have HSA := Lib.hid (dsame_c hdo HDR12.out (by have := HNL.out; omega))
    clear hdo hb12 HOA11 HDR HB11
    refine ⟨uv, rfl, ?_⟩; simp only [zT, zA, zB]
    refine goP_mv rfl 49 rfl _ rfl (.slice da os.length dc) rfl ?_; simp only [zT, zA, zB]
    refine goP_call rfl 50 rfl 16 _ rfl [uv, (.slice da os.length dc)] rfl (enters_of Tryz.func16 (by kernel_rfl) rfl) ((HSA.out).mono ?_)
    rintro e W13 ⟨rfl, hb13⟩
    refine ⟨(.bool true), rfl, ?_⟩; simp only [zT, zA, zB]
    refine goP_tk rfl 51 rfl (.bool false) (by go_simp) ?_; simp only [zT, zA, zB]
    refine goP_pk rfl 52 rfl _ _ _ rfl false rfl (.bool false) rfl ?_; simp only [zT, zA, zB]
    refine goP_end ?_
    have HB13 := Lib.hid (HB12.out.trans (hb13.mono HB12.out.size))
    have HDR13 := Lib.hid (HDR12.out.below hb13)
    have HOA13 := Lib.hid (HOA12.out.below hb13)
    have hol := HNL.out
    clear hb13 HB12 HDR12 HOA12 e0 e0n
    go_upto_region 12 with fail
    go_loopw [10, 55] (fun cv kv wx => ∃ k : Nat, k ≤ os.length ∧ kv = .int .i64 k ∧ (∃ z, cv = .bool z ∧ Hid ((os.take k).all cleanO = z)) ∧ Hid (Below W13.heap.size W13 wx)) (fun _ kv _ => (os.length - intOf kv).toNat)
    case atStart => exact ⟨0, Nat.zero_le _, rfl, ⟨true, rfl, rfl⟩, Below.refl _ _⟩
    case round =>
      obtain ⟨k, hk, rfl, ⟨z, rfl, HZK⟩, HBW⟩ := hrel
      by_cases hkl : k < os.length
      · -- @dev{ LP
        have k1 : decide ((k : Int) < (os.length : Int)) = true := decide_eq_true (by omega)
        have k2 : decide (k < os.length) = true := decide_eq_true hkl
        have k3 : (0 : Int) ≤ (k : Int) := by omega
        have k4 : (k : Int) < (os.length : Int) := by omega
        have kw : IntKind.i64.wrap ((k : Int) + 1) = ((k + 1 : Nat) : Int) := IntWalk.i64_in _ (by omega)
        obtain ⟨b, o, c', e, hbl, hr⟩ := (HDR13.out.below HBW.out).at hkl
        injection e with e1 e2 e3
        clear e2 e3
        subst e1
        have HR : Hid (wr.rangeAt b (o + k * 135) (doC os[k])) := hr
        have HXO : Hid (OkOu os[k]) := HDR13.out.ok _ (List.getElem_mem hkl)
        have HLN := Lib.hid (doC_len HXO.out)
        have hst : (os.take (k + 1)).all cleanO = (z && cleanO os[k]) := by
          rw [List.take_add_one, List.all_append, List.getElem?_eq_getElem hkl, HZK.out]; simp
        have HST := Lib.hid hst
        clear hst hr hbl HZK
        generalize os[k] = x at *
        have HISX : Hid ((Tryz.prog.info? 48).map (·.size) = some (doC x).length) := by show _ = _; rw [HLN.out]; exact dout_info
        have HISY : Hid ((Tryz.prog.info? 48).map (·.size) = some (doC x).toArray.size) := by show _ = _; rw [List.size_toArray, HLN.out]; exact dout_info
        have HZSZ : Hid (Tryz.zeroCells48.size = (doC x).toArray.size) := by show _ = _; exact dout_zcells.trans (by rw [List.size_toArray, HLN.out])
        go_upto_region 14 with (first
          | (refine wpList_load_mid rfl 48 _ rfl b (o + k * 135) rfl (doC x) _ HR.out Tryz.underlying48 rfl HISX.out ?_)
          | (refine wp_storeB rfl 48 _ _ rfl wr.heap.size (doC x).toArray rfl rfl (old := Tryz.zeroCells48) Array.getElem?_push_size HZSZ.out HISY.out doC_all ?_; intro W14 hb14 hg14))
        have hB14 : Below wr.heap.size wr W14 := ((Below.refl wr.heap.size wr).alloc (Nat.le_refl _) _).grown hg14 (by simp) (fun k hk => by cases hk; exact Nat.le_refl _)
        have hkc : W14.cell? ⟨wr.heap.size, 1, none⟩ = some (.int .i64 x.kind) := by simp only [World.cell?, hb14]; rfl
        have HBN : Hid (Hid (Below W13.heap.size W13 W14)) := HBW.out.trans (hB14.mono HBW.out.size)
        clear hb14 hg14 hB14 HBW HR HISX HISY HZSZ HLN HXO
        generalize wr.heap.size = p12 at *
        have HCO : Hid (cleanO x = (decide (x.kind = 1) || decide (x.kind = 2))) := rfl
        cases z with
        | false =>
          have HZN : Hid (Hid ((os.take (k + 1)).all cleanO = false)) := by show _ = _; rw [HST.out]; rfl
          clear HST HCO
          go_wp2_with fail
          go_roundw
          case rel => exact ⟨k + 1, hkl, by go_num, ⟨false, rfl, HZN.out⟩, HBN.out⟩
          case measure => simp [intOf]; omega
        | true =>
          by_cases h1 : x.kind = 1
          · have q1 : ((x.kind : Int) == 1) = true := beq_iff_eq.2 (by omega)
            have HZN : Hid (Hid ((os.take (k + 1)).all cleanO = true)) := by show _ = _; rw [HST.out, HCO.out, h1]; rfl
            clear HST HCO h1
            go_wp2_with fail
            go_roundw
            case rel => exact ⟨k + 1, hkl, by go_num, ⟨true, rfl, HZN.out⟩, HBN.out⟩
            case measure => simp [intOf]; omega
          · have q1 : ((x.kind : Int) == 1) = false := beq_eq_false_iff_ne.2 (by omega)
            by_cases h2 : x.kind = 2
            · have q2 : ((x.kind : Int) == 2) = true := beq_iff_eq.2 (by omega)
              have HZN : Hid (Hid ((os.take (k + 1)).all cleanO = true)) := by show _ = _; rw [HST.out, HCO.out, h2]; rfl
              clear HST HCO h1 h2
              go_wp2_with fail
              go_roundw
              case rel => exact ⟨k + 1, hkl, by go_num, ⟨true, rfl, HZN.out⟩, HBN.out⟩
              case measure => simp [intOf]; omega
            · have q2 : ((x.kind : Int) == 2) = false := beq_eq_false_iff_ne.2 (by omega)
              have HZN : Hid (Hid ((os.take (k + 1)).all cleanO = false)) := by show _ = _; rw [HST.out, HCO.out, decide_eq_false h1, decide_eq_false h2]; rfl
              clear HST HCO h1 h2
              go_wp2_with fail
              go_roundw
              case rel => exact ⟨k + 1, hkl, by go_num, ⟨false, rfl, HZN.out⟩, HBN.out⟩
              case measure => simp [intOf]; omega
      · have hke : k = os.length := by omega
        have k1 : decide ((k : Int) < (os.length : Int)) = false := decide_eq_false (by omega)
        have k2 : decide (k < os.length) = false := decide_eq_false hkl
        have hz : (V.all fun x => cleanO x.o) = z := by
          rw [← HZK.out, hke, List.take_length, ← HVA.out, List.all_map]; rfl
        have hcc := clean_c (HOA13.out.below HBW.out) (fun x hx => tx_one (HTA11.out x hx)) (by omega)
        rw [hz] at hcc
        have HCC := Lib.hid hcc
        have HBS' := Lib.hid (fun w => bool_same z w)
        clear hz hcc hke HZK
        go_upto_region 16 with fail
        refine goP_start ?_
        refine goP_mv rfl 71 rfl _ rfl ov rfl ?_; simp only [zT, zA, zB]
        refine goP_call rfl 72 rfl 18 _ rfl [ov] rfl (enters_of Tryz.func18 (by kernel_rfl) rfl) ((HCC.out).mono ?_)
        rintro e W15 ⟨rfl, hb15⟩
        refine ⟨(.bool z), rfl, ?_⟩; simp only [zT, zA, zB]
        refine goP_mv rfl 73 rfl _ rfl (.bool z) rfl ?_; simp only [zT, zA, zB]
        refine goP_tk rfl 74 rfl (.bool true) (exec_bin _ _ rfl rfl rfl (fun _ => by first | rfl | go_simp) HBS'.out _) ?_; simp only [zT, zA, zB]
        refine goP_as rfl 4 rfl _ rfl (.bool true) rfl ?_; simp only [zT, zA, zB]
        refine goP_end ?_
        go_wp2_with fail
        go_ret
        exact ⟨rfl, (HB13.out.trans (HBW.out.mono HB13.out.size)).trans (hb15.mono (Nat.le_trans HB13.out.size HBW.out.size))⟩
end Go.Proofs.YtpcipdkoncmdcaaGreatDoor
namespace Go.Proofs.YtpcipdkoncmdcaaGreatDoor.joinMerges
open Go.ChangeShapes Go.WideShapes Go.ChangeAt Go.RowKit
open Go.WideMaps Go.WideElems
open Go.ChangeMaps (open_string shut_string)

theorem reads (os : Os) {H : Type} (enc : TypeId × Value → H) : ∃ places, DataW.whole enc Tryz.prog ((laidWorld os).forCall (fun _ _ => 0) ⟨#[], #[Value.agg #[.slice none 0 0, .slice none 0 0, .slice none 0 0], .slice none 0 0], []⟩).memory Tryz.f3.params.toList Rows.joinMergesSpec.vars false (#[Value.agg #[.slice none 0 0, .slice none 0 0, .slice none 0 0], .slice none 0 0] : Array Value).toList 8 = some ([.agg [.nil, .nil, .nil], .nil], [], places) :=
  ⟨[], by kernel_rfl⟩

set_option maxRecDepth 100000 in
theorem contract (H : Type) (enc : TypeId × Value → H) (W : World) (base : Nat) (args : Array Value) (ds : List (DataW H)) (p : List MemPlace)
    (hval : ∀ (j : Nat) t v, Tryz.f3.params[j]? = some t → args[j]? = some v → Value.okWide Tryz.prog W .any base t v)
    (hA : DataW.TrodAll enc Tryz.prog W 0 (fun _ => true) true Tryz.f3.params.toList args.toList ds p) (hk : Rows.uptoSmall H ds = true) (_hL : laidMetH Tryz.prog Rows.joinMergesUptoRow.laid W) (hshape : W.ShapedOpen Tryz.prog) :
    Calls Tryz.prog 3 args W fun e W' => e = .returned (.bool true) ∧ Below W.heap.size W W' := by
  rw [Tryz.params3] at hA hval
  obtain ⟨v0, vs0, d0, ds0, p0, q0, hargs0, rfl, rfl, h0, r0⟩ := trodAll_cons hA
  obtain ⟨v1, vs1, d1, ds1, p1, q1, hargs1, rfl, rfl, h1, r1⟩ := trodAll_cons r0
  obtain ⟨rfl, rfl, rfl⟩ := trodAll_nil r1
  rw [hargs1] at hargs0
  obtain rfl : args = #[v0, v1] := by cases args; simp_all
  have k0 := bulk_mem hk (d := d0) (by simp)
  obtain ⟨va0, vb0, vc0, x0, rfl, fa0, fb0, fc0⟩ := open_snaps (hval 0 23 v0 rfl rfl) h0 k0
  have k1 := bulk_mem hk (d := d1) (by simp)
  obtain ⟨x1, bs1, sm1⟩ := open_blobs (hval 1 24 v1 rfl rfl) h1 k1
  exact merges_c fa0 fb0 fc0 bs1 sm1 (gl_of_shaped hshape)

set_option maxRecDepth 100000 in
theorem lifted (os : Os) (started : os.Started) (H : Type) (enc : TypeId × Value → H) (F : Stop.Interp) :
    ReturnsInHanded {} Tryz.checked os 3 .any ((Rows.OpenSpec.upto Rows.joinMergesSpec).preRow enc Tryz.prog Tryz.f3 Rows.joinMergesUptoRow.domain false Rows.joinMergesUptoRow.laid) (((Rows.OpenSpec.upto Rows.joinMergesSpec).at F).post enc Tryz.prog Tryz.f3 false true false false) := by
  obtain ⟨places, hx⟩ := reads os enc
  refine law_lifted (laid := Rows.joinMergesUptoRow.laid) started Tryz.func3 (by kernel_rfl) rfl rfl ?_ (by kernel_rfl) ?_ ?_ ?_
  · intro ds h
    match ds, h with
    | [_, _], _ => rfl
  · rw [Tryz.params3]
    intro t ht
    have ht : t ∈ [23, 24] := ht
    simp only [List.mem_cons, List.mem_nil_iff, or_false] at ht
    rcases ht with rfl | rfl <;> exact ⟨by kernel_rfl, of_decide_eq_true (by kernel_rfl)⟩
  · exact witness_row_at (enc := enc) (C := Tryz.checked) false (laidWorld os) #[Value.agg #[.slice none 0 0, .slice none 0 0, .slice none 0 0], .slice none 0 0] rfl (by kernel_rfl) (by kernel_rfl) (by kernel_rfl)
      (OpenSpec.preRow_of_cond 8 hx (by kernel_rfl) (fun k hk => by cases hk; kernel_rfl) (by kernel_rfl) (laid_met os _))
  · exact contract H enc

theorem saidUpto : Rows.JoinMergesUptoSaid :=
  OpenClaim.holds_of_cond 3 Tryz.f3 rfl rfl rfl rfl rfl rfl rfl ⟨rfl, rfl, rfl, rfl, rfl⟩ rfl rfl rfl rfl rfl (by kernel_rfl) Tryz.func3 (by kernel_rfl)
    (of_decide_eq_true (by kernel_rfl)) (by unfold Func.isWrapper; rw [if_neg (by decide +kernel)]; exact ⟨rfl, rfl⟩)
    (fun os started H enc _ F => by rw [OpenClaim.pre_eq_preRow]; exact lifted os started H enc F)

theorem plain (f : FuncId) (fn : Func) (hf : Tryz.pinned.checked.prog.funcNamed "towline/towlinelaw13.JoinMerges" = some f) (hfn : Tryz.pinned.checked.prog.funcs[f]? = some fn) :
    false = Tryz.pinned.checked.prog.looks [] ∧ ∀ (j : Nat) t, fn.params[j]? = some t → Tryz.pinned.checked.prog.wantsStandIn t = false := by
  obtain rfl : f = 3 := Option.some.inj ((show Tryz.prog.funcNamed "towline/towlinelaw13.JoinMerges" = some 3 by kernel_rfl).symm.trans hf) |>.symm
  obtain rfl : fn = Tryz.f3 := (Option.some.inj (Tryz.func3.symm.trans hfn)).symm
  refine ⟨by kernel_rfl, fun j t ht => ?_⟩
  rw [Tryz.params3] at ht
  have ht : t ∈ [23, 24] := by simpa using Array.mem_of_getElem? ht
  simp only [List.mem_cons, List.mem_nil_iff, or_false] at ht
  rcases ht with rfl | rfl <;> exact (show Tryz.prog.wantsStandIn _ = false by kernel_rfl)

theorem cardUpto : Rows.JoinMergesUptoCardSaid :=
  Claim7.holds_tied_plain_at .later [] _ _ _ _ saidUpto (fun _ h => by cases h) (by kernel_rfl) (fun _ h => by cases h) joinMergesUpto_row_tie rfl ⟨rfl, rfl⟩ (by kernel_rfl) rfl plain (by kernel_rfl)
end Go.Proofs.YtpcipdkoncmdcaaGreatDoor.joinMerges
