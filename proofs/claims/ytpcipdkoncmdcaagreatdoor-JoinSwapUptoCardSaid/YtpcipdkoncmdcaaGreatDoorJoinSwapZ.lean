/- The law JoinSwap answers true for all arguments of bulk at most 1048576: the row's statement and its card. Conditions: the row's own (laid tables as the card ties them; bulk). -/
import Derived.Test.YtpcipdkoncmdcaaGreatDoorZ35
namespace Go.Proofs.YtpcipdkoncmdcaaGreatDoor
open Go Go.RowKit Go.Maps

theorem rb_snap (a1 : Option Addr) (n1 c1 : Nat) (a2 : Option Addr) (n2 c2 : Nat) (a3 : Option Addr) (n3 c3 : Nat) (w : World) : (Instr.build 23 #[(0, .slice a1 n1 c1), (1, .slice a2 n2 c2), (2, .slice a3 n3 c3)]).run Tryz.prog w = .ok (.agg #[.slice a1 n1 c1, .slice a2 n2 c2, .slice a3 n3 c3]) w := by kernel_rfl
theorem same_len {l m : List Ou} (h : ∀ i : Nat, (l[i]? = none ∧ m[i]? = none) ∨ ∃ x y, l[i]? = some x ∧ m[i]? = some y ∧ Ag x y) : l.length = m.length := by
  have h1 := h l.length
  have h2 := h m.length
  rw [List.getElem?_eq_none (Nat.le_refl _)] at h1
  rw [List.getElem?_eq_none (Nat.le_refl m.length)] at h2
  rcases h1 with ⟨-, h1⟩ | ⟨x, y, h1, -⟩
  · rcases h2 with ⟨h2, -⟩ | ⟨x, y, -, h2, -⟩
    · have := List.getElem?_eq_none_iff.1 h1; have := List.getElem?_eq_none_iff.1 h2; omega
    · cases h2
  · cases h1
/-- Two outcomes that lie in blocks. -/
def Fl0 (W : World) (b : Nat) (x : Ou) (v : Value) : Prop := W.cell? ⟨b, 0, none⟩ = some (.string x.path) ∧ W.cell? ⟨b, 1, none⟩ = some (.int .i64 x.kind) ∧ W.rangeAt b 2 (nb x.id) ∧ W.cell? ⟨b, 34, none⟩ = some (.float .f64 x.stamp) ∧ W.cell? ⟨b, 35, none⟩ = some v ∧ W.rangeAt b 36 [.bool x.has.a, .bool x.has.b, .bool x.has.c] ∧ W.rangeAt b 39 (nb x.ids.a ++ (nb x.ids.b ++ nb x.ids.c))
theorem fl0_of {W : World} {b : Nat} {e : TypeId} {x : Ov} (hx : OkOu x.o) (h : W.heap[b]? = some (.cells (ouC x).toArray e (0, 0))) : Fl0 W b x.o x.tv := by
  have hcc : W.rangeAt b 0 (ouC x) := fun j u hu => by rw [Nat.zero_add]; simp only [World.cell?, h]; simpa using hu
  have := ou_fld hx hcc
  unfold Fl0
  simpa only [Nat.zero_add] using this
noncomputable def ZO : Obj := .cells Tryz.zeroCells54 54 (0, 0)
theorem st_outs {W : World} {b1 b2 : Nat} {x y : Ov} (h1 : W.heap[b1]? = some ZO) (h2 : W.heap[b2]? = some ZO) (hne : b1 ≠ b2) (hx : (ouC x).length = 135) (hy : (ouC y).length = 135) (ox : (ouC x).toArray.all (·.oneCell') = true) (oy : (ouC y).toArray.all (·.oneCell') = true) :
    ∃ W8 W9, (Instr.storeAt 54 (.pointer (some ⟨b1, 0, none⟩)) (.agg (ouC x).toArray)).run Tryz.prog W = .ok () W8 ∧ (Instr.storeAt 54 (.pointer (some ⟨b2, 0, none⟩)) (.agg (ouC y).toArray)).run Tryz.prog W8 = .ok () W9 ∧
      W9.heap[b1]? = some (.cells (ouC x).toArray 54 (0, 0)) ∧ W9.heap[b2]? = some (.cells (ouC y).toArray 54 (0, 0)) ∧ ∀ (B : Nat) (w : World), B ≤ b1 → B ≤ b2 → Below B w W → Below B w W8 ∧ Below B w W9 := by
  obtain ⟨W8, r8, c8, g8⟩ := run_storeB (P := Tryz.prog) (ty := 54) (new := (ouC x).toArray) h1 (out_zsz hx) (out_isz hx) ox
  have h28 : W8.heap[b2]? = some ZO := (g8.block b2 (Array.getElem?_eq_some_iff.1 h2).1 (by simp; omega)).trans h2
  obtain ⟨W9, r9, c9, g9⟩ := run_storeB (P := Tryz.prog) (ty := 54) (new := (ouC y).toArray) h28 (out_zsz hy) (out_isz hy) oy
  refine ⟨W8, W9, r8, r9, (g9.block b1 (Array.getElem?_eq_some_iff.1 c8).1 (by simp; omega)).trans c8, c9, fun B w hB1 hB2 hb => ?_⟩
  have hl1 := (Array.getElem?_eq_some_iff.1 h1).1
  have k8 := hb.grown g8 (by omega) fun k hk => by injection hk with hk; subst hk; exact hB1
  exact ⟨k8, k8.grown g9 (by have := g8.size; omega) fun k hk => by injection hk with hk; subst hk; exact hB2⟩
theorem ld_out {W : World} {b o : Nat} {x : Ov} (hx : (ouC x).length = 135) (h : W.rangeAt b o (ouC x)) : (Instr.loadAt 54 (.pointer (some ⟨b, o, none⟩))).run Tryz.prog W = .ok (.agg (ouC x).toArray) W :=
  run_loadAt_mid (P := Tryz.prog) W b o 54 (ouC x) _ h Tryz.underlying54 rfl (by rw [hx]; exact out_info)
set_option maxRecDepth 100000 in
set_option maxHeartbeats 8000000 in
theorem swap_c {w : World} {va vb vc v : Value} {T : T3 (List Fi)} {l : List LB} (ha : FS w va T.a) (hb : FS w vb T.b) (hc : FS w vc T.c) (h : RB w v l) (hs : sumB l ≤ 1048576) (hg : Gl w) :
    Calls Tryz.prog 8 #[.agg #[va, vb, vc], v] w fun e w' => e = .returned (.bool true) ∧ Below w.heap.size w w' := by
  have HFA := Lib.hid ha
  have HFB := Lib.hid hb
  have HFC := Lib.hid hc
  have HRB := Lib.hid h
  have HGL := Lib.hid hg
  have HSB := Lib.hid hs
  obtain ⟨W1, hW1⟩ : ∃ W1, w.alloc (.cells #[va, vb, vc] 23 (0, 0)) = W1 := ⟨_, rfl⟩
  have HB1 : Hid (Below w.heap.size w W1) := by show Below _ _ _; rw [← hW1]; exact (Below.refl _ w).alloc (Nat.le_refl _) _
  have hblk : W1.heap[w.heap.size]? = some (.cells #[va, vb, vc] 23 (0, 0)) := by rw [← hW1]; exact Array.getElem?_push_size
  have HBLK1 := Lib.hid hblk
  have HLT1 : Hid (w.heap.size < W1.heap.size) := (Array.getElem?_eq_some_iff.1 hblk).1
  have HW1 := Lib.hid hW1
  have HAW := Lib.hid (awake_c W1 (hg.below HB1.out (Nat.le_refl _)))
  obtain ⟨aa, ca, rfl⟩ := ha.lit
  obtain ⟨ab, cb, rfl⟩ := hb.lit
  obtain ⟨ac, cc, rfl⟩ := hc.lit
  obtain ⟨ab', cb', rfl⟩ := h.lit
  clear ha hb hc h hs hg hW1 hblk
  go_enter Tryz.func8, Tryz.ntmps8
  go_upto_region 1 with fail
  rw [HW1.out]
  clear HW1
  go_upto_region 3 with (go_at_call 10; refine HAW.out.mono ?_; rintro e W2 ⟨rfl, hb2⟩)
  have HB2 := Lib.hid (HB1.out.trans (hb2.mono HB1.out.size))
  have HBLK2 : Hid (W2.heap[w.heap.size]? = _) := (hb2.block _ HLT1.out).trans HBLK1.out
  have HLT2 : Hid (w.heap.size < W2.heap.size) := Nat.lt_of_lt_of_le HLT1.out hb2.size
  clear hb2 HB1 HBLK1 HLT1 HAW
  have hsm := small_c (HFA.out.below HB2.out) (HFB.out.below HB2.out) (HFC.out.below HB2.out) (HRB.out.below HB2.out) HSB.out
  obtain ⟨z, hz⟩ : ∃ z, (decide (sumB l ≤ 600) && decide (T.a.length + T.b.length + T.c.length ≤ 90)) = z := ⟨_, rfl⟩
  rw [hz] at hsm
  cases z with
  | false =>
    have HSM := Lib.hid hsm
    clear hsm
    go_wp2_with (first
      | (refine wp_loadB rfl 23 _ rfl w.heap.size rfl HBLK2.out _ Tryz.underlying23 rfl (by kernel_rfl) ?_)
      | (go_at_call 11; refine HSM.out.mono ?_; rintro e W3 ⟨rfl, hb3⟩))
    go_ret
    exact ⟨rfl, HB2.out.trans (hb3.mono HB2.out.size)⟩
  | true =>
    have HSM := Lib.hid hsm
    rw [Bool.and_eq_true, decide_eq_true_eq, decide_eq_true_eq] at hz
    have HZ6 : Hid (sumB l ≤ 600) := hz.1
    have HN : Hid (T.a.length + T.b.length + T.c.length ≤ 90) := hz.2
    clear hsm hz
    go_upto_region 6 with (first
      | (refine wp_loadB rfl 23 _ rfl w.heap.size rfl HBLK2.out _ Tryz.underlying23 rfl (by kernel_rfl) ?_)
      | (go_at_call 11; refine HSM.out.mono ?_; rintro e W3 ⟨rfl, hb3⟩))
    have HB3 := Lib.hid (HB2.out.trans (hb3.mono HB2.out.size))
    have HBLK3 : Hid (W3.heap[w.heap.size]? = some (.cells #[.slice aa T.a.length ca, .slice ab T.b.length cb, .slice ac T.c.length cc] 23 (0, 0))) := (hb3.block _ HLT2.out).trans HBLK2.out
    have HLT3 : Hid (w.heap.size < W3.heap.size) := Nat.lt_of_lt_of_le HLT2.out hb3.size
    have hln := HRB.out.n
    clear hb3 HB2 HBLK2 HLT2 HSM
    go_loopw [23] (fun kv wx => ∃ k : Nat, k ≤ l.length ∧ kv = .int .i64 k ∧ Hid (Below w.heap.size w wx) ∧ Hid (wx.heap[w.heap.size]? = some (.cells #[.slice aa T.a.length ca, .slice ab T.b.length cb, .slice ac T.c.length cc] 23 (0, 0))) ∧ Hid (w.heap.size < wx.heap.size)) (fun kv _ => (l.length - intOf kv).toNat)
    case atStart => exact ⟨0, Nat.zero_le _, rfl, HB3, HBLK3, HLT3⟩
    case round =>
      clear HB3 HBLK3 HLT3
      obtain ⟨k, hk, rfl, HBW, HBLK, HLT⟩ := hrel
      by_cases hkl : k < l.length
      · -- @dev{ B1
        have k1 : decide ((k : Int) < (l.length : Int)) = true := decide_eq_true (by omega)
        have k2 : decide (k < l.length) = true := decide_eq_true hkl
        have k3 : (0 : Int) ≤ (k : Int) := by omega
        have k4 : (k : Int) < (l.length : Int) := by omega
        have kw : IntKind.i64.wrap ((k : Int) + 1) = ((k + 1 : Nat) : Int) := IntWalk.i64_in _ (by omega)
        obtain ⟨b, o, c', e, hbl, hr⟩ := (HRB.out.below HBW.out).at hkl
        injection e with e1 _ e2
        subst e1 e2
        have HR : Hid (wr.rangeAt b (o + k * 34) (lbC l[k])) := hr k hkl
        have HXO : Hid (OkBl (toBl l[k])) := HRB.out.ok _ (List.getElem_mem hkl)
        have HTX : Hid (Tr wr l[k].tv l[k].text) := (HRB.out.tx _ (List.getElem_mem hkl)).below HBW.out
        have HCL : Hid ((lbC l[k]).length = 34) := lbC_len HXO.out
        clear hr hbl
        generalize l[k] = x at *
        go_upto_region 8 with (first
          | (refine wpList_load_mid rfl 68 _ rfl b (o + k * 34) rfl (lbC x) _ HR.out Tryz.underlying68 rfl (by rw [HCL.out]; exact blob_info) ?_)
          | (refine wp_storeB rfl 68 _ _ rfl wr.heap.size (lbC x).toArray rfl rfl Array.getElem?_push_size (by rw [blob_sz HCL.out]; first | done | kernel_rfl) (blob_isz HCL.out) (lbC_one HTX.out) ?_; intro W8 hb8 hg8))
        have hB8 : Below wr.heap.size wr W8 := ((Below.refl wr.heap.size wr).alloc (Nat.le_refl _) _).grown hg8 (by simp) (fun k hk => by cases hk; exact Nat.le_refl _)
        have hxl : x.id.length = 32 := HXO.out.id.1
        have hc33 : W8.cell? ⟨wr.heap.size, 33, none⟩ = some (.int .i64 x.bad) := by
          simp only [World.cell?, hb8]
          simp [lbC, nb_len, hxl]
        have HB8 : Hid (Hid (Below w.heap.size w W8)) := HBW.out.trans (hB8.mono HBW.out.size)
        have HBLK8 : Hid (Hid (W8.heap[w.heap.size]? = some (.cells #[.slice aa T.a.length ca, .slice ab T.b.length cb, .slice ac T.c.length cc] 23 (0, 0)))) := (hB8.block _ HLT.out).trans HBLK.out
        have HLT8 : Hid (Hid (w.heap.size < W8.heap.size)) := Nat.lt_of_lt_of_le HLT.out hB8.size
        clear hb8 hg8 hB8 HR HCL HTX HXO HBW HBLK HLT hxl
        generalize wr.heap.size = p6 at *
        by_cases hbad : x.bad = 0
        · have e0 : (x.bad == 0) = true := beq_iff_eq.2 hbad
          go_wp2_with fail
          go_roundw
          case rel => exact ⟨k + 1, hkl, by go_num, HB8.out, HBLK8.out, HLT8.out⟩
          case measure => simp [intOf]; omega
        · have e0 : (x.bad == 0) = false := beq_eq_false_iff_ne.2 hbad
          go_wp2_with fail
          go_ret
          exact ⟨rfl, HB8.out.out⟩
      · have hkn : k = l.length := by omega
        subst hkn
        have k1 : decide ((l.length : Int) < (l.length : Int)) = false := decide_eq_false (by omega)
        go_upto_region 11 with fail
        have HB3 : Hid (Below w.heap.size w (wr.drewN 1)) := below_dN HBW.out 1
        have hs0 : (wr.drewN 1).heap[w.heap.size]? = some (.cells #[.slice aa T.a.length ca, .slice ab T.b.length cb, .slice ac T.c.length cc] 23 (0, 0)) := HBLK.out
        have HLT3 : Hid (w.heap.size < (wr.drewN 1).heap.size) := HLT.out
        have HLA := Lib.hid (laid_c (HRB.out.below HB3.out))
        clear HBW HBLK HLT hkl
        refine wp_region_hz (fun W => W.heap[w.heap.size]? = some (.cells #[.slice aa T.a.length ca, .slice ab T.b.length cb, .slice ac T.c.length cc] 23 (0, 0))) (.tk 0 (.tk 1 (.fc 2 (.tk 3 (.tk 4 (.fc 5 (.tk 6 (.tk 7 (.tk 8 (.tk 9 (.tk 10 (.nil)))))))))))) (by kernel_rfl) (by kernel_rfl) (fun _ _ _ _ _ h => h) ?_
        refine goZ_ld rfl rfl 32 rfl 23 _ rfl ⟨w.heap.size, 0, none⟩ (.agg #[.slice aa T.a.length ca, .slice ab T.b.length cb, .slice ac T.c.length cc]) rfl (fun W hS => ld_blk Tryz.underlying23 rfl (by kernel_rfl) W hS) (hs0) ?_
        simp only [List.setIfInBounds_toArray, List.set_cons_zero, List.set_cons_succ]
        refine goZ_tk rfl rfl 33 rfl (.slice ab' l.length cb') (fun _ => rfl) ?_
        simp only [List.setIfInBounds_toArray, List.set_cons_zero, List.set_cons_succ]
        refine goZ_call (ds' := [0]) rfl rfl (by kernel_rfl) 34 rfl 12 _ rfl [(.slice ab' l.length cb')] rfl (enters_of Tryz.func12 (by kernel_rfl) rfl) ((HLA.out).mono ?_)
        rintro e W5 ⟨lv, rfl, hbs, hb5⟩
        obtain ⟨la, lc, rfl⟩ := hbs.lit
        have hs1 := (hb5.block _ HLT3.out).trans hs0
        have HB5 := Lib.hid (HB3.out.trans (hb5.mono HB3.out.size))
        have HBS5 := Lib.hid hbs
        have HLT5 := Lib.hid (Nat.lt_of_lt_of_le HLT3.out hb5.size)
        have HMC := Lib.hid (merge_c (T := T) (HFA.out.below HB5.out) (HFB.out.below HB5.out) (HFC.out.below HB5.out) (HGL.out.below HB5.out (Nat.le_refl _)) (bs_size HZ6.out) HBS5.out)
        clear hbs hb5 HLA
        refine ⟨(.slice la (l.map toBl).length lc), rfl, fun _ => hs1, ?_⟩
        simp only [List.setIfInBounds_toArray, List.set_cons_zero, List.set_cons_succ]
        refine goZ_tk rfl rfl 35 rfl (.agg #[(.slice la (l.map toBl).length lc)]) (exec_build _ rfl (by simp [Act.eval]) (rb_shelf _ _ _)) ?_
        simp only [List.setIfInBounds_toArray, List.set_cons_zero, List.set_cons_succ]
        refine goZ_tk rfl rfl 36 rfl (SrcV (.slice la (l.map toBl).length lc)) (fun _ => by first | rfl | go_simp) ?_
        simp only [List.setIfInBounds_toArray, List.set_cons_zero, List.set_cons_succ]
        refine goZ_call (ds' := []) rfl rfl (by kernel_rfl) 37 rfl 13 _ rfl [(.agg #[.slice aa T.a.length ca, .slice ab T.b.length cb, .slice ac T.c.length cc]), (SrcV (.slice la (l.map toBl).length lc))] rfl (enters_of Tryz.func13 (by kernel_rfl) rfl) ((HMC.out).mono ?_)
        rintro e W6 ⟨ov, V, rfl, hV, hMO⟩
        refine ⟨(.tuple #[ov, .int .i64 (mergeS (textS (l.map toBl)) (upT T 3) (chkA T 3)).1]), rfl, fun h => absurd rfl h, ?_⟩
        simp only [List.setIfInBounds_toArray, List.set_cons_zero, List.set_cons_succ]
        refine goZ_tk rfl rfl 31 rfl (.tuple #[ov, .int .i64 (mergeS (textS (l.map toBl)) (upT T 3) (chkA T 3)).1]) (fun _ => rfl) ?_
        simp only [List.setIfInBounds_toArray, List.set_cons_zero, List.set_cons_succ]
        refine goZ_tk rfl rfl 38 rfl ov (fun _ => by first | rfl | go_simp) ?_
        simp only [List.setIfInBounds_toArray, List.set_cons_zero, List.set_cons_succ]
        refine goZ_tk rfl rfl 39 rfl (.int .i64 (mergeS (textS (l.map toBl)) (upT T 3) (chkA T 3)).1) (fun _ => by first | rfl | go_simp) ?_
        simp only [List.setIfInBounds_toArray, List.set_cons_zero, List.set_cons_succ]
        refine goZ_tk rfl rfl 7 rfl ov (fun _ => rfl) ?_
        simp only [List.setIfInBounds_toArray, List.set_cons_zero, List.set_cons_succ]
        refine goZ_tk rfl rfl 8 rfl (.int .i64 (mergeS (textS (l.map toBl)) (upT T 3) (chkA T 3)).1) (fun _ => rfl) ?_
        simp only [List.setIfInBounds_toArray, List.set_cons_zero, List.set_cons_succ]
        refine goZ_end ?_
        have HB6 := Lib.hid (HB5.out.trans (hMO.below.mono HB5.out.size))
        have HBLK6 : Hid (W6.heap[w.heap.size]? = _) := (hMO.below.block _ HLT5.out).trans hs1
        have HLT6 : Hid (w.heap.size < W6.heap.size) := Nat.lt_of_lt_of_le HLT5.out hMO.below.size
        have HOA := Lib.hid hMO.or
        have HTA : Hid (∀ x ∈ V, Tx W6 x.tv x.o.text) := fun x hx => (hMO.tx x hx).1.tx
        have HVA := Lib.hid hV
        have HGL6 := Lib.hid (HGL.out.below HB6.out (Nat.le_refl _))
        clear hs0 hs1 HB5 HLT5 HBS5 HMC HB3 HLT3 hMO hV
        obtain ⟨R1, hR1⟩ : ∃ R1, mergeS (textS (l.map toBl)) (upT T 3) (chkA T 3) = R1 := ⟨_, rfl⟩
        rw [hR1] at HVA ⊢
        have HR1 := Lib.hid hR1
        clear hR1
        go_upto_region 12 with fail
        have HB7 : Hid (Below w.heap.size w (W6.drewN 1)) := below_dN HB6.out 1
        have hs0 : (W6.drewN 1).heap[w.heap.size]? = some (.cells #[.slice aa T.a.length ca, .slice ab T.b.length cb, .slice ac T.c.length cc] 23 (0, 0)) := HBLK6.out
        have HLA := Lib.hid (laid_c (HRB.out.below HB7.out))
        have HLT7 : Hid (w.heap.size < (W6.drewN 1).heap.size) := HLT6.out
        clear HBLK6 HLT6 HB6
        refine wp_region_hz (fun W => W.heap[w.heap.size]? = some (.cells #[.slice aa T.a.length ca, .slice ab T.b.length cb, .slice ac T.c.length cc] 23 (0, 0))) (.tk 0 (.tk 1 (.tk 2 (.tk 3 (.tk 4 (.tk 5 (.tk 6 (.tk 7 (.fc 8 (.tk 9 (.tk 10 (.fc 11 (.tk 12 (.tk 13 (.tk 14 (.tk 15 (.tk 16 (.nil)))))))))))))))))) (by kernel_rfl) (by kernel_rfl) (fun _ _ _ _ _ h => h) ?_
        refine goZ_tk rfl rfl 41 rfl (.pointer (some ⟨w.heap.size, 0, none⟩)) (fun _ => by first | rfl | go_simp) ?_
        simp only [List.setIfInBounds_toArray, List.set_cons_zero, List.set_cons_succ]
        refine goZ_ld rfl rfl 42 rfl 22 _ rfl ⟨w.heap.size, 0, none⟩ (.slice aa T.a.length ca) rfl (fun W hS => ld_files _ _ _ _ W (by simp only [World.cell?, hS]; rfl)) (hs0) ?_
        simp only [List.setIfInBounds_toArray, List.set_cons_zero, List.set_cons_succ]
        refine goZ_tk rfl rfl 43 rfl (.pointer (some ⟨w.heap.size, 2, none⟩)) (fun _ => by first | rfl | go_simp) ?_
        simp only [List.setIfInBounds_toArray, List.set_cons_zero, List.set_cons_succ]
        refine goZ_ld rfl rfl 44 rfl 22 _ rfl ⟨w.heap.size, 2, none⟩ (.slice ac T.c.length cc) rfl (fun W hS => ld_files _ _ _ _ W (by simp only [World.cell?, hS]; rfl)) (hs0) ?_
        simp only [List.setIfInBounds_toArray, List.set_cons_zero, List.set_cons_succ]
        refine goZ_tk rfl rfl 45 rfl (.pointer (some ⟨w.heap.size, 1, none⟩)) (fun _ => by first | rfl | go_simp) ?_
        simp only [List.setIfInBounds_toArray, List.set_cons_zero, List.set_cons_succ]
        refine goZ_ld rfl rfl 46 rfl 22 _ rfl ⟨w.heap.size, 1, none⟩ (.slice ab T.b.length cb) rfl (fun W hS => ld_files _ _ _ _ W (by simp only [World.cell?, hS]; rfl)) (hs0) ?_
        simp only [List.setIfInBounds_toArray, List.set_cons_zero, List.set_cons_succ]
        refine goZ_tk rfl rfl 47 rfl (.agg #[.slice aa T.a.length ca, .slice ac T.c.length cc, .slice ab T.b.length cb]) (exec_build _ rfl (by simp [Act.eval]) (rb_snap _ _ _ _ _ _ _ _ _)) ?_
        simp only [List.setIfInBounds_toArray, List.set_cons_zero, List.set_cons_succ]
        refine goZ_tk rfl rfl 48 rfl (.slice ab' l.length cb') (fun _ => rfl) ?_
        simp only [List.setIfInBounds_toArray, List.set_cons_zero, List.set_cons_succ]
        refine goZ_call (ds' := [5, 3, 1]) rfl rfl (by kernel_rfl) 49 rfl 12 _ rfl [(.slice ab' l.length cb')] rfl (enters_of Tryz.func12 (by kernel_rfl) rfl) ((HLA.out).mono ?_)
        rintro e W8 ⟨lv, rfl, hbs, hb8⟩
        obtain ⟨la2, lc2, rfl⟩ := hbs.lit
        have hs1 := (hb8.block _ HLT7.out).trans hs0
        have HB8 := Lib.hid (HB7.out.trans (hb8.mono HB7.out.size))
        have HC8 : Hid (Below W6.heap.size W6 W8) := (below_dN (Below.refl W6.heap.size W6) 1).trans (hb8.mono (below_dN (Below.refl W6.heap.size W6) 1).size)
        have HBS8 := Lib.hid hbs
        have HLT8 := Lib.hid (Nat.lt_of_lt_of_le HLT7.out hb8.size)
        have HMC := Lib.hid (merge_c (T := T.sw) (HFA.out.below HB8.out) (HFC.out.below HB8.out) (HFB.out.below HB8.out) (HGL.out.below HB8.out (Nat.le_refl _)) (bs_size HZ6.out) HBS8.out)
        clear hbs hb8
        refine ⟨(.slice la2 (l.map toBl).length lc2), rfl, fun _ => hs1, ?_⟩
        simp only [List.setIfInBounds_toArray, List.set_cons_zero, List.set_cons_succ]
        refine goZ_tk rfl rfl 50 rfl (.agg #[(.slice la2 (l.map toBl).length lc2)]) (exec_build _ rfl (by simp [Act.eval]) (rb_shelf _ _ _)) ?_
        simp only [List.setIfInBounds_toArray, List.set_cons_zero, List.set_cons_succ]
        refine goZ_tk rfl rfl 51 rfl (SrcV (.slice la2 (l.map toBl).length lc2)) (fun _ => by first | rfl | go_simp) ?_
        simp only [List.setIfInBounds_toArray, List.set_cons_zero, List.set_cons_succ]
        refine goZ_call (ds' := []) rfl rfl (by kernel_rfl) 52 rfl 13 _ rfl [(.agg #[.slice aa T.a.length ca, .slice ac T.c.length cc, .slice ab T.b.length cb]), (SrcV (.slice la2 (l.map toBl).length lc2))] rfl (enters_of Tryz.func13 (by kernel_rfl) rfl) ((HMC.out).mono ?_)
        rintro e W9 ⟨ov2, V2, rfl, hV, hMO⟩
        refine ⟨(.tuple #[ov2, .int .i64 (mergeS (textS (l.map toBl)) (upT T.sw 3) (chkA T.sw 3)).1]), rfl, fun h => absurd rfl h, ?_⟩
        simp only [List.setIfInBounds_toArray, List.set_cons_zero, List.set_cons_succ]
        refine goZ_tk rfl rfl 40 rfl (.tuple #[ov2, .int .i64 (mergeS (textS (l.map toBl)) (upT T.sw 3) (chkA T.sw 3)).1]) (fun _ => rfl) ?_
        simp only [List.setIfInBounds_toArray, List.set_cons_zero, List.set_cons_succ]
        refine goZ_tk rfl rfl 53 rfl ov2 (fun _ => by first | rfl | go_simp) ?_
        simp only [List.setIfInBounds_toArray, List.set_cons_zero, List.set_cons_succ]
        refine goZ_tk rfl rfl 54 rfl (.int .i64 (mergeS (textS (l.map toBl)) (upT T.sw 3) (chkA T.sw 3)).1) (fun _ => by first | rfl | go_simp) ?_
        simp only [List.setIfInBounds_toArray, List.set_cons_zero, List.set_cons_succ]
        refine goZ_tk rfl rfl 9 rfl ov2 (fun _ => rfl) ?_
        simp only [List.setIfInBounds_toArray, List.set_cons_zero, List.set_cons_succ]
        refine goZ_tk rfl rfl 10 rfl (.int .i64 (mergeS (textS (l.map toBl)) (upT T.sw 3) (chkA T.sw 3)).1) (fun _ => rfl) ?_
        simp only [List.setIfInBounds_toArray, List.set_cons_zero, List.set_cons_succ]
        refine goZ_end ?_
        have HB9 := Lib.hid (HB8.out.trans (hMO.below.mono HB8.out.size))
        have HC9 := Lib.hid (HC8.out.trans (hMO.below.mono HC8.out.size))
        have HOB := Lib.hid hMO.or
        have HTB : Hid (∀ x ∈ V2, Tx W9 x.tv x.o.text) := fun x hx => (hMO.tx x hx).1.tx
        have HVB := Lib.hid hV
        clear hs0 hs1 HB7 HLT7 HB8 HC8 HBS8 HMC hMO hV HLT8
        obtain ⟨R2, hR2⟩ : ∃ R2, mergeS (textS (l.map toBl)) (upT T.sw 3) (chkA T.sw 3) = R2 := ⟨_, rfl⟩
        rw [hR2] at HVB ⊢
        have HST : Hid (∀ i, i < 3 → ∀ f ∈ T.get i, f.stamp < 2 ^ 64) := by
          intro i hi f hf
          rcases i with _ | _ | _ | i
          · exact (HFA.out.ok f hf).st
          · exact (HFB.out.ok f hf).st
          · exact (HFC.out.ok f hf).st
          · omega
        have hsw := fun h1 h2 => swap_ok (src := textS (l.map toBl)) (T := T) HST.out h1 h2
        have hn1 := fun h => merge_nil (src := textS (l.map toBl)) (T := T) h
        have hn2 := fun h => merge_nil (src := textS (l.map toBl)) (T := T.sw) h
        have hl1 := fun h => again_len (src := textS (l.map toBl)) (T := T) h
        have ht1 := fun h => merge_tsize (src := textS (l.map toBl)) (T := T) (bs_size HZ6.out) h
        rw [HR1.out] at hsw hn1 hl1 ht1
        rw [hR2] at hsw hn2
        clear HR1 hR2 HLA
        obtain ⟨e1, os1⟩ := R1
        obtain ⟨e2, os2⟩ := R2
        have hva : V.map (·.o) = os1 := HVA.out
        have hvb : V2.map (·.o) = os2 := HVB.out
        have hla : V.length = os1.length := by rw [← hva, List.length_map]
        have hlb : V2.length = os2.length := by rw [← hvb, List.length_map]
        obtain ⟨oa, oc, rfl⟩ := HOA.out.lit
        obtain ⟨ob, oc2, rfl⟩ := HOB.out.lit
        by_cases h1 : e1 = 0
        · by_cases h2 : e2 = 0
          · -- @dev{ MN
            subst h1 h2
            have HAG : Hid (∀ i : Nat, (os1[i]? = none ∧ os2[i]? = none) ∨ ∃ x y, os1[i]? = some x ∧ os2[i]? = some y ∧ Ag x y) := hsw rfl rfl
            have HTS : Hid (∀ o ∈ os1, o.text.size ≤ 1000000000) := ht1 rfl
            have HLL : Hid (os1.length ≤ T.a.length + T.b.length + T.c.length) := hl1 rfl
            have hv90 : V.length ≤ 90 := by have := HN.out; have := HLL.out; omega
            have HVV : Hid (V2.length = V.length) := by have := same_len HAG.out; show V2.length = V.length; omega
            have HVA : Hid (V.map (·.o) = os1) := hva
            have HVB : Hid (V2.map (·.o) = os2) := hvb
            clear hsw hn1 hn2 hl1 ht1 hva hvb hla hlb
            have HTAZ : Hid (∀ x ∈ V, Tx W9 x.tv x.o.text ∧ x.o.text.size ≤ 1000000000) := fun x hx => ⟨(HTA.out x hx).below HC9.out, HTS.out _ (by rw [← HVA.out]; exact List.mem_map_of_mem hx)⟩
            have HMV := Lib.hid (moved_c (HOA.out.below HC9.out) HTAZ.out (by omega))
            go_upto_region 16 with (go_at_call 23; refine HMV.out.mono ?_; rintro e W10 ⟨mv, V3, rfl, hor3, hmap3, htx3, hb10⟩)
            clear HMV
            have HLV : Hid (V3.length = V.length) := by have := congrArg List.length hmap3; show V3.length = V.length; simpa using this
            obtain ⟨oa3, oc3, rfl⟩ := hor3.lit
            have HO3 := Lib.hid hor3
            have HM3 := Lib.hid hmap3
            have HT3 := Lib.hid htx3
            have HB10 := Lib.hid (HB9.out.trans (hb10.mono HB9.out.size))
            have HOA10 := Lib.hid ((HOA.out.below HC9.out).below hb10)
            have HTA10 : Hid (∀ x ∈ V, Tx W10 x.tv x.o.text) := fun x hx => (HTAZ.out x hx).1.below hb10
            have HOB10 := Lib.hid (HOB.out.below hb10)
            have HTB10 : Hid (∀ x ∈ V2, Tx W10 x.tv x.o.text) := fun x hx => (HTB.out x hx).below hb10
            have hv390 : V3.length ≤ 90 := by have := HLV.out; omega
            have e0 : ((V3.length : Int) == (V2.length : Int)) = true := beq_iff_eq.2 (by have := HLV.out; have := HVV.out; omega)
            have e0n : ((V3.length : Int) != (V2.length : Int)) = false := by unfold bne; rw [e0]; rfl
            clear hor3 hmap3 htx3 hb10 HOA HTA HOB HTB HC9 HB9 HTAZ
            go_upto_region 19 with fail
            go_loopw [83] (fun kv wx => ∃ k : Nat, k ≤ V3.length ∧ kv = .int .i64 k ∧ Hid (Below W10.heap.size W10 wx)) (fun kv _ => (V3.length - intOf kv).toNat)
            case atStart => exact ⟨0, Nat.zero_le _, rfl, Below.refl _ _⟩
            case round =>
              obtain ⟨k, hk, rfl, HBR⟩ := hrel
              by_cases hkl : k < V3.length
              · -- @dev{ B2
                have k1 : decide ((k : Int) < (V3.length : Int)) = true := decide_eq_true (by omega)
                have k2 : decide (k < V3.length) = true := decide_eq_true hkl
                have k3 : (0 : Int) ≤ (k : Int) := by omega
                have k4 : (k : Int) < (V3.length : Int) := by omega
                have k5 : (k : Int) < (V2.length : Int) := by have := HLV.out; have := HVV.out; omega
                have kw : IntKind.i64.wrap ((k : Int) + 1) = ((k + 1 : Nat) : Int) := IntWalk.i64_in _ (by omega)
                have hkv : k < V.length := by have := HLV.out; omega
                have hk2 : k < V2.length := by have := HLV.out; have := HVV.out; omega
                obtain ⟨b3, o3, c3, e, hbl3, hr3⟩ := (HO3.out.below HBR.out).at hkl
                injection e with e1 _ e2
                subst e1 e2
                obtain ⟨b4, o4, c4, e, hbl4, hr4⟩ := (HOB10.out.below HBR.out).at hk2
                injection e with e1 _ e2
                subst e1 e2
                have HR3 : Hid (wr.rangeAt b3 (o3 + k * 135) (ouC V3[k])) := hr3 k hkl
                have HR4 : Hid (wr.rangeAt b4 (o4 + k * 135) (ouC V2[k])) := hr4 k hk2
                have HX3 : Hid (OkOu V3[k].o) := HO3.out.ok _ (List.getElem_mem hkl)
                have HX4 : Hid (OkOu V2[k].o) := HOB10.out.ok _ (List.getElem_mem hk2)
                have HC3 : Hid ((ouC V3[k]).length = 135) := ouC_len HX3.out
                have HC4 : Hid ((ouC V2[k]).length = 135) := ouC_len HX4.out
                have HT3k : Hid (Tx wr V3[k].tv V3[k].o.text) := (HT3.out _ (List.getElem_mem hkl)).1.below HBR.out
                have HT4k : Hid (Tx wr V2[k].tv V2[k].o.text) := (HTB10.out _ (List.getElem_mem hk2)).below HBR.out
                have HSAME : Hid (∃ yt, V2[k].o = { V3[k].o with text := yt } ∧ (V3[k].o.kind = 2 → yt = V3[k].o.text)) := by
                  have h3 : V3[k].o = V[k].o.sw := by
                    have h := congrArg (fun l => l[k]?) HM3.out
                    simp only [List.getElem?_map, List.getElem?_eq_getElem hkl, List.getElem?_eq_getElem hkv, Option.map_some] at h
                    exact Option.some.inj h
                  have g1 : os1[k]? = some V[k].o := by rw [← HVA.out, List.getElem?_map, List.getElem?_eq_getElem hkv]; rfl
                  have g2 : os2[k]? = some V2[k].o := by rw [← HVB.out, List.getElem?_map, List.getElem?_eq_getElem hk2]; rfl
                  rcases HAG.out k with ⟨h, _⟩ | ⟨x, y, hx, hy, ha⟩
                  · rw [g1] at h; cases h
                  · rw [g1] at hx
                    rw [g2] at hy
                    injection hx with hx
                    injection hy with hy
                    subst hx hy
                    refine ⟨V2[k].o.text, ?_, ?_⟩
                    · rw [h3]
                      obtain ⟨a1, a2, a3, a4, a5, a6, -⟩ := ha
                      show V2[k].o = ⟨V[k].o.path, V[k].o.kind, V[k].o.id, V[k].o.stamp, V2[k].o.text, V[k].o.has.sw, V[k].o.ids.sw⟩
                      rw [← a1, ← a2, ← a3, ← a4, ← a5, ← a6]
                    · intro hkd
                      rw [h3] at hkd ⊢
                      exact ha.2.2.2.2.2.2 hkd
                clear hr3 hr4
                have HO3e : Hid ((ouC V3[k]).toArray.all (·.oneCell') = true) := by show _ = _; rw [List.all_toArray, List.all_eq_true]; exact ouC_one (tx_one HT3k.out)
                have HO4e : Hid ((ouC V2[k]).toArray.all (·.oneCell') = true) := by show _ = _; rw [List.all_toArray, List.all_eq_true]; exact ouC_one (tx_one HT4k.out)
                generalize V3[k] = x at *
                generalize V2[k] = y at *
                have HL3 : Hid (b3 < wr.heap.size) := hbl3
                have HL4 : Hid (b4 < wr.heap.size) := hbl4
                clear hbl3 hbl4
                go_upto_region 21 with fail
                go_cut [13, 14] from 86 to 93 (fun xv yv wx => ∃ bx by_ : Nat, xv = .pointer (some ⟨bx, 0, none⟩) ∧ yv = .pointer (some ⟨by_, 0, none⟩) ∧ Below wr.heap.size wr wx ∧ wx.heap[bx]? = some (.cells (ouC x).toArray 54 (0, 0)) ∧ wx.heap[by_]? = some (.cells (ouC y).toArray 54 (0, 0)))
                case first =>
                  refine wp_region_hz (fun W => Below wr.heap.size wr W) (.tk 0 (.tk 1 (.tk 2 (.tk 3 (.tk 4 (.tk 5 (.tk 6 (.tk 7 (.br 8 (.fc 9 (.fc 10 (.fc 11 .nil))) 9 (.fc 8 (.fc 10 (.fc 11 .nil)))))))))))) (by kernel_rfl) (by kernel_rfl) (fun _ _ _ _ _ h => h) ?_
                  have hb0 : Below wr.heap.size wr (wr.drewN 1) := below_dN (Below.refl _ wr) 1
                  refine goZ_tk rfl rfl 86 rfl (.slice (some ⟨b3, o3, none⟩) V3.length oc3) (fun _ => rfl) ?_
                  simp only [List.setIfInBounds_toArray, List.set_cons_zero, List.set_cons_succ]
                  refine goZ_tk rfl rfl 87 rfl (.int .i64 k) (fun _ => rfl) ?_
                  simp only [List.setIfInBounds_toArray, List.set_cons_zero, List.set_cons_succ]
                  refine goZ_tk rfl rfl 88 rfl (.pointer (some ⟨b3, o3 + k * 135, none⟩)) (fun _ => by go_simp) ?_
                  simp only [List.setIfInBounds_toArray, List.set_cons_zero, List.set_cons_succ]
                  refine goZ_ld rfl rfl 89 rfl 54 _ rfl ⟨b3, o3 + k * 135, none⟩ (.agg (ouC x).toArray) rfl (fun W hS => ld_out HC3.out (rangeAt_below HR3.out HL3.out hS)) (hb0) ?_
                  simp only [List.setIfInBounds_toArray, List.set_cons_zero, List.set_cons_succ]
                  refine goZ_tk rfl rfl 90 rfl (.slice (some ⟨b4, o4, none⟩) V2.length oc2) (fun _ => rfl) ?_
                  simp only [List.setIfInBounds_toArray, List.set_cons_zero, List.set_cons_succ]
                  refine goZ_tk rfl rfl 91 rfl (.int .i64 k) (fun _ => rfl) ?_
                  simp only [List.setIfInBounds_toArray, List.set_cons_zero, List.set_cons_succ]
                  refine goZ_tk rfl rfl 92 rfl (.pointer (some ⟨b4, o4 + k * 135, none⟩)) (fun _ => by go_simp) ?_
                  simp only [List.setIfInBounds_toArray, List.set_cons_zero, List.set_cons_succ]
                  refine goZ_ld rfl rfl 93 rfl 54 _ rfl ⟨b4, o4 + k * 135, none⟩ (.agg (ouC y).toArray) rfl (fun W hS => ld_out HC4.out (rangeAt_below HR4.out HL4.out hS)) (hb0) ?_
                  simp only [List.setIfInBounds_toArray, List.set_cons_zero, List.set_cons_succ]
                  have hba : Below wr.heap.size wr ((wr.drewN 1).alloc ZO) := hb0.alloc (Nat.le_refl _) _
                  have hbb : Below wr.heap.size wr (((wr.drewN 1).alloc ZO).alloc ZO) := hba.alloc hba.size _
                  have hsz : ((wr.drewN 1).alloc ZO).heap.size = wr.heap.size + 1 := by simp
                  have hn1 : (((wr.drewN 1).alloc ZO).alloc ZO).heap[wr.heap.size]? = some ZO := ((Below.refl _ ((wr.drewN 1).alloc ZO)).alloc (Nat.le_refl _) _ |>.block wr.heap.size (by rw [hsz]; omega)).trans Array.getElem?_push_size
                  have hn2 : (((wr.drewN 1).alloc ZO).alloc ZO).heap[wr.heap.size + 1]? = some ZO := by rw [← hsz]; exact Array.getElem?_push_size
                  refine goZ_br ?_ ?_
                  · refine goZ_val (ds' := [7, 3]) rfl rfl (by kernel_rfl) 13 rfl (.pointer (some ⟨wr.heap.size, 0, none⟩)) ((wr.drewN 1).alloc ZO) (by unfold ZO; go_simp) (fun _ => hba) ?_
                    simp only [List.setIfInBounds_toArray, List.set_cons_zero, List.set_cons_succ]
                    refine goZ_val (ds' := [7, 3]) rfl rfl (by kernel_rfl) 14 rfl (.pointer (some ⟨wr.heap.size + 1, 0, none⟩)) (((wr.drewN 1).alloc ZO).alloc ZO) (by rw [← hsz]; unfold ZO; go_simp) (fun _ => hbb) ?_
                    simp only [List.setIfInBounds_toArray, List.set_cons_zero, List.set_cons_succ]
                    obtain ⟨W8, W9, r8, r9, k1, k2, k3⟩ := st_outs (x := x) (y := y) hn1 hn2 (by omega) HC3.out HC4.out HO3e.out HO4e.out
                    have k4 := k3 wr.heap.size wr (by omega) (by omega) hbb
                    refine goZ_st (ds' := [7]) rfl rfl (by kernel_rfl) rfl 54 _ _ rfl ⟨wr.heap.size, 0, none⟩ _ rfl rfl W8 r8 (fun _ => k4.1) ?_
                    refine goZ_st (ds' := []) rfl rfl (by kernel_rfl) rfl 54 _ _ rfl ⟨(wr.heap.size + 1), 0, none⟩ _ rfl rfl W9 r9 (fun h => absurd rfl h) ?_
                    refine goZ_end ?_
                    go_wp2_with fail
                    go_meet
                    case rel => exact ⟨_, _, rfl, rfl, k4.2, k1, k2⟩
                  · refine goZ_val (ds' := [7, 3]) rfl rfl (by kernel_rfl) 14 rfl (.pointer (some ⟨wr.heap.size, 0, none⟩)) ((wr.drewN 1).alloc ZO) (by unfold ZO; go_simp) (fun _ => hba) ?_
                    simp only [List.setIfInBounds_toArray, List.set_cons_zero, List.set_cons_succ]
                    refine goZ_val (ds' := [7, 3]) rfl rfl (by kernel_rfl) 13 rfl (.pointer (some ⟨wr.heap.size + 1, 0, none⟩)) (((wr.drewN 1).alloc ZO).alloc ZO) (by rw [← hsz]; unfold ZO; go_simp) (fun _ => hbb) ?_
                    simp only [List.setIfInBounds_toArray, List.set_cons_zero, List.set_cons_succ]
                    obtain ⟨W8, W9, r8, r9, k1, k2, k3⟩ := st_outs (x := x) (y := y) hn2 hn1 (by omega) HC3.out HC4.out HO3e.out HO4e.out
                    have k4 := k3 wr.heap.size wr (by omega) (by omega) hbb
                    refine goZ_st (ds' := [7]) rfl rfl (by kernel_rfl) rfl 54 _ _ rfl ⟨(wr.heap.size + 1), 0, none⟩ _ rfl rfl W8 r8 (fun _ => k4.1) ?_
                    refine goZ_st (ds' := []) rfl rfl (by kernel_rfl) rfl 54 _ _ rfl ⟨wr.heap.size, 0, none⟩ _ rfl rfl W9 r9 (fun h => absurd rfl h) ?_
                    refine goZ_end ?_
                    go_wp2_with fail
                    go_meet
                    case rel => exact ⟨_, _, rfl, rfl, k4.2, k1, k2⟩
                case rest =>
                  obtain ⟨bx, by_, rfl, rfl, hbc, kx, ky⟩ := hcut
                  obtain ⟨yt, hye, hyk⟩ := HSAME.out
                  have hfx : Fl0 wc bx x.o x.tv := fl0_of HX3.out kx
                  have hfy : Fl0 wc by_ x.o y.tv := by have h := fl0_of HX4.out ky; rw [hye] at h; exact h
                  have htx : Tr wc x.tv x.o.text := (tx_tr HT3k.out).below hbc
                  have hty : Tr wc y.tv yt := by have h := (tx_tr HT4k.out).below hbc; rw [hye] at h; exact h
                  have HFX := Lib.hid (And.intro hfx hfy)
                  have HTRX := Lib.hid htx
                  have HTRY := Lib.hid hty
                  have HBC : Hid (Hid (Below W10.heap.size W10 (wc.drewN 1))) := (HBR.out.trans (hbc.mono HBR.out.size)).trans ((below_dN (Below.refl _ wc) 1).mono (by have := hbc.size; have := HBR.out.size; omega))
                  clear hbc kx ky hfx hfy htx hty HSAME HT3k HT4k HO3e HO4e HC3 HC4 HR3 HR4 HL3 HL4 HBR
                  obtain ⟨tx, htx⟩ : ∃ tx, x.tv = tx := ⟨_, rfl⟩
                  obtain ⟨ty, hty⟩ : ∃ ty, y.tv = ty := ⟨_, rfl⟩
                  rw [htx, hty] at HFX
                  rw [htx] at HTRX
                  rw [hty] at HTRY
                  have HXE := Lib.hid (And.intro htx (And.intro hty hye))
                  clear htx hty hye
                  go_upto_region 22 with fail
                  by_cases hk2 : x.o.kind = 2
                  · have q2 : ((x.o.kind : Int) == 2) = true := beq_iff_eq.2 (by omega)
                    have hyt := hyk hk2
                    subst hyt
                    have hs0 : (Fl0 (wc.drewN 1) bx x.o tx ∧ Fl0 (wc.drewN 1) by_ x.o ty) ∧ Tr (wc.drewN 1) tx x.o.text ∧ Tr (wc.drewN 1) ty x.o.text := ⟨HFX.out, HTRX.out.below (below_dN (Below.refl _ wc) 1), HTRY.out.below (below_dN (Below.refl _ wc) 1)⟩
                    clear hyk hk2
                    refine wp_region_hz (fun W => (Fl0 W bx x.o tx ∧ Fl0 W by_ x.o ty) ∧ Tr W tx x.o.text ∧ Tr W ty x.o.text) (.tk 0 (.tk 1 (.tk 2 (.tk 3 (.tk 4 (.tk 5 (.tk 6 (.tk 7 (.tk 8 (.tk 9 (.tk 10 (.tk 11 (.tk 12 (.tk 13 (.tk 14 (.tk 15 (.tk 16 (.tk 17 (.tk 18 (.tk 19 (.tk 20 (.tk 21 (.tk 23 (.tk 24 (.fc 22 (.fc 25 (.tk 26 (.tk 27 (.tk 28 (.tk 29 (.tk 30 (.tk 31 (.tk 32 (.tk 33 (.tk 34 (.tk 35 (.tk 36 (.tk 37 (.tk 38 (.tk 39 (.tk 40 (.tk 41 (.tk 42 (.tk 43 (.tk 44 (.tk 45 (.tk 46 (.tk 47 (.tk 48 (.tk 49 (.tk 50 (.tk 51 (.tk 52 (.tk 53 (.tk 54 (.tk 55 (.nil))))))))))))))))))))))))))))))))))))))))))))))))))))))))) (by kernel_rfl) (by kernel_rfl) (fun _ _ _ _ _ h => h) ?_
                    refine goZ_tk rfl rfl 94 rfl (.pointer (some ⟨bx, 0, none⟩)) (fun _ => rfl) ?_
                    simp only [List.setIfInBounds_toArray, List.set_cons_zero, List.set_cons_succ]
                    refine goZ_ld rfl rfl 95 rfl 9 _ rfl ⟨bx, 0, none⟩ (.string x.o.path) rfl (fun W hS => ld_string _ _ W hS.1.1.1) (hs0) ?_
                    simp only [List.setIfInBounds_toArray, List.set_cons_zero, List.set_cons_succ]
                    refine goZ_tk rfl rfl 96 rfl (.pointer (some ⟨by_, 0, none⟩)) (fun _ => rfl) ?_
                    simp only [List.setIfInBounds_toArray, List.set_cons_zero, List.set_cons_succ]
                    refine goZ_ld rfl rfl 97 rfl 9 _ rfl ⟨by_, 0, none⟩ (.string x.o.path) rfl (fun W hS => ld_string _ _ W hS.1.2.1) (hs0) ?_
                    simp only [List.setIfInBounds_toArray, List.set_cons_zero, List.set_cons_succ]
                    refine goZ_tk rfl rfl 98 rfl (.bool false) (fun _ => by go_simp) ?_
                    simp only [List.setIfInBounds_toArray, List.set_cons_zero, List.set_cons_succ]
                    refine goZ_tk rfl rfl 99 rfl (.bool false) (fun _ => rfl) ?_
                    simp only [List.setIfInBounds_toArray, List.set_cons_zero, List.set_cons_succ]
                    refine goZ_tk rfl rfl 100 rfl (.pointer (some ⟨bx, 1, none⟩)) (fun _ => rfl) ?_
                    simp only [List.setIfInBounds_toArray, List.set_cons_zero, List.set_cons_succ]
                    refine goZ_ld rfl rfl 101 rfl 3 _ rfl ⟨bx, 1, none⟩ (.int .i64 x.o.kind) rfl (fun W hS => ld_int _ _ W hS.1.1.2.1) (hs0) ?_
                    simp only [List.setIfInBounds_toArray, List.set_cons_zero, List.set_cons_succ]
                    refine goZ_tk rfl rfl 102 rfl (.pointer (some ⟨by_, 1, none⟩)) (fun _ => rfl) ?_
                    simp only [List.setIfInBounds_toArray, List.set_cons_zero, List.set_cons_succ]
                    refine goZ_ld rfl rfl 103 rfl 3 _ rfl ⟨by_, 1, none⟩ (.int .i64 x.o.kind) rfl (fun W hS => ld_int _ _ W hS.1.2.2.1) (hs0) ?_
                    simp only [List.setIfInBounds_toArray, List.set_cons_zero, List.set_cons_succ]
                    refine goZ_tk rfl rfl 104 rfl (.bool false) (fun _ => by go_simp) ?_
                    simp only [List.setIfInBounds_toArray, List.set_cons_zero, List.set_cons_succ]
                    refine goZ_tk rfl rfl 105 rfl (.bool false) (fun _ => rfl) ?_
                    simp only [List.setIfInBounds_toArray, List.set_cons_zero, List.set_cons_succ]
                    refine goZ_tk rfl rfl 106 rfl (.bool false) (fun _ => rfl) ?_
                    simp only [List.setIfInBounds_toArray, List.set_cons_zero, List.set_cons_succ]
                    refine goZ_tk rfl rfl 107 rfl (.pointer (some ⟨bx, 2, none⟩)) (fun _ => rfl) ?_
                    simp only [List.setIfInBounds_toArray, List.set_cons_zero, List.set_cons_succ]
                    refine goZ_ld rfl rfl 108 rfl 43 _ rfl ⟨bx, 2, none⟩ (.agg (nums .u8 x.o.id)) rfl (fun W hS => ld_id HX3.out.id hS.1.1.2.2.1) (hs0) ?_
                    simp only [List.setIfInBounds_toArray, List.set_cons_zero, List.set_cons_succ]
                    refine goZ_tk rfl rfl 109 rfl (.pointer (some ⟨by_, 2, none⟩)) (fun _ => rfl) ?_
                    simp only [List.setIfInBounds_toArray, List.set_cons_zero, List.set_cons_succ]
                    refine goZ_ld rfl rfl 110 rfl 43 _ rfl ⟨by_, 2, none⟩ (.agg (nums .u8 x.o.id)) rfl (fun W hS => ld_id HX3.out.id hS.1.2.2.2.1) (hs0) ?_
                    simp only [List.setIfInBounds_toArray, List.set_cons_zero, List.set_cons_succ]
                    refine goZ_tk rfl rfl 111 rfl (.bool false) (exec_bin _ _ rfl rfl rfl (fun _ => by first | rfl | go_simp) (id_same HX3.out.id)) ?_
                    simp only [List.setIfInBounds_toArray, List.set_cons_zero, List.set_cons_succ]
                    refine goZ_tk rfl rfl 112 rfl (.bool false) (fun _ => rfl) ?_
                    simp only [List.setIfInBounds_toArray, List.set_cons_zero, List.set_cons_succ]
                    refine goZ_tk rfl rfl 113 rfl (.bool false) (fun _ => rfl) ?_
                    simp only [List.setIfInBounds_toArray, List.set_cons_zero, List.set_cons_succ]
                    refine goZ_tk rfl rfl 114 rfl (.pointer (some ⟨bx, 34, none⟩)) (fun _ => rfl) ?_
                    simp only [List.setIfInBounds_toArray, List.set_cons_zero, List.set_cons_succ]
                    refine goZ_ld rfl rfl 115 rfl 44 _ rfl ⟨bx, 34, none⟩ (.float .f64 x.o.stamp) rfl (fun W hS => ld_float _ _ W hS.1.1.2.2.2.1) (hs0) ?_
                    simp only [List.setIfInBounds_toArray, List.set_cons_zero, List.set_cons_succ]
                    refine goZ_tk rfl rfl 117 rfl (.pointer (some ⟨by_, 34, none⟩)) (fun _ => rfl) ?_
                    simp only [List.setIfInBounds_toArray, List.set_cons_zero, List.set_cons_succ]
                    refine goZ_ld rfl rfl 118 rfl 44 _ rfl ⟨by_, 34, none⟩ (.float .f64 x.o.stamp) rfl (fun W hS => ld_float _ _ W hS.1.2.2.2.2.1) (hs0) ?_
                    simp only [List.setIfInBounds_toArray, List.set_cons_zero, List.set_cons_succ]
                    refine goZ_call (ds' := [24, 16, 14, 9, 7, 3, 1]) rfl rfl (by kernel_rfl) 116 rfl 20 _ rfl [(.float .f64 x.o.stamp)] rfl (enters_of Tryz.func20 (by kernel_rfl) rfl) ((refbits_c x.o.stamp _).mono ?_)
                    rintro _ _ ⟨rfl, rfl⟩
                    refine ⟨(.int .u64 (cn x.o.stamp)), rfl, fun _ => hs0, ?_⟩
                    simp only [List.setIfInBounds_toArray, List.set_cons_zero, List.set_cons_succ]
                    refine goZ_call (ds' := [16, 14, 9, 7, 3, 1]) rfl rfl (by kernel_rfl) 119 rfl 20 _ rfl [(.float .f64 x.o.stamp)] rfl (enters_of Tryz.func20 (by kernel_rfl) rfl) ((refbits_c x.o.stamp _).mono ?_)
                    rintro _ _ ⟨rfl, rfl⟩
                    refine ⟨(.int .u64 (cn x.o.stamp)), rfl, fun _ => hs0, ?_⟩
                    simp only [List.setIfInBounds_toArray, List.set_cons_zero, List.set_cons_succ]
                    refine goZ_tk rfl rfl 120 rfl (.bool false) (fun _ => by go_simp) ?_
                    simp only [List.setIfInBounds_toArray, List.set_cons_zero, List.set_cons_succ]
                    refine goZ_tk rfl rfl 121 rfl (.bool false) (fun _ => rfl) ?_
                    simp only [List.setIfInBounds_toArray, List.set_cons_zero, List.set_cons_succ]
                    refine goZ_tk rfl rfl 122 rfl (.bool false) (fun _ => rfl) ?_
                    simp only [List.setIfInBounds_toArray, List.set_cons_zero, List.set_cons_succ]
                    refine goZ_tk rfl rfl 123 rfl (.pointer (some ⟨bx, 36, none⟩)) (fun _ => rfl) ?_
                    simp only [List.setIfInBounds_toArray, List.set_cons_zero, List.set_cons_succ]
                    refine goZ_ld rfl rfl 124 rfl 45 _ rfl ⟨bx, 36, none⟩ (.agg #[.bool x.o.has.a, .bool x.o.has.b, .bool x.o.has.c]) rfl (fun W hS => ld_b3 hS.1.1.2.2.2.2.2.1) (hs0) ?_
                    simp only [List.setIfInBounds_toArray, List.set_cons_zero, List.set_cons_succ]
                    refine goZ_tk rfl rfl 125 rfl (.pointer (some ⟨by_, 36, none⟩)) (fun _ => rfl) ?_
                    simp only [List.setIfInBounds_toArray, List.set_cons_zero, List.set_cons_succ]
                    refine goZ_ld rfl rfl 126 rfl 45 _ rfl ⟨by_, 36, none⟩ (.agg #[.bool x.o.has.a, .bool x.o.has.b, .bool x.o.has.c]) rfl (fun W hS => ld_b3 hS.1.2.2.2.2.2.2.1) (hs0) ?_
                    simp only [List.setIfInBounds_toArray, List.set_cons_zero, List.set_cons_succ]
                    refine goZ_tk rfl rfl 127 rfl (.bool false) (exec_bin _ _ rfl rfl rfl (fun _ => by first | rfl | go_simp) (b3_same _ _ _)) ?_
                    simp only [List.setIfInBounds_toArray, List.set_cons_zero, List.set_cons_succ]
                    refine goZ_tk rfl rfl 128 rfl (.bool false) (fun _ => rfl) ?_
                    simp only [List.setIfInBounds_toArray, List.set_cons_zero, List.set_cons_succ]
                    refine goZ_tk rfl rfl 129 rfl (.bool false) (fun _ => rfl) ?_
                    simp only [List.setIfInBounds_toArray, List.set_cons_zero, List.set_cons_succ]
                    refine goZ_tk rfl rfl 130 rfl (.pointer (some ⟨bx, 39, none⟩)) (fun _ => rfl) ?_
                    simp only [List.setIfInBounds_toArray, List.set_cons_zero, List.set_cons_succ]
                    refine goZ_ld rfl rfl 131 rfl 46 _ rfl ⟨bx, 39, none⟩ (.agg (nums .u8 (x.o.ids.a ++ (x.o.ids.b ++ x.o.ids.c)))) rfl (fun W hS => ld_ids HX3.out.ia HX3.out.ib HX3.out.ic hS.1.1.2.2.2.2.2.2) (hs0) ?_
                    simp only [List.setIfInBounds_toArray, List.set_cons_zero, List.set_cons_succ]
                    refine goZ_tk rfl rfl 132 rfl (.pointer (some ⟨by_, 39, none⟩)) (fun _ => rfl) ?_
                    simp only [List.setIfInBounds_toArray, List.set_cons_zero, List.set_cons_succ]
                    refine goZ_ld rfl rfl 133 rfl 46 _ rfl ⟨by_, 39, none⟩ (.agg (nums .u8 (x.o.ids.a ++ (x.o.ids.b ++ x.o.ids.c)))) rfl (fun W hS => ld_ids HX3.out.ia HX3.out.ib HX3.out.ic hS.1.2.2.2.2.2.2.2) (hs0) ?_
                    simp only [List.setIfInBounds_toArray, List.set_cons_zero, List.set_cons_succ]
                    refine goZ_tk rfl rfl 134 rfl (.bool false) (exec_bin _ _ rfl rfl rfl (fun _ => by first | rfl | go_simp) (ids3_same HX3.out.ia HX3.out.ib HX3.out.ic)) ?_
                    simp only [List.setIfInBounds_toArray, List.set_cons_zero, List.set_cons_succ]
                    refine goZ_tk rfl rfl 135 rfl (.bool false) (fun _ => rfl) ?_
                    simp only [List.setIfInBounds_toArray, List.set_cons_zero, List.set_cons_succ]
                    refine goZ_tk rfl rfl 136 rfl (.bool false) (fun _ => rfl) ?_
                    simp only [List.setIfInBounds_toArray, List.set_cons_zero, List.set_cons_succ]
                    refine goZ_tk rfl rfl 137 rfl (.pointer (some ⟨bx, 1, none⟩)) (fun _ => rfl) ?_
                    simp only [List.setIfInBounds_toArray, List.set_cons_zero, List.set_cons_succ]
                    refine goZ_ld rfl rfl 138 rfl 3 _ rfl ⟨bx, 1, none⟩ (.int .i64 x.o.kind) rfl (fun W hS => ld_int _ _ W hS.1.1.2.1) (hs0) ?_
                    simp only [List.setIfInBounds_toArray, List.set_cons_zero, List.set_cons_succ]
                    refine goZ_tk rfl rfl 139 rfl (.bool true) (fun _ => by go_simp) ?_
                    simp only [List.setIfInBounds_toArray, List.set_cons_zero, List.set_cons_succ]
                    refine goZ_tk rfl rfl 140 rfl (.bool true) (fun _ => rfl) ?_
                    simp only [List.setIfInBounds_toArray, List.set_cons_zero, List.set_cons_succ]
                    refine goZ_tk rfl rfl 141 rfl (.pointer (some ⟨bx, 35, none⟩)) (fun _ => rfl) ?_
                    simp only [List.setIfInBounds_toArray, List.set_cons_zero, List.set_cons_succ]
                    refine goZ_ld rfl rfl 142 rfl 52 _ rfl ⟨bx, 35, none⟩ tx rfl (fun W hS => ld_u8s _ _ W hS.1.1.2.2.2.2.1) (hs0) ?_
                    simp only [List.setIfInBounds_toArray, List.set_cons_zero, List.set_cons_succ]
                    refine goZ_rd rfl rfl 143 rfl (.string x.o.text) (fun W hS => exec_conv (u := tx) _ rfl rfl (tr_str hS.2.1)) (hs0) ?_
                    simp only [List.setIfInBounds_toArray, List.set_cons_zero, List.set_cons_succ]
                    refine goZ_tk rfl rfl 144 rfl (.pointer (some ⟨by_, 35, none⟩)) (fun _ => rfl) ?_
                    simp only [List.setIfInBounds_toArray, List.set_cons_zero, List.set_cons_succ]
                    refine goZ_ld rfl rfl 145 rfl 52 _ rfl ⟨by_, 35, none⟩ ty rfl (fun W hS => ld_u8s _ _ W hS.1.2.2.2.2.2.1) (hs0) ?_
                    simp only [List.setIfInBounds_toArray, List.set_cons_zero, List.set_cons_succ]
                    refine goZ_rd rfl rfl 146 rfl (.string x.o.text) (fun W hS => exec_conv (u := ty) _ rfl rfl (tr_str hS.2.2)) (hs0) ?_
                    simp only [List.setIfInBounds_toArray, List.set_cons_zero, List.set_cons_succ]
                    refine goZ_tk rfl rfl 147 rfl (.bool false) (fun _ => by go_simp) ?_
                    simp only [List.setIfInBounds_toArray, List.set_cons_zero, List.set_cons_succ]
                    refine goZ_tk rfl rfl 148 rfl (.bool false) (fun _ => rfl) ?_
                    simp only [List.setIfInBounds_toArray, List.set_cons_zero, List.set_cons_succ]
                    refine goZ_tk rfl rfl 149 rfl (.bool false) (fun _ => rfl) ?_
                    simp only [List.setIfInBounds_toArray, List.set_cons_zero, List.set_cons_succ]
                    refine goZ_end ?_
                    clear hs0 HFX HTRX HTRY HXE
                    generalize wc.drewN 1 = W15 at *
                    go_wp2_with fail
                    go_roundw
                    case rel => exact ⟨k + 1, hkl, by go_num, HBC.out⟩
                    case measure => simp [intOf]; omega
                  · have q2 : ((x.o.kind : Int) == 2) = false := beq_eq_false_iff_ne.2 (by omega)
                    have hs0 : (Fl0 (wc.drewN 1) bx x.o tx ∧ Fl0 (wc.drewN 1) by_ x.o ty) := HFX.out
                    clear hyk hk2
                    refine wp_region_hz (fun W => (Fl0 W bx x.o tx ∧ Fl0 W by_ x.o ty)) (.tk 0 (.tk 1 (.tk 2 (.tk 3 (.tk 4 (.tk 5 (.tk 6 (.tk 7 (.tk 8 (.tk 9 (.tk 10 (.tk 11 (.tk 12 (.tk 13 (.tk 14 (.tk 15 (.tk 16 (.tk 17 (.tk 18 (.tk 19 (.tk 20 (.tk 21 (.tk 23 (.tk 24 (.fc 22 (.fc 25 (.tk 26 (.tk 27 (.tk 28 (.tk 29 (.tk 30 (.tk 31 (.tk 32 (.tk 33 (.tk 34 (.tk 35 (.tk 36 (.tk 37 (.tk 38 (.tk 39 (.tk 40 (.tk 41 (.tk 42 (.tk 43 (.tk 44 (.tk 45 (.tk 46 (.tk 47 (.tk 48 (.tk 49 (.tk 50 (.tk 51 (.tk 52 (.tk 53 (.tk 54 (.tk 55 (.nil))))))))))))))))))))))))))))))))))))))))))))))))))))))))) (by kernel_rfl) (by kernel_rfl) (fun _ _ _ _ _ h => h) ?_
                    refine goZ_tk rfl rfl 94 rfl (.pointer (some ⟨bx, 0, none⟩)) (fun _ => rfl) ?_
                    simp only [List.setIfInBounds_toArray, List.set_cons_zero, List.set_cons_succ]
                    refine goZ_ld rfl rfl 95 rfl 9 _ rfl ⟨bx, 0, none⟩ (.string x.o.path) rfl (fun W hS => ld_string _ _ W hS.1.1) (hs0) ?_
                    simp only [List.setIfInBounds_toArray, List.set_cons_zero, List.set_cons_succ]
                    refine goZ_tk rfl rfl 96 rfl (.pointer (some ⟨by_, 0, none⟩)) (fun _ => rfl) ?_
                    simp only [List.setIfInBounds_toArray, List.set_cons_zero, List.set_cons_succ]
                    refine goZ_ld rfl rfl 97 rfl 9 _ rfl ⟨by_, 0, none⟩ (.string x.o.path) rfl (fun W hS => ld_string _ _ W hS.2.1) (hs0) ?_
                    simp only [List.setIfInBounds_toArray, List.set_cons_zero, List.set_cons_succ]
                    refine goZ_tk rfl rfl 98 rfl (.bool false) (fun _ => by go_simp) ?_
                    simp only [List.setIfInBounds_toArray, List.set_cons_zero, List.set_cons_succ]
                    refine goZ_tk rfl rfl 99 rfl (.bool false) (fun _ => rfl) ?_
                    simp only [List.setIfInBounds_toArray, List.set_cons_zero, List.set_cons_succ]
                    refine goZ_tk rfl rfl 100 rfl (.pointer (some ⟨bx, 1, none⟩)) (fun _ => rfl) ?_
                    simp only [List.setIfInBounds_toArray, List.set_cons_zero, List.set_cons_succ]
                    refine goZ_ld rfl rfl 101 rfl 3 _ rfl ⟨bx, 1, none⟩ (.int .i64 x.o.kind) rfl (fun W hS => ld_int _ _ W hS.1.2.1) (hs0) ?_
                    simp only [List.setIfInBounds_toArray, List.set_cons_zero, List.set_cons_succ]
                    refine goZ_tk rfl rfl 102 rfl (.pointer (some ⟨by_, 1, none⟩)) (fun _ => rfl) ?_
                    simp only [List.setIfInBounds_toArray, List.set_cons_zero, List.set_cons_succ]
                    refine goZ_ld rfl rfl 103 rfl 3 _ rfl ⟨by_, 1, none⟩ (.int .i64 x.o.kind) rfl (fun W hS => ld_int _ _ W hS.2.2.1) (hs0) ?_
                    simp only [List.setIfInBounds_toArray, List.set_cons_zero, List.set_cons_succ]
                    refine goZ_tk rfl rfl 104 rfl (.bool false) (fun _ => by go_simp) ?_
                    simp only [List.setIfInBounds_toArray, List.set_cons_zero, List.set_cons_succ]
                    refine goZ_tk rfl rfl 105 rfl (.bool false) (fun _ => rfl) ?_
                    simp only [List.setIfInBounds_toArray, List.set_cons_zero, List.set_cons_succ]
                    refine goZ_tk rfl rfl 106 rfl (.bool false) (fun _ => rfl) ?_
                    simp only [List.setIfInBounds_toArray, List.set_cons_zero, List.set_cons_succ]
                    refine goZ_tk rfl rfl 107 rfl (.pointer (some ⟨bx, 2, none⟩)) (fun _ => rfl) ?_
                    simp only [List.setIfInBounds_toArray, List.set_cons_zero, List.set_cons_succ]
                    refine goZ_ld rfl rfl 108 rfl 43 _ rfl ⟨bx, 2, none⟩ (.agg (nums .u8 x.o.id)) rfl (fun W hS => ld_id HX3.out.id hS.1.2.2.1) (hs0) ?_
                    simp only [List.setIfInBounds_toArray, List.set_cons_zero, List.set_cons_succ]
                    refine goZ_tk rfl rfl 109 rfl (.pointer (some ⟨by_, 2, none⟩)) (fun _ => rfl) ?_
                    simp only [List.setIfInBounds_toArray, List.set_cons_zero, List.set_cons_succ]
                    refine goZ_ld rfl rfl 110 rfl 43 _ rfl ⟨by_, 2, none⟩ (.agg (nums .u8 x.o.id)) rfl (fun W hS => ld_id HX3.out.id hS.2.2.2.1) (hs0) ?_
                    simp only [List.setIfInBounds_toArray, List.set_cons_zero, List.set_cons_succ]
                    refine goZ_tk rfl rfl 111 rfl (.bool false) (exec_bin _ _ rfl rfl rfl (fun _ => by first | rfl | go_simp) (id_same HX3.out.id)) ?_
                    simp only [List.setIfInBounds_toArray, List.set_cons_zero, List.set_cons_succ]
                    refine goZ_tk rfl rfl 112 rfl (.bool false) (fun _ => rfl) ?_
                    simp only [List.setIfInBounds_toArray, List.set_cons_zero, List.set_cons_succ]
                    refine goZ_tk rfl rfl 113 rfl (.bool false) (fun _ => rfl) ?_
                    simp only [List.setIfInBounds_toArray, List.set_cons_zero, List.set_cons_succ]
                    refine goZ_tk rfl rfl 114 rfl (.pointer (some ⟨bx, 34, none⟩)) (fun _ => rfl) ?_
                    simp only [List.setIfInBounds_toArray, List.set_cons_zero, List.set_cons_succ]
                    refine goZ_ld rfl rfl 115 rfl 44 _ rfl ⟨bx, 34, none⟩ (.float .f64 x.o.stamp) rfl (fun W hS => ld_float _ _ W hS.1.2.2.2.1) (hs0) ?_
                    simp only [List.setIfInBounds_toArray, List.set_cons_zero, List.set_cons_succ]
                    refine goZ_tk rfl rfl 117 rfl (.pointer (some ⟨by_, 34, none⟩)) (fun _ => rfl) ?_
                    simp only [List.setIfInBounds_toArray, List.set_cons_zero, List.set_cons_succ]
                    refine goZ_ld rfl rfl 118 rfl 44 _ rfl ⟨by_, 34, none⟩ (.float .f64 x.o.stamp) rfl (fun W hS => ld_float _ _ W hS.2.2.2.2.1) (hs0) ?_
                    simp only [List.setIfInBounds_toArray, List.set_cons_zero, List.set_cons_succ]
                    refine goZ_call (ds' := [24, 16, 14, 9, 7, 3, 1]) rfl rfl (by kernel_rfl) 116 rfl 20 _ rfl [(.float .f64 x.o.stamp)] rfl (enters_of Tryz.func20 (by kernel_rfl) rfl) ((refbits_c x.o.stamp _).mono ?_)
                    rintro _ _ ⟨rfl, rfl⟩
                    refine ⟨(.int .u64 (cn x.o.stamp)), rfl, fun _ => hs0, ?_⟩
                    simp only [List.setIfInBounds_toArray, List.set_cons_zero, List.set_cons_succ]
                    refine goZ_call (ds' := [16, 14, 9, 7, 3, 1]) rfl rfl (by kernel_rfl) 119 rfl 20 _ rfl [(.float .f64 x.o.stamp)] rfl (enters_of Tryz.func20 (by kernel_rfl) rfl) ((refbits_c x.o.stamp _).mono ?_)
                    rintro _ _ ⟨rfl, rfl⟩
                    refine ⟨(.int .u64 (cn x.o.stamp)), rfl, fun _ => hs0, ?_⟩
                    simp only [List.setIfInBounds_toArray, List.set_cons_zero, List.set_cons_succ]
                    refine goZ_tk rfl rfl 120 rfl (.bool false) (fun _ => by go_simp) ?_
                    simp only [List.setIfInBounds_toArray, List.set_cons_zero, List.set_cons_succ]
                    refine goZ_tk rfl rfl 121 rfl (.bool false) (fun _ => rfl) ?_
                    simp only [List.setIfInBounds_toArray, List.set_cons_zero, List.set_cons_succ]
                    refine goZ_tk rfl rfl 122 rfl (.bool false) (fun _ => rfl) ?_
                    simp only [List.setIfInBounds_toArray, List.set_cons_zero, List.set_cons_succ]
                    refine goZ_tk rfl rfl 123 rfl (.pointer (some ⟨bx, 36, none⟩)) (fun _ => rfl) ?_
                    simp only [List.setIfInBounds_toArray, List.set_cons_zero, List.set_cons_succ]
                    refine goZ_ld rfl rfl 124 rfl 45 _ rfl ⟨bx, 36, none⟩ (.agg #[.bool x.o.has.a, .bool x.o.has.b, .bool x.o.has.c]) rfl (fun W hS => ld_b3 hS.1.2.2.2.2.2.1) (hs0) ?_
                    simp only [List.setIfInBounds_toArray, List.set_cons_zero, List.set_cons_succ]
                    refine goZ_tk rfl rfl 125 rfl (.pointer (some ⟨by_, 36, none⟩)) (fun _ => rfl) ?_
                    simp only [List.setIfInBounds_toArray, List.set_cons_zero, List.set_cons_succ]
                    refine goZ_ld rfl rfl 126 rfl 45 _ rfl ⟨by_, 36, none⟩ (.agg #[.bool x.o.has.a, .bool x.o.has.b, .bool x.o.has.c]) rfl (fun W hS => ld_b3 hS.2.2.2.2.2.2.1) (hs0) ?_
                    simp only [List.setIfInBounds_toArray, List.set_cons_zero, List.set_cons_succ]
                    refine goZ_tk rfl rfl 127 rfl (.bool false) (exec_bin _ _ rfl rfl rfl (fun _ => by first | rfl | go_simp) (b3_same _ _ _)) ?_
                    simp only [List.setIfInBounds_toArray, List.set_cons_zero, List.set_cons_succ]
                    refine goZ_tk rfl rfl 128 rfl (.bool false) (fun _ => rfl) ?_
                    simp only [List.setIfInBounds_toArray, List.set_cons_zero, List.set_cons_succ]
                    refine goZ_tk rfl rfl 129 rfl (.bool false) (fun _ => rfl) ?_
                    simp only [List.setIfInBounds_toArray, List.set_cons_zero, List.set_cons_succ]
                    refine goZ_tk rfl rfl 130 rfl (.pointer (some ⟨bx, 39, none⟩)) (fun _ => rfl) ?_
                    simp only [List.setIfInBounds_toArray, List.set_cons_zero, List.set_cons_succ]
                    refine goZ_ld rfl rfl 131 rfl 46 _ rfl ⟨bx, 39, none⟩ (.agg (nums .u8 (x.o.ids.a ++ (x.o.ids.b ++ x.o.ids.c)))) rfl (fun W hS => ld_ids HX3.out.ia HX3.out.ib HX3.out.ic hS.1.2.2.2.2.2.2) (hs0) ?_
                    simp only [List.setIfInBounds_toArray, List.set_cons_zero, List.set_cons_succ]
                    refine goZ_tk rfl rfl 132 rfl (.pointer (some ⟨by_, 39, none⟩)) (fun _ => rfl) ?_
                    simp only [List.setIfInBounds_toArray, List.set_cons_zero, List.set_cons_succ]
                    refine goZ_ld rfl rfl 133 rfl 46 _ rfl ⟨by_, 39, none⟩ (.agg (nums .u8 (x.o.ids.a ++ (x.o.ids.b ++ x.o.ids.c)))) rfl (fun W hS => ld_ids HX3.out.ia HX3.out.ib HX3.out.ic hS.2.2.2.2.2.2.2) (hs0) ?_
                    simp only [List.setIfInBounds_toArray, List.set_cons_zero, List.set_cons_succ]
                    refine goZ_tk rfl rfl 134 rfl (.bool false) (exec_bin _ _ rfl rfl rfl (fun _ => by first | rfl | go_simp) (ids3_same HX3.out.ia HX3.out.ib HX3.out.ic)) ?_
                    simp only [List.setIfInBounds_toArray, List.set_cons_zero, List.set_cons_succ]
                    refine goZ_tk rfl rfl 135 rfl (.bool false) (fun _ => rfl) ?_
                    simp only [List.setIfInBounds_toArray, List.set_cons_zero, List.set_cons_succ]
                    refine goZ_tk rfl rfl 136 rfl (.bool false) (fun _ => rfl) ?_
                    simp only [List.setIfInBounds_toArray, List.set_cons_zero, List.set_cons_succ]
                    refine goZ_tk rfl rfl 137 rfl (.pointer (some ⟨bx, 1, none⟩)) (fun _ => rfl) ?_
                    simp only [List.setIfInBounds_toArray, List.set_cons_zero, List.set_cons_succ]
                    refine goZ_ld rfl rfl 138 rfl 3 _ rfl ⟨bx, 1, none⟩ (.int .i64 x.o.kind) rfl (fun W hS => ld_int _ _ W hS.1.2.1) (hs0) ?_
                    simp only [List.setIfInBounds_toArray, List.set_cons_zero, List.set_cons_succ]
                    refine goZ_tk rfl rfl 139 rfl (.bool false) (fun _ => by go_simp) ?_
                    simp only [List.setIfInBounds_toArray, List.set_cons_zero, List.set_cons_succ]
                    refine goZ_tk rfl rfl 140 rfl (.bool false) (fun _ => rfl) ?_
                    simp only [List.setIfInBounds_toArray, List.set_cons_zero, List.set_cons_succ]
                    refine goZ_no rfl rfl 141 rfl ?_
                    simp only [List.setIfInBounds_toArray, List.set_cons_zero, List.set_cons_succ]
                    refine goZ_no rfl rfl 142 rfl ?_
                    simp only [List.setIfInBounds_toArray, List.set_cons_zero, List.set_cons_succ]
                    refine goZ_no rfl rfl 143 rfl ?_
                    simp only [List.setIfInBounds_toArray, List.set_cons_zero, List.set_cons_succ]
                    refine goZ_no rfl rfl 144 rfl ?_
                    simp only [List.setIfInBounds_toArray, List.set_cons_zero, List.set_cons_succ]
                    refine goZ_no rfl rfl 145 rfl ?_
                    simp only [List.setIfInBounds_toArray, List.set_cons_zero, List.set_cons_succ]
                    refine goZ_no rfl rfl 146 rfl ?_
                    simp only [List.setIfInBounds_toArray, List.set_cons_zero, List.set_cons_succ]
                    refine goZ_no rfl rfl 147 rfl ?_
                    simp only [List.setIfInBounds_toArray, List.set_cons_zero, List.set_cons_succ]
                    refine goZ_tk rfl rfl 148 rfl (.bool false) (fun _ => rfl) ?_
                    simp only [List.setIfInBounds_toArray, List.set_cons_zero, List.set_cons_succ]
                    refine goZ_tk rfl rfl 149 rfl (.bool false) (fun _ => rfl) ?_
                    simp only [List.setIfInBounds_toArray, List.set_cons_zero, List.set_cons_succ]
                    refine goZ_end ?_
                    clear hs0 HFX HTRX HTRY HXE
                    generalize wc.drewN 1 = W15 at *
                    go_wp2_with fail
                    go_roundw
                    case rel => exact ⟨k + 1, hkl, by go_num, HBC.out⟩
                    case measure => simp [intOf]; omega
              · -- @dev{ FN
                have hke : k = V3.length := by omega
                subst hke
                have k1 : decide ((V3.length : Int) < (V3.length : Int)) = false := decide_eq_false (by omega)
                have HBF := Lib.hid (HB10.out.trans (HBR.out.mono HB10.out.size))
                have HM4 := Lib.hid (moved_c (HO3.out.below HBR.out) (fun x hx => ⟨(HT3.out x hx).1.below HBR.out, (HT3.out x hx).2⟩) (by omega))
                have HOAr := Lib.hid (HOA10.out.below HBR.out)
                have HTAr : Hid (∀ x ∈ V, Tx wr x.tv x.o.text) := fun x hx => (HTA10.out x hx).below HBR.out
                have HME : Hid (V3.map (fun x => x.o.sw) = V.map (·.o)) := by
                  show _ = _
                  have h := congrArg (List.map Ou.sw) HM3.out
                  rw [List.map_map, List.map_map] at h
                  exact h
                have HVN : Hid (V.length ≤ 100000) := by show V.length ≤ 100000; omega
                clear HO3 HT3 HOA10 HTA10 HOB10 HTB10 HBR HB10 HM3
                go_upto_region 25 with fail
                refine goP_start ?_
                refine goP_mv rfl 151 rfl _ rfl (.slice oa3 V3.length oc3) rfl ?_
                simp only [List.setIfInBounds_toArray, List.set_cons_zero, List.set_cons_succ]
                refine goP_call rfl 152 rfl 23 _ rfl [(.slice oa3 V3.length oc3)] rfl (enters_of Tryz.func23 (by kernel_rfl) rfl) ((HM4.out).mono ?_)
                rintro e W11 ⟨mv4, V4, rfl, hor4, hmap4, htx4, hb11⟩
                have HMP := Lib.hid (hmap4.trans HME.out)
                have hv4 : V4.length = V.length := by have := congrArg List.length HMP.out; simpa using this
                have HO4 := Lib.hid (outcomes_c hor4 (fun x hx => (htx4 x hx).1) (by rw [hv4]; exact HVN.out))
                have HB11 := Lib.hid hb11
                have HOAs := Lib.hid (HOAr.out.below hb11)
                have HTAs : Hid (∀ x ∈ V, Tx W11 x.tv x.o.text) := (fun x hx => (HTAr.out x hx).below hb11)
                clear hor4 hmap4 htx4 hb11 HOAr HTAr hv4 HM4
                refine ⟨mv4, rfl, ?_⟩
                simp only [List.setIfInBounds_toArray, List.set_cons_zero, List.set_cons_succ]
                refine goP_call rfl 153 rfl 17 _ rfl [mv4] rfl (enters_of Tryz.func17 (by kernel_rfl) rfl) ((HO4.out).mono ?_)
                rintro e W12 ⟨dv1, rfl, hdr1, hb12⟩
                rw [HMP.out] at hdr1
                have HD1 := Lib.hid hdr1
                have HB12 := Lib.hid (HB11.out.trans (hb12.mono HB11.out.size))
                have HO5 := Lib.hid (outcomes_c (HOAs.out.below hb12) (fun x hx => (HTAs.out x hx).below hb12) HVN.out)
                clear hdr1 hb12 HB11 HOAs HTAs HO4
                refine ⟨dv1, rfl, ?_⟩
                simp only [List.setIfInBounds_toArray, List.set_cons_zero, List.set_cons_succ]
                refine goP_mv rfl 154 rfl _ rfl (.slice oa V.length oc) rfl ?_
                simp only [List.setIfInBounds_toArray, List.set_cons_zero, List.set_cons_succ]
                refine goP_call rfl 155 rfl 17 _ rfl [(.slice oa V.length oc)] rfl (enters_of Tryz.func17 (by kernel_rfl) rfl) ((HO5.out).mono ?_)
                rintro e W13 ⟨dv2, rfl, hdr2, hb13⟩
                have HSM := Lib.hid (dsame_c (HD1.out.below hb13) hdr2 (by rw [List.length_map]; exact HVN.out))
                have HB13 := Lib.hid (HB12.out.trans (hb13.mono HB12.out.size))
                clear hdr2 hb13 HB12 HD1 HO5
                refine ⟨dv2, rfl, ?_⟩
                simp only [List.setIfInBounds_toArray, List.set_cons_zero, List.set_cons_succ]
                refine goP_call rfl 156 rfl 16 _ rfl [dv1, dv2] rfl (enters_of Tryz.func16 (by kernel_rfl) rfl) ((HSM.out).mono ?_)
                rintro e W14 ⟨rfl, hb14⟩
                clear HSM
                refine ⟨(.bool true), rfl, ?_⟩
                simp only [List.setIfInBounds_toArray, List.set_cons_zero, List.set_cons_succ]
                refine goP_as rfl 4 rfl _ rfl (.bool true) rfl ?_
                simp only [List.setIfInBounds_toArray, List.set_cons_zero, List.set_cons_succ]
                refine goP_end ?_
                go_wp2_with fail
                go_ret
                exact ⟨rfl, HBF.out.trans ((HB13.out.trans (hb14.mono HB13.out.size)).mono HBF.out.size)⟩
          · -- @dev{ E1
            subst h1
            have x2 : (e2 == 0) = false := beq_eq_false_iff_ne.2 h2
            have x3 : ((0 : Int) == e2) = false := beq_eq_false_iff_ne.2 (fun e => h2 e.symm)
            have x4 : ((0 : Int) != e2) = true := by unfold bne; rw [x3]; rfl
            have hos : os2 = [] := hn2 h2
            have hv2 : V2.length = 0 := by rw [hlb, hos]; rfl
            have ev2 : ((V2.length : Int) == 0) = true := beq_iff_eq.2 (by omega)
            clear hsw hn1 hn2 hl1 ht1 hva hvb hlb hla HVA HVB hos hv2
            cases ev : ((V.length : Int) == 0) with
            | true =>
              go_wp2_with fail
              go_ret
              exact ⟨rfl, HB9.out⟩
            | false =>
              go_wp2_with fail
              go_ret
              exact ⟨rfl, HB9.out⟩
        · -- @dev{ E2
          have x1 : (e1 == 0) = false := beq_eq_false_iff_ne.2 h1
          have hos : os1 = [] := hn1 h1
          have hv1 : V.length = 0 := by rw [hla, hos]; rfl
          have ev : ((V.length : Int) == 0) = true := beq_iff_eq.2 (by omega)
          by_cases h2 : e2 = 0
          · subst h2
            clear hsw hn1 hn2 hl1 ht1 hva hvb hlb hla HVA HVB hos hv1
            cases ev2 : ((V2.length : Int) == 0) with
            | true =>
              go_wp2_with fail
              go_ret
              first
                | exact ⟨rfl, HB9.out⟩
                | exact ⟨(show Ending.returned (Value.bool (e1 != 0)) = Ending.returned (Value.bool true) by unfold bne; rw [x1]; rfl), HB9.out⟩
            | false =>
              go_wp2_with fail
              go_ret
              first
                | exact ⟨rfl, HB9.out⟩
                | exact ⟨(show Ending.returned (Value.bool (e1 != 0)) = Ending.returned (Value.bool true) by unfold bne; rw [x1]; rfl), HB9.out⟩
          · have hos2 : os2 = [] := hn2 h2
            have hv2 : V2.length = 0 := by rw [hlb, hos2]; rfl
            have ev2 : ((V2.length : Int) == 0) = true := beq_iff_eq.2 (by omega)
            clear hsw hn1 hn2 hl1 ht1 hva hvb hlb hla HVA HVB hos hos2 hv1 hv2
            go_wp2_with fail
            go_ret
            exact ⟨rfl, HB9.out⟩
end Go.Proofs.YtpcipdkoncmdcaaGreatDoor
namespace Go.Proofs.YtpcipdkoncmdcaaGreatDoor.joinSwap
open Go.ChangeShapes Go.WideShapes Go.ChangeAt Go.RowKit
open Go.WideMaps Go.WideElems
open Go.ChangeMaps (open_string shut_string)

theorem reads (os : Os) {H : Type} (enc : TypeId × Value → H) : ∃ places, DataW.whole enc Tryz.prog ((laidWorld os).forCall (fun _ _ => 0) ⟨#[], #[Value.agg #[.slice none 0 0, .slice none 0 0, .slice none 0 0], .slice none 0 0], []⟩).memory Tryz.f8.params.toList Rows.joinSwapSpec.vars false (#[Value.agg #[.slice none 0 0, .slice none 0 0, .slice none 0 0], .slice none 0 0] : Array Value).toList 8 = some ([.agg [.nil, .nil, .nil], .nil], [], places) :=
  ⟨[], by kernel_rfl⟩

set_option maxRecDepth 100000 in
theorem contract (H : Type) (enc : TypeId × Value → H) (W : World) (base : Nat) (args : Array Value) (ds : List (DataW H)) (p : List MemPlace)
    (hval : ∀ (j : Nat) t v, Tryz.f8.params[j]? = some t → args[j]? = some v → Value.okWide Tryz.prog W .any base t v)
    (hA : DataW.TrodAll enc Tryz.prog W 0 (fun _ => true) true Tryz.f8.params.toList args.toList ds p) (hk : Rows.uptoSmall H ds = true) (_hL : laidMetH Tryz.prog Rows.joinSwapUptoRow.laid W) (hshape : W.ShapedOpen Tryz.prog) :
    Calls Tryz.prog 8 args W fun e W' => e = .returned (.bool true) ∧ Below W.heap.size W W' := by
  rw [Tryz.params8] at hA hval
  obtain ⟨v0, vs0, d0, ds0, p0, q0, hargs0, rfl, rfl, h0, r0⟩ := trodAll_cons hA
  obtain ⟨v1, vs1, d1, ds1, p1, q1, hargs1, rfl, rfl, h1, r1⟩ := trodAll_cons r0
  obtain ⟨rfl, rfl, rfl⟩ := trodAll_nil r1
  rw [hargs1] at hargs0
  obtain rfl : args = #[v0, v1] := by cases args; simp_all
  have k0 := bulk_mem hk (d := d0) (by simp)
  obtain ⟨va0, vb0, vc0, x0, rfl, fa0, fb0, fc0⟩ := open_snaps (hval 0 23 v0 rfl rfl) h0 k0
  have k1 := bulk_mem hk (d := d1) (by simp)
  obtain ⟨x1, bs1, sm1⟩ := open_blobs (hval 1 24 v1 rfl rfl) h1 k1
  exact swap_c fa0 fb0 fc0 bs1 sm1 (gl_of_shaped hshape)

set_option maxRecDepth 100000 in
theorem lifted (os : Os) (started : os.Started) (H : Type) (enc : TypeId × Value → H) (F : Stop.Interp) :
    ReturnsInHanded {} Tryz.checked os 8 .any ((Rows.OpenSpec.upto Rows.joinSwapSpec).preRow enc Tryz.prog Tryz.f8 Rows.joinSwapUptoRow.domain false Rows.joinSwapUptoRow.laid) (((Rows.OpenSpec.upto Rows.joinSwapSpec).at F).post enc Tryz.prog Tryz.f8 false true false false) := by
  obtain ⟨places, hx⟩ := reads os enc
  refine law_lifted (laid := Rows.joinSwapUptoRow.laid) started Tryz.func8 (by kernel_rfl) rfl rfl ?_ (by kernel_rfl) ?_ ?_ ?_
  · intro ds h
    match ds, h with
    | [_, _], _ => rfl
  · rw [Tryz.params8]
    intro t ht
    have ht : t ∈ [23, 24] := ht
    simp only [List.mem_cons, List.mem_nil_iff, or_false] at ht
    rcases ht with rfl | rfl <;> exact ⟨by kernel_rfl, of_decide_eq_true (by kernel_rfl)⟩
  · exact witness_row_at (enc := enc) (C := Tryz.checked) false (laidWorld os) #[Value.agg #[.slice none 0 0, .slice none 0 0, .slice none 0 0], .slice none 0 0] rfl (by kernel_rfl) (by kernel_rfl) (by kernel_rfl)
      (OpenSpec.preRow_of_cond 8 hx (by kernel_rfl) (fun k hk => by cases hk; kernel_rfl) (by kernel_rfl) (laid_met os _))
  · exact contract H enc

theorem saidUpto : Rows.JoinSwapUptoSaid :=
  OpenClaim.holds_of_cond 8 Tryz.f8 rfl rfl rfl rfl rfl rfl rfl ⟨rfl, rfl, rfl, rfl, rfl⟩ rfl rfl rfl rfl rfl (by kernel_rfl) Tryz.func8 (by kernel_rfl)
    (of_decide_eq_true (by kernel_rfl)) (by unfold Func.isWrapper; rw [if_neg (by decide +kernel)]; exact ⟨rfl, rfl⟩)
    (fun os started H enc _ F => by rw [OpenClaim.pre_eq_preRow]; exact lifted os started H enc F)

theorem plain (f : FuncId) (fn : Func) (hf : Tryz.pinned.checked.prog.funcNamed "towline/towlinelaw13.JoinSwap" = some f) (hfn : Tryz.pinned.checked.prog.funcs[f]? = some fn) :
    false = Tryz.pinned.checked.prog.looks [] ∧ ∀ (j : Nat) t, fn.params[j]? = some t → Tryz.pinned.checked.prog.wantsStandIn t = false := by
  obtain rfl : f = 8 := Option.some.inj ((show Tryz.prog.funcNamed "towline/towlinelaw13.JoinSwap" = some 8 by kernel_rfl).symm.trans hf) |>.symm
  obtain rfl : fn = Tryz.f8 := (Option.some.inj (Tryz.func8.symm.trans hfn)).symm
  refine ⟨by kernel_rfl, fun j t ht => ?_⟩
  rw [Tryz.params8] at ht
  have ht : t ∈ [23, 24] := by simpa using Array.mem_of_getElem? ht
  simp only [List.mem_cons, List.mem_nil_iff, or_false] at ht
  rcases ht with rfl | rfl <;> exact (show Tryz.prog.wantsStandIn _ = false by kernel_rfl)

theorem cardUpto : Rows.JoinSwapUptoCardSaid :=
  Claim7.holds_tied_plain_at .later [] _ _ _ _ saidUpto (fun _ h => by cases h) (by kernel_rfl) (fun _ h => by cases h) joinSwapUpto_row_tie rfl ⟨rfl, rfl⟩ (by kernel_rfl) rfl plain (by kernel_rfl)
end Go.Proofs.YtpcipdkoncmdcaaGreatDoor.joinSwap
