/- Texts of mine, joined: Walk: is a merging small enough; no blobs. | The law of merging again: the walk. -/
import Derived.Test.YtpcipdkoncmdcaaGreatDoorZ29
namespace Go.Proofs.YtpcipdkoncmdcaaGreatDoor
open Go Go.RowKit

set_option maxRecDepth 100000 in
set_option maxHeartbeats 4000000 in
theorem small0_c {w : World} {va vb vc : Value} {T : T3 (List Fi)} (ha : FS w va T.a) (hb : FS w vb T.b) (hc : FS w vc T.c) :
    Calls Tryz.prog 11 #[.agg #[va, vb, vc], .slice none 0 0] w fun e w' => e = .returned (.bool (decide (T.a.length + T.b.length + T.c.length ≤ 90))) ∧ Below w.heap.size w w' := by
  obtain ⟨aa, ca, rfl⟩ := ha.lit
  obtain ⟨ab, cb, rfl⟩ := hb.lit
  obtain ⟨ac, cc, rfl⟩ := hc.lit
  have na := ha.n
  have nb := hb.n
  have nc := hc.n
  obtain ⟨W1, hW1⟩ : ∃ W1, w.alloc (.cells #[.slice aa T.a.length ca, .slice ab T.b.length cb, .slice ac T.c.length cc] 23 (0, 0)) = W1 := ⟨_, rfl⟩
  have HB1 : Hid (Below w.heap.size w W1) := by show Below _ _ _; rw [← hW1]; exact (Below.refl _ w).alloc (Nat.le_refl _) _
  have hblk : W1.heap[w.heap.size]? = some (.cells #[.slice aa T.a.length ca, .slice ab T.b.length cb, .slice ac T.c.length cc] 23 (0, 0)) := by rw [← hW1]; exact Array.getElem?_push_size
  have c0 : W1.cell? ⟨w.heap.size, 0, none⟩ = some (.slice aa T.a.length ca) := by simp only [World.cell?, hblk]; rfl
  have c1 : W1.cell? ⟨w.heap.size, 1, none⟩ = some (.slice ab T.b.length cb) := by simp only [World.cell?, hblk]; rfl
  have c2 : W1.cell? ⟨w.heap.size, 2, none⟩ = some (.slice ac T.c.length cc) := by simp only [World.cell?, hblk]; rfl
  have HW1 := Lib.hid hW1
  have k1 : IntKind.i64.wrap ((T.a.length : Int) + (T.b.length : Int)) = ((T.a.length + T.b.length : Nat) : Int) := by rw [IntWalk.i64_in _ (by omega)]; omega
  have k2 : IntKind.i64.wrap (((T.a.length + T.b.length : Nat) : Int) + (T.c.length : Int)) = ((T.a.length + T.b.length + T.c.length : Nat) : Int) := by rw [IntWalk.i64_in _ (by omega)]; omega
  clear ha hb hc hW1 hblk na nb nc
  obtain ⟨N, hN⟩ : ∃ N, T.a.length + T.b.length + T.c.length = N := ⟨_, rfl⟩
  rw [hN] at k2
  obtain ⟨M, hM⟩ : ∃ M, T.a.length + T.b.length = M := ⟨_, rfl⟩
  rw [hM] at k1 k2
  go_enter Tryz.func11, Tryz.ntmps11
  go_upto_region 1 with fail
  rw [HW1.out]
  have HN := Lib.hid hN
  clear hN hM HW1
  by_cases h : N ≤ 90
  · have d1 : decide ((N : Int) ≤ 90) = true := decide_eq_true (by omega)
    have HD : Hid (decide (T.a.length + T.b.length + T.c.length ≤ 90) = true) := decide_eq_true (by rw [HN.out]; exact h)
    go_upto_region 3 with fail
    refine wp_loop_rounds 1 ?_
    rw [rounds_succ]
    go_wp2_with fail
    go_ret
    exact ⟨by rw [HD.out]; rfl, HB1.out⟩
  · have d1 : decide ((N : Int) ≤ 90) = false := decide_eq_false (by omega)
    have HD : Hid (decide (T.a.length + T.b.length + T.c.length ≤ 90) = false) := decide_eq_false (by rw [HN.out]; exact h)
    go_upto_region 3 with fail
    refine wp_loop_rounds 1 ?_
    rw [rounds_succ]
    go_wp2_with fail
    go_ret
    exact ⟨by rw [HD.out]; rfl, HB1.out⟩
end Go.Proofs.YtpcipdkoncmdcaaGreatDoor
namespace Go.Proofs.YtpcipdkoncmdcaaGreatDoor
open Go Go.RowKit

theorem wpList_bld {P : Program} {ops : Array Oper} {rest : List Oper} {o : Oper} {a : Act} {w : World} {Q : Exit → Act → World → Prop} {t : TypeId} (hgd : o.guard = none) (parts : Array (Nat × Operand)) (ho : o.op = .build t parts) {vs : Array (Nat × Value)} (hp : (parts.map fun (i, y) => (i, a.eval y)) = vs) {v : Value} (hr : ∀ w, (Instr.build t vs).run P w = .ok v w)
    (h : wpList P ops Q rest (a.put o.dst v) w) : wpList P ops Q (o :: rest) a w :=
  wpList_plain hgd fun K hK => by
    unfold Oper.wp
    rw [exec_build parts ho hp hr]
    exact hK _ _ h
theorem fileElem : Elem Tryz.prog 22 56 (.agg #[.string ByteArray.empty, .int .u8 0, .int .u8 0, .int .u8 0, .int .u8 0, .int .u8 0, .int .u8 0, .int .u8 0, .int .u8 0, .int .u8 0, .int .u8 0, .int .u8 0, .int .u8 0, .int .u8 0, .int .u8 0, .int .u8 0, .int .u8 0, .int .u8 0, .int .u8 0, .int .u8 0, .int .u8 0, .int .u8 0, .int .u8 0, .int .u8 0, .int .u8 0, .int .u8 0, .int .u8 0, .int .u8 0, .int .u8 0, .int .u8 0, .int .u8 0, .int .u8 0, .int .u8 0, .float .f64 0]) 34 56 := ⟨by kernel_rfl, by kernel_rfl⟩
theorem fiC_one' {f : Fi} : ∀ u ∈ fiC f, u.oneCell' = true := by
  have := fiC_one (f := f)
  rw [List.all_toArray, List.all_eq_true] at this
  exact this

/-- What is read off an outcome's block. -/
theorem outBlk {W : World} {p : Nat} {x : Ov} (hx : OkOu x.o) (h : W.heap[p]? = some (.cells (ouC x).toArray 54 (0, 0))) : W.cell? ⟨p, 0, none⟩ = some (.string x.o.path) ∧ W.rangeAt p 2 (nb x.o.id) ∧ W.cell? ⟨p, 34, none⟩ = some (.float .f64 x.o.stamp) := by
  have hc : ∀ j u, (ouC x)[j]? = some u → W.cell? ⟨p, j, none⟩ = some u := fun j u hu => by simp only [World.cell?, h]; simpa using hu
  refine ⟨hc 0 _ rfl, fun j u hu => ?_, ?_⟩
  · refine hc (2 + j) u ?_
    unfold ouC
    rw [show 2 + j = j + 1 + 1 by omega, List.getElem?_cons_succ, List.getElem?_cons_succ, List.getElem?_append_left (List.getElem?_eq_some_iff.1 hu).1]; exact hu
  · refine hc 34 _ ?_
    unfold ouC
    rw [show (34 : Nat) = 32 + 1 + 1 from rfl, List.getElem?_cons_succ, List.getElem?_cons_succ, List.getElem?_append_right (by rw [nb_len, hx.id.1]; exact Nat.le_refl _), nb_len, hx.id.1]; rfl
theorem fiR_step {F : List Fi} {k : Nat} (hk : k < F.length) : fiR (F.take (k + 1)) = fiR (F.take k) ++ fiC F[k] := by
  rw [List.take_add_one, List.getElem?_eq_getElem hk]
  show (F.take k ++ [F[k]]).flatMap fiC = _
  rw [List.flatMap_append]
  show _ ++ (fiC F[k] ++ []) = _
  rw [List.append_nil]; rfl
theorem fs_own {W : World} {v : Value} {F : List Fi} (h : OwnG W 56 34 v F.length (fiR F)) (hok : ∀ f ∈ F, OkFi f) (hn : F.length ≤ 10000000) : FS W v F := by
  obtain ⟨a, c, e, _, _, hs⟩ := h.form
  exact ⟨⟨a, c, e, hs⟩, hok, hn⟩

set_option maxRecDepth 100000 in
set_option maxHeartbeats 8000000 in
theorem again_c {w : World} {va vb vc : Value} {T : T3 (List Fi)} (ha : FS w va T.a) (hb : FS w vb T.b) (hc : FS w vc T.c) (hg : Gl w) :
    Calls Tryz.prog 6 #[.agg #[va, vb, vc]] w fun e w' => e = .returned (.bool true) ∧ Below w.heap.size w w' := by
  have HFA := Lib.hid ha
  have HFB := Lib.hid hb
  have HFC := Lib.hid hc
  have HGL := Lib.hid hg
  obtain ⟨W1, hW1⟩ : ∃ W1, w.alloc (.cells #[va, vb, vc] 23 (0, 0)) = W1 := ⟨_, rfl⟩
  have HB1 : Hid (Below w.heap.size w W1) := by show Below _ _ _; rw [← hW1]; exact (Below.refl _ w).alloc (Nat.le_refl _) _
  have hblk : W1.heap[w.heap.size]? = some (.cells #[va, vb, vc] 23 (0, 0)) := by rw [← hW1]; exact Array.getElem?_push_size
  have HBLK1 := Lib.hid hblk
  have HLT1 : Hid (w.heap.size < W1.heap.size) := (Array.getElem?_eq_some_iff.1 hblk).1
  have HW1 := Lib.hid hW1
  have HAW := Lib.hid (awake_c W1 (hg.below HB1.out (Nat.le_refl _)))
  obtain ⟨aa, ca, rfl⟩ := ha.lit
  obtain ⟨ab, cb, rfl⟩ := hb.lit
  obtain ⟨ac, cc, rfl⟩ := hc.lit
  clear ha hb hc hg hW1 hblk
  go_enter Tryz.func6, Tryz.ntmps6
  go_upto_region 1 with fail
  rw [HW1.out]
  clear HW1
  go_upto_region 3 with (go_at_call 10; refine HAW.out.mono ?_; rintro e W2 ⟨rfl, hb2⟩)
  have HB2 := Lib.hid (HB1.out.trans (hb2.mono HB1.out.size))
  have HBLK2 : Hid (W2.heap[w.heap.size]? = _) := (hb2.block _ HLT1.out).trans HBLK1.out
  have HLT2 : Hid (w.heap.size < W2.heap.size) := Nat.lt_of_lt_of_le HLT1.out hb2.size
  clear hb2 HB1 HBLK1 HLT1 HAW
  have hsm := small0_c (HFA.out.below HB2.out) (HFB.out.below HB2.out) (HFC.out.below HB2.out)
  by_cases hn : T.a.length + T.b.length + T.c.length ≤ 90
  · rw [decide_eq_true hn] at hsm
    have HSM := Lib.hid hsm
    have HN := Lib.hid hn
    clear hsm hn
    go_upto_region 5 with (first
      | (refine wp_loadB rfl 23 _ rfl w.heap.size rfl HBLK2.out _ Tryz.underlying23 rfl (by kernel_rfl) ?_)
      | (go_at_call 11; refine HSM.out.mono ?_; rintro e W3 ⟨rfl, hb3⟩))
    have HB3 := Lib.hid (HB2.out.trans (hb3.mono HB2.out.size))
    have HBLK3 : Hid (W3.heap[w.heap.size]? = _) := (hb3.block _ HLT2.out).trans HBLK2.out
    have HLT3 : Hid (w.heap.size < W3.heap.size) := Nat.lt_of_lt_of_le HLT2.out hb3.size
    clear hb3 HB2 HBLK2 HLT2 HSM
    have hmc := merge_c (T := T) (bl := []) (HFA.out.below HB3.out) (HFB.out.below HB3.out) (HFC.out.below HB3.out) (HGL.out.below HB3.out (Nat.le_refl _)) (fun _ => Nat.zero_le _) (BS.nil W3)
    have hag := fun h1 h2 => again_ok (src := textS []) (T := T) (by have := HN.out; omega) h1 h2
    have hco := fun h1 => (merge_inv (src := textS []) (T := T) h1).1
    have hal := fun h1 => again_len (src := textS []) (T := T) h1
    have ham := fun h1 o ho => again_mem (src := textS []) (T := T) h1 (o := o) ho
    obtain ⟨R, hR⟩ : ∃ R, mergeS (textS []) (upT T 3) (chkA T 3) = R := ⟨_, rfl⟩
    rw [hR] at hmc hag ham hal hco
    obtain ⟨er, os⟩ := R
    have HMC := Lib.hid hmc
    have HAG : Hid (er = 0 → os.all cleanO = true → OkS (os.map fileO)) := hag
    have HAM : Hid (er = 0 → ∀ o ∈ os, ∃ g, (g ∈ T.a ∨ g ∈ T.b ∨ g ∈ T.c) ∧ g.path = o.path) := ham
    have HAL : Hid (er = 0 → os.length ≤ 90) := fun h => Nat.le_trans (hal h) HN.out
    have HCO : Hid (er = 0 → chkA T 3 = 0) := hco
    clear hmc hag ham hal hco hR
    go_upto_region 6 with (first
      | (refine wp_loadB rfl 23 _ rfl w.heap.size rfl HBLK3.out _ Tryz.underlying23 rfl (by kernel_rfl) ?_)
      | (go_at_call 13; refine HMC.out.mono ?_; rintro e W4 ⟨ov, V, rfl, hV, hMO⟩))
    have HB4 := Lib.hid (HB3.out.trans (hMO.below.mono HB3.out.size))
    have HBLK4 : Hid (W4.heap[w.heap.size]? = _) := (hMO.below.block _ HLT3.out).trans HBLK3.out
    have HLT4 : Hid (w.heap.size < W4.heap.size) := Nat.lt_of_lt_of_le HLT3.out hMO.below.size
    have HOR := Lib.hid hMO.or
    have HV : Hid (V.map (·.o) = os) := hV
    have HONE : Hid (∀ x ∈ V, x.tv.oneCell' = true) := fun x hx => tx_one (hMO.tx x hx).1.tx
    obtain ⟨va', vc', rfl⟩ := hMO.or.lit
    clear hMO hV HMC HB3 HBLK3 HLT3
    by_cases he : er = 0
    · subst he
      have hol := HAL.out rfl
      have hvl : V.length = os.length := by have := congrArg List.length HV.out; simpa using this
      have hcc := clean_c HOR.out HONE.out (by omega)
      have hce : (V.all fun x => cleanO x.o) = os.all cleanO := by rw [← HV.out, List.all_map]; rfl
      rw [hce] at hcc
      obtain ⟨cl, hcl⟩ : ∃ cl, os.all cleanO = cl := ⟨_, rfl⟩
      rw [hcl] at hcc
      have HCC := Lib.hid hcc
      have HCLE := Lib.hid hcl
      clear hcc hce hcl
      cases cl with
      | false =>
        clear hol hvl
        go_wp2_with (go_at_call 18; refine HCC.out.mono ?_; rintro e W5 ⟨rfl, hb5⟩)
        go_ret
        exact ⟨rfl, HB4.out.trans (hb5.mono HB4.out.size)⟩
      | true =>
        obtain ⟨F, hF⟩ : ∃ F, os.map fileO = F := ⟨_, rfl⟩
        have hFO := HAG.out rfl HCLE.out
        rw [hF] at hFO
        have HFO := Lib.hid hFO
        have hfl : F.length = V.length := by rw [← hF, List.length_map, hvl]
        have HFK : Hid (∀ k (h1 : k < V.length) (h2 : k < F.length), F[k] = fileO V[k].o) := by
          intro k h1 h2
          have e1 : F[k]? = (V.map fun x => fileO x.o)[k]? := by
            rw [← hF, ← HV.out, List.map_map]; rfl
          rw [List.getElem?_map, List.getElem?_eq_getElem h1, List.getElem?_eq_getElem h2] at e1
          exact Option.some.inj e1
        have HOKF : Hid (∀ f ∈ F, OkFi f) := by
          intro f hf
          rw [← hF] at hf
          obtain ⟨o, ho, rfl⟩ := List.mem_map.1 hf
          obtain ⟨g, hg, hp⟩ := HAM.out rfl o ho
          rw [← HV.out] at ho
          obtain ⟨x, hx, rfl⟩ := List.mem_map.1 ho
          have hx2 := HOR.out.ok x hx
          refine ⟨hx2.id, hx2.st, ?_⟩
          show x.o.path.size ≤ _
          rw [← hp]
          rcases hg with h | h | h
          · exact (HFA.out.ok g h).pz
          · exact (HFB.out.ok g h).pz
          · exact (HFC.out.ok g h).pz
        have HVL : Hid (V.length ≤ 90) := by show V.length ≤ 90; omega
        have HFL := Lib.hid hfl
        have HCT := Lib.hid (chkA_ok (HCO.out rfl))
        clear hF hFO hfl hol hvl HAG HAM HAL HV HCLE HCO
        go_upto_region 8 with (go_at_call 18; refine HCC.out.mono ?_; rintro e W5 ⟨rfl, hb5⟩)
        have HB5 := Lib.hid (HB4.out.trans (hb5.mono HB4.out.size))
        have HBLK5 : Hid (W5.heap[w.heap.size]? = _) := (hb5.block _ HLT4.out).trans HBLK4.out
        have HLT5 : Hid (w.heap.size < W5.heap.size) := Nat.lt_of_lt_of_le HLT4.out hb5.size
        have HOR5 := Lib.hid (HOR.out.below hb5)
        clear hb5 HB4 HBLK4 HLT4 HOR HCC
        go_upto_region 10 with fail
        go_loopw [5, 35] (fun fv kv wx => ∃ k : Nat, k ≤ V.length ∧ kv = .int .i64 k ∧ Hid (OwnG wx 56 34 fv k (fiR (F.take k))) ∧ Hid (∀ b, fv.ownBlock = some b → W5.heap.size ≤ b) ∧ Hid (Below W5.heap.size W5 wx)) (fun _ kv _ => (V.length - intOf kv).toNat)
        case atStart => exact ⟨0, Nat.zero_le _, rfl, OwnG.nil _ _ _, fun b hb => (by cases hb), Below.refl _ _⟩
        case round =>
          obtain ⟨k, hk, rfl, HOW, HOB, HBW⟩ := hrel
          by_cases hkl : k < V.length
          · have k1 : decide ((k : Int) < (V.length : Int)) = true := decide_eq_true (by omega)
            have k2 : decide (k < V.length) = true := decide_eq_true hkl
            have k3 : (0 : Int) ≤ (k : Int) := by omega
            have k4 : (k : Int) < (V.length : Int) := by omega
            have kw : IntKind.i64.wrap ((k : Int) + 1) = ((k + 1 : Nat) : Int) := IntWalk.i64_in _ (by have := HVL.out; omega)
            have hkf : k < F.length := by have := HFL.out; omega
            obtain ⟨b, o, c', e, hbl, hr⟩ := (HOR5.out.below HBW.out).at hkl
            injection e with e1 _ e2
            subst e1 e2
            have HR : Hid (wr.rangeAt b (o + k * 135) (ouC V[k])) := hr k hkl
            have HXO : Hid (OkOu V[k].o) := HOR5.out.ok _ (List.getElem_mem hkl)
            have HCL : Hid ((ouC V[k]).length = 135) := ouC_len HXO.out
            have HOE : Hid ((ouC V[k]).toArray.all (·.oneCell') = true) := by show _ = _; rw [List.all_toArray, List.all_eq_true]; exact ouC_one (HONE.out _ (List.getElem_mem hkl))
            have HST : Hid (fiR (F.take (k + 1)) = fiR (F.take k) ++ fiC (fileO V[k].o)) := by show _ = _; rw [fiR_step hkf, HFK.out k hkl hkf]
            have HOF : Hid (OkFi (fileO V[k].o)) := by show OkFi _; rw [← HFK.out k hkl hkf]; exact HOKF.out _ (List.getElem_mem hkf)
            clear hr hbl hkf
            generalize V[k] = x at *
            go_upto_region 12 with (first
              | (refine wpList_load_mid rfl 54 _ rfl b (o + k * 135) rfl (ouC x) _ HR.out Tryz.underlying54 rfl (by rw [HCL.out]; exact out_info) ?_)
              | (refine wp_storeB rfl 54 _ _ rfl wr.heap.size (ouC x).toArray rfl rfl Array.getElem?_push_size (out_zsz HCL.out) (out_isz HCL.out) HOE.out ?_; intro W8 hb8 hg8))
            have hB8 : Below wr.heap.size wr W8 := ((Below.refl wr.heap.size wr).alloc (Nat.le_refl _) _).grown hg8 (by simp) (fun k hk => by cases hk; exact Nat.le_refl _)
            have HOW8 := Lib.hid (HOW.out.below hB8)
            have HB8 := Lib.hid (HBW.out.trans (hB8.mono HBW.out.size))
            obtain ⟨hc0, hc2, hc34⟩ := outBlk HXO.out hb8
            have HC2 := Lib.hid hc2
            clear hb8 hg8 hB8 HBW HOW HR HCL HOE hc2
            generalize wr.heap.size = p7 at *
            have HRB : Hid (∀ w, (Instr.build 56 #[(0, .string x.o.path), (1, .agg (nums .u8 x.o.id)), (2, .float .f64 x.o.stamp)]).run Tryz.prog w = .ok (.agg (fiC (fileO x.o)).toArray) w) := fun w => rb_file HXO.out.id x.o.path x.o.stamp w
            have HCF : Hid ((fiC (fileO x.o)).length = 34) := fiC_len HOF.out
            have HBA : Hid (Below W8.heap.size W8 (W8.alloc (.cells (fiC (fileO x.o)).toArray 56))) := (Below.refl _ W8).alloc (Nat.le_refl _) _
            have HSRC : Hid (Src Tryz.prog 34 22 (.slice (some ⟨W8.heap.size, 0, none⟩) 1 1) 1 (fiC (fileO x.o)) (W8.alloc (.cells (fiC (fileO x.o)).toArray 56))) := Src.ofNew Tryz.underlying22 HCF.out fiC_one'
            have HOW9 := Lib.hid (HOW8.out.below HBA.out)
            go_upto_region 13 with (first
              | (refine wpList_load_mid rfl 43 _ rfl p7 2 rfl (nb x.o.id) _ HC2.out id_under rfl (by rw [nb_len, HXO.out.id.1]; kernel_rfl) ?_)
              | (refine wpList_bld rfl _ rfl (by simp only [Act.put, List.setIfInBounds_toArray]; simp [Act.eval]; rfl) HRB.out ?_)
              | (refine wpList_build1 (cs := (fiC (fileO x.o)).toArray) (n := 34) rfl _ rfl (by simp only [Act.put, List.setIfInBounds_toArray]; simp [Act.eval]) Tryz.underlying22 file_info file_zero (by decide) (by decide) (by rw [List.size_toArray]; exact HCF.out) ?_)
              | (refine wp_appG rfl _ _ _ _ rfl fileElem (by kernel_rfl) (v := u5) (xv := .slice (some ⟨W8.heap.size, 0, none⟩) 1 1) (n := k) (m := 1) rfl HOW9.out rfl HSRC.out (by have := HVL.out; simp only [maxLen]; omega) (by have := HVL.out; omega) ?_; intro v10 W10 ho10 hg10 hv10))
            have HOW10 : Hid (Hid (OwnG W10 56 34 v10 (k + 1) (fiR (F.take (k + 1))))) := by show OwnG _ _ _ _ _ _; rw [HST.out]; exact ho10
            have HOB10 : Hid (Hid (∀ b, v10.ownBlock = some b → W5.heap.size ≤ b)) := fun b hb => (hv10 b hb).elim (HOB.out b) (fun h => by have h1 := HBA.out.size; have h2 := HB8.out.size; omega)
            have HB10 : Hid (Hid (Below W5.heap.size W5 W10)) := (HB8.out.trans (HBA.out.mono HB8.out.size)).grown hg10 (Nat.le_trans HB8.out.size HBA.out.size) (fun b hb => HOB.out b hb)
            clear ho10 hg10 hv10 HOW9 HSRC HBA HCF HRB HC2 hc0 hc34 HOW8 HB8 HOB
            go_wp2_with fail
            go_roundw
            case rel => exact ⟨k + 1, hkl, by go_num, HOW10.out, HOB10.out, HB10.out⟩
            case measure => simp [intOf]; omega
          · have hkn : k = V.length := by omega
            subst hkn
            have k1 : decide ((V.length : Int) < (V.length : Int)) = false := decide_eq_false (by omega)
            have hfl := HFL.out
            have hfs : FS wr u5 F := fs_own (by rw [hfl]; have := HOW.out; rw [List.take_of_length_le (by omega)] at this; exact this) HOKF.out (by have := HVL.out; omega)
            have HFS := Lib.hid hfs
            obtain ⟨fa, fc, rfl⟩ := hfs.lit
            have HBR := Lib.hid (HB5.out.trans (HBW.out.mono HB5.out.size))
            have hck := tcheck_c hfs (HGL.out.below HBR.out (Nat.le_refl _))
            rw [chkS_of HFO.out] at hck
            have HCK := Lib.hid hck
            have HBLKr : Hid (wr.heap[w.heap.size]? = _) := (HBW.out.block _ HLT5.out).trans HBLK5.out
            have HLTr : Hid (w.heap.size < wr.heap.size) := Nat.lt_of_lt_of_le HLT5.out HBW.out.size
            clear hck hfs hfl HBW HOB HOW HB5 HBLK5 HLT5 HOR5
            go_upto_region 16 with (go_at_call 19; refine HCK.out.mono ?_; rintro e W6 ⟨rfl, hb6⟩)
            have HB6 := Lib.hid (HBR.out.trans (hb6.mono HBR.out.size))
            have HFS6 := Lib.hid (HFS.out.below hb6)
            have HBLK6 : Hid (W6.heap[w.heap.size]? = _) := (hb6.block _ HLTr.out).trans HBLKr.out
            have HLT6 : Hid (w.heap.size < W6.heap.size) := Nat.lt_of_lt_of_le HLTr.out hb6.size
            clear hb6 HBR HFS HBLKr HLTr HCK
            go_upto_region 17 with fail
            have HMG : Hid (∀ i, i < 2 → ∃ sv S, (∀ W : World, W.heap[w.heap.size]? = some (.cells #[.slice aa T.a.length ca, .slice ab T.b.length cb, .slice ac T.c.length cc] 23 (0, 0)) → W.cell? ⟨w.heap.size, 1 + i, none⟩ = some sv) ∧ FS w sv S ∧ OkS S) := by
              intro i hi
              rcases i with _ | _ | i
              · exact ⟨_, T.b, fun W hW => (by simp only [World.cell?, hW]; rfl), HFB.out, HCT.out.2.1⟩
              · exact ⟨_, T.c, fun W hW => (by simp only [World.cell?, hW]; rfl), HFC.out, HCT.out.2.2⟩
              · omega
            clear HCT HFA HFB HFC HOKF HFK HONE
            go_loopw [55] (fun iv wx => ∃ i : Nat, i ≤ 2 ∧ iv = .int .i64 i ∧ Hid (Below w.heap.size w wx) ∧ Hid (FS wx (.slice fa F.length fc) F) ∧ Hid (wx.heap[w.heap.size]? = some (.cells #[.slice aa T.a.length ca, .slice ab T.b.length cb, .slice ac T.c.length cc] 23 (0, 0))) ∧ Hid (w.heap.size < wx.heap.size)) (fun iv _ => (2 - intOf iv).toNat)
            case atStart => exact ⟨0, by decide, rfl, HB6, HFS6, HBLK6, HLT6⟩
            case round =>
              clear HB6 HFS6 HBLK6 HLT6
              obtain ⟨i, hi, rfl, HBW, HFS, HBLK, HLT⟩ := hrel
              by_cases hlt : i < 2
              · have d1 : decide ((i : Int) < 2) = true := decide_eq_true (by omega)
                have d2 : decide (i < 2) = true := decide_eq_true hlt
                have d3 : (0 : Int) ≤ (i : Int) := by omega
                have d4 : (i : Int) < 2 := by omega
                have dw : IntKind.i64.wrap ((i : Int) + 1) = ((i + 1 : Nat) : Int) := IntWalk.i64_in _ (by omega)
                obtain ⟨sv, S, hcell, hfs, hos⟩ := HMG.out i hlt
                have hsv := hcell wr HBLK.out
                have HMK : Hid (Calls Tryz.prog 13 #[.agg #[sv, .slice fa F.length fc, sv], SrcV (.slice none 0 0)] wr fun e w' => ∃ ov V, e = .returned (.tuple #[ov, .int .i64 0]) ∧ V.map (·.o) = F.map (keptO ⟨S, F, S⟩) ∧ OR w' ov V ∧ (∀ x ∈ V, x.tv.oneCell' = true) ∧ Below wr.heap.size wr w') := merge_kept (T := ⟨S, F, S⟩) (hfs.below HBW.out) HFS.out (hfs.below HBW.out) (HGL.out.below HBW.out (Nat.le_refl _)) (side1 hos HFO.out _)
                obtain ⟨sa, sc, rfl⟩ := hfs.lit
                clear hcell hfs hos
                go_upto_region 20 with (go_at_call 13; refine HMK.out.mono ?_; rintro e W7 ⟨ov, V2, rfl, hV, hor, hone, hb7⟩)
                have hln : V2.length = F.length := by have := congrArg List.length hV; simpa using this
                have hol : F.length ≤ 256 := HFO.out.n
                obtain ⟨oa7, oc7, rfl⟩ := hor.lit
                have HOR := Lib.hid hor
                have HV2 := Lib.hid hV
                have HB7 := Lib.hid (HBW.out.trans (hb7.mono HBW.out.size))
                have HFS7 := Lib.hid (HFS.out.below hb7)
                have HBLK7 : Hid (W7.heap[w.heap.size]? = _) := (hb7.block _ HLT.out).trans HBLK.out
                have HLT7 : Hid (w.heap.size < W7.heap.size) := Nat.lt_of_lt_of_le HLT.out hb7.size
                have hcl : (V2.all fun x => cleanO x.o) = true := by
                  rw [List.all_eq_true]
                  intro x hx
                  have h1 : x.o ∈ V2.map (·.o) := List.mem_map_of_mem hx
                  rw [hV] at h1
                  obtain ⟨f, -, hf⟩ := List.mem_map.1 h1
                  rw [← hf]; rfl
                have hcc := clean_c hor hone (by omega)
                rw [hcl] at hcc
                have HCC := Lib.hid hcc
                have hle : ((V2.length : Int) == (F.length : Int)) = true := beq_iff_eq.2 (by omega)
                have HLN := Lib.hid hln
                have HON2 := Lib.hid hone
                have hvb : V2.length ≤ 256 := by omega
                clear hor hV hb7 hcl hcc hone hln HBW HFS HBLK HLT HMK hsv
                go_upto_region 22 with (go_at_call 18; refine HCC.out.mono ?_; rintro e W8 ⟨rfl, hb8⟩)
                have HOR8 := Lib.hid (HOR.out.below hb8)
                have HB8 := Lib.hid (HB7.out.trans (hb8.mono HB7.out.size))
                have HFS8 := Lib.hid (HFS7.out.below hb8)
                have HBLK8 : Hid (W8.heap[w.heap.size]? = _) := (hb8.block _ HLT7.out).trans HBLK7.out
                have HLT8 : Hid (w.heap.size < W8.heap.size) := Nat.lt_of_lt_of_le HLT7.out hb8.size
                clear hb8 HB7 HFS7 HBLK7 HLT7 HOR HCC hle
                go_upto_region 23 with fail
                go_loopw [85] (fun kv wx => ∃ k : Nat, k ≤ V2.length ∧ kv = .int .i64 k ∧ Hid (Below w.heap.size w wx) ∧ Hid (FS wx (.slice fa F.length fc) F) ∧ Hid (OR wx (.slice oa7 V2.length oc7) V2) ∧ Hid (wx.heap[w.heap.size]? = some (.cells #[.slice aa T.a.length ca, .slice ab T.b.length cb, .slice ac T.c.length cc] 23 (0, 0))) ∧ Hid (w.heap.size < wx.heap.size)) (fun kv _ => (V2.length - intOf kv).toNat)
                case atStart => exact ⟨0, Nat.zero_le _, rfl, HB8, HFS8, HOR8, HBLK8, HLT8⟩
                case round =>
                  clear HB8 HFS8 HOR8 HBLK8 HLT8
                  obtain ⟨k, hk, rfl, HBW, HFS, HOR, HBLK, HLT⟩ := hrel
                  by_cases hkl : k < V2.length
                  · have k1 : decide ((k : Int) < (V2.length : Int)) = true := decide_eq_true (by omega)
                    have k2 : decide (k < V2.length) = true := decide_eq_true hkl
                    have k3 : (0 : Int) ≤ (k : Int) := by omega
                    have k4 : (k : Int) < (V2.length : Int) := by omega
                    have k5 : (k : Int) < (F.length : Int) := by have := HLN.out; omega
                    have kw : IntKind.i64.wrap ((k : Int) + 1) = ((k + 1 : Nat) : Int) := IntWalk.i64_in _ (by omega)
                    have hko : k < F.length := by have := HLN.out; omega
                    obtain ⟨b, o, c', e, hbl, hr⟩ := HOR.out.at hkl
                    injection e with e1 _ e2
                    subst e1 e2
                    obtain ⟨fb, fo, c2', e, hfl, hfr⟩ := HFS.out.at hko
                    injection e with e1 _ e2
                    subst e1 e2
                    have HR : Hid (wr.rangeAt b (o + k * 135) (ouC V2[k])) := hr k hkl
                    have HFR : Hid (wr.rangeAt fb (fo + k * 34) (fiC F[k])) := hfr k hko
                    have HFK : Hid (OkFi F[k]) := HFS.out.ok _ (List.getElem_mem hko)
                    have HFL : Hid (fb < wr.heap.size) := hfl
                    have HCL : Hid ((ouC V2[k]).length = 135) := ouC_len (HOR.out.ok _ (List.getElem_mem hkl))
                    have HOE : Hid ((ouC V2[k]).toArray.all (·.oneCell') = true) := by show _ = _; rw [List.all_toArray, List.all_eq_true]; exact ouC_one (HON2.out _ (List.getElem_mem hkl))
                    have HVK : Hid (V2[k].o = keptO ⟨S, F, S⟩ F[k]) := by
                      have h1 : (V2.map (·.o))[k]? = (F.map (keptO ⟨S, F, S⟩))[k]? := by rw [HV2.out]
                      rw [List.getElem?_map, List.getElem?_map, List.getElem?_eq_getElem hkl, List.getElem?_eq_getElem hko] at h1
                      exact Option.some.inj h1
                    clear hr hfr hfl hbl
                    generalize V2[k] = x at *
                    generalize F[k] = f at *
                    go_upto_region 25 with (first
                      | (refine wpList_load_mid rfl 54 _ rfl b (o + k * 135) rfl (ouC x) _ HR.out Tryz.underlying54 rfl (by rw [HCL.out]; exact out_info) ?_)
                      | (refine wp_storeB rfl 54 _ _ rfl wr.heap.size (ouC x).toArray rfl rfl Array.getElem?_push_size (out_zsz HCL.out) (out_isz HCL.out) HOE.out ?_; intro W8 hb8 hg8))
                    have hB8 : Below wr.heap.size wr W8 := ((Below.refl wr.heap.size wr).alloc (Nat.le_refl _) _).grown hg8 (by simp) (fun k hk => by cases hk; exact Nat.le_refl _)
                    have hs0 : CmpS (W8.drewN 1) wr.heap.size fb (fo + k * 34) f := (cmpS_of HFK.out hb8 (fun j u hu => (hB8.cell (p := ⟨fb, fo + k * 34 + j, none⟩) HFL.out).trans (HFR.out j u hu)) (by rw [HVK.out]; rfl) (by rw [HVK.out]; rfl) (by rw [HVK.out]; rfl) (by rw [HVK.out]; rfl)).dn 1
                    have HB8 : Hid (Hid (Below w.heap.size w (W8.drewN 1))) := below_dN (HBW.out.trans (hB8.mono HBW.out.size)) 1
                    have HFS8 : Hid (Hid (FS (W8.drewN 1) (.slice (some ⟨fb, fo, none⟩) F.length fc) F)) := HFS.out.below (below_dN hB8 1)
                    have HOR8 : Hid (Hid (OR (W8.drewN 1) (.slice (some ⟨b, o, none⟩) V2.length oc7) V2)) := HOR.out.below (below_dN hB8 1)
                    have HBLK8 : Hid (Hid ((W8.drewN 1).heap[w.heap.size]? = _)) := (hB8.block _ HLT.out).trans HBLK.out
                    have HLT8 : Hid (Hid (w.heap.size < (W8.drewN 1).heap.size)) := Nat.lt_of_lt_of_le HLT.out hB8.size
                    have HBT : Hid (∀ W, Calls Tryz.prog 20 #[.float .f64 (cn f.stamp)] W fun e w' => e = .returned (.int .u64 (cn f.stamp)) ∧ w' = W) := fun W => by have := refbits_c (cn f.stamp) W; rw [cn_cn] at this; exact this
                    clear hb8 hg8 hB8 HBW HFS HOR HBLK HLT HR HFR HCL HOE HVK HFL
                    generalize wr.heap.size = p10 at *
                    refine wp_region_hz (fun W => CmpS W p10 fb (fo + k * 34) f) (.tk 0 (.tk 1 (.tk 2 (.tk 3 (.tk 4 (.tk 5 (.tk 6 (.tk 7 (.tk 8 (.tk 9 (.tk 10 (.tk 11 (.tk 12 (.tk 13 (.tk 14 (.tk 15 (.tk 16 (.tk 17 (.tk 18 (.tk 19 (.tk 20 (.tk 21 (.tk 22 (.tk 23 (.tk 24 (.tk 25 (.tk 27 (.tk 28 (.tk 29 (.tk 30 (.tk 31 (.fc 26 (.fc 32 (.tk 33 (.tk 34 (.nil)))))))))))))))))))))))))))))))))))) (by kernel_rfl) (by kernel_rfl) (fun _ _ _ _ _ h => h) ?_
                    refine goZ_tk rfl rfl 90 rfl (.pointer (some ⟨p10, 1, none⟩)) (fun _ => rfl) ?_
                    simp only [List.setIfInBounds_toArray, List.set_cons_zero, List.set_cons_succ]
                    refine goZ_ld rfl rfl 91 rfl 3 _ rfl ⟨p10, 1, none⟩ (.int .i64 1) rfl (fun W hS => ld_int _ _ W hS.kd) (hs0) ?_
                    simp only [List.setIfInBounds_toArray, List.set_cons_zero, List.set_cons_succ]
                    refine goZ_tk rfl rfl 92 rfl (.bool false) (fun _ => by go_simp) ?_
                    simp only [List.setIfInBounds_toArray, List.set_cons_zero, List.set_cons_succ]
                    refine goZ_tk rfl rfl 93 rfl (.bool false) (fun _ => rfl) ?_
                    simp only [List.setIfInBounds_toArray, List.set_cons_zero, List.set_cons_succ]
                    refine goZ_tk rfl rfl 94 rfl (.pointer (some ⟨p10, 0, none⟩)) (fun _ => rfl) ?_
                    simp only [List.setIfInBounds_toArray, List.set_cons_zero, List.set_cons_succ]
                    refine goZ_ld rfl rfl 95 rfl 9 _ rfl ⟨p10, 0, none⟩ (.string f.path) rfl (fun W hS => ld_string _ _ W hS.pa) (hs0) ?_
                    simp only [List.setIfInBounds_toArray, List.set_cons_zero, List.set_cons_succ]
                    refine goZ_tk rfl rfl 96 rfl (.slice (some ⟨fb, fo, none⟩) F.length fc) (fun _ => rfl) ?_
                    simp only [List.setIfInBounds_toArray, List.set_cons_zero, List.set_cons_succ]
                    refine goZ_tk rfl rfl 97 rfl (.int .i64 k) (fun _ => rfl) ?_
                    simp only [List.setIfInBounds_toArray, List.set_cons_zero, List.set_cons_succ]
                    refine goZ_tk rfl rfl 98 rfl (.pointer (some ⟨fb, fo + k * 34, none⟩)) (fun _ => by go_simp) ?_
                    simp only [List.setIfInBounds_toArray, List.set_cons_zero, List.set_cons_succ]
                    refine goZ_tk rfl rfl 99 rfl (.pointer (some ⟨fb, fo + k * 34, none⟩)) (fun _ => rfl) ?_
                    simp only [List.setIfInBounds_toArray, List.set_cons_zero, List.set_cons_succ]
                    refine goZ_ld rfl rfl 100 rfl 9 _ rfl ⟨fb, fo + k * 34, none⟩ (.string f.path) rfl (fun W hS => ld_string _ _ W hS.fp) (hs0) ?_
                    simp only [List.setIfInBounds_toArray, List.set_cons_zero, List.set_cons_succ]
                    refine goZ_tk rfl rfl 101 rfl (.bool false) (fun _ => by go_simp) ?_
                    simp only [List.setIfInBounds_toArray, List.set_cons_zero, List.set_cons_succ]
                    refine goZ_tk rfl rfl 102 rfl (.bool false) (fun _ => rfl) ?_
                    simp only [List.setIfInBounds_toArray, List.set_cons_zero, List.set_cons_succ]
                    refine goZ_tk rfl rfl 103 rfl (.bool false) (fun _ => rfl) ?_
                    simp only [List.setIfInBounds_toArray, List.set_cons_zero, List.set_cons_succ]
                    refine goZ_tk rfl rfl 104 rfl (.pointer (some ⟨p10, 2, none⟩)) (fun _ => rfl) ?_
                    simp only [List.setIfInBounds_toArray, List.set_cons_zero, List.set_cons_succ]
                    refine goZ_ld rfl rfl 105 rfl 43 _ rfl ⟨p10, 2, none⟩ (.agg (nums .u8 f.id)) rfl (fun W hS => ld_id HFK.out.id hS.id) (hs0) ?_
                    simp only [List.setIfInBounds_toArray, List.set_cons_zero, List.set_cons_succ]
                    refine goZ_tk rfl rfl 106 rfl (.slice (some ⟨fb, fo, none⟩) F.length fc) (fun _ => rfl) ?_
                    simp only [List.setIfInBounds_toArray, List.set_cons_zero, List.set_cons_succ]
                    refine goZ_tk rfl rfl 107 rfl (.int .i64 k) (fun _ => rfl) ?_
                    simp only [List.setIfInBounds_toArray, List.set_cons_zero, List.set_cons_succ]
                    refine goZ_tk rfl rfl 108 rfl (.pointer (some ⟨fb, fo + k * 34, none⟩)) (fun _ => by go_simp) ?_
                    simp only [List.setIfInBounds_toArray, List.set_cons_zero, List.set_cons_succ]
                    refine goZ_tk rfl rfl 109 rfl (.pointer (some ⟨fb, fo + k * 34 + 1, none⟩)) (fun _ => rfl) ?_
                    simp only [List.setIfInBounds_toArray, List.set_cons_zero, List.set_cons_succ]
                    refine goZ_ld rfl rfl 110 rfl 43 _ rfl ⟨fb, fo + k * 34 + 1, none⟩ (.agg (nums .u8 f.id)) rfl (fun W hS => ld_id HFK.out.id hS.fi) (hs0) ?_
                    simp only [List.setIfInBounds_toArray, List.set_cons_zero, List.set_cons_succ]
                    refine goZ_tk rfl rfl 111 rfl (.bool false) (exec_bin _ _ rfl rfl rfl (fun _ => by first | rfl | go_simp) (id_same HFK.out.id)) ?_
                    simp only [List.setIfInBounds_toArray, List.set_cons_zero, List.set_cons_succ]
                    refine goZ_tk rfl rfl 112 rfl (.bool false) (fun _ => rfl) ?_
                    simp only [List.setIfInBounds_toArray, List.set_cons_zero, List.set_cons_succ]
                    refine goZ_tk rfl rfl 113 rfl (.bool false) (fun _ => rfl) ?_
                    simp only [List.setIfInBounds_toArray, List.set_cons_zero, List.set_cons_succ]
                    refine goZ_tk rfl rfl 114 rfl (.pointer (some ⟨p10, 34, none⟩)) (fun _ => rfl) ?_
                    simp only [List.setIfInBounds_toArray, List.set_cons_zero, List.set_cons_succ]
                    refine goZ_ld rfl rfl 115 rfl 44 _ rfl ⟨p10, 34, none⟩ (.float .f64 (cn f.stamp)) rfl (fun W hS => ld_float _ _ W hS.st) (hs0) ?_
                    simp only [List.setIfInBounds_toArray, List.set_cons_zero, List.set_cons_succ]
                    refine goZ_tk rfl rfl 117 rfl (.slice (some ⟨fb, fo, none⟩) F.length fc) (fun _ => rfl) ?_
                    simp only [List.setIfInBounds_toArray, List.set_cons_zero, List.set_cons_succ]
                    refine goZ_tk rfl rfl 118 rfl (.int .i64 k) (fun _ => rfl) ?_
                    simp only [List.setIfInBounds_toArray, List.set_cons_zero, List.set_cons_succ]
                    refine goZ_tk rfl rfl 119 rfl (.pointer (some ⟨fb, fo + k * 34, none⟩)) (fun _ => by go_simp) ?_
                    simp only [List.setIfInBounds_toArray, List.set_cons_zero, List.set_cons_succ]
                    refine goZ_tk rfl rfl 120 rfl (.pointer (some ⟨fb, fo + k * 34 + 33, none⟩)) (fun _ => rfl) ?_
                    simp only [List.setIfInBounds_toArray, List.set_cons_zero, List.set_cons_succ]
                    refine goZ_ld rfl rfl 121 rfl 44 _ rfl ⟨fb, fo + k * 34 + 33, none⟩ (.float .f64 f.stamp) rfl (fun W hS => ld_float _ _ W hS.fs) (hs0) ?_
                    simp only [List.setIfInBounds_toArray, List.set_cons_zero, List.set_cons_succ]
                    refine goZ_call (ds' := [31, 20, 15, 10, 5, 1]) rfl rfl (by kernel_rfl) 116 rfl 20 _ rfl [(.float .f64 (cn f.stamp))] rfl (enters_of Tryz.func20 (by kernel_rfl) rfl) ((HBT.out _).mono ?_)
                    rintro _ _ ⟨rfl, rfl⟩
                    refine ⟨(.int .u64 (cn f.stamp)), rfl, fun _ => hs0, ?_⟩
                    simp only [List.setIfInBounds_toArray, List.set_cons_zero, List.set_cons_succ]
                    refine goZ_call (ds' := [20, 15, 10, 5, 1]) rfl rfl (by kernel_rfl) 122 rfl 20 _ rfl [(.float .f64 f.stamp)] rfl (enters_of Tryz.func20 (by kernel_rfl) rfl) ((refbits_c f.stamp _).mono ?_)
                    rintro _ _ ⟨rfl, rfl⟩
                    refine ⟨(.int .u64 (cn f.stamp)), rfl, fun _ => hs0, ?_⟩
                    simp only [List.setIfInBounds_toArray, List.set_cons_zero, List.set_cons_succ]
                    refine goZ_tk rfl rfl 123 rfl (.bool false) (fun _ => by go_simp) ?_
                    simp only [List.setIfInBounds_toArray, List.set_cons_zero, List.set_cons_succ]
                    refine goZ_tk rfl rfl 124 rfl (.bool false) (fun _ => rfl) ?_
                    simp only [List.setIfInBounds_toArray, List.set_cons_zero, List.set_cons_succ]
                    refine goZ_end ?_
                    generalize W8.drewN 1 = W9 at *
                    go_wp2_with fail
                    exact ⟨⟨_, _, _, _, ⟨k + 1, hkl, rfl, HB8.out, HFS8.out, HOR8.out, HBLK8.out, HLT8.out⟩, rfl, rfl, rfl, by go_num⟩, by simp [intOf]; omega⟩
                  · have k1 : decide ((k : Int) < (V2.length : Int)) = false := decide_eq_false (by omega)
                    have k2 : decide (k < V2.length) = false := decide_eq_false hkl
                    have QBW := Lib.hid HBW
                    have QFS := Lib.hid HFS
                    have QBLK := Lib.hid HBLK
                    have QLT := Lib.hid HLT
                    clear HBW HFS HBLK HLT
                    go_wp2_with fail
                    go_roundw
                    case rel => exact ⟨i + 1, hlt, by go_num, QBW.out, QFS.out, QBLK.out, QLT.out⟩
                    case measure => simp [intOf]; omega
              · have d1 : decide ((i : Int) < 2) = false := decide_eq_false (by omega)
                have d2 : decide (i < 2) = false := decide_eq_false hlt
                go_wp2_with fail
                go_ret
                exact ⟨rfl, HBW.out⟩
    · have e0 : (er == 0) = false := beq_eq_false_iff_ne.2 he
      go_wp2_with fail
      go_ret
      exact ⟨rfl, HB4.out⟩
  · rw [decide_eq_false hn] at hsm
    have HSM := Lib.hid hsm
    clear hsm
    go_wp2_with (first
      | (refine wp_loadB rfl 23 _ rfl w.heap.size rfl HBLK2.out _ Tryz.underlying23 rfl (by kernel_rfl) ?_)
      | (go_at_call 11; refine HSM.out.mono ?_; rintro e W3 ⟨rfl, hb3⟩))
    go_ret
    exact ⟨rfl, HB2.out.trans (hb3.mono HB2.out.size)⟩
end Go.Proofs.YtpcipdkoncmdcaaGreatDoor
