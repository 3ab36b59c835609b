/- Texts of mine, joined: Walk: tree.Diff. -/
import Derived.Test.YtpcipdkoncmdcaaGreatDoorYJoinApart26
namespace Go.Proofs.YtpcipdkoncmdcaaGreatDoor
open Go Go.RowKit
theorem exec_append1 {P : Program} {ev : Operand → Value} {o : Oper} (d s : Operand) (dT sT : TypeId) (ho : o.op = .call { callee := .builtin .append, args := #[d, s], argTypes := #[dT, sT] }) {ty : TypeId} (hty : o.type = ty) {dv sv v : Value} {w w' : World} (hd : ev d = dv) (hs : ev s = sv)
    (hr : (Builtin.append_ #[dT, sT] ty #[dv, sv]).run P w = .ok v w') : (execOp ev o).run P w = .ok (.value v) w' := by
  subst hty
  unfold execOp
  simp only [ho, resolve, invoke, builtin, Sem.run_bind, Sem.run_pure, Result.andThen_ok, List.map_toArray, List.map_cons, List.map_nil, hd, hs, hr]
/-- A change put behind. -/
theorem CR.step {W : World} {v : Value} {L : List Ch} (h : CR W v L) {c : Ch} (hc : OkCh c) (hn : L.length + 1 ≤ 10000000) :
    ∃ W3 v' w', (Instr.buildSlice 70 1 #[(0, .agg (chC c).toArray)]).run Tryz.prog W = .ok (.slice (some ⟨W.heap.size, 0, none⟩) 1 1) W3 ∧
      (Builtin.append_ #[70, 70] 70 #[v, .slice (some ⟨W.heap.size, 0, none⟩) 1 1]).run Tryz.prog W3 = .ok v' w' ∧ CR w' v' (L ++ [c]) ∧
      ∀ B, B ≤ W.heap.size → (∀ k, v.ownBlock = some k → B ≤ k) → Below B W w' ∧ ∀ k, v'.ownBlock = some k → B ≤ k := by
  obtain ⟨W3, hW3⟩ : ∃ W3, W.alloc (.cells (chC c).toArray 75) = W3 := ⟨_, rfl⟩
  have hb := rb_chs hc W
  rw [hW3] at hb
  have hsrc : Src Tryz.prog 69 70 (.slice (some ⟨W.heap.size, 0, none⟩) 1 1) 1 (chC c) W3 := by
    rw [← hW3]; exact Src.ofNew (e := 75) Tryz.underlying70 (chC_len hc) chC_mem1
  have hbw : ∀ B, B ≤ W.heap.size → Below B W W3 := fun B hB => by rw [← hW3]; exact (Below.refl _ W).alloc hB _
  obtain ⟨v', w', hr, h2, h3, h4⟩ := (h.row.below (hbw _ (Nat.le_refl _))).app (ty := 70) chElem chZ hsrc (by simp only [maxLen]; omega) (by omega)
  refine ⟨W3, v', w', hb, hr, ⟨?_, fun f hf => ?_⟩, fun B hB ho => ⟨(hbw B hB).grown h3 (Nat.le_trans hB (hbw _ (Nat.le_refl _)).size) ho, fun k hk => ?_⟩⟩
  · rw [List.length_append, List.length_singleton, chR_app, show chR [c] = chC c by simp [chR]]; exact h2
  · rcases List.mem_append.1 hf with hf | hf
    · exact h.ok f hf
    · rw [List.mem_singleton.1 hf]; exact hc
  · rcases h4 k hk with h | h
    · exact ho k h
    · exact Nat.le_trans hB (Nat.le_trans (hbw _ (Nat.le_refl _)).size h)
theorem FT.head {w : World} {v : Value} {x : Fi} {l : List Fi} (h : FT w v (x :: l)) : ∃ b o n c, v = .slice (some ⟨b, o, none⟩) n c ∧ 0 < n ∧ ∀ W, Below w.heap.size w W → W.rangeAt b o (fiC x) := by
  obtain ⟨b, o, c, e, hl, hr⟩ := h.fs.at (k := 0) (by simp)
  have h0 := hr 0 (by simp)
  rw [Nat.zero_mul, Nat.add_zero] at h0
  exact ⟨b, o, _, c, e, by simp, fun W hb => rangeAt_below h0 hl hb⟩
theorem FT.empty {w : World} {v : Value} (h : FT w v []) : ∃ a c, v = .slice a 0 c := by
  obtain ⟨a, c, e, -⟩ := h.room
  exact ⟨a, c, e⟩
theorem fi_path {W : World} {b o : Nat} {x : Fi} (h : W.rangeAt b o (fiC x)) : W.cell? ⟨b, o, none⟩ = some (.string x.path) := h 0 _ rfl
theorem fi_stamp {W : World} {b o : Nat} {x : Fi} (hx : OkFi x) (h : W.rangeAt b o (fiC x)) : W.cell? ⟨b, o + 33, none⟩ = some (.float .f64 x.stamp) := h 33 _ (by
  show (Value.string x.path :: (nb x.id ++ [Value.float .f64 x.stamp]))[33]? = _
  rw [List.getElem?_cons_succ, List.getElem?_append_right (by rw [nb_len, hx.id.1]; exact Nat.le_refl _), nb_len, hx.id.1]; rfl)
theorem fi_idr {W : World} {b o : Nat} {x : Fi} (hx : OkFi x) (h : W.rangeAt b o (fiC x)) : W.rangeAt b (o + 1) (nb x.id) := fun j u hu => by
  rw [Nat.add_assoc]; exact h _ _ (fiC_id hx hu)
theorem ld_file {W : World} {b o : Nat} {x : Fi} (hx : OkFi x) (h : W.rangeAt b o (fiC x)) : (Instr.loadAt 56 (.pointer (some ⟨b, o, none⟩))).run Tryz.prog W = .ok (.agg (fiC x).toArray) W :=
  run_loadAt_mid (P := Tryz.prog) W b o 56 (fiC x) _ h Tryz.underlying56 rfl (by rw [fiC_len hx]; exact fiInfo)
def nV : Value → Nat
  | .slice _ n _ => n
  | _ => 0
theorem ln_step {a b N : Nat} (h : a ≤ N) (hb : b ≤ a) : Hid (b ≤ N) := Nat.le_trans hb h
theorem FT.nV {w : World} {v : Value} {l : List Fi} (h : FT w v l) : nV v = l.length := by
  obtain ⟨a, c, e, -⟩ := h.room
  rw [e]; rfl

set_option maxRecDepth 100000 in
set_option maxHeartbeats 8000000 in
theorem fdiff_c {w : World} {va vb : Value} {A B : List Fi} (hA : FT w va A) (hB : FT w vb B) (hn : A.length + B.length ≤ 1000000) (hg : Gl w) :
    Calls Tryz.prog 25 #[va, vb] w fun e w' => ∃ v', e = .returned v' ∧ CR w' v' (diffS A B) ∧ (∀ k, v'.ownBlock = some k → w.heap.size ≤ k) ∧ Below w.heap.size w w' := by
  obtain ⟨N, hN⟩ : ∃ N, A.length + B.length = N := ⟨_, rfl⟩
  rw [hN] at hn
  have HA := Lib.hid hA
  have HB0 := Lib.hid hB
  have HN := Lib.hid hN
  have HG := Lib.hid hg
  clear hA hB hN hg
  go_enter Tryz.func25, Tryz.ntmps25
  go_upto_region 2 with fail
  go_loopw [0, 1, 5] (fun v0 v1 v5 wx => ∃ A' B' L, Hid (FT w v0 A') ∧ Hid (FT w v1 B') ∧ Hid (CR wx v5 L) ∧ Hid (diffS A B = L ++ diffS A' B') ∧ Hid (L.length + A'.length + B'.length ≤ N) ∧ Hid (∀ k, v5.ownBlock = some k → w.heap.size ≤ k) ∧ Hid (Below w.heap.size w wx)) (fun v0 v1 _ _ => nV v0 + nV v1)
  case atStart => exact ⟨A, B, [], HA.out, HB0.out, CR.nil _, rfl, (by show _ ≤ _; rw [List.length_nil, Nat.zero_add, HN.out]; exact Nat.le_refl _), (fun k hk => by cases hk), Below.refl _ _⟩
  case round =>
    obtain ⟨A', B', L, HFA, HFB, HCR, HD, HLN, HOW, HB⟩ := hrel
    clear HA HB0 HN
    have HGR : Hid (∀ W, Below wr.heap.size wr W → Gl W) := fun W hb => HG.out.below (HB.out.trans (hb.mono HB.out.size)) (Nat.le_refl _)
    have HBW : Hid (∀ W, Below wr.heap.size wr W → Below w.heap.size w W) := fun W hb => HB.out.trans (hb.mono HB.out.size)
    rcases A' with _ | ⟨x, a⟩
    · rcases B' with _ | ⟨y, b⟩
      · -- @dev{ EE
        obtain ⟨a0, c0, rfl⟩ := HFA.out.empty
        obtain ⟨a1, c1, rfl⟩ := HFB.out.empty
        have HE : Hid (diffS A B = L) := by show _ = _; rw [HD.out]; simp [diffS]
        go_wp2_with fail
        go_ret
        exact ⟨_, rfl, by rw [HE.out]; exact HCR.out, HOW.out, HB.out⟩
      · -- @dev{ EY
        have HNB := Lib.hid HFB.out.nV
        obtain ⟨v1', hs, ht⟩ := HFB.out.tail
        obtain ⟨b1, o1, n1, c1, rfl, hn1, hr1⟩ := HFB.out.head
        have HSB := Lib.hid hs
        have HTB := Lib.hid ht
        have HRB' := Lib.hid hr1
        have HOY : Hid (OkFi y) := HFB.out.fs.ok y (by simp)
        have gy1 : decide ((n1 : Int) > 0) = true := decide_eq_true (by omega)
        have gy2 : decide (0 < n1) = true := decide_eq_true hn1
        have gy3 : (0 : Int) < (n1 : Int) := by omega
        clear hs ht hr1
        obtain ⟨a0, c0, rfl⟩ := HFA.out.empty
        obtain ⟨W3, v3, w3, hb3, ha3, hc3, hx3⟩ := HCR.out.step (c := ⟨1, zF, y⟩) ⟨zF_ok, HOY.out⟩ (by have h := HLN.out; simp at h; omega)
        obtain ⟨hB3, hO3⟩ := hx3 w.heap.size HB.out.size HOW.out
        have HBS := Lib.hid hb3
        have HAP := Lib.hid ha3
        have HC3 := Lib.hid hc3
        have HO3 := Lib.hid hO3
        have HB3 : Hid (Below w.heap.size w w3) := HB.out.trans hB3
        clear hb3 ha3 hc3 hx3 hB3 hO3
        have HE : Hid (diffS A B = (L ++ [⟨1, zF, y⟩]) ++ diffS [] b) := by show _ = _; rw [HD.out]; simp [diffS]
        go_upto_region 11 with fail
        refine goP_start ?_
        refine goP_mv rfl 48 rfl _ rfl u5 rfl ?_; simp only [zT, zA, zB]
        refine goP_mv rfl 49 rfl _ rfl (.slice (some ⟨b1, o1, none⟩) n1 c1) rfl ?_; simp only [zT, zA, zB]
        refine goP_tk rfl 50 rfl (.pointer (some ⟨b1, o1, none⟩)) (by first | rfl | go_simp) ?_; simp only [zT, zA, zB]
        refine goP_ld rfl 51 rfl 56 _ rfl ⟨b1, o1, none⟩ (.agg (fiC y).toArray) rfl (ld_file HOY.out (HRB'.out _ HB.out)) ?_; simp only [zT, zA, zB]
        refine goP_tk rfl 52 rfl (.agg (chC ⟨1, zF, y⟩).toArray) (exec_build _ rfl (by simp [Act.eval]) (rb_new HOY.out 1) _) ?_; simp only [zT, zA, zB]
        refine goP_by rfl 53 rfl (.slice (some ⟨wr.heap.size, 0, none⟩) 1 1) W3 (exec_slice _ rfl (by simp [Act.eval]) HBS.out) ?_; simp only [zT, zA, zB]
        refine goP_by rfl 54 rfl v3 w3 (exec_append1 _ _ _ _ rfl rfl rfl rfl HAP.out) ?_; simp only [zT, zA, zB]
        refine goP_as rfl 5 rfl _ rfl v3 rfl ?_; simp only [zT, zA, zB]
        refine goP_end ?_
        go_upto_region 19 with fail
        refine goP_start ?_
        refine goP_mv rfl 102 rfl _ rfl (.slice (some ⟨b1, o1, none⟩) n1 c1) rfl ?_; simp only [zT, zA, zB]
        refine goP_tk rfl 103 rfl v1' (exec_lo fi_under _ _ rfl rfl rfl HSB.out _) ?_; simp only [zT, zA, zB]
        refine goP_as rfl 1 rfl _ rfl v1' rfl ?_; simp only [zT, zA, zB]
        refine goP_end ?_
        go_wp2_with fail
        go_roundw
        case rel => exact ⟨[], b, _, HFA.out, HTB.out, HC3.out, HE.out, ln_step HLN.out (by simp; omega), HO3.out, HB3.out⟩
        case measure => have h1 := HTB.out.nV; have h2 := HNB.out; simp only [nV] at h1 h2 ⊢; simp at h2; omega
    · rcases B' with _ | ⟨y, b⟩
      · -- @dev{ XE
        have HNA := Lib.hid HFA.out.nV
        obtain ⟨v0', hs, ht⟩ := HFA.out.tail
        obtain ⟨b0, o0, n0, c0, rfl, hn0, hr0⟩ := HFA.out.head
        have HSA := Lib.hid hs
        have HTA := Lib.hid ht
        have HRA := Lib.hid hr0
        have HOX : Hid (OkFi x) := HFA.out.fs.ok x (by simp)
        have gx1 : decide ((n0 : Int) > 0) = true := decide_eq_true (by omega)
        have gx2 : decide (0 < n0) = true := decide_eq_true hn0
        have gx3 : (0 : Int) < (n0 : Int) := by omega
        clear hs ht hr0
        obtain ⟨a1, c1, rfl⟩ := HFB.out.empty
        obtain ⟨W3, v3, w3, hb3, ha3, hc3, hx3⟩ := HCR.out.step (c := ⟨2, x, zF⟩) ⟨HOX.out, zF_ok⟩ (by have h := HLN.out; simp at h; omega)
        obtain ⟨hB3, hO3⟩ := hx3 w.heap.size HB.out.size HOW.out
        have HBS := Lib.hid hb3
        have HAP := Lib.hid ha3
        have HC3 := Lib.hid hc3
        have HO3 := Lib.hid hO3
        have HB3 : Hid (Below w.heap.size w w3) := HB.out.trans hB3
        clear hb3 ha3 hc3 hx3 hB3 hO3
        have HE : Hid (diffS A B = (L ++ [⟨2, x, zF⟩]) ++ diffS a []) := by show _ = _; rw [HD.out]; simp [diffS]
        go_upto_region 9 with fail
        refine goP_start ?_
        refine goP_mv rfl 38 rfl _ rfl u5 rfl ?_; simp only [zT, zA, zB]
        refine goP_mv rfl 39 rfl _ rfl (.slice (some ⟨b0, o0, none⟩) n0 c0) rfl ?_; simp only [zT, zA, zB]
        refine goP_tk rfl 40 rfl (.pointer (some ⟨b0, o0, none⟩)) (by first | rfl | go_simp) ?_; simp only [zT, zA, zB]
        refine goP_ld rfl 41 rfl 56 _ rfl ⟨b0, o0, none⟩ (.agg (fiC x).toArray) rfl (ld_file HOX.out (HRA.out _ HB.out)) ?_; simp only [zT, zA, zB]
        refine goP_tk rfl 42 rfl (.agg (chC ⟨2, x, zF⟩).toArray) (exec_build _ rfl (by simp [Act.eval]) (rb_old HOX.out 2) _) ?_; simp only [zT, zA, zB]
        refine goP_by rfl 43 rfl (.slice (some ⟨wr.heap.size, 0, none⟩) 1 1) W3 (exec_slice _ rfl (by simp [Act.eval]) HBS.out) ?_; simp only [zT, zA, zB]
        refine goP_by rfl 44 rfl v3 w3 (exec_append1 _ _ _ _ rfl rfl rfl rfl HAP.out) ?_; simp only [zT, zA, zB]
        refine goP_as rfl 5 rfl _ rfl v3 rfl ?_; simp only [zT, zA, zB]
        refine goP_end ?_
        go_upto_region 17 with fail
        refine goP_start ?_
        refine goP_mv rfl 98 rfl _ rfl (.slice (some ⟨b0, o0, none⟩) n0 c0) rfl ?_; simp only [zT, zA, zB]
        refine goP_tk rfl 99 rfl v0' (exec_lo fi_under _ _ rfl rfl rfl HSA.out _) ?_; simp only [zT, zA, zB]
        refine goP_as rfl 0 rfl _ rfl v0' rfl ?_
        simp only [List.setIfInBounds_toArray, List.set_cons_zero]
        refine goP_end ?_
        go_wp2_with fail
        go_roundw
        case rel => exact ⟨a, [], _, HTA.out, HFB.out, HC3.out, HE.out, ln_step HLN.out (by simp; omega), HO3.out, HB3.out⟩
        case measure => have h1 := HTA.out.nV; have h2 := HNA.out; simp only [nV] at *; simp at h2; omega
      · skip
        have HNA := Lib.hid HFA.out.nV
        obtain ⟨v0', hs, ht⟩ := HFA.out.tail
        obtain ⟨b0, o0, n0, c0, rfl, hn0, hr0⟩ := HFA.out.head
        have HSA := Lib.hid hs
        have HTA := Lib.hid ht
        have HRA := Lib.hid hr0
        have HOX : Hid (OkFi x) := HFA.out.fs.ok x (by simp)
        have gx1 : decide ((n0 : Int) > 0) = true := decide_eq_true (by omega)
        have gx2 : decide (0 < n0) = true := decide_eq_true hn0
        have gx3 : (0 : Int) < (n0 : Int) := by omega
        clear hs ht hr0
        have HNB := Lib.hid HFB.out.nV
        obtain ⟨v1', hs, ht⟩ := HFB.out.tail
        obtain ⟨b1, o1, n1, c1, rfl, hn1, hr1⟩ := HFB.out.head
        have HSB := Lib.hid hs
        have HTB := Lib.hid ht
        have HRB' := Lib.hid hr1
        have HOY : Hid (OkFi y) := HFB.out.fs.ok y (by simp)
        have gy1 : decide ((n1 : Int) > 0) = true := decide_eq_true (by omega)
        have gy2 : decide (0 < n1) = true := decide_eq_true hn1
        have gy3 : (0 : Int) < (n1 : Int) := by omega
        clear hs ht hr1
        obtain ⟨z, hz⟩ : ∃ z, PathS.cmp x.path y.path = z := ⟨_, rfl⟩
        have HB1 : Hid (Below w.heap.size w (wr.drewN 1)) := HB.out.trans (below_dN (Below.refl _ wr) 1)
        have HCR1 : Hid (CR (wr.drewN 1) u5 L) := HCR.out.below (below_dN (Below.refl _ wr) 1)
        have HCM := Lib.hid (cmp_c x.path y.path (wr.drewN 1) (HG.out.below HB1.out (Nat.le_refl _)) (by have := HOX.out.pz; omega) (by have := HOY.out.pz; omega))
        rw [hz] at HCM
        have hs0 : (wr.drewN 1).cell? ⟨b0, o0, none⟩ = some (.string x.path) ∧ (wr.drewN 1).cell? ⟨b1, o1, none⟩ = some (.string y.path) := ⟨fi_path (HRA.out _ HB1.out), fi_path (HRB'.out _ HB1.out)⟩
        have HZ := Lib.hid hz
        clear hz
        go_upto_region 7 with fail
        refine wp_region_hz (fun W => W.cell? ⟨b0, o0, none⟩ = some (.string x.path) ∧ W.cell? ⟨b1, o1, none⟩ = some (.string y.path)) (.tk 0 (.tk 1 (.tk 2 (.tk 3 (.tk 4 (.tk 5 (.tk 6 (.tk 7 (.fc 8 (.tk 9 (.nil))))))))))) (by kernel_rfl) (by kernel_rfl) (fun _ _ _ _ _ h => h) ?_
        refine goZ_tk rfl rfl 26 rfl (.slice (some ⟨b0, o0, none⟩) n0 c0) (fun _ => rfl) ?_; simp only [zT, zA, zB]
        refine goZ_tk rfl rfl 27 rfl (.pointer (some ⟨b0, o0, none⟩)) (fun _ => by go_simp) ?_; simp only [zT, zA, zB]
        refine goZ_tk rfl rfl 28 rfl (.pointer (some ⟨b0, o0, none⟩)) (fun _ => by go_simp) ?_; simp only [zT, zA, zB]
        refine goZ_ld rfl rfl 29 rfl 9 _ rfl ⟨b0, o0, none⟩ (.string x.path) rfl (fun W hS => ld_string _ _ W hS.1) (hs0) ?_; simp only [zT, zA, zB]
        refine goZ_tk rfl rfl 30 rfl (.slice (some ⟨b1, o1, none⟩) n1 c1) (fun _ => rfl) ?_; simp only [zT, zA, zB]
        refine goZ_tk rfl rfl 31 rfl (.pointer (some ⟨b1, o1, none⟩)) (fun _ => by go_simp) ?_; simp only [zT, zA, zB]
        refine goZ_tk rfl rfl 32 rfl (.pointer (some ⟨b1, o1, none⟩)) (fun _ => by go_simp) ?_; simp only [zT, zA, zB]
        refine goZ_ld rfl rfl 33 rfl 9 _ rfl ⟨b1, o1, none⟩ (.string y.path) rfl (fun W hS => ld_string _ _ W hS.2) (hs0) ?_; simp only [zT, zA, zB]
        refine goZ_call (ds' := []) rfl rfl (by kernel_rfl) 34 rfl 27 _ rfl [(.string x.path), (.string y.path)] rfl (enters_of Tryz.func27 (by kernel_rfl) rfl) ((HCM.out).mono ?_)
        rintro e w2 ⟨rfl, hb2⟩
        refine ⟨(.int .i64 z), rfl, fun h => absurd rfl h, ?_⟩; simp only [zT, zA, zB]
        refine goZ_tk rfl rfl 6 rfl (.int .i64 z) (fun _ => rfl) ?_; simp only [zT, zA, zB]
        refine goZ_end ?_
        have HB2 : Hid (Below w.heap.size w w2) := HB1.out.trans (hb2.mono HB1.out.size)
        have HCR2 : Hid (CR w2 u5 L) := HCR1.out.below hb2
        clear hb2 hs0 HCM HCR1 HB1
        by_cases hz0 : z < 0
        · -- @dev{ LT
          have e1 : decide (z < 0) = true := decide_eq_true hz0
          have e2 : decide (z ≤ 0) = true := decide_eq_true (by omega)
          have e3 : decide (z ≥ 0) = false := decide_eq_false (by omega)
          obtain ⟨W3, v3, w3, hb3, ha3, hc3, hx3⟩ := HCR2.out.step (c := ⟨2, x, zF⟩) ⟨HOX.out, zF_ok⟩ (by have h := HLN.out; simp at h; omega)
          obtain ⟨hB3, hO3⟩ := hx3 w.heap.size HB2.out.size HOW.out
          have HBS := Lib.hid hb3
          have HAP := Lib.hid ha3
          have HC3 := Lib.hid hc3
          have HO3 := Lib.hid hO3
          have HB3 : Hid (Below w.heap.size w w3) := HB2.out.trans hB3
          clear hb3 ha3 hc3 hx3 hB3 hO3
          have HE : Hid (diffS A B = (L ++ [⟨2, x, zF⟩]) ++ diffS a (y :: b)) := by show _ = _; rw [HD.out, diffS, if_pos (by rw [HZ.out]; exact hz0)]; simp
          go_upto_region 9 with fail
          refine goP_start ?_
          refine goP_mv rfl 38 rfl _ rfl u5 rfl ?_; simp only [zT, zA, zB]
          refine goP_mv rfl 39 rfl _ rfl (.slice (some ⟨b0, o0, none⟩) n0 c0) rfl ?_; simp only [zT, zA, zB]
          refine goP_tk rfl 40 rfl (.pointer (some ⟨b0, o0, none⟩)) (by first | rfl | go_simp) ?_; simp only [zT, zA, zB]
          refine goP_ld rfl 41 rfl 56 _ rfl ⟨b0, o0, none⟩ (.agg (fiC x).toArray) rfl (ld_file HOX.out (HRA.out _ HB2.out)) ?_; simp only [zT, zA, zB]
          refine goP_tk rfl 42 rfl (.agg (chC ⟨2, x, zF⟩).toArray) (exec_build _ rfl (by simp [Act.eval]) (rb_old HOX.out 2) _) ?_; simp only [zT, zA, zB]
          refine goP_by rfl 43 rfl (.slice (some ⟨w2.heap.size, 0, none⟩) 1 1) W3 (exec_slice _ rfl (by simp [Act.eval]) HBS.out) ?_; simp only [zT, zA, zB]
          refine goP_by rfl 44 rfl v3 w3 (exec_append1 _ _ _ _ rfl rfl rfl rfl HAP.out) ?_; simp only [zT, zA, zB]
          refine goP_as rfl 5 rfl _ rfl v3 rfl ?_; simp only [zT, zA, zB]
          refine goP_end ?_
          go_upto_region 17 with fail
          refine goP_start ?_
          refine goP_mv rfl 98 rfl _ rfl (.slice (some ⟨b0, o0, none⟩) n0 c0) rfl ?_; simp only [zT, zA, zB]
          refine goP_tk rfl 99 rfl v0' (exec_lo fi_under _ _ rfl rfl rfl HSA.out _) ?_; simp only [zT, zA, zB]
          refine goP_as rfl 0 rfl _ rfl v0' rfl ?_
          simp only [List.setIfInBounds_toArray, List.set_cons_zero]
          refine goP_end ?_
          go_wp2_with fail
          go_roundw
          case rel => exact ⟨a, y :: b, _, HTA.out, HFB.out, HC3.out, HE.out, ln_step HLN.out (by simp; omega), HO3.out, HB3.out⟩
          case measure => have h1 := HTA.out.nV; have h2 := HNA.out; simp only [nV] at *; simp at h2; omega
        · have e1 : decide (z < 0) = false := decide_eq_false hz0
          by_cases hz1 : z > 0
          · -- @dev{ GT
            have e4 : decide (z > 0) = true := decide_eq_true hz1
            have e2 : decide (z ≤ 0) = false := decide_eq_false (by omega)
            have e3 : decide (z ≥ 0) = true := decide_eq_true (by omega)
            obtain ⟨W3, v3, w3, hb3, ha3, hc3, hx3⟩ := HCR2.out.step (c := ⟨1, zF, y⟩) ⟨zF_ok, HOY.out⟩ (by have h := HLN.out; simp at h; omega)
            obtain ⟨hB3, hO3⟩ := hx3 w.heap.size HB2.out.size HOW.out
            have HBS := Lib.hid hb3
            have HAP := Lib.hid ha3
            have HC3 := Lib.hid hc3
            have HO3 := Lib.hid hO3
            have HB3 : Hid (Below w.heap.size w w3) := HB2.out.trans hB3
            clear hb3 ha3 hc3 hx3 hB3 hO3
            have HE : Hid (diffS A B = (L ++ [⟨1, zF, y⟩]) ++ diffS (x :: a) b) := by show _ = _; rw [HD.out, diffS, if_neg (by rw [HZ.out]; exact hz0), if_pos (by rw [HZ.out]; exact hz1)]; simp
            go_upto_region 11 with fail
            refine goP_start ?_
            refine goP_mv rfl 48 rfl _ rfl u5 rfl ?_; simp only [zT, zA, zB]
            refine goP_mv rfl 49 rfl _ rfl (.slice (some ⟨b1, o1, none⟩) n1 c1) rfl ?_; simp only [zT, zA, zB]
            refine goP_tk rfl 50 rfl (.pointer (some ⟨b1, o1, none⟩)) (by first | rfl | go_simp) ?_; simp only [zT, zA, zB]
            refine goP_ld rfl 51 rfl 56 _ rfl ⟨b1, o1, none⟩ (.agg (fiC y).toArray) rfl (ld_file HOY.out (HRB'.out _ HB2.out)) ?_; simp only [zT, zA, zB]
            refine goP_tk rfl 52 rfl (.agg (chC ⟨1, zF, y⟩).toArray) (exec_build _ rfl (by simp [Act.eval]) (rb_new HOY.out 1) _) ?_; simp only [zT, zA, zB]
            refine goP_by rfl 53 rfl (.slice (some ⟨w2.heap.size, 0, none⟩) 1 1) W3 (exec_slice _ rfl (by simp [Act.eval]) HBS.out) ?_; simp only [zT, zA, zB]
            refine goP_by rfl 54 rfl v3 w3 (exec_append1 _ _ _ _ rfl rfl rfl rfl HAP.out) ?_; simp only [zT, zA, zB]
            refine goP_as rfl 5 rfl _ rfl v3 rfl ?_; simp only [zT, zA, zB]
            refine goP_end ?_
            go_upto_region 19 with fail
            refine goP_start ?_
            refine goP_mv rfl 102 rfl _ rfl (.slice (some ⟨b1, o1, none⟩) n1 c1) rfl ?_; simp only [zT, zA, zB]
            refine goP_tk rfl 103 rfl v1' (exec_lo fi_under _ _ rfl rfl rfl HSB.out _) ?_; simp only [zT, zA, zB]
            refine goP_as rfl 1 rfl _ rfl v1' rfl ?_; simp only [zT, zA, zB]
            refine goP_end ?_
            go_wp2_with fail
            go_roundw
            case rel => exact ⟨x :: a, b, _, HFA.out, HTB.out, HC3.out, HE.out, ln_step HLN.out (by simp; omega), HO3.out, HB3.out⟩
            case measure => have h3 := HTB.out.nV; have h4 := HNB.out; simp only [nV] at *; simp at h4; omega
          · have hz2 : z = 0 := by omega
            subst hz2
            clear e1 hz0 hz1
            have HB4 : Hid (Below w.heap.size w (w2.drewN 1)) := HB2.out.trans (below_dN (Below.refl _ w2) 1)
            have HCR4 : Hid (CR (w2.drewN 1) u5 L) := HCR2.out.below (below_dN (Below.refl _ w2) 1)
            have hs0 : (w2.drewN 1).rangeAt b0 (o0 + 1) (nb x.id) ∧ (w2.drewN 1).rangeAt b1 (o1 + 1) (nb y.id) := ⟨fi_idr HOX.out (HRA.out _ HB4.out), fi_idr HOY.out (HRB'.out _ HB4.out)⟩
            clear HB2 HCR2
            by_cases hid : x.id = y.id
            · have HEQ : Hid (∀ W, (binOp .neq 43 (.agg (nums .u8 x.id)) (.agg (nums .u8 y.id))).run Tryz.prog W = .ok (.bool false) W) := fun W => by rw [id_neq HOX.out.id HOY.out.id, decide_eq_true hid]; rfl
              obtain ⟨z2, hz2, hc2⟩ := cmp0 HOX.out.st HOY.out.st
              have HS2 := Lib.hid hc2
              have HZ2 := Lib.hid hz2
              clear hc2 hz2
              go_upto_region 12 with fail
              refine wp_region_hz (fun W => W.rangeAt b0 (o0 + 1) (nb x.id) ∧ W.rangeAt b1 (o1 + 1) (nb y.id)) (.tk 0 (.tk 1 (.tk 2 (.tk 3 (.tk 4 (.tk 5 (.tk 6 (.tk 7 (.tk 8 (.tk 9 (.nil))))))))))) (by kernel_rfl) (by kernel_rfl) (fun _ _ _ _ _ h => h) ?_
              refine goZ_tk rfl rfl 56 rfl (.slice (some ⟨b0, o0, none⟩) n0 c0) (fun _ => rfl) ?_; simp only [zT, zA, zB]
              refine goZ_tk rfl rfl 57 rfl (.pointer (some ⟨b0, o0, none⟩)) (fun _ => by go_simp) ?_; simp only [zT, zA, zB]
              refine goZ_tk rfl rfl 58 rfl (.pointer (some ⟨b0, o0 + 1, none⟩)) (fun _ => rfl) ?_; simp only [zT, zA, zB]
              refine goZ_ld rfl rfl 59 rfl 43 _ rfl ⟨b0, o0 + 1, none⟩ (.agg (nums .u8 x.id)) rfl (fun W hS => ld_id HOX.out.id hS.1) (hs0) ?_; simp only [zT, zA, zB]
              refine goZ_tk rfl rfl 60 rfl (.slice (some ⟨b1, o1, none⟩) n1 c1) (fun _ => rfl) ?_; simp only [zT, zA, zB]
              refine goZ_tk rfl rfl 61 rfl (.pointer (some ⟨b1, o1, none⟩)) (fun _ => by go_simp) ?_; simp only [zT, zA, zB]
              refine goZ_tk rfl rfl 62 rfl (.pointer (some ⟨b1, o1 + 1, none⟩)) (fun _ => rfl) ?_; simp only [zT, zA, zB]
              refine goZ_ld rfl rfl 63 rfl 43 _ rfl ⟨b1, o1 + 1, none⟩ (.agg (nums .u8 y.id)) rfl (fun W hS => ld_id HOY.out.id hS.2) (hs0) ?_; simp only [zT, zA, zB]
              refine goZ_tk rfl rfl 64 rfl (.bool false) (exec_bin _ _ rfl rfl rfl (fun _ => by first | rfl | go_simp) HEQ.out) ?_; simp only [zT, zA, zB]
              refine goZ_tk rfl rfl 55 rfl (.bool false) (fun _ => rfl) ?_; simp only [zT, zA, zB]
              refine goZ_end ?_
              go_upto_region 14 with fail
              clear hs0
              generalize w2.drewN 1 = w4 at *
              have HB5 : Hid (Below w.heap.size w (w4.drewN 1)) := HB4.out.trans (below_dN (Below.refl _ w4) 1)
              have HCR5 : Hid (CR (w4.drewN 1) u5 L) := HCR4.out.below (below_dN (Below.refl _ w4) 1)
              have hs0 : (w4.drewN 1).cell? ⟨b0, o0 + 33, none⟩ = some (.float .f64 x.stamp) ∧ (w4.drewN 1).cell? ⟨b1, o1 + 33, none⟩ = some (.float .f64 y.stamp) := ⟨fi_stamp HOX.out (HRA.out _ HB5.out), fi_stamp HOY.out (HRB'.out _ HB5.out)⟩
              by_cases hst : cn x.stamp = cn y.stamp
              · -- @dev{ SAME
                have hz3 : z2 = 0 := HZ2.out.2 hst
                subst hz3
                have HE : Hid (diffS A B = L ++ diffS a b) := by show _ = _; rw [HD.out, diffS, if_neg (by rw [HZ.out]; decide), if_neg (by rw [HZ.out]; decide), if_neg (by simpa using hid), if_neg (by simpa using hst)]
                refine wp_region_hz (fun W => W.cell? ⟨b0, o0 + 33, none⟩ = some (.float .f64 x.stamp) ∧ W.cell? ⟨b1, o1 + 33, none⟩ = some (.float .f64 y.stamp)) (.tk 0 (.tk 1 (.tk 2 (.tk 3 (.tk 4 (.tk 5 (.tk 6 (.tk 7 (.fc 8 (.tk 9 (.tk 10 (.nil)))))))))))) (by kernel_rfl) (by kernel_rfl) (fun _ _ _ _ _ h => h) ?_
                refine goZ_tk rfl rfl 76 rfl (.slice (some ⟨b0, o0, none⟩) n0 c0) (fun _ => rfl) ?_; simp only [zT, zA, zB]
                refine goZ_tk rfl rfl 77 rfl (.pointer (some ⟨b0, o0, none⟩)) (fun _ => by go_simp) ?_; simp only [zT, zA, zB]
                refine goZ_tk rfl rfl 78 rfl (.pointer (some ⟨b0, o0 + 33, none⟩)) (fun _ => rfl) ?_; simp only [zT, zA, zB]
                refine goZ_ld rfl rfl 79 rfl 44 _ rfl ⟨b0, o0 + 33, none⟩ (.float .f64 x.stamp) rfl (fun W hS => ld_float _ _ W hS.1) (hs0) ?_; simp only [zT, zA, zB]
                refine goZ_tk rfl rfl 80 rfl (.slice (some ⟨b1, o1, none⟩) n1 c1) (fun _ => rfl) ?_; simp only [zT, zA, zB]
                refine goZ_tk rfl rfl 81 rfl (.pointer (some ⟨b1, o1, none⟩)) (fun _ => by go_simp) ?_; simp only [zT, zA, zB]
                refine goZ_tk rfl rfl 82 rfl (.pointer (some ⟨b1, o1 + 33, none⟩)) (fun _ => rfl) ?_; simp only [zT, zA, zB]
                refine goZ_ld rfl rfl 83 rfl 44 _ rfl ⟨b1, o1 + 33, none⟩ (.float .f64 y.stamp) rfl (fun W hS => ld_float _ _ W hS.2) (hs0) ?_; simp only [zT, zA, zB]
                refine goZ_call (ds' := []) rfl rfl (by kernel_rfl) 84 rfl 47 _ rfl [(.float .f64 x.stamp), (.float .f64 y.stamp)] rfl (enters_of Tryz.func47 (by kernel_rfl) rfl) (((HS2.out _)).mono ?_)
                rintro e w9 ⟨rfl, hw9⟩
                obtain rfl := hw9.symm
                clear hw9
                refine ⟨(.int .i64 0), rfl, fun h => absurd rfl h, ?_⟩; simp only [zT, zA, zB]
                refine goZ_tk rfl rfl 85 rfl (.bool false) (fun _ => by go_simp) ?_; simp only [zT, zA, zB]
                refine goZ_tk rfl rfl 75 rfl (.bool false) (fun _ => rfl) ?_; simp only [zT, zA, zB]
                refine goZ_end ?_
                go_upto_region 17 with fail
                refine goP_start ?_
                refine goP_mv rfl 98 rfl _ rfl (.slice (some ⟨b0, o0, none⟩) n0 c0) rfl ?_; simp only [zT, zA, zB]
                refine goP_tk rfl 99 rfl v0' (exec_lo fi_under _ _ rfl rfl rfl HSA.out _) ?_; simp only [zT, zA, zB]
                refine goP_as rfl 0 rfl _ rfl v0' rfl ?_
                simp only [List.setIfInBounds_toArray, List.set_cons_zero]
                refine goP_end ?_
                go_upto_region 19 with fail
                refine goP_start ?_
                refine goP_mv rfl 102 rfl _ rfl (.slice (some ⟨b1, o1, none⟩) n1 c1) rfl ?_; simp only [zT, zA, zB]
                refine goP_tk rfl 103 rfl v1' (exec_lo fi_under _ _ rfl rfl rfl HSB.out _) ?_; simp only [zT, zA, zB]
                refine goP_as rfl 1 rfl _ rfl v1' rfl ?_; simp only [zT, zA, zB]
                refine goP_end ?_
                go_wp2_with fail
                go_roundw
                case rel => exact ⟨a, b, _, HTA.out, HTB.out, HCR5.out, HE.out, ln_step HLN.out (by simp; omega), HOW.out, HB5.out⟩
                case measure => have h1 := HTA.out.nV; have h2 := HNA.out; have h3 := HTB.out.nV; have h4 := HNB.out; simp only [nV] at *; simp at h2; simp at h4; omega
              · -- @dev{ TCH
                have hz3 : z2 ≠ 0 := fun e => hst (HZ2.out.1 e)
                have e5 : (z2 != 0) = true := bne_iff_ne.2 hz3
                have e6 : (z2 == 0) = false := beq_eq_false_iff_ne.2 hz3
                have HE : Hid (diffS A B = (L ++ [⟨4, x, y⟩]) ++ diffS a b) := by show _ = _; rw [HD.out, diffS, if_neg (by rw [HZ.out]; decide), if_neg (by rw [HZ.out]; decide), if_neg (by simpa using hid), if_pos hst]; simp
                refine wp_region_hz (fun W => W.cell? ⟨b0, o0 + 33, none⟩ = some (.float .f64 x.stamp) ∧ W.cell? ⟨b1, o1 + 33, none⟩ = some (.float .f64 y.stamp)) (.tk 0 (.tk 1 (.tk 2 (.tk 3 (.tk 4 (.tk 5 (.tk 6 (.tk 7 (.fc 8 (.tk 9 (.tk 10 (.nil)))))))))))) (by kernel_rfl) (by kernel_rfl) (fun _ _ _ _ _ h => h) ?_
                refine goZ_tk rfl rfl 76 rfl (.slice (some ⟨b0, o0, none⟩) n0 c0) (fun _ => rfl) ?_; simp only [zT, zA, zB]
                refine goZ_tk rfl rfl 77 rfl (.pointer (some ⟨b0, o0, none⟩)) (fun _ => by go_simp) ?_; simp only [zT, zA, zB]
                refine goZ_tk rfl rfl 78 rfl (.pointer (some ⟨b0, o0 + 33, none⟩)) (fun _ => rfl) ?_; simp only [zT, zA, zB]
                refine goZ_ld rfl rfl 79 rfl 44 _ rfl ⟨b0, o0 + 33, none⟩ (.float .f64 x.stamp) rfl (fun W hS => ld_float _ _ W hS.1) (hs0) ?_; simp only [zT, zA, zB]
                refine goZ_tk rfl rfl 80 rfl (.slice (some ⟨b1, o1, none⟩) n1 c1) (fun _ => rfl) ?_; simp only [zT, zA, zB]
                refine goZ_tk rfl rfl 81 rfl (.pointer (some ⟨b1, o1, none⟩)) (fun _ => by go_simp) ?_; simp only [zT, zA, zB]
                refine goZ_tk rfl rfl 82 rfl (.pointer (some ⟨b1, o1 + 33, none⟩)) (fun _ => rfl) ?_; simp only [zT, zA, zB]
                refine goZ_ld rfl rfl 83 rfl 44 _ rfl ⟨b1, o1 + 33, none⟩ (.float .f64 y.stamp) rfl (fun W hS => ld_float _ _ W hS.2) (hs0) ?_; simp only [zT, zA, zB]
                refine goZ_call (ds' := []) rfl rfl (by kernel_rfl) 84 rfl 47 _ rfl [(.float .f64 x.stamp), (.float .f64 y.stamp)] rfl (enters_of Tryz.func47 (by kernel_rfl) rfl) (((HS2.out _)).mono ?_)
                rintro e w9 ⟨rfl, hw9⟩
                obtain rfl := hw9.symm
                clear hw9
                refine ⟨(.int .i64 z2), rfl, fun h => absurd rfl h, ?_⟩; simp only [zT, zA, zB]
                refine goZ_tk rfl rfl 85 rfl (.bool true) (fun _ => by go_simp) ?_; simp only [zT, zA, zB]
                refine goZ_tk rfl rfl 75 rfl (.bool true) (fun _ => rfl) ?_; simp only [zT, zA, zB]
                refine goZ_end ?_
                go_upto_region 15 with fail
                clear hs0
                generalize w4.drewN 1 = w5 at *
                have HB6 : Hid (Below w.heap.size w (w5.drewN 1)) := HB5.out.trans (below_dN (Below.refl _ w5) 1)
                have HCR6 : Hid (CR (w5.drewN 1) u5 L) := HCR5.out.below (below_dN (Below.refl _ w5) 1)
                have hs0 : (w5.drewN 1).rangeAt b0 o0 (fiC x) ∧ (w5.drewN 1).rangeAt b1 o1 (fiC y) := ⟨HRA.out _ HB6.out, HRB'.out _ HB6.out⟩
                obtain ⟨W3, v3, w3, hb3, ha3, hc3, hx3⟩ := HCR6.out.step (c := ⟨4, x, y⟩) ⟨HOX.out, HOY.out⟩ (by have h := HLN.out; simp at h; omega)
                obtain ⟨hB3, hO3⟩ := hx3 w.heap.size HB6.out.size HOW.out
                have HBS := Lib.hid hb3
                have HAP := Lib.hid ha3
                have HC3 := Lib.hid hc3
                have HO3 := Lib.hid hO3
                have HB3 : Hid (Below w.heap.size w w3) := HB6.out.trans hB3
                clear hb3 ha3 hc3 hx3 hB3 hO3
                refine wp_region_hz (fun W => W.rangeAt b0 o0 (fiC x) ∧ W.rangeAt b1 o1 (fiC y)) (.tk 0 (.tk 1 (.tk 2 (.tk 3 (.tk 4 (.tk 5 (.tk 6 (.tk 7 (.fc 8 (.fc 9 (.tk 10 (.nil)))))))))))) (by kernel_rfl) (by kernel_rfl) (fun _ _ _ _ _ h => h) ?_
                refine goZ_tk rfl rfl 86 rfl u5 (fun _ => rfl) ?_; simp only [zT, zA, zB]
                refine goZ_tk rfl rfl 87 rfl (.slice (some ⟨b0, o0, none⟩) n0 c0) (fun _ => rfl) ?_; simp only [zT, zA, zB]
                refine goZ_tk rfl rfl 88 rfl (.pointer (some ⟨b0, o0, none⟩)) (fun _ => by go_simp) ?_; simp only [zT, zA, zB]
                refine goZ_ld rfl rfl 89 rfl 56 _ rfl ⟨b0, o0, none⟩ (.agg (fiC x).toArray) rfl (fun W hS => ld_file HOX.out hS.1) (hs0) ?_; simp only [zT, zA, zB]
                refine goZ_tk rfl rfl 90 rfl (.slice (some ⟨b1, o1, none⟩) n1 c1) (fun _ => rfl) ?_; simp only [zT, zA, zB]
                refine goZ_tk rfl rfl 91 rfl (.pointer (some ⟨b1, o1, none⟩)) (fun _ => by go_simp) ?_; simp only [zT, zA, zB]
                refine goZ_ld rfl rfl 92 rfl 56 _ rfl ⟨b1, o1, none⟩ (.agg (fiC y).toArray) rfl (fun W hS => ld_file HOY.out hS.2) (hs0) ?_; simp only [zT, zA, zB]
                refine goZ_tk rfl rfl 93 rfl (.agg (chC ⟨4, x, y⟩).toArray) (exec_build _ rfl (by simp [Act.eval]) (rb_ch HOX.out HOY.out 4)) ?_; simp only [zT, zA, zB]
                refine goZ_val (ds' := []) rfl rfl (by kernel_rfl) 94 rfl (.slice (some ⟨(w5.drewN 1).heap.size, 0, none⟩) 1 1) (W3) (exec_slice _ rfl (by simp [Act.eval]) HBS.out) (fun h => absurd rfl h) ?_; simp only [zT, zA, zB]
                refine goZ_val (ds' := []) rfl rfl (by kernel_rfl) 95 rfl v3 (w3) (exec_append1 _ _ _ _ rfl rfl rfl rfl HAP.out) (fun h => absurd rfl h) ?_; simp only [zT, zA, zB]
                refine goZ_tk rfl rfl 5 rfl v3 (fun _ => rfl) ?_; simp only [zT, zA, zB]
                refine goZ_end ?_
                go_upto_region 17 with fail
                refine goP_start ?_
                refine goP_mv rfl 98 rfl _ rfl (.slice (some ⟨b0, o0, none⟩) n0 c0) rfl ?_; simp only [zT, zA, zB]
                refine goP_tk rfl 99 rfl v0' (exec_lo fi_under _ _ rfl rfl rfl HSA.out _) ?_; simp only [zT, zA, zB]
                refine goP_as rfl 0 rfl _ rfl v0' rfl ?_
                simp only [List.setIfInBounds_toArray, List.set_cons_zero]
                refine goP_end ?_
                go_upto_region 19 with fail
                refine goP_start ?_
                refine goP_mv rfl 102 rfl _ rfl (.slice (some ⟨b1, o1, none⟩) n1 c1) rfl ?_; simp only [zT, zA, zB]
                refine goP_tk rfl 103 rfl v1' (exec_lo fi_under _ _ rfl rfl rfl HSB.out _) ?_; simp only [zT, zA, zB]
                refine goP_as rfl 1 rfl _ rfl v1' rfl ?_; simp only [zT, zA, zB]
                refine goP_end ?_
                go_wp2_with fail
                go_roundw
                case rel => exact ⟨a, b, _, HTA.out, HTB.out, HC3.out, HE.out, ln_step HLN.out (by simp; omega), HO3.out, HB3.out⟩
                case measure => have h1 := HTA.out.nV; have h2 := HNA.out; have h3 := HTB.out.nV; have h4 := HNB.out; simp only [nV] at *; simp at h2; simp at h4; omega
            · -- @dev{ CHG
              have HEQ : Hid (∀ W, (binOp .neq 43 (.agg (nums .u8 x.id)) (.agg (nums .u8 y.id))).run Tryz.prog W = .ok (.bool true) W) := fun W => by rw [id_neq HOX.out.id HOY.out.id, decide_eq_false hid]; rfl
              have HE : Hid (diffS A B = (L ++ [⟨3, x, y⟩]) ++ diffS a b) := by show _ = _; rw [HD.out, diffS, if_neg (by rw [HZ.out]; decide), if_neg (by rw [HZ.out]; decide), if_pos hid]; simp
              go_upto_region 12 with fail
              refine wp_region_hz (fun W => W.rangeAt b0 (o0 + 1) (nb x.id) ∧ W.rangeAt b1 (o1 + 1) (nb y.id)) (.tk 0 (.tk 1 (.tk 2 (.tk 3 (.tk 4 (.tk 5 (.tk 6 (.tk 7 (.tk 8 (.tk 9 (.nil))))))))))) (by kernel_rfl) (by kernel_rfl) (fun _ _ _ _ _ h => h) ?_
              refine goZ_tk rfl rfl 56 rfl (.slice (some ⟨b0, o0, none⟩) n0 c0) (fun _ => rfl) ?_; simp only [zT, zA, zB]
              refine goZ_tk rfl rfl 57 rfl (.pointer (some ⟨b0, o0, none⟩)) (fun _ => by go_simp) ?_; simp only [zT, zA, zB]
              refine goZ_tk rfl rfl 58 rfl (.pointer (some ⟨b0, o0 + 1, none⟩)) (fun _ => rfl) ?_; simp only [zT, zA, zB]
              refine goZ_ld rfl rfl 59 rfl 43 _ rfl ⟨b0, o0 + 1, none⟩ (.agg (nums .u8 x.id)) rfl (fun W hS => ld_id HOX.out.id hS.1) (hs0) ?_; simp only [zT, zA, zB]
              refine goZ_tk rfl rfl 60 rfl (.slice (some ⟨b1, o1, none⟩) n1 c1) (fun _ => rfl) ?_; simp only [zT, zA, zB]
              refine goZ_tk rfl rfl 61 rfl (.pointer (some ⟨b1, o1, none⟩)) (fun _ => by go_simp) ?_; simp only [zT, zA, zB]
              refine goZ_tk rfl rfl 62 rfl (.pointer (some ⟨b1, o1 + 1, none⟩)) (fun _ => rfl) ?_; simp only [zT, zA, zB]
              refine goZ_ld rfl rfl 63 rfl 43 _ rfl ⟨b1, o1 + 1, none⟩ (.agg (nums .u8 y.id)) rfl (fun W hS => ld_id HOY.out.id hS.2) (hs0) ?_; simp only [zT, zA, zB]
              refine goZ_tk rfl rfl 64 rfl (.bool true) (exec_bin _ _ rfl rfl rfl (fun _ => by first | rfl | go_simp) HEQ.out) ?_; simp only [zT, zA, zB]
              refine goZ_tk rfl rfl 55 rfl (.bool true) (fun _ => rfl) ?_; simp only [zT, zA, zB]
              refine goZ_end ?_
              go_upto_region 13 with fail
              clear hs0
              generalize w2.drewN 1 = w4 at *
              have HB5 : Hid (Below w.heap.size w (w4.drewN 1)) := HB4.out.trans (below_dN (Below.refl _ w4) 1)
              have HCR5 : Hid (CR (w4.drewN 1) u5 L) := HCR4.out.below (below_dN (Below.refl _ w4) 1)
              have hs0 : (w4.drewN 1).rangeAt b0 o0 (fiC x) ∧ (w4.drewN 1).rangeAt b1 o1 (fiC y) := ⟨HRA.out _ HB5.out, HRB'.out _ HB5.out⟩
              obtain ⟨W3, v3, w3, hb3, ha3, hc3, hx3⟩ := HCR5.out.step (c := ⟨3, x, y⟩) ⟨HOX.out, HOY.out⟩ (by have h := HLN.out; simp at h; omega)
              obtain ⟨hB3, hO3⟩ := hx3 w.heap.size HB5.out.size HOW.out
              have HBS := Lib.hid hb3
              have HAP := Lib.hid ha3
              have HC3 := Lib.hid hc3
              have HO3 := Lib.hid hO3
              have HB3 : Hid (Below w.heap.size w w3) := HB5.out.trans hB3
              clear hb3 ha3 hc3 hx3 hB3 hO3
              refine wp_region_hz (fun W => W.rangeAt b0 o0 (fiC x) ∧ W.rangeAt b1 o1 (fiC y)) (.tk 0 (.tk 1 (.tk 2 (.tk 3 (.tk 4 (.tk 5 (.tk 6 (.tk 7 (.fc 8 (.fc 9 (.tk 10 (.nil)))))))))))) (by kernel_rfl) (by kernel_rfl) (fun _ _ _ _ _ h => h) ?_
              refine goZ_tk rfl rfl 65 rfl u5 (fun _ => rfl) ?_; simp only [zT, zA, zB]
              refine goZ_tk rfl rfl 66 rfl (.slice (some ⟨b0, o0, none⟩) n0 c0) (fun _ => rfl) ?_; simp only [zT, zA, zB]
              refine goZ_tk rfl rfl 67 rfl (.pointer (some ⟨b0, o0, none⟩)) (fun _ => by go_simp) ?_; simp only [zT, zA, zB]
              refine goZ_ld rfl rfl 68 rfl 56 _ rfl ⟨b0, o0, none⟩ (.agg (fiC x).toArray) rfl (fun W hS => ld_file HOX.out hS.1) (hs0) ?_; simp only [zT, zA, zB]
              refine goZ_tk rfl rfl 69 rfl (.slice (some ⟨b1, o1, none⟩) n1 c1) (fun _ => rfl) ?_; simp only [zT, zA, zB]
              refine goZ_tk rfl rfl 70 rfl (.pointer (some ⟨b1, o1, none⟩)) (fun _ => by go_simp) ?_; simp only [zT, zA, zB]
              refine goZ_ld rfl rfl 71 rfl 56 _ rfl ⟨b1, o1, none⟩ (.agg (fiC y).toArray) rfl (fun W hS => ld_file HOY.out hS.2) (hs0) ?_; simp only [zT, zA, zB]
              refine goZ_tk rfl rfl 72 rfl (.agg (chC ⟨3, x, y⟩).toArray) (exec_build _ rfl (by simp [Act.eval]) (rb_ch HOX.out HOY.out 3)) ?_; simp only [zT, zA, zB]
              refine goZ_val (ds' := []) rfl rfl (by kernel_rfl) 73 rfl (.slice (some ⟨(w4.drewN 1).heap.size, 0, none⟩) 1 1) (W3) (exec_slice _ rfl (by simp [Act.eval]) HBS.out) (fun h => absurd rfl h) ?_; simp only [zT, zA, zB]
              refine goZ_val (ds' := []) rfl rfl (by kernel_rfl) 74 rfl v3 (w3) (exec_append1 _ _ _ _ rfl rfl rfl rfl HAP.out) (fun h => absurd rfl h) ?_; simp only [zT, zA, zB]
              refine goZ_tk rfl rfl 5 rfl v3 (fun _ => rfl) ?_; simp only [zT, zA, zB]
              refine goZ_end ?_
              go_upto_region 17 with fail
              refine goP_start ?_
              refine goP_mv rfl 98 rfl _ rfl (.slice (some ⟨b0, o0, none⟩) n0 c0) rfl ?_; simp only [zT, zA, zB]
              refine goP_tk rfl 99 rfl v0' (exec_lo fi_under _ _ rfl rfl rfl HSA.out _) ?_; simp only [zT, zA, zB]
              refine goP_as rfl 0 rfl _ rfl v0' rfl ?_
              simp only [List.setIfInBounds_toArray, List.set_cons_zero]
              refine goP_end ?_
              go_upto_region 19 with fail
              refine goP_start ?_
              refine goP_mv rfl 102 rfl _ rfl (.slice (some ⟨b1, o1, none⟩) n1 c1) rfl ?_; simp only [zT, zA, zB]
              refine goP_tk rfl 103 rfl v1' (exec_lo fi_under _ _ rfl rfl rfl HSB.out _) ?_; simp only [zT, zA, zB]
              refine goP_as rfl 1 rfl _ rfl v1' rfl ?_; simp only [zT, zA, zB]
              refine goP_end ?_
              go_wp2_with fail
              go_roundw
              case rel => exact ⟨a, b, _, HTA.out, HTB.out, HC3.out, HE.out, ln_step HLN.out (by simp; omega), HO3.out, HB3.out⟩
              case measure => have h1 := HTA.out.nV; have h2 := HNA.out; have h3 := HTB.out.nV; have h4 := HNB.out; simp only [nV] at *; simp at h2; simp at h4; omega
end Go.Proofs.YtpcipdkoncmdcaaGreatDoor
