/- Texts of mine, joined: Walks over the document's answer: Append, Cut. -/
import Derived.Deep.RegionHeld3
import Derived.Test.YtfoamcobpfflbaaDoorZ42
namespace Go.Proofs.YtfoamcobpfflbaaDoor
open Go Go.RowKit
open VfsS (File Chg Nm St find doL)

section
variable {E E' : Nat → Prop} {w w' : World} {S : St} {N : Nat} {cs : Array Value}

theorem rused_r (h : RR E w cs S N) : Calls Tryd.prog 70 #[.agg cs] w fun e w' => e = .returned (.int .i64 (VfsS.used S : Nat)) ∧ Below w.heap.size w w' := by
  obtain ⟨fa, na, sa, aa, fc, nc, sc, ac, rfl, hx⟩ := h
  exact rused_c (w := w) (S := S) (sa := sa) (aa := aa) (sn := S.sure.length) (sc := sc) (an := S.acts.length) (ac := ac) hx.f hx.n hx.wf (by have := hx.ln; have := hx.big; omega) S.room S.steps S.limit

set_option maxRecDepth 100000 in
set_option maxHeartbeats 2000000 in
theorem rappend_r (h : RR E w cs S N) (s b : ByteArray) (hbs : b.size ≤ 10000000) (hN : N + 1 ≤ 40000000) :
    Calls Tryd.prog 28 #[.agg cs, .string s, .string b] w fun e w' => ∃ cs', e = .returned (.tuple #[.agg cs', .int .i64 (VfsS.appendS S s b).2]) ∧ RR (Ku E w.heap.size) w' cs' (VfsS.appendS S s b).1 (N + 1) ∧ Below w.heap.size w w' := by
  have h0 := h
  obtain ⟨fa, na, sa, aa, fc, nc, sc, ac, rfl, hx⟩ := h
  have hone := h0.one
  have hT : TB w ((w.alloc (.cells #[.slice fa S.files.length fc, .slice na S.now.length nc, .slice sa S.sure.length sc, .slice aa S.acts.length ac, .int .i64 S.room, .int .i64 S.steps, .int .i64 S.limit] 36)).alloc (.cells #[.slice none 0 0, .slice none 0 0, .slice none 0 0, .slice none 0 0, .int .i64 0, .int .i64 0, .int .i64 0] 36)) w.heap.size (w.heap.size + 1) (rcells S fa na sa aa fc nc sc ac) fs0 := TB.start w _ _
  show Calls _ _ #[.agg #[.slice fa S.files.length fc, .slice na S.now.length nc, .slice sa S.sure.length sc, .slice aa S.acts.length ac, .int .i64 S.room, .int .i64 S.steps, .int .i64 S.limit], .string s, .string b] _ _
  have HFF := rfind_c (w := (w.alloc (.cells #[.slice fa S.files.length fc, .slice na S.now.length nc, .slice sa S.sure.length sc, .slice aa S.acts.length ac, .int .i64 S.room, .int .i64 S.steps, .int .i64 S.limit] 36)).alloc (.cells #[.slice none 0 0, .slice none 0 0, .slice none 0 0, .slice none 0 0, .int .i64 0, .int .i64 0, .int .i64 0] 36)) (hx.n.below hT.below) (by have := hx.ln; have := hx.big; omega) s
  go_enter Tryd.func28, Tryd.ntmps28
  go_upto_region 1 with fail
  generalize (w.alloc (.cells #[.slice fa S.files.length fc, .slice na S.now.length nc, .slice sa S.sure.length sc, .slice aa S.acts.length ac, .int .i64 S.room, .int .i64 S.steps, .int .i64 S.limit] 36)).alloc (.cells #[.slice none 0 0, .slice none 0 0, .slice none 0 0, .slice none 0 0, .int .i64 0, .int .i64 0, .int .i64 0] 36) = W at *
  have hrW := h0.below hT.below
  have c1 : W.cell? ⟨w.heap.size, 1, none⟩ = some (.slice na S.now.length nc) := hT.c 1 rfl
  have hwf := hx.wf
  have hul := used_le hwf hx.ln
  have hbig := hx.big
  clear hx
  cases hf : find S.now s with
  | none =>
    have HS : Hid (VfsS.appendS S s b = (S, 4)) := by show _ = _; unfold VfsS.appendS; rw [hf]
    rw [hf] at HFF
    have HF : Calls Tryd.prog 59 #[.slice na S.now.length nc, .string s] W fun e w' => e = .returned (.int .i64 (-1)) ∧ w' = W := HFF
    clear hf HFF
    go_wp2_with (first | (go_at_call 59; refine HF.mono ?_; rintro e w' ⟨rfl, rfl⟩) | (refine wp_load0 hT rfl _ rfl rfl rfl ?_) | (refine wp_store1 hT rfl _ _ rfl rfl rfl rfl rfl hone ?_; intro w4 hT4 hg4; have hr4 := hrW.in1 hT hg4))
    (try simp only [Exit.inBlock, Exit.then])
    refine bodyPost_ret (hT4.ret2 rfl rfl _ rfl) rfl ?_
    rw [HS.out]
    exact ⟨_, rfl, (hr4.up _).mono (by omega) hN, hT4.below⟩
  | some i =>
    have hil := find_lt hwf hf
    have hug := used_ge hf
    rw [hf] at HFF
    have HF : Calls Tryd.prog 59 #[.slice na S.now.length nc, .string s] W fun e w' => e = .returned (.int .i64 (i : Int)) ∧ w' = W := HFF
    have hd : decide ((i : Int) < 0) = false := decide_eq_false (by omega)
    have HU := Lib.hid (fun q => rused_r (hrW.below (below_dN (Below.refl _ W) q)))
    have d0 : W.cell? ⟨w.heap.size, 0, none⟩ = some (.slice fa S.files.length fc) := hT.c 0 rfl
    have d2 : W.cell? ⟨w.heap.size, 2, none⟩ = some (.slice sa S.sure.length sc) := hT.c 2 rfl
    have d3 : W.cell? ⟨w.heap.size, 3, none⟩ = some (.slice aa S.acts.length ac) := hT.c 3 rfl
    have d4 : W.cell? ⟨w.heap.size, 4, none⟩ = some (.int .i64 S.room) := hT.c 4 rfl
    have d5 : W.cell? ⟨w.heap.size, 5, none⟩ = some (.int .i64 S.steps) := hT.c 5 rfl
    have d6 : W.cell? ⟨w.heap.size, 6, none⟩ = some (.int .i64 S.limit) := hT.c 6 rfl
    have hroom := hwf.room
    have hwr : IntKind.i64.wrap ((S.room : Int) - (VfsS.used S : Nat)) = (S.room : Int) - (VfsS.used S : Nat) := IntWalk.i64_in _ (by omega)
    have HFI := Lib.hid hf
    clear hf HFF
    go_upto_region 4 with (first | (go_at_call 59; refine HF.mono ?_; rintro e w' ⟨rfl, rfl⟩))
    go_region_held3 (fun w' => w'.cell? ⟨w.heap.size, 0, none⟩ = some (.slice fa S.files.length fc) ∧ w'.cell? ⟨w.heap.size, 1, none⟩ = some (.slice na S.now.length nc) ∧ w'.cell? ⟨w.heap.size, 2, none⟩ = some (.slice sa S.sure.length sc) ∧ w'.cell? ⟨w.heap.size, 3, none⟩ = some (.slice aa S.acts.length ac) ∧ w'.cell? ⟨w.heap.size, 4, none⟩ = some (.int .i64 S.room) ∧ w'.cell? ⟨w.heap.size, 5, none⟩ = some (.int .i64 S.steps) ∧ w'.cell? ⟨w.heap.size, 6, none⟩ = some (.int .i64 S.limit))
      (first | exact ⟨e0, e1, e2, e3, e4, e5, e6⟩ | exact ⟨d0, c1, d2, d3, d4, d5, d6⟩ | go_keep)
      (first | (go_at_call 70; refine (HU.out 1).mono ?_; rintro e wu ⟨rfl, hbu⟩; have hTu := (hT.drewN 1).to hbu; have e0 : wu.cell? ⟨w.heap.size, 0, none⟩ = some (.slice fa S.files.length fc) := hTu.c 0 rfl; have e1 : wu.cell? ⟨w.heap.size, 1, none⟩ = some (.slice na S.now.length nc) := hTu.c 1 rfl; have e2 : wu.cell? ⟨w.heap.size, 2, none⟩ = some (.slice sa S.sure.length sc) := hTu.c 2 rfl; have e3 : wu.cell? ⟨w.heap.size, 3, none⟩ = some (.slice aa S.acts.length ac) := hTu.c 3 rfl; have e4 : wu.cell? ⟨w.heap.size, 4, none⟩ = some (.int .i64 S.room) := hTu.c 4 rfl; have e5 : wu.cell? ⟨w.heap.size, 5, none⟩ = some (.int .i64 S.steps) := hTu.c 5 rfl; have e6 : wu.cell? ⟨w.heap.size, 6, none⟩ = some (.int .i64 S.limit) := hTu.c 6 rfl))
    have hru := (hrW.below (below_dN (Below.refl _ _) 1)).below hbu
    have HSTEP := rstep_r hru (by omega)
    clear d0 c1 d2 d3 d4 d5 d6 HU e0 e1 e2 e3 e4 e5 e6
    by_cases hfit : (S.room : Int) - VfsS.used S < b.size
    · have HS : Hid (VfsS.appendS S s b = (S, 3)) := by show _ = _; unfold VfsS.appendS; rw [HFI.out]; simp only; rw [if_pos hfit]
      have hd2 : decide ((b.size : Int) > (S.room : Int) - (VfsS.used S : Nat)) = true := decide_eq_true (by omega)
      clear HSTEP
      go_wp2_with (first | (refine wp_load0 hT2 rfl _ rfl rfl hs1 ?_) | (refine wp_load0 hTu rfl _ rfl rfl rfl ?_) | (refine wp_load0 hT rfl _ rfl rfl rfl ?_) | (refine wp_store1 hTu rfl _ _ rfl rfl rfl rfl rfl hone ?_; intro w4 hT4 hg4; have hr4 := hru.in1 hTu hg4))
      (try simp only [Exit.inBlock, Exit.then])
      refine bodyPost_ret (hT4.ret2 rfl rfl _ rfl) rfl ?_
      rw [HS.out]
      exact ⟨_, rfl, (hr4.up _).mono (by omega) hN, hT4.below⟩
    have hd2 : decide ((b.size : Int) > (S.room : Int) - (VfsS.used S : Nat)) = false := decide_eq_false (by omega)
    by_cases hl : S.limit = 0
    · have HS : Hid (VfsS.appendS S s b = (S, 190)) := by show _ = _; unfold VfsS.appendS; rw [HFI.out]; simp only; rw [if_neg hfit, if_pos hl]
      have HT : Hid (VfsS.stepS S = S) := by show _ = _; unfold VfsS.stepS; rw [if_pos hl]
      rw [limB hl] at HSTEP
      clear hl
      go_wp2_with (first | (go_at_call 60; refine HSTEP.mono ?_; rintro e w1 ⟨cs1, rfl, hr1, hb1⟩; have hT1 := hTu.to hb1; have hs1 := hr1.size; have ho1 := hr1.one) | (refine wp_store0 hT1 rfl _ _ rfl rfl rfl rfl hs1 ho1 ?_; intro w2 hT2 hg2; have hr2 := hr1.in0 hT1 hg2) | (refine wp_load0 hT2 rfl _ rfl rfl hs1 ?_) | (refine wp_load0 hTu rfl _ rfl rfl rfl ?_) | (refine wp_load0 hT rfl _ rfl rfl rfl ?_) | (refine wp_store1 hT2 rfl _ _ rfl rfl rfl rfl hs1 ho1 ?_; intro w4 hT4 hg4; have hr4 := hr2.in1 hT2 hg4))
      (try simp only [Exit.inBlock, Exit.then])
      refine bodyPost_ret (hT4.ret2 hs1 rfl _ rfl) rfl ?_
      rw [HS.out]
      rw [HT.out] at hr4
      exact ⟨_, rfl, (hr4.up _), hT4.below⟩
    · have HS : Hid (VfsS.appendS S s b = (VfsS.putS (VfsS.stepS S) i ⟨(VfsS.fl S i).text ++ b, (VfsS.fl S i).dur⟩, 0)) := by show _ = _; unfold VfsS.appendS; rw [HFI.out]; simp only; rw [if_neg hfit, if_neg hl]
      have HFL := Lib.hid (VfsS.fl_step S i)
      have hit : i < (VfsS.stepS S).files.length := by rw [VfsS.stepS_files]; exact hil
      rw [limA hl] at HSTEP
      clear hl
      go_wp2_with (first | (go_at_call 60; refine HSTEP.mono ?_; rintro e w1 ⟨cs1, rfl, hr1, hb1⟩; have hT1 := hTu.to hb1; have hs1 := hr1.size; have ho1 := hr1.one) | (refine wp_store0 hT1 rfl _ _ rfl rfl rfl rfl hs1 ho1 ?_; intro w2 hT2 hg2; have hr2 := hr1.in0 hT1 hg2) | (refine wp_load0 hT2 rfl _ rfl rfl hs1 ?_) | (refine wp_load0 hTu rfl _ rfl rfl rfl ?_) | (refine wp_load0 hT rfl _ rfl rfl rfl ?_))
      have hrx := hr2
      have hlt := fl_mem hr2.wf hit
      have hbd : (VfsS.fl S i).text.size + b.size ≤ 4194304 := by omega
      clear hug hul hfit hwr
      generalize VfsS.stepS S = T at *
      obtain ⟨fa1, na1, sa1, aa1, fc1, nc1, sc1, ac1, e1, hx1⟩ := hrx
      subst e1
      obtain ⟨fb, fo, rfl, q0, q1⟩ := hx1.file i hit
      rw [HFL.out] at hlt q0 q1
      have d0 : w2.cell? ⟨w.heap.size, 0, none⟩ = some (.slice (some ⟨fb, fo, none⟩) T.files.length fc1) := hT2.c 0 rfl
      have d1 : w2.cell? ⟨w.heap.size, 1, none⟩ = some (.slice na1 T.now.length nc1) := hT2.c 1 rfl
      have d2 : w2.cell? ⟨w.heap.size, 2, none⟩ = some (.slice sa1 T.sure.length sc1) := hT2.c 2 rfl
      have d3 : w2.cell? ⟨w.heap.size, 3, none⟩ = some (.slice aa1 T.acts.length ac1) := hT2.c 3 rfl
      have d4 : w2.cell? ⟨w.heap.size, 4, none⟩ = some (.int .i64 T.room) := hT2.c 4 rfl
      have d5 : w2.cell? ⟨w.heap.size, 5, none⟩ = some (.int .i64 T.steps) := hT2.c 5 rfl
      have d6 : w2.cell? ⟨w.heap.size, 6, none⟩ = some (.int .i64 T.limit) := hT2.c 6 rfl
      generalize (VfsS.fl S i).text = tx at *
      generalize (VfsS.fl S i).dur = du at *
      have b1 : (0 : Int) ≤ (i : Int) := by omega
      have b2 : (i : Int) < T.files.length := by omega
      have HP := fun q => rput_r (hr2.below (below_dN (Below.refl _ w2) q)) i hit ⟨tx ++ b, du⟩ ⟨by show du ≤ (tx ++ b).size; rw [ByteArray.size_append]; omega, by show (tx ++ b).size ≤ _; rw [ByteArray.size_append]; exact hbd⟩
      have HP := Lib.hid HP
      have hnc : ¬ 9223372036854775807 < tx.size + b.size := by omega
      refine wp_region_quiet_tail 17 (by kernel_rfl) (by kernel_rfl) ?_
      simp only [List.take_succ_cons, List.take_zero, List.drop_succ_cons, List.drop_zero]
      iterate 17 quiet_step (fail)
      refine wpQuiet_nil ?_
      rintro _ ⟨nq, rfl⟩
      have hT2' := hT2.drewN nq
      go_wp2_with (first | (go_at_call 68; refine (HP.out nq).mono ?_; rintro e w3 ⟨cs3, rfl, hr3, hb3⟩; have hT3 := hT2'.to hb3; have hs3 := hr3.size; have ho3 := hr3.one) | (refine wp_store1 hT3 rfl _ _ rfl rfl rfl rfl hs3 ho3 ?_; intro w4 hT4 hg4; have hr4 := hr3.in1 hT3 hg4))
      (try simp only [Exit.inBlock, Exit.then])
      refine bodyPost_ret (hT4.ret2 hs3 rfl _ rfl) rfl ?_
      rw [HS.out]
      exact ⟨_, rfl, hr4.sub (fun k hk _ => hk.elim .inl (fun h => .inr (by have := hT2'.below.size; omega))), hT4.below⟩

set_option maxRecDepth 100000 in
set_option maxHeartbeats 2000000 in
theorem rcut_r (h : RR E w cs S N) (s : ByteArray) (n : Int) (hN : N + 1 ≤ 40000000) :
    Calls Tryd.prog 71 #[.agg cs, .string s, .int .i64 n] w fun e w' => ∃ cs', e = .returned (.tuple #[.agg cs', .int .i64 (VfsS.cutS S s n).2]) ∧ RR (Ku E w.heap.size) w' cs' (VfsS.cutS S s n).1 (N + 1) ∧ Below w.heap.size w w' := by
  have h0 := h
  obtain ⟨fa, na, sa, aa, fc, nc, sc, ac, rfl, hx⟩ := h
  have hone := h0.one
  have hT : TB w ((w.alloc (.cells #[.slice fa S.files.length fc, .slice na S.now.length nc, .slice sa S.sure.length sc, .slice aa S.acts.length ac, .int .i64 S.room, .int .i64 S.steps, .int .i64 S.limit] 36)).alloc (.cells #[.slice none 0 0, .slice none 0 0, .slice none 0 0, .slice none 0 0, .int .i64 0, .int .i64 0, .int .i64 0] 36)) w.heap.size (w.heap.size + 1) (rcells S fa na sa aa fc nc sc ac) fs0 := TB.start w _ _
  show Calls _ _ #[.agg #[.slice fa S.files.length fc, .slice na S.now.length nc, .slice sa S.sure.length sc, .slice aa S.acts.length ac, .int .i64 S.room, .int .i64 S.steps, .int .i64 S.limit], .string s, .int .i64 n] _ _
  have HFF := rfind_c (w := (w.alloc (.cells #[.slice fa S.files.length fc, .slice na S.now.length nc, .slice sa S.sure.length sc, .slice aa S.acts.length ac, .int .i64 S.room, .int .i64 S.steps, .int .i64 S.limit] 36)).alloc (.cells #[.slice none 0 0, .slice none 0 0, .slice none 0 0, .slice none 0 0, .int .i64 0, .int .i64 0, .int .i64 0] 36)) (hx.n.below hT.below) (by have := hx.ln; have := hx.big; omega) s
  go_enter Tryd.func71, Tryd.ntmps71
  go_upto_region 1 with fail
  generalize (w.alloc (.cells #[.slice fa S.files.length fc, .slice na S.now.length nc, .slice sa S.sure.length sc, .slice aa S.acts.length ac, .int .i64 S.room, .int .i64 S.steps, .int .i64 S.limit] 36)).alloc (.cells #[.slice none 0 0, .slice none 0 0, .slice none 0 0, .slice none 0 0, .int .i64 0, .int .i64 0, .int .i64 0] 36) = W at *
  have hrW := h0.below hT.below
  have hTu := hT
  have hru := hrW
  have c1 : W.cell? ⟨w.heap.size, 1, none⟩ = some (.slice na S.now.length nc) := hT.c 1 rfl
  have hwf := hx.wf
  have hxW := hx.below hT.below
  clear hx
  cases hf : find S.now s with
  | none =>
    have HS : Hid (VfsS.cutS S s n = (S, 4)) := by show _ = _; unfold VfsS.cutS; rw [hf]
    rw [hf] at HFF
    have HF : Calls Tryd.prog 59 #[.slice na S.now.length nc, .string s] W fun e w' => e = .returned (.int .i64 (-1)) ∧ w' = W := HFF
    clear hf HFF
    go_wp2_with (first | (go_at_call 59; refine HF.mono ?_; rintro e w' ⟨rfl, rfl⟩) | (refine wp_load0 hT rfl _ rfl rfl rfl ?_) | (refine wp_store1 hT rfl _ _ rfl rfl rfl rfl rfl hone ?_; intro w4 hT4 hg4; have hr4 := hrW.in1 hT hg4))
    (try simp only [Exit.inBlock, Exit.then])
    refine bodyPost_ret (hT4.ret2 rfl rfl _ rfl) rfl ?_
    rw [HS.out]
    exact ⟨_, rfl, (hr4.up _).mono (by omega) hN, hT4.below⟩
  | some i =>
    have hil := find_lt hwf hf
    rw [hf] at HFF
    have HF : Calls Tryd.prog 59 #[.slice na S.now.length nc, .string s] W fun e w' => e = .returned (.int .i64 (i : Int)) ∧ w' = W := HFF
    have hd : decide ((i : Int) < 0) = false := decide_eq_false (by omega)
    have d0 : W.cell? ⟨w.heap.size, 0, none⟩ = some (.slice fa S.files.length fc) := hT.c 0 rfl
    obtain ⟨fb, fo, rfl, q0, -⟩ := hxW.file i hil
    have HSTEP := rstep_r hru (by omega)
    have b1 : (0 : Int) ≤ (i : Int) := by omega
    have b2 : (i : Int) < S.files.length := by omega
    have hlt0 := fl_mem hwf hil
    by_cases hout : n < 0 ∨ ((VfsS.fl S i).text.size : Int) < n
    · have HS : Hid (VfsS.cutS S s n = (S, 1)) := by show _ = _; unfold VfsS.cutS; rw [hf]; simp only; rw [if_pos hout]
      generalize (VfsS.fl S i).text = tx at *
      clear hf HFF HSTEP
      by_cases hn : n < 0
      · have hd2 : decide (n < 0) = true := decide_eq_true hn
        clear hout
        go_wp2_with (first | (go_at_call 59; refine HF.mono ?_; rintro e w' ⟨rfl, rfl⟩) | (refine wp_load0 hT2 rfl _ rfl rfl hs1 ?_) | (refine wp_load0 hTu rfl _ rfl rfl rfl ?_) | (refine wp_load0 hT rfl _ rfl rfl rfl ?_) | (refine wp_store1 hT rfl _ _ rfl rfl rfl rfl rfl hone ?_; intro w4 hT4 hg4; have hr4 := hrW.in1 hT hg4))
        (try simp only [Exit.inBlock, Exit.then])
        refine bodyPost_ret (hT4.ret2 rfl rfl _ rfl) rfl ?_
        rw [HS.out]
        exact ⟨_, rfl, (hr4.up _).mono (by omega) hN, hT4.below⟩
      · have hd2 : decide (n < 0) = false := decide_eq_false hn
        have hd3 : decide (n > (tx.size : Int)) = true := decide_eq_true (by omega)
        clear hout
        go_wp2_with (first | (go_at_call 59; refine HF.mono ?_; rintro e w' ⟨rfl, rfl⟩) | (refine wp_load0 hT2 rfl _ rfl rfl hs1 ?_) | (refine wp_load0 hTu rfl _ rfl rfl rfl ?_) | (refine wp_load0 hT rfl _ rfl rfl rfl ?_) | (refine wp_store1 hT rfl _ _ rfl rfl rfl rfl rfl hone ?_; intro w4 hT4 hg4; have hr4 := hrW.in1 hT hg4))
        (try simp only [Exit.inBlock, Exit.then])
        refine bodyPost_ret (hT4.ret2 rfl rfl _ rfl) rfl ?_
        rw [HS.out]
        exact ⟨_, rfl, (hr4.up _).mono (by omega) hN, hT4.below⟩
    obtain ⟨m, rfl⟩ : ∃ m : Nat, n = m := ⟨n.toNat, by omega⟩
    have hd2 : decide ((m : Int) < 0) = false := decide_eq_false (by omega)
    have hd3 : decide ((m : Int) > ((VfsS.fl S i).text.size : Int)) = false := decide_eq_false (by omega)
    have hm : m ≤ (VfsS.fl S i).text.size := by omega
    by_cases hl : S.limit = 0
    · have HS : Hid (VfsS.cutS S s m = (S, 190)) := by show _ = _; unfold VfsS.cutS; rw [hf]; simp only; rw [if_neg hout, if_pos hl]
      have HT : Hid (VfsS.stepS S = S) := by show _ = _; unfold VfsS.stepS; rw [if_pos hl]
      rw [limB hl] at HSTEP
      generalize (VfsS.fl S i).text = tx at *
      clear hf HFF hl hout
      go_wp2_with (first | (go_at_call 59; refine HF.mono ?_; rintro e w' ⟨rfl, rfl⟩) | (go_at_call 60; refine HSTEP.mono ?_; rintro e w1 ⟨cs1, rfl, hr1, hb1⟩; have hT1 := hTu.to hb1; have hs1 := hr1.size; have ho1 := hr1.one) | (refine wp_store0 hT1 rfl _ _ rfl rfl rfl rfl hs1 ho1 ?_; intro w2 hT2 hg2; have hr2 := hr1.in0 hT1 hg2) | (refine wp_load0 hT2 rfl _ rfl rfl hs1 ?_) | (refine wp_load0 hTu rfl _ rfl rfl rfl ?_) | (refine wp_load0 hT rfl _ rfl rfl rfl ?_) | (refine wp_store1 hT2 rfl _ _ rfl rfl rfl rfl hs1 ho1 ?_; intro w4 hT4 hg4; have hr4 := hr2.in1 hT2 hg4))
      (try simp only [Exit.inBlock, Exit.then])
      refine bodyPost_ret (hT4.ret2 hs1 rfl _ rfl) rfl ?_
      rw [HS.out]
      rw [HT.out] at hr4
      exact ⟨_, rfl, (hr4.up _), hT4.below⟩
    · have HS : Hid (VfsS.cutS S s m = (VfsS.putS (VfsS.stepS S) i ⟨(VfsS.fl S i).text.extract 0 m, m⟩, 0)) := by show _ = _; unfold VfsS.cutS; rw [hf]; simp only; rw [if_neg hout, if_neg hl]; rfl
      have HFL := Lib.hid (VfsS.fl_step S i)
      have hit : i < (VfsS.stepS S).files.length := by rw [VfsS.stepS_files]; exact hil
      rw [limA hl] at HSTEP
      have hlt := hlt0
      generalize htx : (VfsS.fl S i).text = tx at *
      have HTX := Lib.hid htx
      clear htx
      clear hf HFF hl hout
      go_wp2_with (first | (go_at_call 59; refine HF.mono ?_; rintro e w' ⟨rfl, rfl⟩) | (go_at_call 60; refine HSTEP.mono ?_; rintro e w1 ⟨cs1, rfl, hr1, hb1⟩; have hT1 := hTu.to hb1; have hs1 := hr1.size; have ho1 := hr1.one) | (refine wp_store0 hT1 rfl _ _ rfl rfl rfl rfl hs1 ho1 ?_; intro w2 hT2 hg2; have hr2 := hr1.in0 hT1 hg2) | (refine wp_load0 hT2 rfl _ rfl rfl hs1 ?_) | (refine wp_load0 hTu rfl _ rfl rfl rfl ?_) | (refine wp_load0 hT rfl _ rfl rfl rfl ?_))
      have hrx := hr2
      clear d0 q0 c1
      generalize VfsS.stepS S = T at *
      obtain ⟨fa1, na1, sa1, aa1, fc1, nc1, sc1, ac1, e1, hx1⟩ := hrx
      subst e1
      obtain ⟨fb1, fo1, rfl, q0, q1⟩ := hx1.file i hit
      rw [HFL.out, HTX.out] at q0
      have d0 : w2.cell? ⟨w.heap.size, 0, none⟩ = some (.slice (some ⟨fb1, fo1, none⟩) T.files.length fc1) := hT2.c 0 rfl
      have d1 : w2.cell? ⟨w.heap.size, 1, none⟩ = some (.slice na1 T.now.length nc1) := hT2.c 1 rfl
      have d2 : w2.cell? ⟨w.heap.size, 2, none⟩ = some (.slice sa1 T.sure.length sc1) := hT2.c 2 rfl
      have d3 : w2.cell? ⟨w.heap.size, 3, none⟩ = some (.slice aa1 T.acts.length ac1) := hT2.c 3 rfl
      have d4 : w2.cell? ⟨w.heap.size, 4, none⟩ = some (.int .i64 T.room) := hT2.c 4 rfl
      have d5 : w2.cell? ⟨w.heap.size, 5, none⟩ = some (.int .i64 T.steps) := hT2.c 5 rfl
      have d6 : w2.cell? ⟨w.heap.size, 6, none⟩ = some (.int .i64 T.limit) := hT2.c 6 rfl
      have b3 : (i : Int) < T.files.length := by omega
      have hm0 : (0 : Int) ≤ (m : Int) := by omega
      have hm1 : (m : Int) ≤ tx.size := by omega
      have HP := fun q => rput_r (hr2.below (below_dN (Below.refl _ w2) q)) i hit ⟨tx.extract 0 m, m⟩ ⟨by show m ≤ (tx.extract 0 m).size; rw [ByteArray.size_extract]; omega, by show (tx.extract 0 m).size ≤ _; rw [ByteArray.size_extract]; omega⟩
      have HP := Lib.hid HP
      clear q1
      refine wp_region_quiet_tail 12 (by kernel_rfl) (by kernel_rfl) ?_
      simp only [List.take_succ_cons, List.take_zero, List.drop_succ_cons, List.drop_zero]
      iterate 12 quiet_step (fail)
      refine wpQuiet_nil ?_
      rintro _ ⟨nq, rfl⟩
      have hT2' := hT2.drewN nq
      go_wp2_with (first | (go_at_call 68; refine (HP.out nq).mono ?_; rintro e w3 ⟨cs3, rfl, hr3, hb3⟩; have hT3 := hT2'.to hb3; have hs3 := hr3.size; have ho3 := hr3.one) | (refine wp_store1 hT3 rfl _ _ rfl rfl rfl rfl hs3 ho3 ?_; intro w4 hT4 hg4; have hr4 := hr3.in1 hT3 hg4))
      (try simp only [Exit.inBlock, Exit.then])
      refine bodyPost_ret (hT4.ret2 hs3 rfl _ rfl) rfl ?_
      rw [HS.out]
      exact ⟨_, rfl, hr4.sub (fun k hk _ => hk.elim .inl (fun h => .inr (by have := hT2'.below.size; omega))), hT4.below⟩
end
end Go.Proofs.YtfoamcobpfflbaaDoor
