/- Texts of mine, joined: Walks over the document's answer: Sync, Rename. | Walks over the document's answer: names made durable; Flush. | Walks over the document's answer: Read, Flush. -/
import Derived.Deep.QuietTactic
import Derived.BigQuiet
import Derived.Test.YtfoamcobpfflbaaDoorZ41
namespace Go.Proofs.YtfoamcobpfflbaaDoor
open Go Go.RowKit
open VfsS (File Chg Nm St find doL)

section
variable {E E' : Nat → Prop} {w w' : World} {S : St} {N : Nat} {cs : Array Value}

theorem RX.file {fa na sa aa : Option Addr} {fc nc sc ac : Nat} (h : RX E w S N fa na sa aa fc nc sc ac) (i : Nat) (hi : i < S.files.length) :
    ∃ fb fo, fa = some ⟨fb, fo, none⟩ ∧ w.cell? ⟨fb, fo + i * 2, none⟩ = some (.string (VfsS.fl S i).text) ∧ w.cell? ⟨fb, fo + i * 2 + 1, none⟩ = some (.int .i64 ((VfsS.fl S i).dur : Int)) := by
  obtain ⟨fb, fo, rfl, -, fce⟩ := h.f.sl.at (k := i * 2) (by rw [flrow_len]; omega)
  obtain ⟨u0, u1⟩ := flrow_at S.files i hi
  have efl : VfsS.fl S i = S.files[i] := by unfold VfsS.fl; rw [List.getD_eq_getElem?_getD, List.getElem?_eq_getElem hi]; rfl
  rw [efl]
  refine ⟨fb, fo, rfl, ?_, ?_⟩
  · obtain ⟨h1, e⟩ := List.getElem?_eq_some_iff.1 u0
    rw [fce _ h1, e]
  · obtain ⟨h1, e⟩ := List.getElem?_eq_some_iff.1 u1
    rw [Nat.add_assoc, fce _ h1, e]

theorem find_lt (hw : VfsS.Wf S) {s : ByteArray} {i : Nat} (hf : find S.now s = some i) : i < S.files.length := hw.idx i (.inl ⟨s, VfsS.find_mem hf⟩)

theorem fl_mem (hw : VfsS.Wf S) {i : Nat} (hi : i < S.files.length) : (VfsS.fl S i).dur ≤ (VfsS.fl S i).text.size ∧ (VfsS.fl S i).text.size ≤ 4194304 := by
  have efl : VfsS.fl S i = S.files[i] := by unfold VfsS.fl; rw [List.getD_eq_getElem?_getD, List.getElem?_eq_getElem hi]; rfl
  rw [efl]; exact hw.dur _ (List.getElem_mem hi)

set_option maxRecDepth 100000 in
set_option maxHeartbeats 1000000 in
theorem rsync_r (h : RR E w cs S N) (s : ByteArray) (hN : N + 1 ≤ 40000000) :
    Calls Tryd.prog 24 #[.agg cs, .string s] w fun e w' => ∃ cs', e = .returned (.tuple #[.agg cs', .int .i64 (VfsS.syncS S s).2]) ∧ RR (Ku E w.heap.size) w' cs' (VfsS.syncS S s).1 (N + 1) ∧ Below w.heap.size w w' := by
  have h0 := h
  obtain ⟨fa, na, sa, aa, fc, nc, sc, ac, rfl, hx⟩ := h
  have hone := h0.one
  have hT : TB w ((w.alloc (.cells #[.slice fa S.files.length fc, .slice na S.now.length nc, .slice sa S.sure.length sc, .slice aa S.acts.length ac, .int .i64 S.room, .int .i64 S.steps, .int .i64 S.limit] 36)).alloc (.cells #[.slice none 0 0, .slice none 0 0, .slice none 0 0, .slice none 0 0, .int .i64 0, .int .i64 0, .int .i64 0] 36)) w.heap.size (w.heap.size + 1) (rcells S fa na sa aa fc nc sc ac) fs0 := TB.start w _ _
  show Calls _ _ #[.agg #[.slice fa S.files.length fc, .slice na S.now.length nc, .slice sa S.sure.length sc, .slice aa S.acts.length ac, .int .i64 S.room, .int .i64 S.steps, .int .i64 S.limit], .string s] _ _
  have HFF := rfind_c (w := (w.alloc (.cells #[.slice fa S.files.length fc, .slice na S.now.length nc, .slice sa S.sure.length sc, .slice aa S.acts.length ac, .int .i64 S.room, .int .i64 S.steps, .int .i64 S.limit] 36)).alloc (.cells #[.slice none 0 0, .slice none 0 0, .slice none 0 0, .slice none 0 0, .int .i64 0, .int .i64 0, .int .i64 0] 36)) (hx.n.below hT.below) (by have := hx.ln; have := hx.big; omega) s
  go_enter Tryd.func24, Tryd.ntmps24
  go_upto_region 1 with fail
  generalize (w.alloc (.cells #[.slice fa S.files.length fc, .slice na S.now.length nc, .slice sa S.sure.length sc, .slice aa S.acts.length ac, .int .i64 S.room, .int .i64 S.steps, .int .i64 S.limit] 36)).alloc (.cells #[.slice none 0 0, .slice none 0 0, .slice none 0 0, .slice none 0 0, .int .i64 0, .int .i64 0, .int .i64 0] 36) = W at *
  have hrW := h0.below hT.below
  have c1 : W.cell? ⟨w.heap.size, 1, none⟩ = some (.slice na S.now.length nc) := hT.c 1 rfl
  have hwf := hx.wf
  clear hx
  cases hf : find S.now s with
  | none =>
    have HS : Hid (VfsS.syncS S s = (S, 4)) := by show _ = _; unfold VfsS.syncS; rw [hf]
    rw [hf] at HFF
    have HF : Calls Tryd.prog 59 #[.slice na S.now.length nc, .string s] W fun e w' => e = .returned (.int .i64 (-1)) ∧ w' = W := HFF
    clear hf HFF
    go_wp2_with (first | (go_at_call 59; refine HF.mono ?_; rintro e w' ⟨rfl, rfl⟩) | (refine wp_load0 hT2 rfl _ rfl rfl hs1 ?_) | (refine wp_load0 hT rfl _ rfl rfl rfl ?_) | (refine wp_store1 hT rfl _ _ rfl rfl rfl rfl rfl hone ?_; intro w4 hT4 hg4; have hr4 := hrW.in1 hT hg4))
    (try simp only [Exit.inBlock, Exit.then])
    refine bodyPost_ret (hT4.ret2 rfl rfl _ rfl) rfl ?_
    rw [HS.out]
    exact ⟨_, rfl, (hr4.up _).mono (by omega) hN, hT4.below⟩
  | some i =>
    have hil := find_lt hwf hf
    rw [hf] at HFF
    have HF : Calls Tryd.prog 59 #[.slice na S.now.length nc, .string s] W fun e w' => e = .returned (.int .i64 (i : Int)) ∧ w' = W := HFF
    have hd : decide ((i : Int) < 0) = false := decide_eq_false (by omega)
    have HSTEP := rstep_r hrW (by omega)
    by_cases hl : S.limit = 0
    · have HS : Hid (VfsS.syncS S s = (S, 190)) := by show _ = _; unfold VfsS.syncS; rw [hf]; simp only; rw [if_pos hl]
      have HT : Hid (VfsS.stepS S = S) := by show _ = _; unfold VfsS.stepS; rw [if_pos hl]
      rw [limB hl] at HSTEP
      clear hf HFF hl
      go_wp2_with (first | (go_at_call 59; refine HF.mono ?_; rintro e w' ⟨rfl, rfl⟩) | (go_at_call 60; refine HSTEP.mono ?_; rintro e w1 ⟨cs1, rfl, hr1, hb1⟩; have hT1 := hT.to hb1; have hs1 := hr1.size; have ho1 := hr1.one) | (refine wp_store0 hT1 rfl _ _ rfl rfl rfl rfl hs1 ho1 ?_; intro w2 hT2 hg2; have hr2 := hr1.in0 hT1 hg2) | (refine wp_load0 hT2 rfl _ rfl rfl hs1 ?_) | (refine wp_load0 hT rfl _ rfl rfl rfl ?_) | (refine wp_store1 hT2 rfl _ _ rfl rfl rfl rfl hs1 ho1 ?_; intro w4 hT4 hg4; have hr4 := hr2.in1 hT2 hg4))
      (try simp only [Exit.inBlock, Exit.then])
      refine bodyPost_ret (hT4.ret2 hs1 rfl _ rfl) rfl ?_
      rw [HS.out]
      rw [HT.out] at hr4
      exact ⟨_, rfl, (hr4.up _), hT4.below⟩
    · have HS : Hid (VfsS.syncS S s = (VfsS.putS (VfsS.stepS S) i ⟨(VfsS.fl S i).text, (VfsS.fl S i).text.size⟩, 0)) := by show _ = _; unfold VfsS.syncS; rw [hf]; simp only; rw [if_neg hl]
      have HFL := Lib.hid (VfsS.fl_step S i)
      have hit : i < (VfsS.stepS S).files.length := by rw [VfsS.stepS_files]; exact hil
      rw [limA hl] at HSTEP
      clear hf HFF hl
      go_wp2_with (first | (go_at_call 59; refine HF.mono ?_; rintro e w' ⟨rfl, rfl⟩) | (go_at_call 60; refine HSTEP.mono ?_; rintro e w1 ⟨cs1, rfl, hr1, hb1⟩; have hT1 := hT.to hb1; have hs1 := hr1.size; have ho1 := hr1.one) | (refine wp_store0 hT1 rfl _ _ rfl rfl rfl rfl hs1 ho1 ?_; intro w2 hT2 hg2; have hr2 := hr1.in0 hT1 hg2) | (refine wp_load0 hT2 rfl _ rfl rfl hs1 ?_) | (refine wp_load0 hT rfl _ rfl rfl rfl ?_))
      have hrx := hr2
      have hlt := fl_mem hr2.wf hit
      generalize VfsS.stepS S = T at *
      obtain ⟨fa1, na1, sa1, aa1, fc1, nc1, sc1, ac1, e1, hx1⟩ := hrx
      subst e1
      obtain ⟨fb, fo, rfl, q0, q1⟩ := hx1.file i hit
      rw [HFL.out] at hlt q0
      have d0 : w2.cell? ⟨w.heap.size, 0, none⟩ = some (.slice (some ⟨fb, fo, none⟩) T.files.length fc1) := hT2.c 0 rfl
      have d1 : w2.cell? ⟨w.heap.size, 1, none⟩ = some (.slice na1 T.now.length nc1) := hT2.c 1 rfl
      have d2 : w2.cell? ⟨w.heap.size, 2, none⟩ = some (.slice sa1 T.sure.length sc1) := hT2.c 2 rfl
      have d3 : w2.cell? ⟨w.heap.size, 3, none⟩ = some (.slice aa1 T.acts.length ac1) := hT2.c 3 rfl
      have d4 : w2.cell? ⟨w.heap.size, 4, none⟩ = some (.int .i64 T.room) := hT2.c 4 rfl
      have d5 : w2.cell? ⟨w.heap.size, 5, none⟩ = some (.int .i64 T.steps) := hT2.c 5 rfl
      have d6 : w2.cell? ⟨w.heap.size, 6, none⟩ = some (.int .i64 T.limit) := hT2.c 6 rfl
      generalize (VfsS.fl S i).text = tx at *
      have b1 : (0 : Int) ≤ (i : Int) := by omega
      have b2 : (i : Int) < T.files.length := by omega
      have HP := fun q => rput_r (hr2.below (below_dN (Below.refl _ w2) q)) i hit ⟨tx, tx.size⟩ ⟨Nat.le_refl _, hlt.2⟩
      have HP := Lib.hid HP
      refine wp_region_quiet_tail 16 (by kernel_rfl) (by kernel_rfl) ?_
      simp only [List.take_succ_cons, List.take_zero, List.drop_succ_cons, List.drop_zero]
      iterate 16 quiet_step (fail)
      refine wpQuiet_nil ?_
      rintro _ ⟨nq, rfl⟩
      have hT2' := hT2.drewN nq
      go_wp2_with (first | (go_at_call 68; refine (HP.out nq).mono ?_; rintro e w3 ⟨cs3, rfl, hr3, hb3⟩; have hT3 := hT2'.to hb3; have hs3 := hr3.size; have ho3 := hr3.one) | (refine wp_store1 hT3 rfl _ _ rfl rfl rfl rfl hs3 ho3 ?_; intro w4 hT4 hg4; have hr4 := hr3.in1 hT3 hg4))
      (try simp only [Exit.inBlock, Exit.then])
      refine bodyPost_ret (hT4.ret2 hs3 rfl _ rfl) rfl ?_
      rw [HS.out]
      exact ⟨_, rfl, hr4.sub (fun k hk _ => hk.elim .inl (fun h => .inr (by have := hT2'.below.size; omega))), hT4.below⟩
end
end Go.Proofs.YtfoamcobpfflbaaDoor
namespace Go.Proofs.YtfoamcobpfflbaaDoor
open Go Go.RowKit
open VfsS (File Chg Nm St find doL)

theorem oneFS (S : St) (fa na sa aa : Option Addr) (fc nc sc ac : Nat) : (rcells S fa na sa aa fc nc sc ac).all (·.oneCell') = true := by simp [rcells, Value.oneCell']

/-- The names behind the first j changes. -/
def curS (S : St) (j : Nat) : Nm := (S.acts.take j).foldl doL S.sure
theorem curS_step (S : St) (j : Nat) (h : j < S.acts.length) : curS S (j + 1) = doL (curS S j) S.acts[j] := fold_take S.acts S.sure j h
theorem curS_len (S : St) : ∀ j, (curS S j).length ≤ S.sure.length + j
  | 0 => by unfold curS; rw [List.take_zero]; exact Nat.le_refl _
  | j + 1 => by
    by_cases h : j < S.acts.length
    · rw [curS_step S j h]
      have := doL_len (curS S j) S.acts[j]
      have := curS_len S j
      omega
    · have : curS S (j + 1) = curS S j := by unfold curS; rw [List.take_of_length_le (by omega), List.take_of_length_le (by omega)]
      rw [this]
      have := curS_len S j
      omega
/-- .. the state with those names. -/
def midS (S : St) (j : Nat) : St := { S with sure := curS S j }

section
variable {E E' : Nat → Prop} {w w' : World} {S : St} {N : Nat} {cs : Array Value}

set_option maxRecDepth 100000 in
set_option maxHeartbeats 1000000 in
theorem rflush_r (h : RR E w cs S N) (n : Nat) (hn : n ≤ S.acts.length) :
    Calls Tryd.prog 64 #[.agg cs, .int .i64 (n : Int)] w fun e w' => ∃ cs', e = .returned (.agg cs') ∧ RR (Ku E w.heap.size) w' cs' (VfsS.flushS S n) N ∧ Below w.heap.size w w' := by
  have h0 := h
  obtain ⟨fa, na, sa, aa, fc, nc, sc, ac, rfl, hx⟩ := h
  have hone := h0.one
  have hT : TB w ((w.alloc (.cells #[.slice fa S.files.length fc, .slice na S.now.length nc, .slice sa S.sure.length sc, .slice aa S.acts.length ac, .int .i64 S.room, .int .i64 S.steps, .int .i64 S.limit] 36)).alloc (.cells #[.slice none 0 0, .slice none 0 0, .slice none 0 0, .slice none 0 0, .int .i64 0, .int .i64 0, .int .i64 0] 36)) w.heap.size (w.heap.size + 1) (rcells S fa na sa aa fc nc sc ac) fs0 := TB.start w _ _
  show Calls _ _ #[.agg #[.slice fa S.files.length fc, .slice na S.now.length nc, .slice sa S.sure.length sc, .slice aa S.acts.length ac, .int .i64 S.room, .int .i64 S.steps, .int .i64 S.limit], .int .i64 (n : Int)] _ _
  go_enter Tryd.func64, Tryd.ntmps64
  go_upto_region 1 with fail
  generalize (w.alloc (.cells #[.slice fa S.files.length fc, .slice na S.now.length nc, .slice sa S.sure.length sc, .slice aa S.acts.length ac, .int .i64 S.room, .int .i64 S.steps, .int .i64 S.limit] 36)).alloc (.cells #[.slice none 0 0, .slice none 0 0, .slice none 0 0, .slice none 0 0, .int .i64 0, .int .i64 0, .int .i64 0] 36) = W at *
  have hs0 := hx.s.below hT.below
  have hal := hx.la
  have hbig := hx.big
  have hwf := hx.wf
  have HX := Lib.hid hx
  clear hx
  go_wp2_with fail
  go_loopw [5] (fun iv wx => ∃ (j : Nat) (ga : Option Addr) (gc : Nat), j ≤ n ∧ iv = .int .i64 j ∧ TB w wx w.heap.size (w.heap.size + 1) (rcells (midS S j) fa na ga aa fc nc gc ac) fs0 ∧
    OwnG wx 152 2 (.slice ga (curS S j).length gc) (curS S j).length (nrow (curS S j)) ∧ (∀ k, (Value.slice ga (curS S j).length gc).ownBlock = some k → E k ∨ w.heap.size ≤ k)) (fun iv _ => (n - intOf iv).toNat)
  case atStart => exact ⟨0, sa, sc, Nat.zero_le _, rfl, hT, hs0, fun k hk => .inl (HX.out.ks k hk)⟩
  case round =>
    clear hT hs0
    obtain ⟨j, ga, gc, hj, rfl, hT, ho, hk⟩ := hrel
    have hcl := curS_len S j
    by_cases hjn : j < n
    · have hd : decide ((j : Int) < (n : Int)) = true := decide_eq_true (by omega)
      have hjl : j < S.acts.length := by omega
      have HST := Lib.hid (curS_step S j hjl)
      obtain ⟨ab, ao, rfl, habl, hcel⟩ := (HX.out.a.below hT.below).sl.at (k := j * 3) (by rw [chrow_len]; omega)
      obtain ⟨r0, r1, r2⟩ := chrow_at S.acts j hjl
      have far : ∀ i u, (chrow S.acts)[i]? = some u → wr.cell? ⟨ab, ao + i, none⟩ = some u := fun i u hu => by
        obtain ⟨hi, rfl⟩ := List.getElem?_eq_some_iff.1 hu
        exact hcel i hi
      have q0 := far _ _ r0
      have q1 := far _ _ r1
      have q2 := far _ _ r2
      rw [← Nat.add_assoc] at q1 q2
      have hfj : ∀ i, S.acts[j].file = some i → i ≤ 100000000 := fun i hi => by
        have := hwf.idx i (.inr (.inr ⟨_, List.getElem_mem hjl, hi⟩))
        have := HX.out.lf; omega
      have k2 : wr.cell? ⟨w.heap.size, 2, none⟩ = some (.slice ga (curS S j).length gc) := hT.c 2 rfl
      have k3 : wr.cell? ⟨w.heap.size, 3, none⟩ = some (.slice (some ⟨ab, ao, none⟩) S.acts.length ac) := hT.c 3 rfl
      have b1 : (0 : Int) ≤ (j : Int) := by omega
      have b2 : (j : Int) < S.acts.length := by omega
      have hw : IntKind.i64.wrap ((j : Int) + 1) = (j : Int) + 1 := IntWalk.i64_in _ (by omega)
      generalize S.acts[j] = ch at *
      have HDO := Lib.hid (fun q => rdo_c (ho.drewN q) (by omega) ch hfj)
      clear r0 r1 r2 far hcel hfj
      go_wp2_with fail
      refine wp_region_dn [.blk [0, 1, 2, 3, 4, 5, 6], .frc [7, 8, 9]] (by kernel_rfl) (by kernel_rfl) (fun _ _ _ _ _ h => h) ?_
      refine goS_dn ?_
      simp only [opsAt, List.filterMap_cons, List.filterMap_nil, List.getElem?_toArray, List.getElem?_cons_zero, List.getElem?_cons_succ]
      iterate 7 quiet_step (fail)
      refine wpQuiet_nil ?_
      rintro _ ⟨nq, rfl⟩
      refine goS_last ?_
      simp only [opsAt, List.filterMap_cons, List.filterMap_nil, List.getElem?_toArray, List.getElem?_cons_zero, List.getElem?_cons_succ]
      have hTq := hT.drewN (1 + nq)
      have p2 := hTq.f 2
      go_wp2_with (first | (go_at_call 87; refine (HDO.out _).mono ?_; rintro e w' ⟨v1, rfl, ho1, hk1, hb1⟩; obtain ⟨ga1, gc1, rfl, hgc, hgm, hgs⟩ := ho1.form; have hT1 := hTq.to hb1; have p2 := hT1.f 2; have p3 : w'.cell? ⟨w.heap.size, 2, none⟩ = some (.slice ga (curS S j).length gc) := hT1.c 2 rfl))
      obtain ⟨hT2, hg2⟩ := hT1.set0 2 (.slice ga1 (doL (curS S j) ch).length gc1)
      have ho2 := ho1.kept hg2 (by
        cases hk : (Value.slice ga1 (doL (curS S j) ch).length gc1).ownBlock with
        | none => exact .inl rfl
        | some k =>
          right; intro e; injection e with e; subst e
          obtain ⟨cur, hc⟩ := ho1.tag hk
          rw [hT1.h0] at hc; injection hc with hc; injection hc with _ hc _; exact absurd hc (by decide))
      go_roundw
      case rel =>
        refine ⟨j + 1, ga1, gc1, by omega, by go_num, ?_, ?_, ?_⟩
        · rw [show midS S (j + 1) = { midS S j with sure := doL (curS S j) ch } by unfold midS; rw [HST.out]]
          exact hT2
        · rw [HST.out]; exact ho2
        · rw [HST.out]
          intro k h
          rcases hk1 k h with e | e
          · exact hk k e
          · right; have := hT.below.size; simp at e; omega
      case measure => simp [intOf]; omega
    · have hd : decide ((j : Int) < (n : Int)) = false := decide_eq_false (by omega)
      obtain rfl : j = n := by omega
      have hx2 := HX.out
      have hA0 := hx2.a.below hT.below
      obtain ⟨aa', ac', e1, hac, hacm, -⟩ := hA0.form
      cases e1
      have hnc : (j : Int) ≤ ac := by omega
      have hn0 : (0 : Int) ≤ j := by omega
      have hja : (j : Int) ≤ S.acts.length := by omega
      have k3 : wr.cell? ⟨w.heap.size, 3, none⟩ = some (.slice aa S.acts.length ac) := hT.c 3 rfl
      have z3 := hT.f 3
      have HA : OwnG wr 122 3 (.slice (if ac = j then aa else Option.map (fun x => x.add (j * 3)) aa) (S.acts.drop j).length (ac - j)) (S.acts.drop j).length (chrow (S.acts.drop j)) := by
        rw [List.length_drop]
        by_cases e : ac = j
        · rw [if_pos e, show ac - j = 0 by omega]
          have := hA0.rest1 j (by omega) e
          rwa [chrow_drop] at this
        · rw [if_neg e]
          have := hA0.rest2 j (by omega)
          rwa [chrow_drop] at this
      have HAK : ∀ k, (Value.slice (if ac = j then aa else Option.map (fun x => x.add (j * 3)) aa) (S.acts.drop j).length (ac - j)).ownBlock = some k → E k := fun k hk => by
        refine hx2.ka k ?_
        cases aa with
        | none => split at hk <;> cases hk
        | some ad =>
          obtain ⟨bb, oo, sp⟩ := ad
          split at hk
          · exact hk
          · simp [Value.ownBlock, Addr.add] at hk ⊢; split at hk <;> simp_all
      obtain ⟨hP, hgP⟩ := hT.set0 3 (.slice (if ac = j then aa else Option.map (fun x => x.add (j * 3)) aa) (S.acts.length - j : Nat) (ac - j))
      have e1 : (rcells (midS S j) fa na ga aa fc nc gc ac).setIfInBounds 3 (.slice (if ac = j then aa else Option.map (fun x => x.add (j * 3)) aa) (S.acts.length - j : Nat) (ac - j)) = rcells (VfsS.flushS S j) fa na ga (if ac = j then aa else Option.map (fun x => x.add (j * 3)) aa) fc nc gc (ac - j) := by unfold rcells VfsS.flushS; simp only [List.length_drop]; rfl
      rw [e1] at hP
      clear e1
      have hone1 := oneFS (VfsS.flushS S j) fa na ga (if ac = j then aa else Option.map (fun x => x.add (j * 3)) aa) fc nc gc (ac - j)
      have hrP : RR (Ku E w.heap.size) (wr.setCell ⟨w.heap.size, 3, none⟩ (.slice (if ac = j then aa else Option.map (fun x => x.add (j * 3)) aa) (S.acts.length - j : Nat) (ac - j))) (rcells (VfsS.flushS S j) fa na ga (if ac = j then aa else Option.map (fun x => x.add (j * 3)) aa) fc nc gc (ac - j)) (VfsS.flushS S j) N := by
        have hx3 := hx2.below hT.below
        have hln := hx2.ln
        have h0 : RR (Ku E w.heap.size) wr (rcells (VfsS.flushS S j) fa na ga (if ac = j then aa else Option.map (fun x => x.add (j * 3)) aa) fc nc gc (ac - j)) (VfsS.flushS S j) N :=
          ⟨fa, na, ga, (if ac = j then aa else Option.map (fun x => x.add (j * 3)) aa), fc, nc, gc, ac - j, rfl, { f := hx3.f, n := hx3.n, s := ho, a := HA, kf := fun k hk => .inl (hx2.kf k hk), kn := fun k hk => .inl (hx2.kn k hk), ks := hk, ka := fun k hk => .inl (HAK k hk), wf := hwf.flush j, lf := hx2.lf, ln := hx2.ln, la := by show (curS S j).length + (S.acts.drop j).length ≤ N; rw [List.length_drop]; omega, st := hx2.st, big := hx2.big, lim := hx2.lim }⟩
        exact h0.in0 hT hgP
      clear HA HAK hA0 hx2 hal hcl hk ho hone hgP
      go_wp2_with (first
        | (refine wp_load0 hP rfl _ rfl rfl rfl ?_)
        | (refine wp_store1 hP rfl _ _ rfl rfl rfl rfl rfl hone1 ?_; intro w4 hT4 hg4; have hr4 := hrP.in1 hP hg4))
      all_goals
        (try simp only [Exit.inBlock, Exit.then])
        refine bodyPost_ret (hT4.ret1 rfl rfl _ rfl) rfl ?_
        exact ⟨_, rfl, hr4, hT4.below⟩
end
end Go.Proofs.YtfoamcobpfflbaaDoor
namespace Go.Proofs.YtfoamcobpfflbaaDoor
open Go Go.RowKit
open VfsS (File Chg Nm St find doL)

section
variable {E E' : Nat → Prop} {w w' : World} {S : St} {N : Nat} {cs : Array Value}

/-- Read's bytes, and the error's number. -/
def rdT (o : Option ByteArray) : ByteArray := o.getD ByteArray.empty
def rdE (o : Option ByteArray) : Int := if o.isSome then 0 else 4

set_option maxRecDepth 100000 in
theorem rread_r (h : RR E w cs S N) (s : ByteArray) :
    Calls Tryd.prog 35 #[.agg cs, .string s] w fun e w' => e = .returned (.tuple #[.string (rdT (VfsS.readS S s)), .int .i64 (rdE (VfsS.readS S s))]) ∧ Below w.heap.size w w' := by
  have h0 := h
  obtain ⟨fa, na, sa, aa, fc, nc, sc, ac, rfl, hx⟩ := h
  have hb0 : Below w.heap.size w (w.alloc (.cells #[.slice fa S.files.length fc, .slice na S.now.length nc, .slice sa S.sure.length sc, .slice aa S.acts.length ac, .int .i64 S.room, .int .i64 S.steps, .int .i64 S.limit] 36)) := (Below.refl _ w).alloc (Nat.le_refl _) _
  have hB : (w.alloc (.cells #[.slice fa S.files.length fc, .slice na S.now.length nc, .slice sa S.sure.length sc, .slice aa S.acts.length ac, .int .i64 S.room, .int .i64 S.steps, .int .i64 S.limit] 36)).heap[w.heap.size]? = some (.cells #[.slice fa S.files.length fc, .slice na S.now.length nc, .slice sa S.sure.length sc, .slice aa S.acts.length ac, .int .i64 S.room, .int .i64 S.steps, .int .i64 S.limit] 36 (0, 0)) := Array.getElem?_push_size
  show Calls _ _ #[.agg #[.slice fa S.files.length fc, .slice na S.now.length nc, .slice sa S.sure.length sc, .slice aa S.acts.length ac, .int .i64 S.room, .int .i64 S.steps, .int .i64 S.limit], .string s] _ _
  have HFF := rfind_c (w := w.alloc (.cells #[.slice fa S.files.length fc, .slice na S.now.length nc, .slice sa S.sure.length sc, .slice aa S.acts.length ac, .int .i64 S.room, .int .i64 S.steps, .int .i64 S.limit] 36)) (hx.n.below hb0) (by have := hx.ln; have := hx.big; omega) s
  have hx1 := hx.below hb0
  have hwf := hx.wf
  go_enter Tryd.func35, Tryd.ntmps35
  go_upto_region 1 with fail
  generalize w.alloc (.cells #[.slice fa S.files.length fc, .slice na S.now.length nc, .slice sa S.sure.length sc, .slice aa S.acts.length ac, .int .i64 S.room, .int .i64 S.steps, .int .i64 S.limit] 36) = W at *
  have c0 : W.cell? ⟨w.heap.size, 0, none⟩ = some (.slice fa S.files.length fc) := by rw [cell_of hB]; rfl
  have c1 : W.cell? ⟨w.heap.size, 1, none⟩ = some (.slice na S.now.length nc) := by rw [cell_of hB]; rfl
  clear hx
  cases hf : find S.now s with
  | none =>
    have HS : Hid (VfsS.readS S s = none) := by show _ = _; unfold VfsS.readS; rw [hf]; rfl
    rw [hf] at HFF
    have HF : Calls Tryd.prog 59 #[.slice na S.now.length nc, .string s] W fun e w' => e = .returned (.int .i64 (-1)) ∧ w' = W := HFF
    clear hf HFF
    go_wp2_with (first | (go_at_call 59; refine HF.mono ?_; rintro e w' ⟨rfl, rfl⟩))
    go_ret2
    rw [HS.out]
    exact ⟨rfl, hb0⟩
  | some i =>
    have hil := find_lt hwf hf
    have HS : Hid (VfsS.readS S s = some (VfsS.fl S i).text) := by show _ = _; unfold VfsS.readS; rw [hf]; rfl
    rw [hf] at HFF
    have HF : Calls Tryd.prog 59 #[.slice na S.now.length nc, .string s] W fun e w' => e = .returned (.int .i64 (i : Int)) ∧ w' = W := HFF
    have hd : decide ((i : Int) < 0) = false := decide_eq_false (by omega)
    obtain ⟨fb, fo, rfl, q0, q1⟩ := hx1.file i hil
    generalize (VfsS.fl S i).text = tx at *
    have b1 : (0 : Int) ≤ (i : Int) := by omega
    have b2 : (i : Int) < S.files.length := by omega
    clear hf HFF q1
    go_wp2_with (first | (go_at_call 59; refine HF.mono ?_; rintro e w' ⟨rfl, rfl⟩))
    go_ret2
    rw [HS.out]
    exact ⟨rfl, hb0⟩

set_option maxRecDepth 100000 in
set_option maxHeartbeats 1000000 in
theorem rflushAll_r (h : RR E w cs S N) (hN : N + 1 ≤ 40000000) :
    Calls Tryd.prog 20 #[.agg cs] w fun e w' => ∃ cs', e = .returned (.tuple #[.agg cs', .int .i64 (VfsS.flushAllS S).2]) ∧ RR (Ku E w.heap.size) w' cs' (VfsS.flushAllS S).1 (N + 1) ∧ Below w.heap.size w w' := by
  have h0 := h
  obtain ⟨fa, na, sa, aa, fc, nc, sc, ac, rfl, hx⟩ := h
  have hone := h0.one
  have hT : TB w ((w.alloc (.cells #[.slice fa S.files.length fc, .slice na S.now.length nc, .slice sa S.sure.length sc, .slice aa S.acts.length ac, .int .i64 S.room, .int .i64 S.steps, .int .i64 S.limit] 36)).alloc (.cells #[.slice none 0 0, .slice none 0 0, .slice none 0 0, .slice none 0 0, .int .i64 0, .int .i64 0, .int .i64 0] 36)) w.heap.size (w.heap.size + 1) (rcells S fa na sa aa fc nc sc ac) fs0 := TB.start w _ _
  show Calls _ _ #[.agg #[.slice fa S.files.length fc, .slice na S.now.length nc, .slice sa S.sure.length sc, .slice aa S.acts.length ac, .int .i64 S.room, .int .i64 S.steps, .int .i64 S.limit]] _ _
  clear hx
  go_enter Tryd.func20, Tryd.ntmps20
  go_upto_region 1 with fail
  generalize (w.alloc (.cells #[.slice fa S.files.length fc, .slice na S.now.length nc, .slice sa S.sure.length sc, .slice aa S.acts.length ac, .int .i64 S.room, .int .i64 S.steps, .int .i64 S.limit] 36)).alloc (.cells #[.slice none 0 0, .slice none 0 0, .slice none 0 0, .slice none 0 0, .int .i64 0, .int .i64 0, .int .i64 0] 36) = W at *
  have hrW := h0.below hT.below
  have HSTEP := rstep_r hrW (by omega)
  by_cases hl : S.limit = 0
  · have HS : Hid (VfsS.flushAllS S = (S, 190)) := by show _ = _; unfold VfsS.flushAllS; rw [if_pos hl]
    have HT : Hid (VfsS.stepS S = S) := by show _ = _; unfold VfsS.stepS; rw [if_pos hl]
    rw [limB hl] at HSTEP
    clear hl
    go_wp2_with (first | (go_at_call 60; refine HSTEP.mono ?_; rintro e w1 ⟨cs1, rfl, hr1, hb1⟩; have hT1 := hT.to hb1; have hs1 := hr1.size; have ho1 := hr1.one) | (refine wp_store0 hT1 rfl _ _ rfl rfl rfl rfl hs1 ho1 ?_; intro w2 hT2 hg2; have hr2 := hr1.in0 hT1 hg2) | (refine wp_load0 hT2 rfl _ rfl rfl hs1 ?_) | (refine wp_load0 hT rfl _ rfl rfl rfl ?_) | (refine wp_store1 hT2 rfl _ _ rfl rfl rfl rfl hs1 ho1 ?_; intro w4 hT4 hg4; have hr4 := hr2.in1 hT2 hg4))
    (try simp only [Exit.inBlock, Exit.then])
    refine bodyPost_ret (hT4.ret2 hs1 rfl _ rfl) rfl ?_
    rw [HS.out]
    rw [HT.out] at hr4
    exact ⟨_, rfl, (hr4.up _), hT4.below⟩
  · have HS : Hid (VfsS.flushAllS S = (VfsS.flushS (VfsS.stepS S) (VfsS.stepS S).acts.length, 0)) := by show _ = _; unfold VfsS.flushAllS; rw [if_neg hl, VfsS.stepS_acts]
    rw [limA hl] at HSTEP
    clear hl
    go_upto_region 4 with (first | (go_at_call 60; refine HSTEP.mono ?_; rintro e w1 ⟨cs1, rfl, hr1, hb1⟩; have hT1 := hT.to hb1; have hs1 := hr1.size; have ho1 := hr1.one) | (refine wp_store0 hT1 rfl _ _ rfl rfl rfl rfl hs1 ho1 ?_; intro w2 hT2 hg2; have hr2 := hr1.in0 hT1 hg2) | (refine wp_load0 hT2 rfl _ rfl rfl hs1 ?_) | (refine wp_load0 hT rfl _ rfl rfl rfl ?_))
    generalize VfsS.stepS S = T at *
    have hr2' := hr2
    obtain ⟨fa1, na1, sa1, aa1, fc1, nc1, sc1, ac1, e1, hx1⟩ := hr2'
    subst e1
    have d3 : w2.cell? ⟨w.heap.size, 3, none⟩ = some (.slice aa1 T.acts.length ac1) := hT2.c 3 rfl
    clear hx1
    go_wp2_with (first | (refine wp_load0 hT2 rfl _ rfl rfl hs1 ?_) | (refine wp_load0 hT rfl _ rfl rfl rfl ?_) | (go_at_call 64; refine (rflush_r hr2 T.acts.length (Nat.le_refl _)).mono ?_; rintro e w3 ⟨cs3, rfl, hr3, hb3⟩; have hT3 := hT2.to hb3; have hs3 := hr3.size; have ho3 := hr3.one) | (refine wp_store1 hT3 rfl _ _ rfl rfl rfl rfl hs3 ho3 ?_; intro w4 hT4 hg4; have hr4 := hr3.in1 hT3 hg4))
    (try simp only [Exit.inBlock, Exit.then])
    refine bodyPost_ret (hT4.ret2 hs3 rfl _ rfl) rfl ?_
    rw [HS.out]
    exact ⟨_, rfl, hr4.sub (fun k hk _ => hk.elim .inl (fun h => .inr (by have := hT2.below.size; omega))), hT4.below⟩
end
end Go.Proofs.YtfoamcobpfflbaaDoor
