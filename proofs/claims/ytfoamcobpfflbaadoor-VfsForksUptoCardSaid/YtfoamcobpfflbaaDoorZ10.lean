/- Texts of mine, joined: Walks over the document's answer: Create. | Walks over the document's answer: Append, Cut. | The document's limit, and the order of the names: plain Lean, no program in sight. -/
import Derived.Deep.RegionHeld3
import Derived.Test.YtfoamcobpfflbaaDoorZ9
namespace Go.Proofs.YtfoamcobpfflbaaDoor
open Go Go.RowKit
open VfsS (File Chg Nm St find doL)

theorem _root_.Go.Proofs.YtfoamcobpfflbaaDoor.VfsS.Wf.more {S : St} (h : VfsS.Wf S) : VfsS.Wf { S with files := S.files ++ [⟨ByteArray.empty, 0⟩] } where
  idx i hi := by
    have := h.idx i hi
    show i < (S.files ++ [_]).length
    rw [List.length_append]; omega
  dn := h.dn
  ds := h.ds
  zn := h.zn
  zs := h.zs
  za := h.za
  dur f hf := by
    rcases List.mem_append.1 hf with hf | hf
    · exact h.dur f hf
    · rw [List.mem_singleton] at hf; subst hf; exact ⟨Nat.le_refl _, by decide⟩
  room := h.room
  lim := h.lim

section
variable {E E' : Nat → Prop} {w w' : World} {S : St} {N : Nat} {cs : Array Value}

set_option maxRecDepth 100000 in
set_option maxHeartbeats 1000000 in
theorem rcreate_r (h : RR E w cs S N) (s : ByteArray) (hs : s.size ≤ 10000000) (hN : N + 3 ≤ 40000000) :
    Calls Tryd.prog 17 #[.agg cs, .string s] w fun e w' => ∃ cs', e = .returned (.tuple #[.agg cs', .int .i64 (VfsS.createS S s).2]) ∧ RR (Ku E w.heap.size) w' cs' (VfsS.createS S s).1 (N + 3) ∧ Below w.heap.size w w' := by
  have h0 := h
  obtain ⟨fa, na, sa, aa, fc, nc, sc, ac, rfl, hx⟩ := h
  have hone := h0.one
  have hT : TB w ((w.alloc (.cells #[.slice fa S.files.length fc, .slice na S.now.length nc, .slice sa S.sure.length sc, .slice aa S.acts.length ac, .int .i64 S.room, .int .i64 S.steps, .int .i64 S.limit] 36)).alloc (.cells #[.slice none 0 0, .slice none 0 0, .slice none 0 0, .slice none 0 0, .int .i64 0, .int .i64 0, .int .i64 0] 36)) w.heap.size (w.heap.size + 1) (rcells S fa na sa aa fc nc sc ac) fs0 := TB.start w _ _
  show Calls _ _ #[.agg #[.slice fa S.files.length fc, .slice na S.now.length nc, .slice sa S.sure.length sc, .slice aa S.acts.length ac, .int .i64 S.room, .int .i64 S.steps, .int .i64 S.limit], .string s] _ _
  have HFF := Lib.hid (fun (wc : World) (hbc : Below ((w.alloc (.cells #[.slice fa S.files.length fc, .slice na S.now.length nc, .slice sa S.sure.length sc, .slice aa S.acts.length ac, .int .i64 S.room, .int .i64 S.steps, .int .i64 S.limit] 36)).alloc (.cells #[.slice none 0 0, .slice none 0 0, .slice none 0 0, .slice none 0 0, .int .i64 0, .int .i64 0, .int .i64 0] 36)).heap.size ((w.alloc (.cells #[.slice fa S.files.length fc, .slice na S.now.length nc, .slice sa S.sure.length sc, .slice aa S.acts.length ac, .int .i64 S.room, .int .i64 S.steps, .int .i64 S.limit] 36)).alloc (.cells #[.slice none 0 0, .slice none 0 0, .slice none 0 0, .slice none 0 0, .int .i64 0, .int .i64 0, .int .i64 0] 36)) wc) => rfind_c (w := wc) ((hx.n.below hT.below).below hbc) (by have := hx.ln; have := hx.big; omega) s)
  have HCK := Lib.hid (ref_check s ((w.alloc (.cells #[.slice fa S.files.length fc, .slice na S.now.length nc, .slice sa S.sure.length sc, .slice aa S.acts.length ac, .int .i64 S.room, .int .i64 S.steps, .int .i64 S.limit] 36)).alloc (.cells #[.slice none 0 0, .slice none 0 0, .slice none 0 0, .slice none 0 0, .int .i64 0, .int .i64 0, .int .i64 0] 36)) hs)
  go_enter Tryd.func17, Tryd.ntmps17
  go_upto_region 1 with fail
  generalize (w.alloc (.cells #[.slice fa S.files.length fc, .slice na S.now.length nc, .slice sa S.sure.length sc, .slice aa S.acts.length ac, .int .i64 S.room, .int .i64 S.steps, .int .i64 S.limit] 36)).alloc (.cells #[.slice none 0 0, .slice none 0 0, .slice none 0 0, .slice none 0 0, .int .i64 0, .int .i64 0, .int .i64 0] 36) = W at *
  have hrW := h0.below hT.below
  have hwf := hx.wf
  have HSTEP := Lib.hid (fun (wc : World) (hbc : Below W.heap.size W wc) => rstep_r (hrW.below hbc) (by omega))
  clear hx
  by_cases hck : PathS.check s = 0
  · rw [hck] at HCK
    cases hf : find S.now s with
    | some i =>
      have HS : Hid (VfsS.createS S s = (S, 5)) := by show _ = _; unfold VfsS.createS; rw [hf]; simp only [hck, ne_eq, not_true, if_false, Option.isSome_some, if_true]
      rw [hf] at HFF
      have HF : Hid (∀ wc, Below W.heap.size W wc → Calls Tryd.prog 59 #[.slice na S.now.length nc, .string s] wc fun e w' => e = .returned (.int .i64 (i : Int)) ∧ w' = wc) := HFF.out
      have hd : decide ((i : Int) ≥ 0) = true := decide_eq_true (by omega)
      clear hf HFF hck
      go_wp2_with (first | (go_at_call 59; refine (HF.out _ (by assumption)).mono ?_; rintro e w' ⟨rfl, rfl⟩) | (go_at_call 58; refine HCK.out.mono ?_; rintro e wc ⟨rfl, hbc⟩; have hTc := hT.to hbc; have hrc := hrW.below hbc; have c1 : wc.cell? ⟨w.heap.size, 1, none⟩ = some (.slice na S.now.length nc) := hTc.c 1 rfl) | (refine wp_load0 hT2 rfl _ rfl rfl hs1 ?_) | (refine wp_load0 hTc rfl _ rfl rfl rfl ?_) | (refine wp_load0 hT rfl _ rfl rfl rfl ?_) | (refine wp_store1 hTc rfl _ _ rfl rfl rfl rfl rfl hone ?_; intro w4 hT4 hg4; have hr4 := hrc.in1 hTc hg4))
      (try simp only [Exit.inBlock, Exit.then])
      refine bodyPost_ret (hT4.ret2 rfl rfl _ rfl) rfl ?_
      rw [HS.out]
      exact ⟨_, rfl, (hr4.up _).mono (by omega) hN, hT4.below⟩
    | none =>
      rw [hf] at HFF
      have HF : Hid (∀ wc, Below W.heap.size W wc → Calls Tryd.prog 59 #[.slice na S.now.length nc, .string s] wc fun e w' => e = .returned (.int .i64 (-1)) ∧ w' = wc) := HFF.out
      by_cases hl : S.limit = 0
      · have HS : Hid (VfsS.createS S s = (S, 190)) := by show _ = _; unfold VfsS.createS; rw [hf]; simp only [hck, ne_eq, not_true, if_false, Option.isSome_none, Bool.false_eq_true, if_pos hl]
        have HT : Hid (VfsS.stepS S = S) := by show _ = _; unfold VfsS.stepS; rw [if_pos hl]
        rw [limB hl] at HSTEP
        clear hf HFF hck hl
        go_wp2_with (first | (go_at_call 59; refine (HF.out _ (by assumption)).mono ?_; rintro e w' ⟨rfl, rfl⟩) | (go_at_call 58; refine HCK.out.mono ?_; rintro e wc ⟨rfl, hbc⟩; have hTc := hT.to hbc; have hrc := hrW.below hbc; have c1 : wc.cell? ⟨w.heap.size, 1, none⟩ = some (.slice na S.now.length nc) := hTc.c 1 rfl) | (go_at_call 60; refine (HSTEP.out _ (by assumption)).mono ?_; rintro e w1 ⟨cs1, rfl, hr1, hb1⟩; have hT1 := hTc.to hb1; have hs1 := hr1.size; have ho1 := hr1.one) | (refine wp_store0 hT1 rfl _ _ rfl rfl rfl rfl hs1 ho1 ?_; intro w2 hT2 hg2; have hr2 := hr1.in0 hT1 hg2) | (refine wp_load0 hT2 rfl _ rfl rfl hs1 ?_) | (refine wp_load0 hTc rfl _ rfl rfl rfl ?_) | (refine wp_load0 hT rfl _ rfl rfl rfl ?_) | (refine wp_store1 hT2 rfl _ _ rfl rfl rfl rfl hs1 ho1 ?_; intro w4 hT4 hg4; have hr4 := hr2.in1 hT2 hg4))
        (try simp only [Exit.inBlock, Exit.then])
        refine bodyPost_ret (hT4.ret2 hs1 rfl _ rfl) rfl ?_
        rw [HS.out]
        rw [HT.out] at hr4
        exact ⟨_, rfl, (hr4.up _).mono (by omega) hN, hT4.below⟩
      · have HS : Hid (VfsS.createS S s = (VfsS.changeS { VfsS.stepS S with files := (VfsS.stepS S).files ++ [⟨ByteArray.empty, 0⟩] } ⟨ByteArray.empty, s, some (VfsS.stepS S).files.length⟩, 0)) := by show _ = _; unfold VfsS.createS; rw [hf, VfsS.stepS_files]; simp only [hck, ne_eq, not_true, if_false, Option.isSome_none, Bool.false_eq_true, if_neg hl]
        rw [limA hl] at HSTEP
        clear hf HFF hck hl
        go_upto_region 9 with (first | (go_at_call 59; refine (HF.out _ (by assumption)).mono ?_; rintro e w' ⟨rfl, rfl⟩) | (go_at_call 58; refine HCK.out.mono ?_; rintro e wc ⟨rfl, hbc⟩; have hTc := hT.to hbc; have hrc := hrW.below hbc; have c1 : wc.cell? ⟨w.heap.size, 1, none⟩ = some (.slice na S.now.length nc) := hTc.c 1 rfl) | (go_at_call 60; refine (HSTEP.out _ (by assumption)).mono ?_; rintro e w1 ⟨cs1, rfl, hr1, hb1⟩; have hT1 := hTc.to hb1; have hs1 := hr1.size; have ho1 := hr1.one) | (refine wp_store0 hT1 rfl _ _ rfl rfl rfl rfl hs1 ho1 ?_; intro w2 hT2 hg2; have hr2 := hr1.in0 hT1 hg2) | (refine wp_load0 hT2 rfl _ rfl rfl hs1 ?_) | (refine wp_load0 hTc rfl _ rfl rfl rfl ?_) | (refine wp_load0 hT rfl _ rfl rfl rfl ?_))
        have hr2' := hr2
        have hwf2 := hr2.wf.more
        generalize VfsS.stepS S = T at *
        obtain ⟨fa1, na1, sa1, aa1, fc1, nc1, sc1, ac1, e1, hx1⟩ := hr2'
        subst e1
        have hbA : Below w2.heap.size w2 (w2.alloc (.cells #[] 119)) := (Below.refl _ w2).alloc (Nat.le_refl _) _
        have c0' : (w2.alloc (.cells #[] 119)).cell? ⟨w.heap.size, 0, none⟩ = some (.slice fa1 T.files.length fc1) := (hT2.to hbA).c 0 rfl
        have hsrc := src_ownG (P := Tryd.prog) (tx := 32) Tryd.underlying32 (hx1.f.alloc (.cells #[] 119)) (one_files _)
        have hlf := hx1.lf
        have hmx : 0 + T.files.length ≤ maxLen := by rw [show maxLen = 9223372036854775807 from rfl]; omega
        have hby : (0 + T.files.length) * 24 ≤ 140737488355328 := by omega
        have hwr : IntKind.i64.wrap ((T.files.length : Int) + 1 - 1) = (T.files.length : Int) := by rw [IntWalk.i64_in _ (by omega)]; omega
        have hwr2 : IntKind.i64.wrap (((T.files.length + 1 : Nat) : Int) - 1) = (T.files.length : Int) := by rw [IntWalk.i64_in _ (by omega)]; omega
        go_upto_region 10 with (at_builtin; refine wp_appG rfl _ _ _ _ rfl fileElem rfl rfl (OwnG.empty _ _ _) rfl hsrc hmx hby ?_; intro v3 w3 hp3 hg3 hv3)
        have hb3 : Below w2.heap.size w2 w3 := hbA.grown hg3 (by simp) (fun k e => by have e : some w2.heap.size = some k := e; injection e with e; omega)
        have hv3' : ∀ k, v3.ownBlock = some k → w2.heap.size ≤ k := fun k hk => by
          rcases hv3 k hk with e | e
          · have e : some w2.heap.size = some k := e; injection e with e; omega
          · simp at e; omega
        clear hsrc hmx hby c0' hg3 hv3 hbA
        have hsn := Src.ofNew (P := Tryd.prog) (w := w3) (tx := 32) (e := 119) Tryd.underlying32 (show [Value.string ByteArray.empty, Value.int .i64 0].length = 2 from rfl) (by intro u hu; simp at hu; rcases hu with rfl | rfl <;> rfl)
        have hmx2 : 0 + T.files.length + 1 ≤ maxLen := by rw [show maxLen = 9223372036854775807 from rfl]; omega
        have hby2 : (0 + T.files.length + 1) * 24 ≤ 140737488355328 := by omega
        go_upto_region 11 with (at_builtin; refine wp_appG rfl _ _ _ _ rfl fileElem rfl rfl (hp3.alloc _) rfl hsn hmx2 hby2 ?_; intro v4 w4 hp4 hg4 hv4; obtain ⟨ba, bc, rfl, hbc, hbm, hbs⟩ := hp4.form; have hb4 : Below w2.heap.size w2 w4 := ((hb3.alloc hb3.size _).grown hg4 (by have := hb3.size; simp; omega) hv3'); have hT4 := hT2.to hb4; have z0 := hT4.f 0; have k0 : w4.cell? ⟨w.heap.size, 0, none⟩ = some (.slice fa1 T.files.length fc1) := hT4.c 0 rfl)
        rw [Nat.zero_add] at hp4 hv4
        have hv4' : ∀ k, (Value.slice ba (T.files.length + 1) bc).ownBlock = some k → w2.heap.size ≤ k := fun k hk => by
          rcases hv4 k (by simpa using hk) with e | e
          · exact hv3' k e
          · have := hb3.size; simp at e; omega
        obtain ⟨hT5, hg5⟩ := hT4.set0 0 (.slice ba (T.files.length + 1) bc)
        have hlen : (T.files ++ [(⟨ByteArray.empty, 0⟩ : File)]).length = T.files.length + 1 := by simp
        have hr4 : RR (Ku E w.heap.size) w4 ((rcells T fa1 na1 sa1 aa1 fc1 nc1 sc1 ac1).setIfInBounds 0 (.slice ba (T.files.length + 1) bc)) { T with files := T.files ++ [⟨ByteArray.empty, 0⟩] } (N + 2) := by
          have hx4 := hx1.below hb4
          have hln := hx1.ln
          have hla := hx1.la
          have hst := hx1.st
          refine ⟨ba, na1, sa1, aa1, bc, nc1, sc1, ac1, ?_, ?_⟩
          · unfold rcells; simp only [hlen]; rfl
          · exact { f := by show OwnG w4 _ 2 (.slice ba (T.files ++ [_]).length bc) (T.files ++ [_]).length _; rw [hlen, flrow_append]; simpa [flrow] using hp4
                    n := hx4.n, s := hx4.s, a := hx4.a
                    kf := fun k hk => .inr (by have := hv4' k (by rw [← hlen]; exact hk); have := hT2.below.size; omega)
                    kn := fun k hk => .inl (hx1.kn k hk), ks := fun k hk => .inl (hx1.ks k hk), ka := fun k hk => .inl (hx1.ka k hk)
                    wf := hwf2, lf := by show (T.files ++ [_]).length ≤ N + 2; rw [hlen]; omega
                    ln := by show T.now.length ≤ N + 2; omega
                    la := by show T.sure.length + T.acts.length ≤ N + 2; omega
                    st := by show T.steps ≤ N + 2; omega
                    big := by omega, lim := hx1.lim }
        have hr5 := hr4.in0 hT4 hg5
        have HCH := Lib.hid (rchange_r hr5 ⟨ByteArray.empty, s, some T.files.length⟩ (by intro i hi; injection hi with hi; subst hi; show T.files.length < (T.files ++ [_]).length; rw [hlen]; omega) (show ByteArray.empty.size ≤ 10000000 by decide) hs (by omega))
        have d0 := hT5.c 0 (x := .slice ba (T.files.length + 1) bc) rfl
        clear hwf2 hp3 hp4 hv4 hv4' hg4 hsn hbs hlen
        generalize w4.setCell ⟨w.heap.size, 0, none⟩ (.slice ba (T.files.length + 1) bc) = w5 at *
        go_wp2_with (first | (refine wp_load0 hT5 rfl _ rfl rfl rfl ?_) | (go_at_call 61; refine HCH.out.mono ?_; rintro e w3 ⟨cs3, rfl, hr3, hb3⟩; have hT3 := hT5.to hb3; have hs3 := hr3.size; have ho3 := hr3.one) | (refine wp_store1 hT3 rfl _ _ rfl rfl rfl rfl hs3 ho3 ?_; intro w4 hT4 hg4; have hr4 := hr3.in1 hT3 hg4))
        (try simp only [Exit.inBlock, Exit.then])
        refine bodyPost_ret (hT4.ret2 hs3 rfl _ rfl) rfl ?_
        rw [HS.out]
        exact ⟨_, rfl, hr4.sub (fun k hk _ => hk.elim id (fun h => .inr (by have := hT5.below.size; omega))), hT4.below⟩
  · have HS : Hid (VfsS.createS S s = (S, PathS.check s)) := by show _ = _; unfold VfsS.createS; rw [if_pos hck]
    have d1 : (PathS.check s == 0) = false := by rw [beq_eq_false_iff_ne]; exact hck
    have d2 : (PathS.check s != 0) = true := by rw [bne_iff_ne]; exact hck
    clear hck
    generalize PathS.check s = ck at *
    go_wp2_with (first | (go_at_call 58; refine HCK.out.mono ?_; rintro e wc ⟨rfl, hbc⟩; have hTc := hT.to hbc; have hrc := hrW.below hbc; have c1 : wc.cell? ⟨w.heap.size, 1, none⟩ = some (.slice na S.now.length nc) := hTc.c 1 rfl) | (refine wp_load0 hT2 rfl _ rfl rfl hs1 ?_) | (refine wp_load0 hTc rfl _ rfl rfl rfl ?_) | (refine wp_load0 hT rfl _ rfl rfl rfl ?_) | (refine wp_store1 hTc rfl _ _ rfl rfl rfl rfl rfl hone ?_; intro w4 hT4 hg4; have hr4 := hrc.in1 hTc hg4))
    (try simp only [Exit.inBlock, Exit.then])
    refine bodyPost_ret (hT4.ret2 rfl rfl _ rfl) rfl ?_
    rw [HS.out]
    exact ⟨_, rfl, (hr4.up _).mono (by omega) hN, hT4.below⟩
end
end Go.Proofs.YtfoamcobpfflbaaDoor
namespace Go.Proofs.YtfoamcobpfflbaaDoor
open Go Go.RowKit
open VfsS (File Chg Nm St find doL)

section
variable {E E' : Nat → Prop} {w w' : World} {S : St} {N : Nat} {cs : Array Value}

theorem rused_r (h : RR E w cs S N) : Calls Tryd.prog 70 #[.agg cs] w fun e w' => e = .returned (.int .i64 (VfsS.used S : Nat)) ∧ Below w.heap.size w w' := by
  obtain ⟨fa, na, sa, aa, fc, nc, sc, ac, rfl, hx⟩ := h
  exact rused_c (w := w) (S := S) (sa := sa) (aa := aa) (sn := S.sure.length) (sc := sc) (an := S.acts.length) (ac := ac) hx.f hx.n hx.wf (by have := hx.ln; have := hx.big; omega) S.room S.steps S.limit

set_option maxRecDepth 100000 in
set_option maxHeartbeats 2000000 in
theorem rappend_r (h : RR E w cs S N) (s b : ByteArray) (hbs : b.size ≤ 10000000) (hN : N + 1 ≤ 40000000) :
    Calls Tryd.prog 28 #[.agg cs, .string s, .string b] w fun e w' => ∃ cs', e = .returned (.tuple #[.agg cs', .int .i64 (VfsS.appendS S s b).2]) ∧ RR (Ku E w.heap.size) w' cs' (VfsS.appendS S s b).1 (N + 1) ∧ Below w.heap.size w w' := by
  have h0 := h
  obtain ⟨fa, na, sa, aa, fc, nc, sc, ac, rfl, hx⟩ := h
  have hone := h0.one
  have hT : TB w ((w.alloc (.cells #[.slice fa S.files.length fc, .slice na S.now.length nc, .slice sa S.sure.length sc, .slice aa S.acts.length ac, .int .i64 S.room, .int .i64 S.steps, .int .i64 S.limit] 36)).alloc (.cells #[.slice none 0 0, .slice none 0 0, .slice none 0 0, .slice none 0 0, .int .i64 0, .int .i64 0, .int .i64 0] 36)) w.heap.size (w.heap.size + 1) (rcells S fa na sa aa fc nc sc ac) fs0 := TB.start w _ _
  show Calls _ _ #[.agg #[.slice fa S.files.length fc, .slice na S.now.length nc, .slice sa S.sure.length sc, .slice aa S.acts.length ac, .int .i64 S.room, .int .i64 S.steps, .int .i64 S.limit], .string s, .string b] _ _
  have HFF := rfind_c (w := (w.alloc (.cells #[.slice fa S.files.length fc, .slice na S.now.length nc, .slice sa S.sure.length sc, .slice aa S.acts.length ac, .int .i64 S.room, .int .i64 S.steps, .int .i64 S.limit] 36)).alloc (.cells #[.slice none 0 0, .slice none 0 0, .slice none 0 0, .slice none 0 0, .int .i64 0, .int .i64 0, .int .i64 0] 36)) (hx.n.below hT.below) (by have := hx.ln; have := hx.big; omega) s
  go_enter Tryd.func28, Tryd.ntmps28
  go_upto_region 1 with fail
  generalize (w.alloc (.cells #[.slice fa S.files.length fc, .slice na S.now.length nc, .slice sa S.sure.length sc, .slice aa S.acts.length ac, .int .i64 S.room, .int .i64 S.steps, .int .i64 S.limit] 36)).alloc (.cells #[.slice none 0 0, .slice none 0 0, .slice none 0 0, .slice none 0 0, .int .i64 0, .int .i64 0, .int .i64 0] 36) = W at *
  have hrW := h0.below hT.below
  have c1 : W.cell? ⟨w.heap.size, 1, none⟩ = some (.slice na S.now.length nc) := hT.c 1 rfl
  have hwf := hx.wf
  have hul := used_le hwf hx.ln
  have hbig := hx.big
  clear hx
  cases hf : find S.now s with
  | none =>
    have HS : Hid (VfsS.appendS S s b = (S, 4)) := by show _ = _; unfold VfsS.appendS; rw [hf]
    rw [hf] at HFF
    have HF : Calls Tryd.prog 59 #[.slice na S.now.length nc, .string s] W fun e w' => e = .returned (.int .i64 (-1)) ∧ w' = W := HFF
    clear hf HFF
    go_wp2_with (first | (go_at_call 59; refine HF.mono ?_; rintro e w' ⟨rfl, rfl⟩) | (refine wp_load0 hT rfl _ rfl rfl rfl ?_) | (refine wp_store1 hT rfl _ _ rfl rfl rfl rfl rfl hone ?_; intro w4 hT4 hg4; have hr4 := hrW.in1 hT hg4))
    (try simp only [Exit.inBlock, Exit.then])
    refine bodyPost_ret (hT4.ret2 rfl rfl _ rfl) rfl ?_
    rw [HS.out]
    exact ⟨_, rfl, (hr4.up _).mono (by omega) hN, hT4.below⟩
  | some i =>
    have hil := find_lt hwf hf
    have hug := used_ge hf
    rw [hf] at HFF
    have HF : Calls Tryd.prog 59 #[.slice na S.now.length nc, .string s] W fun e w' => e = .returned (.int .i64 (i : Int)) ∧ w' = W := HFF
    have hd : decide ((i : Int) < 0) = false := decide_eq_false (by omega)
    have HU := Lib.hid (fun q => rused_r (hrW.below (below_dN (Below.refl _ W) q)))
    have d0 : W.cell? ⟨w.heap.size, 0, none⟩ = some (.slice fa S.files.length fc) := hT.c 0 rfl
    have d2 : W.cell? ⟨w.heap.size, 2, none⟩ = some (.slice sa S.sure.length sc) := hT.c 2 rfl
    have d3 : W.cell? ⟨w.heap.size, 3, none⟩ = some (.slice aa S.acts.length ac) := hT.c 3 rfl
    have d4 : W.cell? ⟨w.heap.size, 4, none⟩ = some (.int .i64 S.room) := hT.c 4 rfl
    have d5 : W.cell? ⟨w.heap.size, 5, none⟩ = some (.int .i64 S.steps) := hT.c 5 rfl
    have d6 : W.cell? ⟨w.heap.size, 6, none⟩ = some (.int .i64 S.limit) := hT.c 6 rfl
    have hroom := hwf.room
    have hwr : IntKind.i64.wrap ((S.room : Int) - (VfsS.used S : Nat)) = (S.room : Int) - (VfsS.used S : Nat) := IntWalk.i64_in _ (by omega)
    have HFI := Lib.hid hf
    clear hf HFF
    go_upto_region 4 with (first | (go_at_call 59; refine HF.mono ?_; rintro e w' ⟨rfl, rfl⟩))
    go_region_held3 (fun w' => w'.cell? ⟨w.heap.size, 0, none⟩ = some (.slice fa S.files.length fc) ∧ w'.cell? ⟨w.heap.size, 1, none⟩ = some (.slice na S.now.length nc) ∧ w'.cell? ⟨w.heap.size, 2, none⟩ = some (.slice sa S.sure.length sc) ∧ w'.cell? ⟨w.heap.size, 3, none⟩ = some (.slice aa S.acts.length ac) ∧ w'.cell? ⟨w.heap.size, 4, none⟩ = some (.int .i64 S.room) ∧ w'.cell? ⟨w.heap.size, 5, none⟩ = some (.int .i64 S.steps) ∧ w'.cell? ⟨w.heap.size, 6, none⟩ = some (.int .i64 S.limit))
      (first | exact ⟨e0, e1, e2, e3, e4, e5, e6⟩ | exact ⟨d0, c1, d2, d3, d4, d5, d6⟩ | go_keep)
      (first | (go_at_call 70; refine (HU.out 1).mono ?_; rintro e wu ⟨rfl, hbu⟩; have hTu := (hT.drewN 1).to hbu; have e0 : wu.cell? ⟨w.heap.size, 0, none⟩ = some (.slice fa S.files.length fc) := hTu.c 0 rfl; have e1 : wu.cell? ⟨w.heap.size, 1, none⟩ = some (.slice na S.now.length nc) := hTu.c 1 rfl; have e2 : wu.cell? ⟨w.heap.size, 2, none⟩ = some (.slice sa S.sure.length sc) := hTu.c 2 rfl; have e3 : wu.cell? ⟨w.heap.size, 3, none⟩ = some (.slice aa S.acts.length ac) := hTu.c 3 rfl; have e4 : wu.cell? ⟨w.heap.size, 4, none⟩ = some (.int .i64 S.room) := hTu.c 4 rfl; have e5 : wu.cell? ⟨w.heap.size, 5, none⟩ = some (.int .i64 S.steps) := hTu.c 5 rfl; have e6 : wu.cell? ⟨w.heap.size, 6, none⟩ = some (.int .i64 S.limit) := hTu.c 6 rfl))
    have hru := (hrW.below (below_dN (Below.refl _ _) 1)).below hbu
    have HSTEP := rstep_r hru (by omega)
    clear d0 c1 d2 d3 d4 d5 d6 HU e0 e1 e2 e3 e4 e5 e6
    by_cases hfit : (S.room : Int) - VfsS.used S < b.size
    · have HS : Hid (VfsS.appendS S s b = (S, 3)) := by show _ = _; unfold VfsS.appendS; rw [HFI.out]; simp only; rw [if_pos hfit]
      have hd2 : decide ((b.size : Int) > (S.room : Int) - (VfsS.used S : Nat)) = true := decide_eq_true (by omega)
      clear HSTEP
      go_wp2_with (first | (refine wp_load0 hT2 rfl _ rfl rfl hs1 ?_) | (refine wp_load0 hTu rfl _ rfl rfl rfl ?_) | (refine wp_load0 hT rfl _ rfl rfl rfl ?_) | (refine wp_store1 hTu rfl _ _ rfl rfl rfl rfl rfl hone ?_; intro w4 hT4 hg4; have hr4 := hru.in1 hTu hg4))
      (try simp only [Exit.inBlock, Exit.then])
      refine bodyPost_ret (hT4.ret2 rfl rfl _ rfl) rfl ?_
      rw [HS.out]
      exact ⟨_, rfl, (hr4.up _).mono (by omega) hN, hT4.below⟩
    have hd2 : decide ((b.size : Int) > (S.room : Int) - (VfsS.used S : Nat)) = false := decide_eq_false (by omega)
    by_cases hl : S.limit = 0
    · have HS : Hid (VfsS.appendS S s b = (S, 190)) := by show _ = _; unfold VfsS.appendS; rw [HFI.out]; simp only; rw [if_neg hfit, if_pos hl]
      have HT : Hid (VfsS.stepS S = S) := by show _ = _; unfold VfsS.stepS; rw [if_pos hl]
      rw [limB hl] at HSTEP
      clear hl
      go_wp2_with (first | (go_at_call 60; refine HSTEP.mono ?_; rintro e w1 ⟨cs1, rfl, hr1, hb1⟩; have hT1 := hTu.to hb1; have hs1 := hr1.size; have ho1 := hr1.one) | (refine wp_store0 hT1 rfl _ _ rfl rfl rfl rfl hs1 ho1 ?_; intro w2 hT2 hg2; have hr2 := hr1.in0 hT1 hg2) | (refine wp_load0 hT2 rfl _ rfl rfl hs1 ?_) | (refine wp_load0 hTu rfl _ rfl rfl rfl ?_) | (refine wp_load0 hT rfl _ rfl rfl rfl ?_) | (refine wp_store1 hT2 rfl _ _ rfl rfl rfl rfl hs1 ho1 ?_; intro w4 hT4 hg4; have hr4 := hr2.in1 hT2 hg4))
      (try simp only [Exit.inBlock, Exit.then])
      refine bodyPost_ret (hT4.ret2 hs1 rfl _ rfl) rfl ?_
      rw [HS.out]
      rw [HT.out] at hr4
      exact ⟨_, rfl, (hr4.up _), hT4.below⟩
    · have HS : Hid (VfsS.appendS S s b = (VfsS.putS (VfsS.stepS S) i ⟨(VfsS.fl S i).text ++ b, (VfsS.fl S i).dur⟩, 0)) := by show _ = _; unfold VfsS.appendS; rw [HFI.out]; simp only; rw [if_neg hfit, if_neg hl]
      have HFL := Lib.hid (VfsS.fl_step S i)
      have hit : i < (VfsS.stepS S).files.length := by rw [VfsS.stepS_files]; exact hil
      rw [limA hl] at HSTEP
      clear hl
      go_wp2_with (first | (go_at_call 60; refine HSTEP.mono ?_; rintro e w1 ⟨cs1, rfl, hr1, hb1⟩; have hT1 := hTu.to hb1; have hs1 := hr1.size; have ho1 := hr1.one) | (refine wp_store0 hT1 rfl _ _ rfl rfl rfl rfl hs1 ho1 ?_; intro w2 hT2 hg2; have hr2 := hr1.in0 hT1 hg2) | (refine wp_load0 hT2 rfl _ rfl rfl hs1 ?_) | (refine wp_load0 hTu rfl _ rfl rfl rfl ?_) | (refine wp_load0 hT rfl _ rfl rfl rfl ?_))
      have hrx := hr2
      have hlt := fl_mem hr2.wf hit
      have hbd : (VfsS.fl S i).text.size + b.size ≤ 4194304 := by omega
      clear hug hul hfit hwr
      generalize VfsS.stepS S = T at *
      obtain ⟨fa1, na1, sa1, aa1, fc1, nc1, sc1, ac1, e1, hx1⟩ := hrx
      subst e1
      obtain ⟨fb, fo, rfl, q0, q1⟩ := hx1.file i hit
      rw [HFL.out] at hlt q0 q1
      have d0 : w2.cell? ⟨w.heap.size, 0, none⟩ = some (.slice (some ⟨fb, fo, none⟩) T.files.length fc1) := hT2.c 0 rfl
      have d1 : w2.cell? ⟨w.heap.size, 1, none⟩ = some (.slice na1 T.now.length nc1) := hT2.c 1 rfl
      have d2 : w2.cell? ⟨w.heap.size, 2, none⟩ = some (.slice sa1 T.sure.length sc1) := hT2.c 2 rfl
      have d3 : w2.cell? ⟨w.heap.size, 3, none⟩ = some (.slice aa1 T.acts.length ac1) := hT2.c 3 rfl
      have d4 : w2.cell? ⟨w.heap.size, 4, none⟩ = some (.int .i64 T.room) := hT2.c 4 rfl
      have d5 : w2.cell? ⟨w.heap.size, 5, none⟩ = some (.int .i64 T.steps) := hT2.c 5 rfl
      have d6 : w2.cell? ⟨w.heap.size, 6, none⟩ = some (.int .i64 T.limit) := hT2.c 6 rfl
      generalize (VfsS.fl S i).text = tx at *
      generalize (VfsS.fl S i).dur = du at *
      have b1 : (0 : Int) ≤ (i : Int) := by omega
      have b2 : (i : Int) < T.files.length := by omega
      have HP := fun q => rput_r (hr2.below (below_dN (Below.refl _ w2) q)) i hit ⟨tx ++ b, du⟩ ⟨by show du ≤ (tx ++ b).size; rw [ByteArray.size_append]; omega, by show (tx ++ b).size ≤ _; rw [ByteArray.size_append]; exact hbd⟩
      have HP := Lib.hid HP
      have hnc : ¬ 9223372036854775807 < tx.size + b.size := by omega
      refine wp_region_quiet_tail 17 (by kernel_rfl) (by kernel_rfl) ?_
      simp only [List.take_succ_cons, List.take_zero, List.drop_succ_cons, List.drop_zero]
      iterate 17 quiet_step (fail)
      refine wpQuiet_nil ?_
      rintro _ ⟨nq, rfl⟩
      have hT2' := hT2.drewN nq
      go_wp2_with (first | (go_at_call 68; refine (HP.out nq).mono ?_; rintro e w3 ⟨cs3, rfl, hr3, hb3⟩; have hT3 := hT2'.to hb3; have hs3 := hr3.size; have ho3 := hr3.one) | (refine wp_store1 hT3 rfl _ _ rfl rfl rfl rfl hs3 ho3 ?_; intro w4 hT4 hg4; have hr4 := hr3.in1 hT3 hg4))
      (try simp only [Exit.inBlock, Exit.then])
      refine bodyPost_ret (hT4.ret2 hs3 rfl _ rfl) rfl ?_
      rw [HS.out]
      exact ⟨_, rfl, hr4.sub (fun k hk _ => hk.elim .inl (fun h => .inr (by have := hT2'.below.size; omega))), hT4.below⟩

set_option maxRecDepth 100000 in
set_option maxHeartbeats 2000000 in
theorem rcut_r (h : RR E w cs S N) (s : ByteArray) (n : Int) (hN : N + 1 ≤ 40000000) :
    Calls Tryd.prog 71 #[.agg cs, .string s, .int .i64 n] w fun e w' => ∃ cs', e = .returned (.tuple #[.agg cs', .int .i64 (VfsS.cutS S s n).2]) ∧ RR (Ku E w.heap.size) w' cs' (VfsS.cutS S s n).1 (N + 1) ∧ Below w.heap.size w w' := by
  have h0 := h
  obtain ⟨fa, na, sa, aa, fc, nc, sc, ac, rfl, hx⟩ := h
  have hone := h0.one
  have hT : TB w ((w.alloc (.cells #[.slice fa S.files.length fc, .slice na S.now.length nc, .slice sa S.sure.length sc, .slice aa S.acts.length ac, .int .i64 S.room, .int .i64 S.steps, .int .i64 S.limit] 36)).alloc (.cells #[.slice none 0 0, .slice none 0 0, .slice none 0 0, .slice none 0 0, .int .i64 0, .int .i64 0, .int .i64 0] 36)) w.heap.size (w.heap.size + 1) (rcells S fa na sa aa fc nc sc ac) fs0 := TB.start w _ _
  show Calls _ _ #[.agg #[.slice fa S.files.length fc, .slice na S.now.length nc, .slice sa S.sure.length sc, .slice aa S.acts.length ac, .int .i64 S.room, .int .i64 S.steps, .int .i64 S.limit], .string s, .int .i64 n] _ _
  have HFF := rfind_c (w := (w.alloc (.cells #[.slice fa S.files.length fc, .slice na S.now.length nc, .slice sa S.sure.length sc, .slice aa S.acts.length ac, .int .i64 S.room, .int .i64 S.steps, .int .i64 S.limit] 36)).alloc (.cells #[.slice none 0 0, .slice none 0 0, .slice none 0 0, .slice none 0 0, .int .i64 0, .int .i64 0, .int .i64 0] 36)) (hx.n.below hT.below) (by have := hx.ln; have := hx.big; omega) s
  go_enter Tryd.func71, Tryd.ntmps71
  go_upto_region 1 with fail
  generalize (w.alloc (.cells #[.slice fa S.files.length fc, .slice na S.now.length nc, .slice sa S.sure.length sc, .slice aa S.acts.length ac, .int .i64 S.room, .int .i64 S.steps, .int .i64 S.limit] 36)).alloc (.cells #[.slice none 0 0, .slice none 0 0, .slice none 0 0, .slice none 0 0, .int .i64 0, .int .i64 0, .int .i64 0] 36) = W at *
  have hrW := h0.below hT.below
  have hTu := hT
  have hru := hrW
  have c1 : W.cell? ⟨w.heap.size, 1, none⟩ = some (.slice na S.now.length nc) := hT.c 1 rfl
  have hwf := hx.wf
  have hxW := hx.below hT.below
  clear hx
  cases hf : find S.now s with
  | none =>
    have HS : Hid (VfsS.cutS S s n = (S, 4)) := by show _ = _; unfold VfsS.cutS; rw [hf]
    rw [hf] at HFF
    have HF : Calls Tryd.prog 59 #[.slice na S.now.length nc, .string s] W fun e w' => e = .returned (.int .i64 (-1)) ∧ w' = W := HFF
    clear hf HFF
    go_wp2_with (first | (go_at_call 59; refine HF.mono ?_; rintro e w' ⟨rfl, rfl⟩) | (refine wp_load0 hT rfl _ rfl rfl rfl ?_) | (refine wp_store1 hT rfl _ _ rfl rfl rfl rfl rfl hone ?_; intro w4 hT4 hg4; have hr4 := hrW.in1 hT hg4))
    (try simp only [Exit.inBlock, Exit.then])
    refine bodyPost_ret (hT4.ret2 rfl rfl _ rfl) rfl ?_
    rw [HS.out]
    exact ⟨_, rfl, (hr4.up _).mono (by omega) hN, hT4.below⟩
  | some i =>
    have hil := find_lt hwf hf
    rw [hf] at HFF
    have HF : Calls Tryd.prog 59 #[.slice na S.now.length nc, .string s] W fun e w' => e = .returned (.int .i64 (i : Int)) ∧ w' = W := HFF
    have hd : decide ((i : Int) < 0) = false := decide_eq_false (by omega)
    have d0 : W.cell? ⟨w.heap.size, 0, none⟩ = some (.slice fa S.files.length fc) := hT.c 0 rfl
    obtain ⟨fb, fo, rfl, q0, -⟩ := hxW.file i hil
    have HSTEP := rstep_r hru (by omega)
    have b1 : (0 : Int) ≤ (i : Int) := by omega
    have b2 : (i : Int) < S.files.length := by omega
    have hlt0 := fl_mem hwf hil
    by_cases hout : n < 0 ∨ ((VfsS.fl S i).text.size : Int) < n
    · have HS : Hid (VfsS.cutS S s n = (S, 1)) := by show _ = _; unfold VfsS.cutS; rw [hf]; simp only; rw [if_pos hout]
      generalize (VfsS.fl S i).text = tx at *
      clear hf HFF HSTEP
      by_cases hn : n < 0
      · have hd2 : decide (n < 0) = true := decide_eq_true hn
        clear hout
        go_wp2_with (first | (go_at_call 59; refine HF.mono ?_; rintro e w' ⟨rfl, rfl⟩) | (refine wp_load0 hT2 rfl _ rfl rfl hs1 ?_) | (refine wp_load0 hTu rfl _ rfl rfl rfl ?_) | (refine wp_load0 hT rfl _ rfl rfl rfl ?_) | (refine wp_store1 hT rfl _ _ rfl rfl rfl rfl rfl hone ?_; intro w4 hT4 hg4; have hr4 := hrW.in1 hT hg4))
        (try simp only [Exit.inBlock, Exit.then])
        refine bodyPost_ret (hT4.ret2 rfl rfl _ rfl) rfl ?_
        rw [HS.out]
        exact ⟨_, rfl, (hr4.up _).mono (by omega) hN, hT4.below⟩
      · have hd2 : decide (n < 0) = false := decide_eq_false hn
        have hd3 : decide (n > (tx.size : Int)) = true := decide_eq_true (by omega)
        clear hout
        go_wp2_with (first | (go_at_call 59; refine HF.mono ?_; rintro e w' ⟨rfl, rfl⟩) | (refine wp_load0 hT2 rfl _ rfl rfl hs1 ?_) | (refine wp_load0 hTu rfl _ rfl rfl rfl ?_) | (refine wp_load0 hT rfl _ rfl rfl rfl ?_) | (refine wp_store1 hT rfl _ _ rfl rfl rfl rfl rfl hone ?_; intro w4 hT4 hg4; have hr4 := hrW.in1 hT hg4))
        (try simp only [Exit.inBlock, Exit.then])
        refine bodyPost_ret (hT4.ret2 rfl rfl _ rfl) rfl ?_
        rw [HS.out]
        exact ⟨_, rfl, (hr4.up _).mono (by omega) hN, hT4.below⟩
    obtain ⟨m, rfl⟩ : ∃ m : Nat, n = m := ⟨n.toNat, by omega⟩
    have hd2 : decide ((m : Int) < 0) = false := decide_eq_false (by omega)
    have hd3 : decide ((m : Int) > ((VfsS.fl S i).text.size : Int)) = false := decide_eq_false (by omega)
    have hm : m ≤ (VfsS.fl S i).text.size := by omega
    by_cases hl : S.limit = 0
    · have HS : Hid (VfsS.cutS S s m = (S, 190)) := by show _ = _; unfold VfsS.cutS; rw [hf]; simp only; rw [if_neg hout, if_pos hl]
      have HT : Hid (VfsS.stepS S = S) := by show _ = _; unfold VfsS.stepS; rw [if_pos hl]
      rw [limB hl] at HSTEP
      generalize (VfsS.fl S i).text = tx at *
      clear hf HFF hl hout
      go_wp2_with (first | (go_at_call 59; refine HF.mono ?_; rintro e w' ⟨rfl, rfl⟩) | (go_at_call 60; refine HSTEP.mono ?_; rintro e w1 ⟨cs1, rfl, hr1, hb1⟩; have hT1 := hTu.to hb1; have hs1 := hr1.size; have ho1 := hr1.one) | (refine wp_store0 hT1 rfl _ _ rfl rfl rfl rfl hs1 ho1 ?_; intro w2 hT2 hg2; have hr2 := hr1.in0 hT1 hg2) | (refine wp_load0 hT2 rfl _ rfl rfl hs1 ?_) | (refine wp_load0 hTu rfl _ rfl rfl rfl ?_) | (refine wp_load0 hT rfl _ rfl rfl rfl ?_) | (refine wp_store1 hT2 rfl _ _ rfl rfl rfl rfl hs1 ho1 ?_; intro w4 hT4 hg4; have hr4 := hr2.in1 hT2 hg4))
      (try simp only [Exit.inBlock, Exit.then])
      refine bodyPost_ret (hT4.ret2 hs1 rfl _ rfl) rfl ?_
      rw [HS.out]
      rw [HT.out] at hr4
      exact ⟨_, rfl, (hr4.up _), hT4.below⟩
    · have HS : Hid (VfsS.cutS S s m = (VfsS.putS (VfsS.stepS S) i ⟨(VfsS.fl S i).text.extract 0 m, m⟩, 0)) := by show _ = _; unfold VfsS.cutS; rw [hf]; simp only; rw [if_neg hout, if_neg hl]; rfl
      have HFL := Lib.hid (VfsS.fl_step S i)
      have hit : i < (VfsS.stepS S).files.length := by rw [VfsS.stepS_files]; exact hil
      rw [limA hl] at HSTEP
      have hlt := hlt0
      generalize htx : (VfsS.fl S i).text = tx at *
      have HTX := Lib.hid htx
      clear htx
      clear hf HFF hl hout
      go_wp2_with (first | (go_at_call 59; refine HF.mono ?_; rintro e w' ⟨rfl, rfl⟩) | (go_at_call 60; refine HSTEP.mono ?_; rintro e w1 ⟨cs1, rfl, hr1, hb1⟩; have hT1 := hTu.to hb1; have hs1 := hr1.size; have ho1 := hr1.one) | (refine wp_store0 hT1 rfl _ _ rfl rfl rfl rfl hs1 ho1 ?_; intro w2 hT2 hg2; have hr2 := hr1.in0 hT1 hg2) | (refine wp_load0 hT2 rfl _ rfl rfl hs1 ?_) | (refine wp_load0 hTu rfl _ rfl rfl rfl ?_) | (refine wp_load0 hT rfl _ rfl rfl rfl ?_))
      have hrx := hr2
      clear d0 q0 c1
      generalize VfsS.stepS S = T at *
      obtain ⟨fa1, na1, sa1, aa1, fc1, nc1, sc1, ac1, e1, hx1⟩ := hrx
      subst e1
      obtain ⟨fb1, fo1, rfl, q0, q1⟩ := hx1.file i hit
      rw [HFL.out, HTX.out] at q0
      have d0 : w2.cell? ⟨w.heap.size, 0, none⟩ = some (.slice (some ⟨fb1, fo1, none⟩) T.files.length fc1) := hT2.c 0 rfl
      have d1 : w2.cell? ⟨w.heap.size, 1, none⟩ = some (.slice na1 T.now.length nc1) := hT2.c 1 rfl
      have d2 : w2.cell? ⟨w.heap.size, 2, none⟩ = some (.slice sa1 T.sure.length sc1) := hT2.c 2 rfl
      have d3 : w2.cell? ⟨w.heap.size, 3, none⟩ = some (.slice aa1 T.acts.length ac1) := hT2.c 3 rfl
      have d4 : w2.cell? ⟨w.heap.size, 4, none⟩ = some (.int .i64 T.room) := hT2.c 4 rfl
      have d5 : w2.cell? ⟨w.heap.size, 5, none⟩ = some (.int .i64 T.steps) := hT2.c 5 rfl
      have d6 : w2.cell? ⟨w.heap.size, 6, none⟩ = some (.int .i64 T.limit) := hT2.c 6 rfl
      have b3 : (i : Int) < T.files.length := by omega
      have hm0 : (0 : Int) ≤ (m : Int) := by omega
      have hm1 : (m : Int) ≤ tx.size := by omega
      have HP := fun q => rput_r (hr2.below (below_dN (Below.refl _ w2) q)) i hit ⟨tx.extract 0 m, m⟩ ⟨by show m ≤ (tx.extract 0 m).size; rw [ByteArray.size_extract]; omega, by show (tx.extract 0 m).size ≤ _; rw [ByteArray.size_extract]; omega⟩
      have HP := Lib.hid HP
      clear q1
      refine wp_region_quiet_tail 12 (by kernel_rfl) (by kernel_rfl) ?_
      simp only [List.take_succ_cons, List.take_zero, List.drop_succ_cons, List.drop_zero]
      iterate 12 quiet_step (fail)
      refine wpQuiet_nil ?_
      rintro _ ⟨nq, rfl⟩
      have hT2' := hT2.drewN nq
      go_wp2_with (first | (go_at_call 68; refine (HP.out nq).mono ?_; rintro e w3 ⟨cs3, rfl, hr3, hb3⟩; have hT3 := hT2'.to hb3; have hs3 := hr3.size; have ho3 := hr3.one) | (refine wp_store1 hT3 rfl _ _ rfl rfl rfl rfl hs3 ho3 ?_; intro w4 hT4 hg4; have hr4 := hr3.in1 hT3 hg4))
      (try simp only [Exit.inBlock, Exit.then])
      refine bodyPost_ret (hT4.ret2 hs3 rfl _ rfl) rfl ?_
      rw [HS.out]
      exact ⟨_, rfl, hr4.sub (fun k hk _ => hk.elim .inl (fun h => .inr (by have := hT2'.below.size; omega))), hT4.below⟩
end
end Go.Proofs.YtfoamcobpfflbaaDoor
namespace Go.Proofs.YtfoamcobpfflbaaDoor
namespace VfsS

/-- As the document has it: a limit below -1 is -1. -/
def cl (S : St) : St := { S with limit := max S.limit (-1) }

theorem cl_files (S : St) : (cl S).files = S.files := rfl
theorem cl_fl (S : St) (i : Nat) : fl (cl S) i = fl S i := rfl
theorem cl_used (S : St) : used (cl S) = used S := rfl
theorem cl_zero {S : St} : (cl S).limit = 0 ↔ S.limit = 0 := by show max S.limit (-1) = 0 ↔ _; omega
theorem cl_ge (S : St) : -1 ≤ (cl S).limit := by show -1 ≤ max S.limit (-1); omega

theorem cl_step (S : St) : stepS (cl S) = cl (stepS S) := by
  unfold stepS
  by_cases h : S.limit = 0
  · rw [if_pos (cl_zero.2 h), if_pos h]
  · rw [if_neg (fun e => h (cl_zero.1 e)), if_neg h]
    show St.mk _ _ _ _ _ _ _ = St.mk _ _ _ _ _ _ _
    congr 1
    show (if 0 < max S.limit (-1) then max S.limit (-1) - 1 else max S.limit (-1)) = max (if 0 < S.limit then S.limit - 1 else S.limit) (-1)
    split <;> split <;> omega
theorem cl_change (S : St) (a : Chg) : changeS (cl S) a = cl (changeS S a) := rfl
theorem cl_put (S : St) (i : Nat) (f : File) : putS (cl S) i f = cl (putS S i f) := rfl
theorem cl_flush (S : St) (n : Nat) : flushS (cl S) n = cl (flushS S n) := rfl

def clp (x : St × Int) : St × Int := (cl x.1, x.2)

theorem cl_create (S : St) (s : ByteArray) : createS (cl S) s = clp (createS S s) := by
  unfold createS
  by_cases h1 : PathS.check s ≠ 0
  · rw [if_pos h1, if_pos h1]; rfl
  · rw [if_neg h1, if_neg h1]
    by_cases h2 : (find S.now s).isSome
    · rw [if_pos h2, if_pos (show (find (cl S).now s).isSome from h2)]; rfl
    · rw [if_neg h2, if_neg (show ¬ (find (cl S).now s).isSome from h2)]
      by_cases h3 : S.limit = 0
      · rw [if_pos h3, if_pos (cl_zero.2 h3)]; rfl
      · rw [if_neg h3, if_neg (fun e => h3 (cl_zero.1 e)), cl_step]; rfl

theorem cl_append (S : St) (s b : ByteArray) : appendS (cl S) s b = clp (appendS S s b) := by
  unfold appendS
  show (match find S.now s with | none => _ | some i => _) = _
  cases find S.now s with
  | none => rfl
  | some i =>
    simp only
    by_cases h2 : (S.room : Int) - used S < b.size
    · rw [if_pos h2, if_pos (show ((cl S).room : Int) - used (cl S) < b.size from h2)]; rfl
    · rw [if_neg h2, if_neg (show ¬ ((cl S).room : Int) - used (cl S) < b.size from h2)]
      by_cases h3 : S.limit = 0
      · rw [if_pos h3, if_pos (cl_zero.2 h3)]; rfl
      · rw [if_neg h3, if_neg (fun e => h3 (cl_zero.1 e)), cl_step]; rfl

theorem cl_cut (S : St) (s : ByteArray) (n : Int) : cutS (cl S) s n = clp (cutS S s n) := by
  unfold cutS
  show (match find S.now s with | none => _ | some i => _) = _
  cases find S.now s with
  | none => rfl
  | some i =>
    simp only
    by_cases h2 : n < 0 ∨ ((fl S i).text.size : Int) < n
    · rw [if_pos h2]; exact if_pos h2
    · rw [if_neg h2]
      refine (if_neg h2).trans ?_
      by_cases h3 : S.limit = 0
      · rw [if_pos h3, if_pos (cl_zero.2 h3)]; rfl
      · rw [if_neg h3, if_neg (fun e => h3 (cl_zero.1 e)), cl_step]; rfl

theorem cl_sync (S : St) (s : ByteArray) : syncS (cl S) s = clp (syncS S s) := by
  unfold syncS
  show (match find S.now s with | none => _ | some i => _) = _
  cases find S.now s with
  | none => rfl
  | some i =>
    simp only [cl_fl]
    by_cases h3 : S.limit = 0
    · rw [if_pos h3, if_pos (cl_zero.2 h3)]; rfl
    · rw [if_neg h3, if_neg (fun e => h3 (cl_zero.1 e)), cl_step]; rfl

theorem cl_rename (S : St) (s t : ByteArray) : renameS (cl S) s t = clp (renameS S s t) := by
  unfold renameS
  show (match find S.now s with | none => _ | some i => _) = _
  cases find S.now s with
  | none => rfl
  | some i =>
    simp only
    by_cases h1 : PathS.check t ≠ 0
    · rw [if_pos h1, if_pos h1]; rfl
    · rw [if_neg h1, if_neg h1]
      by_cases h2 : s = t
      · rw [if_pos h2, if_pos h2]; rfl
      · rw [if_neg h2, if_neg h2]
        by_cases h3 : S.limit = 0
        · rw [if_pos h3, if_pos (cl_zero.2 h3)]; rfl
        · rw [if_neg h3, if_neg (fun e => h3 (cl_zero.1 e)), cl_step]; rfl

theorem cl_remove (S : St) (s : ByteArray) : removeS (cl S) s = clp (removeS S s) := by
  unfold removeS
  by_cases h2 : (find S.now s).isSome
  · rw [if_pos h2, if_pos (show (find (cl S).now s).isSome from h2)]
    by_cases h3 : S.limit = 0
    · rw [if_pos h3, if_pos (cl_zero.2 h3)]; rfl
    · rw [if_neg h3, if_neg (fun e => h3 (cl_zero.1 e)), cl_step]; rfl
  · rw [if_neg h2, if_neg (show ¬ (find (cl S).now s).isSome from h2)]; rfl

theorem cl_flushAll (S : St) : flushAllS (cl S) = clp (flushAllS S) := by
  unfold flushAllS
  by_cases h3 : S.limit = 0
  · rw [if_pos h3, if_pos (cl_zero.2 h3)]; rfl
  · rw [if_neg h3, if_neg (fun e => h3 (cl_zero.1 e)), cl_step]; rfl

theorem cl_crash (S : St) (x y : Int) : crashS (cl S) x y = cl (crashS S x y) := rfl
theorem cl_stop (S : St) (n : Int) : ({ cl S with limit := max n (-1) } : St) = cl { S with limit := n } := rfl
theorem cl_new (r : Nat) : cl (newS r) = newS r := rfl

/-- The names stand in order. -/
def Srt (l : Nm) : Prop := l.Pairwise fun p q => less p.1 q.1
theorem less_trans {a b c : ByteArray} (h1 : less a b) (h2 : less b c) : less a c := List.lt_trans h1 h2
theorem less_irrefl (a : ByteArray) : ¬ less a a := List.lt_irrefl _
theorem ba_ext' {x y : ByteArray} (e : x.data.toList = y.data.toList) : x = y := by cases x; cases y; congr 1; exact Array.toList_inj.1 e
theorem less_total {a b : ByteArray} (h : a ≠ b) (h2 : ¬ less a b) : less b a := by
  rcases Nat.lt_trichotomy 0 0 with h0 | _ | h0
  · omega
  · have h3 : b.data.toList ≤ a.data.toList := List.not_lt.1 h2
    rcases List.le_iff_lt_or_eq.1 h3 with h4 | h4
    · exact h4
    · exact absurd (ba_ext' h4.symm) h
  · omega

theorem srt_without {l : Nm} (h : Srt l) (s : ByteArray) : Srt (without l s) := h.sublist (without_sub l s)

theorem insAt_le (l : Nm) (s : ByteArray) : ∀ k, insAt l s k ≤ k
  | 0 => Nat.le_refl _
  | k + 1 => by
    unfold insAt
    split
    · exact Nat.le_succ_of_le (insAt_le l s k)
    · exact Nat.le_refl _

theorem insAt_behind (l : Nm) (s : ByteArray) : ∀ k, k ≤ l.length → ∀ j (hj : j < l.length), insAt l s k ≤ j → j < k → less s l[j].1
  | 0, _, j, _, _, h => by omega
  | k + 1, hk, j, hj, h1, h2 => by
    unfold insAt at h1
    split at h1
    · rename_i hl
      by_cases e : j = k
      · subst e
        rw [List.getD_eq_getElem?_getD, List.getElem?_eq_getElem (by omega)] at hl
        exact hl
      · exact insAt_behind l s k (by omega) j hj h1 (by omega)
    · omega

theorem insAt_ahead (l : Nm) (s : ByteArray) : ∀ k, k ≤ l.length → 0 < insAt l s k → insAt l s k - 1 < l.length ∧ ∀ p, l[insAt l s k - 1]? = some p → ¬ less s p.1
  | 0, _, h => by unfold insAt at h; omega
  | k + 1, hk, h => by
    by_cases hl : less s (l.getD k (ByteArray.empty, 0)).1
    · have e : insAt l s (k + 1) = insAt l s k := by rw [insAt, if_pos hl]
      rw [e] at h ⊢
      exact insAt_ahead l s k (by omega) h
    · have e : insAt l s (k + 1) = k + 1 := by rw [insAt, if_neg hl]
      rw [e]
      refine ⟨by omega, fun p hp => ?_⟩
      rw [List.getD_eq_getElem?_getD] at hl
      rw [Nat.add_sub_cancel] at hp
      rw [hp] at hl
      exact hl

theorem srt_ins {l : Nm} (h : Srt l) {s : ByteArray} (hn : find l s = none) (i : Nat) : Srt (ins l s i) := by
  unfold ins Srt at *
  have hle := insAt_le l s l.length
  have hb := insAt_behind l s l.length (Nat.le_refl _)
  have ha := insAt_ahead l s l.length (Nat.le_refl _)
  generalize insAt l s l.length = k at *
  rw [List.append_assoc, List.pairwise_append]
  have hne : ∀ p ∈ l, p.1 ≠ s := find_none.1 hn
  have hhead : ∀ p ∈ l.take k, less p.1 s := by
    intro p hp
    obtain ⟨j, hj, rfl⟩ := List.getElem_of_mem hp
    rw [List.length_take] at hj
    rw [List.getElem_take]
    obtain ⟨h2, h3⟩ := ha (by omega)
    have h3 := h3 _ (List.getElem?_eq_getElem h2)
    have h4 := less_total (fun e => hne _ (List.getElem_mem h2) e.symm) h3
    by_cases e : j = k - 1
    · subst e; exact h4
    · exact less_trans (List.pairwise_iff_getElem.1 h j (k - 1) (by omega) h2 (by omega)) h4
  have htail : ∀ p ∈ l.drop k, less s p.1 := by
    intro p hp
    obtain ⟨j, hj, rfl⟩ := List.getElem_of_mem hp
    rw [List.length_drop] at hj
    rw [List.getElem_drop]
    exact hb (k + j) (by omega) (by omega) (by omega)
  refine ⟨h.sublist (List.take_sublist _ _), ?_, ?_⟩
  · rw [List.singleton_append, List.pairwise_cons]
    exact ⟨fun p hp => htail p hp, h.sublist (List.drop_sublist _ _)⟩
  · intro p hp q hq
    rw [List.singleton_append, List.mem_cons] at hq
    rcases hq with rfl | hq
    · exact hhead p hp
    · exact less_trans (hhead p hp) (htail q hq)

theorem srt_doL {l : Nm} (h : Srt l) (a : Chg) : Srt (doL l a) := by
  have h1 : Srt (if a.src.size = 0 then l else without l a.src) := by
    split
    · exact h
    · exact srt_without h _
  unfold doL
  cases a.file with
  | none => exact h1
  | some i => exact srt_ins (srt_without h1 _) (by rw [find_without, if_pos rfl]) i

theorem srt_foldl : ∀ (l : List Chg) {m : Nm}, Srt m → Srt (l.foldl doL m)
  | [], _, h => h
  | a :: l, _, h => srt_foldl l (srt_doL h a)

/-- Both lists of names stand in order. -/
structure So (S : St) : Prop where
  n : Srt S.now
  s : Srt S.sure

theorem So.new (r : Nat) : So (newS r) := ⟨List.Pairwise.nil, List.Pairwise.nil⟩
theorem So.step {S : St} (h : So S) : So (stepS S) := ⟨by rw [stepS_now]; exact h.n, by rw [stepS_sure]; exact h.s⟩
theorem So.change {S : St} (h : So S) (a : Chg) : So (changeS S a) := ⟨srt_doL h.n a, h.s⟩
theorem So.put {S : St} (h : So S) (i : Nat) (f : File) : So (putS S i f) := ⟨h.n, h.s⟩
theorem So.flush {S : St} (h : So S) (n : Nat) : So (flushS S n) := ⟨h.n, srt_foldl _ h.s⟩
theorem So.create {S : St} (h : So S) (s : ByteArray) : So (createS S s).1 := by
  unfold createS
  split
  · exact h
  · split
    · exact h
    · split
      · exact h
      · exact So.change (S := { stepS S with files := S.files ++ [⟨ByteArray.empty, 0⟩] }) ⟨h.step.n, h.step.s⟩ _
theorem So.append {S : St} (h : So S) (s b : ByteArray) : So (appendS S s b).1 := by
  unfold appendS
  cases find S.now s with
  | none => exact h
  | some i =>
    simp only
    split
    · exact h
    · split
      · exact h
      · exact h.step.put _ _
theorem So.cut {S : St} (h : So S) (s : ByteArray) (n : Int) : So (cutS S s n).1 := by
  unfold cutS
  cases find S.now s with
  | none => exact h
  | some i =>
    simp only
    split
    · exact h
    · split
      · exact h
      · exact h.step.put _ _
theorem So.sync {S : St} (h : So S) (s : ByteArray) : So (syncS S s).1 := by
  unfold syncS
  cases find S.now s with
  | none => exact h
  | some i =>
    simp only
    split
    · exact h
    · exact h.step.put _ _
theorem So.rename {S : St} (h : So S) (s t : ByteArray) : So (renameS S s t).1 := by
  unfold renameS
  cases find S.now s with
  | none => exact h
  | some i =>
    simp only
    split
    · exact h
    · split
      · exact h
      · split
        · exact h
        · exact h.step.change _
theorem So.remove {S : St} (h : So S) (s : ByteArray) : So (removeS S s).1 := by
  unfold removeS
  split
  · split
    · exact h
    · exact h.step.change _
  · exact h
theorem So.flushAll {S : St} (h : So S) : So (flushAllS S).1 := by
  unfold flushAllS
  split
  · exact h
  · exact h.step.flush _
theorem So.crash {S : St} (h : So S) (x y : Int) : So (crashS S x y) := ⟨(h.flush _).s, (h.flush _).s⟩

theorem srt_sorted {l : Nm} (h : Srt l) : (l.map fun p => p.1.data.toList).Pairwise fun a b => (decide (a ≤ b)) = true := by
  rw [List.pairwise_map]
  exact h.imp fun {p q} hpq => decide_eq_true (List.le_of_lt hpq)
end VfsS
end Go.Proofs.YtfoamcobpfflbaaDoor
