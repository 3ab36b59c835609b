/- Texts of mine, joined: Walks over the document's answer: Crash. | Walks over the document's answer: Rename. | string(b), []byte("..") over slices of bytes. Of every program. | What the law's step holds on to: the program's file system, the document's struct, the call's own blocks. | One call at both: the program's and the document's. (Printed by a program of mine: /wip/mkla.py) -/
import Derived.Laws.BytesArg
import Derived.Lib.SlBytesConst
import Derived.Test.YtfoamcobpfflbaaDoorZ10
namespace Go.Proofs.YtfoamcobpfflbaaDoor
open Go Go.RowKit
open VfsS (File Chg Nm St find doL)

/-- The state behind the first j files were cut. -/
def midC (S : St) (y : Int) (j : Nat) : St := { S with files := (S.files.take j).map (VfsS.cutF y) ++ S.files.drop j }
theorem midC_len (S : St) (y : Int) (j : Nat) : (midC S y j).files.length = S.files.length := by
  show (_ ++ _ : List File).length = _
  rw [List.length_append, List.length_map, List.length_take, List.length_drop]; omega
theorem midC_fl (S : St) (y : Int) (j : Nat) (h : j < S.files.length) : VfsS.fl (midC S y j) j = VfsS.fl S j := by
  unfold VfsS.fl midC
  simp only [List.getD_eq_getElem?_getD]
  rw [List.getElem?_append_right (by rw [List.length_map, List.length_take]; omega), List.length_map, List.length_take, Nat.min_eq_left (by omega), Nat.sub_self, List.getElem?_drop]; rfl
theorem midC_put (S : St) (y : Int) (j : Nat) (h : j < S.files.length) : VfsS.putS (midC S y j) j (VfsS.cutF y (VfsS.fl S j)) = midC S y (j + 1) := by
  have e1 : VfsS.fl S j = S.files[j] := by unfold VfsS.fl; rw [List.getD_eq_getElem?_getD, List.getElem?_eq_getElem h]; rfl
  rw [e1]
  unfold VfsS.putS midC
  show St.mk _ _ _ _ _ _ _ = St.mk _ _ _ _ _ _ _
  congr 1
  show ((S.files.take j).map (VfsS.cutF y) ++ S.files.drop j).set j _ = _
  have hl : ((S.files.take j).map (VfsS.cutF y)).length = j := by rw [List.length_map, List.length_take]; omega
  rw [List.set_append_right _ _ (by omega), hl, Nat.sub_self, List.drop_eq_getElem_cons h, List.set_cons_zero, List.take_succ_eq_append_getElem h, List.map_append, List.append_assoc]
  rfl
theorem midC_zero (S : St) (y : Int) : midC S y 0 = S := by unfold midC; simp
theorem midC_all (S : St) (y : Int) : midC S y S.files.length = { S with files := S.files.map (VfsS.cutF y) } := by unfold midC; simp

section
variable {E E' : Nat → Prop} {w w' : World} {S : St} {N : Nat} {cs : Array Value}

theorem RX.in0 {fa na sa aa : Option Addr} {fc nc sc ac : Nat} {w0 : World} {b0 b1 : Nat} {v u : Array Value} (h : RX E w S N fa na sa aa fc nc sc ac) (ht : TB w0 w b0 b1 v u) (hg : w.grownBy w' (some b0)) : RX E w' S N fa na sa aa fc nc sc ac := by
  have key : ∀ {t : TypeId} {size : Nat} {x : Value} {n : Nat} {xs : List Value}, OwnG w t size x n xs → 36 ≠ t → OwnG w' t size x n xs := fun {t size x n xs} ho h2 => ho.kept hg (by
    cases hk : x.ownBlock with
    | none => exact .inl rfl
    | some k =>
      right; intro e2; injection e2 with e2; subst e2
      obtain ⟨cur, hc⟩ := ho.tag hk
      rw [ht.h0] at hc; injection hc with hc; injection hc with _ hc _; exact h2 hc)
  exact { h with f := key h.f (by decide), n := key h.n (by decide), s := key h.s (by decide), a := key h.a (by decide) }

theorem RX.setActs {fa na sa aa : Option Addr} {fc nc sc ac : Nat} (h : RX E w S N fa na sa aa fc nc sc ac) : RX E w { S with acts := [] } N fa na sa none fc nc sc 0 :=
  { f := h.f, n := h.n, s := h.s, a := OwnG.nil _ _ _, kf := h.kf, kn := h.kn, ks := h.ks, ka := fun k hk => by cases hk
    wf := { idx := fun i hi => h.wf.idx i (hi.elim .inl fun hi => hi.elim (fun hi => .inr (.inl hi)) fun ⟨a, ha, _⟩ => by cases ha), dn := h.wf.dn, ds := h.wf.ds, zn := h.wf.zn, zs := h.wf.zs, za := (fun _ ha => nomatch ha), dur := h.wf.dur, room := h.wf.room, lim := h.wf.lim }
    lf := h.lf, ln := h.ln, la := by have := h.la; show S.sure.length + 0 ≤ N; omega, st := h.st, big := h.big, lim := h.lim }

theorem RX.setNow {fa na sa aa : Option Addr} {fc nc sc ac : Nat} (h : RX E w S N fa na sa aa fc nc sc ac) : RX E w { S with now := S.sure } N fa sa sa aa fc sc sc ac :=
  { f := h.f, n := h.s, s := h.s, a := h.a, kf := h.kf, kn := h.ks, ks := h.ks, ka := h.ka
    wf := { idx := fun i hi => h.wf.idx i (hi.elim (fun hi => .inr (.inl hi)) fun hi => .inr hi), dn := h.wf.ds, ds := h.wf.ds, zn := h.wf.zs, zs := h.wf.zs, za := h.wf.za, dur := h.wf.dur, room := h.wf.room, lim := h.wf.lim }
    lf := h.lf, ln := by have := h.la; show S.sure.length ≤ N; omega, la := h.la, st := h.st, big := h.big, lim := h.lim }

theorem RX.setLim {fa na sa aa : Option Addr} {fc nc sc ac : Nat} (h : RX E w S N fa na sa aa fc nc sc ac) (n : Int) (hn : -1 ≤ n ∧ n ≤ 9223372036854775807) : RX E w { S with limit := n } N fa na sa aa fc nc sc ac :=
  { f := h.f, n := h.n, s := h.s, a := h.a, kf := h.kf, kn := h.kn, ks := h.ks, ka := h.ka
    wf := { idx := h.wf.idx, dn := h.wf.dn, ds := h.wf.ds, zn := h.wf.zn, zs := h.wf.zs, za := h.wf.za, dur := h.wf.dur, room := h.wf.room, lim := by show _ ≤ n ∧ n ≤ _; omega }
    lf := h.lf, ln := h.ln, la := h.la, st := h.st, big := h.big, lim := hn.1 }

set_option maxRecDepth 100000 in
set_option maxHeartbeats 2000000 in
theorem rcrash_r (h : RR E w cs S N) (x y : Int) :
    Calls Tryd.prog 26 #[.agg cs, .int .i64 x, .int .i64 y] w fun e w' => ∃ cs', e = .returned (.agg cs') ∧ RR (Ku E w.heap.size) w' cs' (VfsS.crashS S x y) N ∧ Below w.heap.size w w' := by
  have h0 := h
  obtain ⟨fa, na, sa, aa, fc, nc, sc, ac, rfl, hx⟩ := h
  have hT : TB w ((w.alloc (.cells #[.slice fa S.files.length fc, .slice na S.now.length nc, .slice sa S.sure.length sc, .slice aa S.acts.length ac, .int .i64 S.room, .int .i64 S.steps, .int .i64 S.limit] 36)).alloc (.cells #[.slice none 0 0, .slice none 0 0, .slice none 0 0, .slice none 0 0, .int .i64 0, .int .i64 0, .int .i64 0] 36)) w.heap.size (w.heap.size + 1) (rcells S fa na sa aa fc nc sc ac) fs0 := TB.start w _ _
  show Calls _ _ #[.agg #[.slice fa S.files.length fc, .slice na S.now.length nc, .slice sa S.sure.length sc, .slice aa S.acts.length ac, .int .i64 S.room, .int .i64 S.steps, .int .i64 S.limit], .int .i64 x, .int .i64 y] _ _
  have HCR : Hid (VfsS.crashS S x y = { midC { VfsS.flushS S (VfsS.clampN x S.acts.length) with acts := [], now := (VfsS.flushS S (VfsS.clampN x S.acts.length)).sure } y S.files.length with limit := -1 }) := by
    show _ = _
    have := midC_all { VfsS.flushS S (VfsS.clampN x S.acts.length) with acts := [], now := (VfsS.flushS S (VfsS.clampN x S.acts.length)).sure } y
    rw [show ({ VfsS.flushS S (VfsS.clampN x S.acts.length) with acts := [], now := (VfsS.flushS S (VfsS.clampN x S.acts.length)).sure } : St).files.length = S.files.length from rfl] at this
    rw [this]; rfl
  go_enter Tryd.func26, Tryd.ntmps26
  go_upto_region 1 with fail
  generalize (w.alloc (.cells #[.slice fa S.files.length fc, .slice na S.now.length nc, .slice sa S.sure.length sc, .slice aa S.acts.length ac, .int .i64 S.room, .int .i64 S.steps, .int .i64 S.limit] 36)).alloc (.cells #[.slice none 0 0, .slice none 0 0, .slice none 0 0, .slice none 0 0, .int .i64 0, .int .i64 0, .int .i64 0] 36) = W at *
  have hrW := h0.below hT.below
  have d0 : W.cell? ⟨w.heap.size, 0, none⟩ = some (.slice fa S.files.length fc) := hT.c 0 rfl
  have d1 : W.cell? ⟨w.heap.size, 1, none⟩ = some (.slice na S.now.length nc) := hT.c 1 rfl
  have d2 : W.cell? ⟨w.heap.size, 2, none⟩ = some (.slice sa S.sure.length sc) := hT.c 2 rfl
  have d3 : W.cell? ⟨w.heap.size, 3, none⟩ = some (.slice aa S.acts.length ac) := hT.c 3 rfl
  have d4 : W.cell? ⟨w.heap.size, 4, none⟩ = some (.int .i64 S.room) := hT.c 4 rfl
  have d5 : W.cell? ⟨w.heap.size, 5, none⟩ = some (.int .i64 S.steps) := hT.c 5 rfl
  have d6 : W.cell? ⟨w.heap.size, 6, none⟩ = some (.int .i64 S.limit) := hT.c 6 rfl
  have hbig := hx.big
  have hlf := hx.lf
  have hacl : VfsS.clampN x S.acts.length ≤ S.acts.length := Nat.min_le_right _ _
  have HFL := Lib.hid (fun q => rflush_r (hrW.below (below_dN (Below.refl _ W) q)) (VfsS.clampN x S.acts.length) hacl)
  clear hx
  refine wp_region_quiet_tail 6 (by kernel_rfl) (by kernel_rfl) ?_
  simp only [List.take_succ_cons, List.take_zero, List.drop_succ_cons, List.drop_zero]
  iterate 5 quiet_step (fail)
  quiet_step (exact Calls.quiet_of_same ((rclamp_c _ _ _).mono fun _ _ ⟨e1, e2⟩ => ⟨e1, e2⟩))
  refine wpQuiet_nil ?_
  rintro _ ⟨nq, rfl⟩
  clear d0 d1 d2 d3 d4 d5 d6
  have hT' := hT.drewN nq
  go_upto_region 2 with (first | (go_at_call 64; refine (HFL.out nq).mono ?_; rintro e w1 ⟨cs1, rfl, hr1, hb1⟩; have hT1 := hT'.to hb1; have hs1 := hr1.size; have ho1 := hr1.one) | (refine wp_store0 hT1 rfl _ _ rfl rfl rfl rfl hs1 ho1 ?_; intro w2 hT2 hg2; have hr2 := hr1.in0 hT1 hg2))
  have hsz2 := hT'.below.size
  have hr2 := hr2.sub (E' := Ku E w.heap.size) (fun k hk _ => hk.elim .inl (fun h => .inr (by omega)))
  have hff : (VfsS.flushS S (VfsS.clampN x S.acts.length)).files.length = S.files.length := rfl
  generalize VfsS.flushS S (VfsS.clampN x S.acts.length) = T at *
  obtain ⟨fa1, na1, sa1, aa1, fc1, nc1, sc1, ac1, e1, hx1⟩ := hr2
  subst e1
  have f3 := hT2.f 3
  obtain ⟨hT3, hg3⟩ := hT2.set0 3 (.slice none 0 0)
  have hx3 := (hx1.in0 hT2 hg3).setActs
  change TB w _ _ _ (rcells { T with acts := [] } fa1 na1 sa1 none fc1 nc1 sc1 0) fs0 at hT3
  have k2 : (w2.setCell ⟨w.heap.size, 3, none⟩ (.slice none 0 0)).cell? ⟨w.heap.size, 2, none⟩ = some (.slice sa1 T.sure.length sc1) := hT3.c 2 rfl
  have f1 := hT3.f 1
  have e3 : w2.cell? ⟨w.heap.size, 3, none⟩ = some (.slice aa1 T.acts.length ac1) := hT2.c 3 rfl
  have e1 : (w2.setCell ⟨w.heap.size, 3, none⟩ (.slice none 0 0)).cell? ⟨w.heap.size, 1, none⟩ = some (.slice na1 T.now.length nc1) := hT3.c 1 rfl
  obtain ⟨hT4, hg4⟩ := hT3.set0 1 (.slice sa1 T.sure.length sc1)
  have hx4 := (hx3.in0 hT3 hg4).setNow
  change TB w _ _ _ (rcells { T with acts := [], now := T.sure } fa1 sa1 sa1 none fc1 sc1 sc1 0) fs0 at hT4
  go_wp2_with fail
  generalize (w2.setCell ⟨w.heap.size, 3, none⟩ (.slice none 0 0)).setCell ⟨w.heap.size, 1, none⟩ (.slice sa1 T.sure.length sc1) = w4 at *
  clear hT3 hx3 hT2 hx1 hg3 hg4 f3 k2 f1 e3 e1
  have hU : ({ T with acts := [], now := T.sure } : St).files.length = S.files.length := hff
  have hlimU : -1 ≤ ({ T with acts := [], now := T.sure } : St).limit := hx4.lim
  have hr4 : RR (Ku E w.heap.size) w4 (rcells { T with acts := [], now := T.sure } fa1 sa1 sa1 none fc1 sc1 sc1 0) { T with acts := [], now := T.sure } N := ⟨_, _, _, _, _, _, _, _, rfl, hx4⟩
  generalize (rcells { T with acts := [], now := T.sure } fa1 sa1 sa1 none fc1 sc1 sc1 0) = c4 at *
  generalize hUU : ({ T with acts := [], now := T.sure } : St) = U at *
  clear hx4 hUU hff HFL hT' hrW hT hg2 ho1 hr1 hb1
  go_loopw [7] (fun iv wx => ∃ (j : Nat) (cj : Array Value), j ≤ S.files.length ∧ iv = .int .i64 j ∧ TB w wx w.heap.size (w.heap.size + 1) cj fs0 ∧ RR (Ku E w.heap.size) wx cj (midC U y j) N) (fun iv _ => (S.files.length - intOf iv).toNat)
  case atStart => exact ⟨0, c4, Nat.zero_le _, rfl, hT4, by rw [midC_zero]; exact hr4⟩
  case round =>
    clear hT4 hr4
    obtain ⟨j, cj, hj, rfl, hT, hr⟩ := hrel
    have hr' := hr
    obtain ⟨fa1, na1, sa1, aa1, fc1, nc1, sc1, ac1, e1, hx⟩ := hr'
    subst e1
    have hlen := midC_len U y j
    rw [hU] at hlen
    have HLEN := Lib.hid hlen
    have d0 : wr.cell? ⟨w.heap.size, 0, none⟩ = some (.slice fa1 (midC U y j).files.length fc1) := hT.c 0 rfl
    by_cases hjl : j < S.files.length
    · have hd : decide ((j : Int) < ((midC U y j).files.length : Int)) = true := decide_eq_true (by omega)
      have hjT : j < (midC U y j).files.length := by omega
      have hjU : j < U.files.length := by omega
      obtain ⟨fb, fo, rfl, q0, q1⟩ := hx.file j hjT
      have hlt := fl_mem hx.wf hjT
      rw [midC_fl U y j hjU] at q0 q1 hlt
      have HPUT := Lib.hid (midC_put U y j hjU)
      have HCF : Hid (VfsS.cutF y (VfsS.fl U j) = ⟨(VfsS.fl U j).text.extract 0 ((VfsS.fl U j).dur + VfsS.clampN y ((VfsS.fl U j).text.size - (VfsS.fl U j).dur)), (VfsS.fl U j).dur + VfsS.clampN y ((VfsS.fl U j).text.size - (VfsS.fl U j).dur)⟩) := by show _ = _; rfl
      rw [HCF.out] at HPUT
      clear HCF
      generalize (VfsS.fl U j).text = tx at *
      generalize (VfsS.fl U j).dur = du at *
      have hcn : VfsS.clampN y (tx.size - du) ≤ tx.size - du := Nat.min_le_right _ _
      have hm0 : ∃ m, tx.size - du = m := ⟨_, rfl⟩
      obtain ⟨m, hm⟩ := hm0
      rw [hm] at hcn HPUT
      have hn0 : ∃ n, du + VfsS.clampN y m = n := ⟨_, rfl⟩
      obtain ⟨n, hn⟩ := hn0
      rw [hn] at HPUT
      have hwr1 : IntKind.i64.wrap ((tx.size : Int) - (du : Int)) = (m : Int) := by rw [IntWalk.i64_in _ (by omega)]; omega
      have hwr2 : IntKind.i64.wrap ((du : Int) + (VfsS.clampN y m : Nat)) = (n : Int) := by rw [IntWalk.i64_in _ (by omega)]; omega
      have hw : IntKind.i64.wrap ((j : Int) + 1) = (j : Int) + 1 := IntWalk.i64_in _ (by omega)
      have b1 : (0 : Int) ≤ (j : Int) := by omega
      have b2 : (j : Int) < (midC U y j).files.length := by omega
      have b3 : (0 : Int) ≤ (n : Int) := by omega
      have b4 : (n : Int) ≤ tx.size := by omega
      have hbA : Below wr.heap.size wr (wr.alloc (.cells #[.string tx, .int .i64 (du : Int)] 119)) := (Below.refl _ wr).alloc (Nat.le_refl _) _
      have HP := Lib.hid (fun (Wn : World) (hbn : Below (wr.alloc (.cells #[.string tx, .int .i64 (du : Int)] 119)).heap.size (wr.alloc (.cells #[.string tx, .int .i64 (du : Int)] 119)) Wn) => rput_r ((hr.below hbA).below hbn) j hjT ⟨tx.extract 0 n, n⟩ ⟨by show n ≤ (tx.extract 0 n).size; rw [ByteArray.size_extract]; omega, by show (tx.extract 0 n).size ≤ _; rw [ByteArray.size_extract]; omega⟩)
      clear hm hn hcn hx hr hlen hU
      go_upto_region 8 with fail
      go_quiet ((go_at_call 69; exact Calls.quiet_of_same ((rclamp_c _ _ _).mono fun _ _ ⟨e1, e2⟩ => ⟨e1, e2⟩)))
      have hT1 := hT.to hbA
      have hsz1 := hbA.size
      have g0 : (wr.alloc (.cells #[.string tx, .int .i64 (du : Int)] 119)).cell? ⟨wr.heap.size, 0, none⟩ = some (.string tx) := by rw [cell_of (show _ = some (Obj.cells #[.string tx, .int .i64 (du : Int)] 119 (0, 0)) from Array.getElem?_push_size)]; rfl
      generalize wr.alloc (.cells #[.string tx, .int .i64 (du : Int)] 119) = W1 at *
      have d0 : W1.cell? ⟨w.heap.size, 0, none⟩ = some (.slice (some ⟨fb, fo, none⟩) (midC U y j).files.length fc1) := hT1.c 0 rfl
      have d1 : W1.cell? ⟨w.heap.size, 1, none⟩ = some (.slice na1 (midC U y j).now.length nc1) := hT1.c 1 rfl
      have d2 : W1.cell? ⟨w.heap.size, 2, none⟩ = some (.slice sa1 (midC U y j).sure.length sc1) := hT1.c 2 rfl
      have d3 : W1.cell? ⟨w.heap.size, 3, none⟩ = some (.slice aa1 (midC U y j).acts.length ac1) := hT1.c 3 rfl
      have d4 : W1.cell? ⟨w.heap.size, 4, none⟩ = some (.int .i64 (midC U y j).room) := hT1.c 4 rfl
      have d5 : W1.cell? ⟨w.heap.size, 5, none⟩ = some (.int .i64 (midC U y j).steps) := hT1.c 5 rfl
      have d6 : W1.cell? ⟨w.heap.size, 6, none⟩ = some (.int .i64 (midC U y j).limit) := hT1.c 6 rfl
      go_upto_region 9 with fail
      refine wp_region_quiet_tail 8 (by kernel_rfl) (by kernel_rfl) ?_
      simp only [List.take_succ_cons, List.take_zero, List.drop_succ_cons, List.drop_zero]
      iterate 8 quiet_step (fail)
      refine wpQuiet_nil ?_
      rintro Wn ⟨nr, hWn⟩
      have hbn : Below W1.heap.size W1 Wn := by rw [hWn]; exact below_dN (below_dN (Below.refl _ _) _) _
      clear d0 d1 d2 d3 d4 d5 d6 g0 hWn
      have hT1' := hT1.to hbn
      have hszn := hbn.size
      go_wp2_with (first | (go_at_call 68; refine (HP.out Wn hbn).mono ?_; rintro e w3 ⟨cs3, rfl, hr3, hb3⟩; have hT3 := hT1'.to hb3; have hs3 := hr3.size; have ho3 := hr3.one) | (refine wp_store0 hT3 rfl _ _ rfl rfl rfl rfl hs3 ho3 ?_; intro w2 hT2 hg2; have hr2 := hr3.in0 hT3 hg2))
      go_roundw
      case rel =>
        refine ⟨j + 1, cs3, by omega, by go_num, hT2, ?_⟩
        rw [← HPUT.out]
        have hs1 := hT.below.size
        exact hr2.sub (fun k hk _ => hk.elim id (fun h => .inr (by omega)))
      case measure => simp [intOf]; omega
    · have hd : decide ((j : Int) < ((midC U y j).files.length : Int)) = false := decide_eq_false (by omega)
      obtain rfl : j = S.files.length := by omega
      have hd' : decide (S.files.length < (midC U y S.files.length).files.length) = false := decide_eq_false (by omega)
      have f6 := hT.f 6
      have e6 : wr.cell? ⟨w.heap.size, 6, none⟩ = some (.int .i64 (midC U y S.files.length).limit) := hT.c 6 rfl
      obtain ⟨hT5, hg5⟩ := hT.set0 6 (.int .i64 (-1))
      have hx5 := (hx.in0 hT hg5).setLim (-1) (by omega)
      change TB w _ _ _ (rcells { midC U y S.files.length with limit := -1 } fa1 na1 sa1 aa1 fc1 nc1 sc1 ac1) fs0 at hT5
      have hone5 := oneFS { midC U y S.files.length with limit := -1 } fa1 na1 sa1 aa1 fc1 nc1 sc1 ac1
      have hr5 : RR (Ku E w.heap.size) (wr.setCell ⟨w.heap.size, 6, none⟩ (.int .i64 (-1))) (rcells { midC U y S.files.length with limit := -1 } fa1 na1 sa1 aa1 fc1 nc1 sc1 ac1) { midC U y S.files.length with limit := -1 } N := ⟨_, _, _, _, _, _, _, _, rfl, hx5⟩
      clear hx5 hx hr hg5 hlen
      go_wp2_with (first
        | (refine wp_load0 hT5 rfl _ rfl rfl rfl ?_)
        | (refine wp_store1 hT5 rfl _ _ rfl rfl rfl rfl rfl hone5 ?_; intro w4 hT4 hg4; have hr4 := hr5.in1 hT5 hg4))
      (try simp only [Exit.inBlock, Exit.then])
      refine bodyPost_ret (hT4.ret1 rfl rfl _ rfl) rfl ?_
      rw [HCR.out]
      exact ⟨_, rfl, hr4, hT4.below⟩
end
end Go.Proofs.YtfoamcobpfflbaaDoor
namespace Go.Proofs.YtfoamcobpfflbaaDoor
open Go Go.RowKit
open VfsS (File Chg Nm St find doL)

section
variable {E E' : Nat → Prop} {w w' : World} {S : St} {N : Nat} {cs : Array Value}

set_option maxRecDepth 100000 in
set_option maxHeartbeats 1000000 in
theorem rrename_r (h : RR E w cs S N) (s t : ByteArray) (hs : s.size ≤ 10000000) (ht : t.size ≤ 10000000) (hN : N + 2 ≤ 40000000) :
    Calls Tryd.prog 82 #[.agg cs, .string s, .string t] w fun e w' => ∃ cs', e = .returned (.tuple #[.agg cs', .int .i64 (VfsS.renameS S s t).2]) ∧ RR (Ku E w.heap.size) w' cs' (VfsS.renameS S s t).1 (N + 2) ∧ Below w.heap.size w w' := by
  have h0 := h
  obtain ⟨fa, na, sa, aa, fc, nc, sc, ac, rfl, hx⟩ := h
  have hone := h0.one
  have hT : TB w ((w.alloc (.cells #[.slice fa S.files.length fc, .slice na S.now.length nc, .slice sa S.sure.length sc, .slice aa S.acts.length ac, .int .i64 S.room, .int .i64 S.steps, .int .i64 S.limit] 36)).alloc (.cells #[.slice none 0 0, .slice none 0 0, .slice none 0 0, .slice none 0 0, .int .i64 0, .int .i64 0, .int .i64 0] 36)) w.heap.size (w.heap.size + 1) (rcells S fa na sa aa fc nc sc ac) fs0 := TB.start w _ _
  show Calls _ _ #[.agg #[.slice fa S.files.length fc, .slice na S.now.length nc, .slice sa S.sure.length sc, .slice aa S.acts.length ac, .int .i64 S.room, .int .i64 S.steps, .int .i64 S.limit], .string s, .string t] _ _
  have HFF := rfind_c (w := (w.alloc (.cells #[.slice fa S.files.length fc, .slice na S.now.length nc, .slice sa S.sure.length sc, .slice aa S.acts.length ac, .int .i64 S.room, .int .i64 S.steps, .int .i64 S.limit] 36)).alloc (.cells #[.slice none 0 0, .slice none 0 0, .slice none 0 0, .slice none 0 0, .int .i64 0, .int .i64 0, .int .i64 0] 36)) (hx.n.below hT.below) (by have := hx.ln; have := hx.big; omega) s
  go_enter Tryd.func82, Tryd.ntmps82
  go_upto_region 1 with fail
  generalize (w.alloc (.cells #[.slice fa S.files.length fc, .slice na S.now.length nc, .slice sa S.sure.length sc, .slice aa S.acts.length ac, .int .i64 S.room, .int .i64 S.steps, .int .i64 S.limit] 36)).alloc (.cells #[.slice none 0 0, .slice none 0 0, .slice none 0 0, .slice none 0 0, .int .i64 0, .int .i64 0, .int .i64 0] 36) = W at *
  have hrW := h0.below hT.below
  have c1 : W.cell? ⟨w.heap.size, 1, none⟩ = some (.slice na S.now.length nc) := hT.c 1 rfl
  have hwf := hx.wf
  clear hx
  cases hf : find S.now s with
  | none =>
    have HS : Hid (VfsS.renameS S s t = (S, 4)) := by show _ = _; unfold VfsS.renameS; rw [hf]
    rw [hf] at HFF
    have HF : Calls Tryd.prog 59 #[.slice na S.now.length nc, .string s] W fun e w' => e = .returned (.int .i64 (-1)) ∧ w' = W := HFF
    clear hf HFF
    go_wp2_with (first | (go_at_call 59; refine HF.mono ?_; rintro e w' ⟨rfl, rfl⟩) | (refine wp_load0 hT2 rfl _ rfl rfl hs1 ?_) | (refine wp_load0 hTc rfl _ rfl rfl rfl ?_) | (refine wp_load0 hT rfl _ rfl rfl rfl ?_) | (refine wp_store1 hT rfl _ _ rfl rfl rfl rfl rfl hone ?_; intro w4 hT4 hg4; have hr4 := hrW.in1 hT hg4))
    (try simp only [Exit.inBlock, Exit.then])
    refine bodyPost_ret (hT4.ret2 rfl rfl _ rfl) rfl ?_
    rw [HS.out]
    exact ⟨_, rfl, (hr4.up _).mono (by omega) hN, hT4.below⟩
  | some i =>
    have hil := find_lt hwf hf
    rw [hf] at HFF
    have HF : Calls Tryd.prog 59 #[.slice na S.now.length nc, .string s] W fun e w' => e = .returned (.int .i64 (i : Int)) ∧ w' = W := HFF
    have hd : decide ((i : Int) < 0) = false := decide_eq_false (by omega)
    have HCK := Lib.hid (ref_check t W ht)
    have HSTEP := Lib.hid (fun (wc : World) (hbc : Below W.heap.size W wc) => rstep_r (hrW.below hbc) (by omega))
    by_cases hck : PathS.check t = 0
    · rw [hck] at HCK
      by_cases hst : s = t
      · have HS : Hid (VfsS.renameS S s t = (S, 5)) := by show _ = _; unfold VfsS.renameS; rw [hf]; simp only [hck, ne_eq, not_true, if_false, if_pos hst]
        have e1 : (s.toList == t.toList) = true := by rw [hst]; simp
        clear hf HFF hst hck
        go_wp2_with (first | (go_at_call 59; refine HF.mono ?_; rintro e w' ⟨rfl, rfl⟩) | (go_at_call 58; refine HCK.out.mono ?_; rintro e wc ⟨rfl, hbc⟩; have hTc := hT.to hbc; have hrc := hrW.below hbc) | (refine wp_load0 hT2 rfl _ rfl rfl hs1 ?_) | (refine wp_load0 hTc rfl _ rfl rfl rfl ?_) | (refine wp_load0 hT rfl _ rfl rfl rfl ?_) | (refine wp_store1 hTc rfl _ _ rfl rfl rfl rfl rfl hone ?_; intro w4 hT4 hg4; have hr4 := hrc.in1 hTc hg4))
        (try simp only [Exit.inBlock, Exit.then])
        refine bodyPost_ret (hT4.ret2 rfl rfl _ rfl) rfl ?_
        rw [HS.out]
        exact ⟨_, rfl, (hr4.up _).mono (by omega) hN, hT4.below⟩
      · have e1 : (s.toList == t.toList) = false := by rw [beq_eq_false_iff_ne, Lib.toList_data, Lib.toList_data]; exact fun h => hst (PathS.ba_ext h)
        by_cases hl : S.limit = 0
        · have HS : Hid (VfsS.renameS S s t = (S, 190)) := by show _ = _; unfold VfsS.renameS; rw [hf]; simp only [hck, ne_eq, not_true, if_false, if_neg hst, if_pos hl]
          have HT : Hid (VfsS.stepS S = S) := by show _ = _; unfold VfsS.stepS; rw [if_pos hl]
          rw [limB hl] at HSTEP
          clear hf HFF hst hck hl
          go_wp2_with (first | (go_at_call 59; refine HF.mono ?_; rintro e w' ⟨rfl, rfl⟩) | (go_at_call 58; refine HCK.out.mono ?_; rintro e wc ⟨rfl, hbc⟩; have hTc := hT.to hbc; have hrc := hrW.below hbc) | (go_at_call 60; refine (HSTEP.out wc hbc).mono ?_; rintro e w1 ⟨cs1, rfl, hr1, hb1⟩; have hT1 := hTc.to hb1; have hs1 := hr1.size; have ho1 := hr1.one) | (refine wp_store0 hT1 rfl _ _ rfl rfl rfl rfl hs1 ho1 ?_; intro w2 hT2 hg2; have hr2 := hr1.in0 hT1 hg2) | (refine wp_load0 hT2 rfl _ rfl rfl hs1 ?_) | (refine wp_load0 hTc rfl _ rfl rfl rfl ?_) | (refine wp_load0 hT rfl _ rfl rfl rfl ?_) | (refine wp_store1 hT2 rfl _ _ rfl rfl rfl rfl hs1 ho1 ?_; intro w4 hT4 hg4; have hr4 := hr2.in1 hT2 hg4))
          (try simp only [Exit.inBlock, Exit.then])
          refine bodyPost_ret (hT4.ret2 hs1 rfl _ rfl) rfl ?_
          rw [HS.out]
          rw [HT.out] at hr4
          exact ⟨_, rfl, (hr4.up _).mono (by omega) hN, hT4.below⟩
        · have HS : Hid (VfsS.renameS S s t = (VfsS.changeS (VfsS.stepS S) ⟨s, t, some i⟩, 0)) := by show _ = _; unfold VfsS.renameS; rw [hf]; simp only [hck, ne_eq, not_true, if_false, if_neg hst, if_neg hl]
          have hit : i < (VfsS.stepS S).files.length := by rw [VfsS.stepS_files]; exact hil
          rw [limA hl] at HSTEP
          clear hf HFF hst hck hl
          go_wp2_with (first | (go_at_call 59; refine HF.mono ?_; rintro e w' ⟨rfl, rfl⟩) | (go_at_call 58; refine HCK.out.mono ?_; rintro e wc ⟨rfl, hbc⟩; have hTc := hT.to hbc; have hrc := hrW.below hbc) | (go_at_call 60; refine (HSTEP.out wc hbc).mono ?_; rintro e w1 ⟨cs1, rfl, hr1, hb1⟩; have hT1 := hTc.to hb1; have hs1 := hr1.size; have ho1 := hr1.one) | (refine wp_store0 hT1 rfl _ _ rfl rfl rfl rfl hs1 ho1 ?_; intro w2 hT2 hg2; have hr2 := hr1.in0 hT1 hg2) | (refine wp_load0 hT2 rfl _ rfl rfl hs1 ?_) | (refine wp_load0 hTc rfl _ rfl rfl rfl ?_) | (refine wp_load0 hT rfl _ rfl rfl rfl ?_) | (go_at_call 61; refine (rchange_r hr2 ⟨s, t, some i⟩ (by intro j h; injection h with h; subst h; exact hit) hs ht (by omega)).mono ?_; rintro e w3 ⟨cs3, rfl, hr3, hb3⟩; have hT3 := hT2.to hb3; have hs3 := hr3.size; have ho3 := hr3.one) | (refine wp_store1 hT3 rfl _ _ rfl rfl rfl rfl hs3 ho3 ?_; intro w4 hT4 hg4; have hr4 := hr3.in1 hT3 hg4))
          (try simp only [Exit.inBlock, Exit.then])
          refine bodyPost_ret (hT4.ret2 hs3 rfl _ rfl) rfl ?_
          rw [HS.out]
          exact ⟨_, rfl, hr4.sub (fun k hk _ => hk.elim .inl (fun h => .inr (by have := hT2.below.size; omega))), hT4.below⟩
    · have HS : Hid (VfsS.renameS S s t = (S, PathS.check t)) := by show _ = _; unfold VfsS.renameS; rw [hf]; simp only [ne_eq, hck, not_false_eq_true, if_true]
      have d1 : (PathS.check t == 0) = false := by rw [beq_eq_false_iff_ne]; exact hck
      have d2 : (PathS.check t != 0) = true := by rw [bne_iff_ne]; exact hck
      clear hf HFF hck
      generalize PathS.check t = ck at *
      go_wp2_with (first | (go_at_call 59; refine HF.mono ?_; rintro e w' ⟨rfl, rfl⟩) | (go_at_call 58; refine HCK.out.mono ?_; rintro e wc ⟨rfl, hbc⟩; have hTc := hT.to hbc; have hrc := hrW.below hbc) | (refine wp_load0 hT2 rfl _ rfl rfl hs1 ?_) | (refine wp_load0 hTc rfl _ rfl rfl rfl ?_) | (refine wp_load0 hT rfl _ rfl rfl rfl ?_) | (refine wp_store1 hTc rfl _ _ rfl rfl rfl rfl rfl hone ?_; intro w4 hT4 hg4; have hr4 := hrc.in1 hTc hg4))
      (try simp only [Exit.inBlock, Exit.then])
      refine bodyPost_ret (hT4.ret2 rfl rfl _ rfl) rfl ?_
      rw [HS.out]
      exact ⟨_, rfl, (hr4.up _).mono (by omega) hN, hT4.below⟩
end
end Go.Proofs.YtfoamcobpfflbaaDoor
namespace Go.Proofs.YtfoamcobpfflbaaDoor
open Go Go.RowKit

theorem byteCells_ints (b : ByteArray) : byteCells b = (b.data.toList.map fun x => (x.toNat : Int)).map (Value.int .u8) := by
  unfold byteCells; rw [List.map_map]; rfl

theorem run_str_of {P : Program} {src dst e : TypeId} (hs : P.underlying src = some (.slice e)) (he : P.underlying e = some (.int .u8)) (hd : P.underlying dst = some .string) {w : World} {a : Option Addr} {b : ByteArray} (h : Sl w a (byteCells b)) (c : Nat) :
    (convert src dst (.slice a b.size c)).run P w = .ok (.string b) w := by
  rcases h with h | ⟨x, o, rfl, _, h⟩
  · have hb : b.size = 0 := by
      have := congrArg List.length h
      rw [byteCells_ints, List.length_map, List.length_map, List.length_nil, Array.length_toList] at this
      exact this
    obtain rfl : b = ⟨#[]⟩ := by
      cases b with | mk d => congr 1; exact Array.eq_empty_of_size_eq_zero hb
    cases a with
    | none => exact run_convert_bytes_nil w src e hs he _ c dst hd
    | some a =>
      rw [run_convert_bytes_string w src dst e _ _ c hs he hd, show (⟨#[]⟩ : ByteArray).size = 0 from rfl, run_bytesToString w a 0 c [] (by
        have := run_loadCells_list (P := P) w a [] (fun j v hj => by simp at hj)
        simpa using this)]
      rfl
  · have hlen : (b.data.toList.map fun x => (x.toNat : Int)).length = b.size := by rw [List.length_map, Array.length_toList]; rfl
    rw [run_convert_bytes_arg w src e hs he x o b.size c _ hlen (fun i hi => by
      refine h i _ ?_
      rw [byteCells_ints, List.getElem?_map, List.getElem?_eq_getElem (by rw [hlen]; exact hi)]
      simp [List.getD, List.getElem?_eq_getElem (by rw [hlen]; exact hi)]) dst hd]
    congr 2
    unfold strOfNums
    cases b with | mk d => simp [Function.comp_def]

theorem sl_new (w : World) (cs : List Value) (e : TypeId) (f : Nat × Nat) : Sl (w.alloc (.cells cs.toArray e f)) (some ⟨w.heap.size, 0, none⟩) cs := by
  refine .inr ⟨_, _, rfl, by simp, fun i u hu => ?_⟩
  rw [Nat.zero_add]
  simp only [World.cell?]
  rw [show (w.alloc (.cells cs.toArray e f)).heap[w.heap.size]? = some (.cells cs.toArray e f) from Array.getElem?_push_size]
  simpa using hu
end Go.Proofs.YtfoamcobpfflbaaDoor
namespace Go.Proofs.YtfoamcobpfflbaaDoor
open Go Go.RowKit Go.Maps
open VfsS (St cl clp So)

/-- One call, as data. -/
structure OpD where
  kind : Int
  name : ByteArray
  dst : ByteArray
  da : Option Addr
  data : ByteArray
  dc : Nat
  n : Int
  m : Int

def opCells (o : OpD) : Array Value := #[.int .i64 o.kind, .string o.name, .string o.dst, .slice o.da o.data.size o.dc, .int .i64 o.n, .int .i64 o.m]

/-- The data lies in the first world. -/
def OldSl (w0 : World) (a : Option Addr) (xs : List Value) : Prop := xs = [] ∨ ∃ b o, a = some ⟨b, o, none⟩ ∧ b < w0.heap.size ∧ ∀ i u, xs[i]? = some u → w0.cell? ⟨b, o + i, none⟩ = some u
theorem OldSl.of {w0 : World} {a : Option Addr} {xs : List Value} (h : Sl w0 a xs) : OldSl w0 a xs := h
theorem OldSl.toE {E : Nat → Prop} {w0 w : World} {p : Nat} {S : St} {N : Nat} {a : Option Addr} {xs : List Value} (h : OldSl w0 a xs) (hv : VE E w0 w p S N) : SlE E w0 w a xs := by
  rcases h with h | ⟨b, o, r1, r2, r3⟩
  · exact .inl h
  · exact .inr ⟨b, o, r1, .inl r2, fun i u hu => by rw [World.cell?_of_block (a := ⟨b, o + i, none⟩) (hv.out.block b r2)]; exact r3 i u hu⟩

structure OpD.Ok (o : OpD) (w0 : World) : Prop where
  n1 : o.name.size ≤ 10000000
  n2 : o.dst.size ≤ 10000000
  n3 : o.data.size ≤ 10000000
  sl : OldSl w0 o.da (byteCells o.data)
  bn : -9223372036854775808 ≤ o.n ∧ o.n ≤ 9223372036854775807
  bm : -9223372036854775808 ≤ o.m ∧ o.m ≤ 9223372036854775807

/-- What a call makes of a file system, and its error. -/
def stepO (S : St) (o : OpD) : St × Int :=
  if o.kind = 0 then VfsS.createS S o.name else if o.kind = 1 then VfsS.appendS S o.name o.data else if o.kind = 2 then VfsS.cutS S o.name o.n else if o.kind = 3 then VfsS.syncS S o.name
  else if o.kind = 4 then VfsS.renameS S o.name o.dst else if o.kind = 5 then VfsS.removeS S o.name else if o.kind = 6 then VfsS.flushAllS S else if o.kind = 7 then (VfsS.crashS S o.n o.m, 0)
  else if o.kind = 8 then ({ S with limit := o.n }, 0) else (S, 0)

theorem So.stepO {S : St} (h : So S) (o : OpD) : So (stepO S o).1 := by
  unfold Go.Proofs.YtfoamcobpfflbaaDoor.stepO
  split
  · exact h.create _
  split
  · exact h.append _ _
  split
  · exact h.cut _ _
  split
  · exact h.sync _
  split
  · exact h.rename _ _
  split
  · exact h.remove _
  split
  · exact h.flushAll
  split
  · exact h.crash _ _
  split
  · exact ⟨h.n, h.s⟩
  · exact h

structure FA (E0 E : Nat → Prop) (w0 w W : World) (p : Nat) (S : St) (N : Nat) (b4 b5 b6 : Nat) (cs u : Array Value) (o : OpD) : Prop where
  v : VE E w0 W p S N
  sub : ∀ k, E0 k → E k
  lt : ∀ k, E0 k → k < w.heap.size
  old : ∀ k, E0 k → W.heap[k]? = w.heap[k]?
  h4 : W.heap[b4]? = some (.cells cs 36 (0, 0))
  h5 : W.heap[b5]? = some (.cells (opCells o) 96 (0, 0))
  h6 : W.heap[b6]? = some (.cells u 36 (0, 0))
  e4 : E b4
  e5 : E b5
  e6 : E b6
  n4 : w.heap.size ≤ b4
  n46 : b4 < b5 ∧ b5 < b6

section
variable {E0 E : Nat → Prop} {w0 w W W' : World} {p : Nat} {S : St} {N : Nat} {b4 b5 b6 : Nat} {cs u : Array Value} {o : OpD}

theorem FA.start (hv : VE E0 w0 w p S N) (cs u : Array Value) (o : OpD) :
    FA E0 (Kx E0 w.heap.size (((w.alloc (.cells cs 36)).alloc (.cells (opCells o) 96)).alloc (.cells u 36)).heap.size) w0 w (((w.alloc (.cells cs 36)).alloc (.cells (opCells o) 96)).alloc (.cells u 36)) p S N w.heap.size (w.heap.size + 1) (w.heap.size + 1 + 1) cs u o := by
  obtain ⟨h4, h5, h6, hb, hs⟩ := alloc3 w (.cells cs 36) (.cells (opCells o) 96) (.cells u 36)
  exact ⟨hv.below hb, fun _ h => .inl h, fun k h => hv.lt h, fun k h => hb.block k (hv.lt h), h4, h5, h6, .inr ⟨Nat.le_refl _, by omega⟩, .inr ⟨by omega, by omega⟩, .inr ⟨by omega, by omega⟩, Nat.le_refl _, by omega, by omega⟩

theorem RR.foreign {cs' : Array Value} {D : St} {M : Nat} (h : RR E0 w cs' D M) (hF : FA E0 E w0 w W p S N b4 b5 b6 cs u o) (_hv : VE E0 w0 w p S N) : RR E W cs' D M :=
  (h.blocks hF.old).sub fun k hk _ => hF.sub k hk

theorem FA.c5 (h : FA E0 E w0 w W p S N b4 b5 b6 cs u o) (j : Nat) {x : Value} (hx : (opCells o)[j]? = some x) : W.cell? ⟨b5, j, none⟩ = some x := by rw [cell_of h.h5]; exact hx

theorem FA.prog {S' : St} {N' : Nat} (h : FA E0 E w0 w W p S N b4 b5 b6 cs u o) (hv : VE E w0 W' p S' N') (hb : ∀ k, E k → W'.heap[k]? = W.heap[k]?) : FA E0 E w0 w W' p S' N' b4 b5 b6 cs u o :=
  { h with v := hv, old := fun k hk => (hb k (h.sub k hk)).trans (h.old k hk), h4 := (hb _ h.e4).trans h.h4, h5 := (hb _ h.e5).trans h.h5, h6 := (hb _ h.e6).trans h.h6 }

theorem FA.below (h : FA E0 E w0 w W p S N b4 b5 b6 cs u o) (hb : Below W.heap.size W W') : FA E0 (Kx E W.heap.size W'.heap.size) w0 w W' p S N b4 b5 b6 cs u o :=
  { h with v := h.v.below hb, sub := fun k hk => .inl (h.sub k hk), old := fun k hk => (hb.block k (h.v.lt (h.sub k hk))).trans (h.old k hk), h4 := (hb.block _ (h.v.lt h.e4)).trans h.h4, h5 := (hb.block _ (h.v.lt h.e5)).trans h.h5, h6 := (hb.block _ (h.v.lt h.e6)).trans h.h6
           e4 := .inl h.e4, e5 := .inl h.e5, e6 := .inl h.e6 }

theorem FA.put4 (h : FA E0 E w0 w W p S N b4 b5 b6 cs u o) {cs' : Array Value} (h4 : W'.heap[b4]? = some (.cells cs' 36 (0, 0))) (hg : W.grownBy W' (some b4)) : FA E0 E w0 w W' p S N b4 b5 b6 cs' u o :=
  { h with v := h.v.grown hg h.e4, old := fun k hk => (hg.block k (h.v.lt (h.sub k hk)) (fun e => by injection e with e; have := h.lt k hk; have := h.n4; omega)).trans (h.old k hk), h4 := h4
           h5 := (hg.block _ (h.v.lt h.e5) (fun e => by injection e with e; have := h.n46; omega)).trans h.h5, h6 := (hg.block _ (h.v.lt h.e6) (fun e => by injection e with e; have := h.n46; omega)).trans h.h6 }
theorem FA.put6 (h : FA E0 E w0 w W p S N b4 b5 b6 cs u o) {u' : Array Value} (h6 : W'.heap[b6]? = some (.cells u' 36 (0, 0))) (hg : W.grownBy W' (some b6)) : FA E0 E w0 w W' p S N b4 b5 b6 cs u' o :=
  { h with v := h.v.grown hg h.e6, old := fun k hk => (hg.block k (h.v.lt (h.sub k hk)) (fun e => by injection e with e; have := h.lt k hk; have := h.n4; have := h.n46; omega)).trans (h.old k hk), h6 := h6
           h5 := (hg.block _ (h.v.lt h.e5) (fun e => by injection e with e; have := h.n46; omega)).trans h.h5, h4 := (hg.block _ (h.v.lt h.e4) (fun e => by injection e with e; have := h.n46; omega)).trans h.h4 }

theorem FA.set4 (h : FA E0 E w0 w W p S N b4 b5 b6 cs u o) (j : Nat) (x : Value) : FA E0 E w0 w (W.setCell ⟨b4, j, none⟩ x) p S N b4 b5 b6 (cs.setIfInBounds j x) u o ∧ W.grownBy (W.setCell ⟨b4, j, none⟩ x) (some b4) := by
  obtain ⟨s, g⟩ := set_block h.h4 j x
  exact ⟨h.put4 s g, g⟩

variable {ops : Array Oper} {rest : List Oper} {op : Oper} {a : Act} {Q : Exit → Act → World → Prop}

theorem FA.load4 (h : FA E0 E w0 w W p S N b4 b5 b6 cs u o) (hgd : op.guard = none) (x : Operand) (ho : op.op = .load 36 x) (hx : a.eval x = .pointer (some ⟨b4, 0, none⟩)) (hsz : cs.size = 7)
    (K : wpList Tryd.prog ops Q rest (a.put op.dst (.agg cs)) W) : wpList Tryd.prog ops Q (op :: rest) a W :=
  wp_loadB hgd 36 x ho b4 hx h.h4 _ Tryd.underlying36 rfl (by rw [Array.length_toList, hsz]; kernel_rfl) K
theorem FA.store4 (h : FA E0 E w0 w W p S N b4 b5 b6 cs u o) (hgd : op.guard = none) (x y : Operand) (ho : op.op = .store 36 x y) (hx : a.eval x = .pointer (some ⟨b4, 0, none⟩)) {new : Array Value} (hy : a.eval y = .agg new) (hsz : cs.size = 7) (hsn : new.size = 7) (h1 : new.all (·.oneCell') = true)
    (K : ∀ w' : World, FA E0 E w0 w w' p S N b4 b5 b6 new u o → W.grownBy w' (some b4) → wpList Tryd.prog ops Q rest (a.put op.dst undef) w') : wpList Tryd.prog ops Q (op :: rest) a W :=
  wp_storeB hgd 36 x y ho b4 new hx hy h.h4 (by rw [hsz, hsn]) (by rw [hsn]; kernel_rfl) h1 fun w' h2 g => K w' (h.put4 h2 g) g
theorem FA.store6 (h : FA E0 E w0 w W p S N b4 b5 b6 cs u o) (hgd : op.guard = none) (x y : Operand) (ho : op.op = .store 36 x y) (hx : a.eval x = .pointer (some ⟨b6, 0, none⟩)) {new : Array Value} (hy : a.eval y = .agg new) (hsz : u.size = 7) (hsn : new.size = 7) (h1 : new.all (·.oneCell') = true)
    (K : ∀ w' : World, FA E0 E w0 w w' p S N b4 b5 b6 cs new o → W.grownBy w' (some b6) → wpList Tryd.prog ops Q rest (a.put op.dst undef) w') : wpList Tryd.prog ops Q (op :: rest) a W :=
  wp_storeB hgd 36 x y ho b6 new hx hy h.h6 (by rw [hsz, hsn]) (by rw [hsn]; kernel_rfl) h1 fun w' h2 g => K w' (h.put6 h2 g) g

theorem FA.load6 (h : FA E0 E w0 w W p S N b4 b5 b6 cs u o) (hsz : u.size = 7) : (loadVar 36 ⟨b6, 0, none⟩).run Tryd.prog W = .ok (.agg u) W := by
  have := run_loadVar_mid (P := Tryd.prog) W b6 0 36 u.toList _ (fun j x hj => by rw [Nat.zero_add, cell_of h.h6, ← Array.getElem?_toList]; exact hj) Tryd.underlying36 rfl (by rw [Array.length_toList, hsz]; kernel_rfl)
  simpa using this
theorem FA.ret2 (h : FA E0 E w0 w W p S N b4 b5 b6 cs u o) (hsz : u.size = 7) {fn : Func} {i j : Nat} (hr : fn.results = #[.cell i 36, .tmp j]) (tmps : Array Value) (hi : tmps.getD i undef = .pointer (some ⟨b6, 0, none⟩)) :
    (results fn tmps).run Tryd.prog W = .ok (.tuple #[.agg u, tmps.getD j undef]) W := by
  have hi' : tmps[i]?.getD undef = .pointer (some ⟨b6, 0, none⟩) := by rw [← Array.getD_eq_getD_getElem?]; exact hi
  simp [results, hr, hi', asAddr, h.load6 hsz]
end

/-- What the law's step leaves: both have gone on, each from its own state. -/
def StepPost (E : Nat → Prop) (w0 w : World) (p : Nat) (S' D' : St) (N' : Nat) (b : Bool) (e : Ending) (w' : World) : Prop :=
  ∃ cs' E', e = .returned (.tuple #[.agg cs', .bool b]) ∧ (∀ k, E k → E' k) ∧ VE E' w0 w' p S' N' ∧ RR E' w' cs' (cl D') N' ∧ ∀ k, E k → w'.heap[k]? = w.heap[k]?

theorem FA.post {E0 E : Nat → Prop} {w0 w W : World} {p : Nat} {S D : St} {N N' : Nat} {b4 b5 b6 : Nat} {cs u : Array Value} {o : OpD} (h : FA E0 E w0 w W p S N b4 b5 b6 cs u o) (hr : RR E W u (cl D) N') (h1 : N ≤ N') (h2 : N' ≤ 100000000) {b b' : Bool} (hb : b' = b) :
    StepPost E0 w0 w p S D N' b (.returned (.tuple #[.agg u, .bool b'])) W := by
  subst hb
  exact ⟨u, E, rfl, h.sub, h.v.mono h1 h2, hr, h.old⟩

section
variable {E : Nat → Prop} {w : World} {S : St} {N : Nat} {cs : Array Value}
theorem dcreate_r (h : RR E w cs (cl S) N) (s : ByteArray) (hs : s.size ≤ 10000000) (hN : N + 3 ≤ 40000000) :
    Calls Tryd.prog 17 #[.agg cs, .string s] w fun e w' => ∃ cs', e = .returned (.tuple #[.agg cs', .int .i64 (VfsS.createS S s).2]) ∧ RR (Ku E w.heap.size) w' cs' (cl (VfsS.createS S s).1) (N + 3) ∧ Below w.heap.size w w' := by
  have := rcreate_r h s hs hN
  rw [VfsS.cl_create] at this
  exact this
theorem dappend_r (h : RR E w cs (cl S) N) (s b : ByteArray) (hbs : b.size ≤ 10000000) (hN : N + 1 ≤ 40000000) :
    Calls Tryd.prog 28 #[.agg cs, .string s, .string b] w fun e w' => ∃ cs', e = .returned (.tuple #[.agg cs', .int .i64 (VfsS.appendS S s b).2]) ∧ RR (Ku E w.heap.size) w' cs' (cl (VfsS.appendS S s b).1) (N + 1) ∧ Below w.heap.size w w' := by
  have := rappend_r h s b hbs hN
  rw [VfsS.cl_append] at this
  exact this
theorem dcut_r (h : RR E w cs (cl S) N) (s : ByteArray) (n : Int) (hN : N + 1 ≤ 40000000) :
    Calls Tryd.prog 71 #[.agg cs, .string s, .int .i64 n] w fun e w' => ∃ cs', e = .returned (.tuple #[.agg cs', .int .i64 (VfsS.cutS S s n).2]) ∧ RR (Ku E w.heap.size) w' cs' (cl (VfsS.cutS S s n).1) (N + 1) ∧ Below w.heap.size w w' := by
  have := rcut_r h s n hN
  rw [VfsS.cl_cut] at this
  exact this
theorem dsync_r (h : RR E w cs (cl S) N) (s : ByteArray) (hN : N + 1 ≤ 40000000) :
    Calls Tryd.prog 24 #[.agg cs, .string s] w fun e w' => ∃ cs', e = .returned (.tuple #[.agg cs', .int .i64 (VfsS.syncS S s).2]) ∧ RR (Ku E w.heap.size) w' cs' (cl (VfsS.syncS S s).1) (N + 1) ∧ Below w.heap.size w w' := by
  have := rsync_r h s hN
  rw [VfsS.cl_sync] at this
  exact this
theorem drename_r (h : RR E w cs (cl S) N) (s t : ByteArray) (hs : s.size ≤ 10000000) (ht : t.size ≤ 10000000) (hN : N + 2 ≤ 40000000) :
    Calls Tryd.prog 82 #[.agg cs, .string s, .string t] w fun e w' => ∃ cs', e = .returned (.tuple #[.agg cs', .int .i64 (VfsS.renameS S s t).2]) ∧ RR (Ku E w.heap.size) w' cs' (cl (VfsS.renameS S s t).1) (N + 2) ∧ Below w.heap.size w w' := by
  have := rrename_r h s t hs ht hN
  rw [VfsS.cl_rename] at this
  exact this
theorem dremove_r (h : RR E w cs (cl S) N) (s : ByteArray) (hs : s.size ≤ 10000000) (hN : N + 2 ≤ 40000000) :
    Calls Tryd.prog 83 #[.agg cs, .string s] w fun e w' => ∃ cs', e = .returned (.tuple #[.agg cs', .int .i64 (VfsS.removeS S s).2]) ∧ RR (Ku E w.heap.size) w' cs' (cl (VfsS.removeS S s).1) (N + 2) ∧ Below w.heap.size w w' := by
  have := rremove_r h s hs hN
  rw [VfsS.cl_remove] at this
  exact this
theorem dflush_r (h : RR E w cs (cl S) N) (hN : N + 1 ≤ 40000000) :
    Calls Tryd.prog 20 #[.agg cs] w fun e w' => ∃ cs', e = .returned (.tuple #[.agg cs', .int .i64 (VfsS.flushAllS S).2]) ∧ RR (Ku E w.heap.size) w' cs' (cl (VfsS.flushAllS S).1) (N + 1) ∧ Below w.heap.size w w' := by
  have := rflushAll_r h hN
  rw [VfsS.cl_flushAll] at this
  exact this
theorem dcrash_r (h : RR E w cs (cl S) N) (x y : Int) :
    Calls Tryd.prog 26 #[.agg cs, .int .i64 x, .int .i64 y] w fun e w' => ∃ cs', e = .returned (.agg cs') ∧ RR (Ku E w.heap.size) w' cs' (cl (VfsS.crashS S x y)) N ∧ Below w.heap.size w w' := by
  have := rcrash_r h x y
  rw [VfsS.cl_crash] at this
  exact this
end
end Go.Proofs.YtfoamcobpfflbaaDoor
namespace Go.Proofs.YtfoamcobpfflbaaDoor
open Go Go.RowKit Go.Maps
open VfsS (St cl clp So)

section
variable {E : Nat → Prop} {w0 w : World} {p : Nat} {S D : St} {N : Nat} {cs : Array Value} {o : OpD}

set_option maxRecDepth 100000 in
set_option maxHeartbeats 2000000 in
theorem ls_create (hv : VE E w0 w p S N) (hr : RR E w cs (cl D) N) (ho : o.Ok w0) (hk : o.kind = 0) (hN : N + 3 ≤ 40000000) :
    Calls Tryd.prog 52 #[.pointer (some ⟨p, 0, none⟩), .agg cs, .agg (opCells o)] w (StepPost E w0 w p (VfsS.createS S o.name).1 (VfsS.createS D o.name).1 (N + 3) ((VfsS.createS S o.name).2 == (VfsS.createS D o.name).2)) := by
  have h0 := hr
  obtain ⟨fa, na, sa, aa, fc, nc, sc, ac, rfl, hx⟩ := hr
  clear hx
  have hF : FA E (Kx E w.heap.size (((w.alloc (.cells #[.slice fa (cl D).files.length fc, .slice na (cl D).now.length nc, .slice sa (cl D).sure.length sc, .slice aa (cl D).acts.length ac, .int .i64 (cl D).room, .int .i64 (cl D).steps, .int .i64 (cl D).limit] 36)).alloc (.cells (opCells o) 96)).alloc (.cells #[.slice none 0 0, .slice none 0 0, .slice none 0 0, .slice none 0 0, .int .i64 0, .int .i64 0, .int .i64 0] 36)).heap.size) w0 w (((w.alloc (.cells #[.slice fa (cl D).files.length fc, .slice na (cl D).now.length nc, .slice sa (cl D).sure.length sc, .slice aa (cl D).acts.length ac, .int .i64 (cl D).room, .int .i64 (cl D).steps, .int .i64 (cl D).limit] 36)).alloc (.cells (opCells o) 96)).alloc (.cells #[.slice none 0 0, .slice none 0 0, .slice none 0 0, .slice none 0 0, .int .i64 0, .int .i64 0, .int .i64 0] 36)) p S N w.heap.size (w.heap.size + 1) (w.heap.size + 1 + 1) (rcells (cl D) fa na sa aa fc nc sc ac) fs0 o := FA.start hv _ _ _
  have hrW := h0.foreign hF hv
  have hone := h0.one
  show Calls _ _ #[.pointer (some ⟨p, 0, none⟩), .agg #[.slice fa (cl D).files.length fc, .slice na (cl D).now.length nc, .slice sa (cl D).sure.length sc, .slice aa (cl D).acts.length ac, .int .i64 (cl D).room, .int .i64 (cl D).steps, .int .i64 (cl D).limit], .agg (opCells o)] _ _
  rw [show opCells o = #[.int .i64 0, .string o.name, .string o.dst, .slice o.da o.data.size o.dc, .int .i64 o.n, .int .i64 o.m] by unfold opCells; rw [hk]]
  rw [show opCells o = #[.int .i64 0, .string o.name, .string o.dst, .slice o.da o.data.size o.dc, .int .i64 o.n, .int .i64 o.m] by unfold opCells; rw [hk]] at hF hrW
  go_enter Tryd.func52, Tryd.ntmps52
  go_upto_region 2 with fail
  generalize ((w.alloc (.cells #[.slice fa (cl D).files.length fc, .slice na (cl D).now.length nc, .slice sa (cl D).sure.length sc, .slice aa (cl D).acts.length ac, .int .i64 (cl D).room, .int .i64 (cl D).steps, .int .i64 (cl D).limit] 36)).alloc (.cells #[.int .i64 0, .string o.name, .string o.dst, .slice o.da o.data.size o.dc, .int .i64 o.n, .int .i64 o.m] 96)).alloc (.cells #[.slice none 0 0, .slice none 0 0, .slice none 0 0, .slice none 0 0, .int .i64 0, .int .i64 0, .int .i64 0] 36) = W at *
  have c0 : W.cell? ⟨w.heap.size + 1, 0, none⟩ = some (.int .i64 0) := hF.c5 0 (by unfold opCells; rw [hk]; rfl)
  have c1 : W.cell? ⟨w.heap.size + 1, 1, none⟩ = some (.string o.name) := hF.c5 1 rfl
  have HP := Lib.hid (create_e hF.v o.name ho.n1 (by omega))
  have HD := Lib.hid (fun (wx : World) (hr' : RR (Kx E w.heap.size W.heap.size) wx (rcells (cl D) fa na sa aa fc nc sc ac) (cl D) N) => dcreate_r hr' o.name ho.n1 (by omega))
  have hwf := hv.wf
  clear hk
  generalize VfsS.createS S o.name = X at *
  generalize VfsS.createS D o.name = Y at *
  go_wp2_with (first
    | (go_at_call 45; refine HP.out.mono ?_; rintro e w1 ⟨rfl, hv1, hb1⟩; have hF1 := hF.prog hv1 hb1; have hr1 := hrW.blocks hb1; have g1 : w1.cell? ⟨w.heap.size + 1, 1, none⟩ = some (.string o.name) := hF1.c5 1 rfl)
    | (refine hF1.load4 rfl _ rfl rfl rfl ?_)
    | (go_at_call 17; refine (HD.out _ hr1).mono ?_; rintro e w2 ⟨cs2, rfl, hr2, hb2⟩; have hF2 := hF1.below hb2; have hr2' := hr2.upto; have hs2 := hr2.size; have ho2 := hr2.one)
    | (refine hF2.store4 rfl _ _ rfl rfl rfl rfl hs2 ho2 ?_; intro w3 hF3 hg3; have hr3 := hr2'.other hF2.h4 (by decide) hg3)
    | (refine hF3.load4 rfl _ rfl rfl hs2 ?_)
    | (refine hF3.store6 rfl _ _ rfl rfl rfl rfl hs2 ho2 ?_; intro w4 hF4 hg4; have hr4 := hr3.other hF3.h6 (by decide) hg4))
  (try simp only [Exit.inBlock, Exit.then])
  refine bodyPost_ret (hF4.ret2 hs2 rfl _ rfl) rfl ?_
  exact hF4.post (hr4.mono (by omega) hN) (by omega) (by omega) (by first | rfl | simp)

set_option maxRecDepth 100000 in
set_option maxHeartbeats 2000000 in
theorem ls_append (hv : VE E w0 w p S N) (hr : RR E w cs (cl D) N) (ho : o.Ok w0) (hk : o.kind = 1) (hN : N + 3 ≤ 40000000) :
    Calls Tryd.prog 52 #[.pointer (some ⟨p, 0, none⟩), .agg cs, .agg (opCells o)] w (StepPost E w0 w p (VfsS.appendS S o.name o.data).1 (VfsS.appendS D o.name o.data).1 (N + 3) ((VfsS.appendS S o.name o.data).2 == (VfsS.appendS D o.name o.data).2)) := by
  have h0 := hr
  obtain ⟨fa, na, sa, aa, fc, nc, sc, ac, rfl, hx⟩ := hr
  clear hx
  have hF : FA E (Kx E w.heap.size (((w.alloc (.cells #[.slice fa (cl D).files.length fc, .slice na (cl D).now.length nc, .slice sa (cl D).sure.length sc, .slice aa (cl D).acts.length ac, .int .i64 (cl D).room, .int .i64 (cl D).steps, .int .i64 (cl D).limit] 36)).alloc (.cells (opCells o) 96)).alloc (.cells #[.slice none 0 0, .slice none 0 0, .slice none 0 0, .slice none 0 0, .int .i64 0, .int .i64 0, .int .i64 0] 36)).heap.size) w0 w (((w.alloc (.cells #[.slice fa (cl D).files.length fc, .slice na (cl D).now.length nc, .slice sa (cl D).sure.length sc, .slice aa (cl D).acts.length ac, .int .i64 (cl D).room, .int .i64 (cl D).steps, .int .i64 (cl D).limit] 36)).alloc (.cells (opCells o) 96)).alloc (.cells #[.slice none 0 0, .slice none 0 0, .slice none 0 0, .slice none 0 0, .int .i64 0, .int .i64 0, .int .i64 0] 36)) p S N w.heap.size (w.heap.size + 1) (w.heap.size + 1 + 1) (rcells (cl D) fa na sa aa fc nc sc ac) fs0 o := FA.start hv _ _ _
  have hrW := h0.foreign hF hv
  have hone := h0.one
  show Calls _ _ #[.pointer (some ⟨p, 0, none⟩), .agg #[.slice fa (cl D).files.length fc, .slice na (cl D).now.length nc, .slice sa (cl D).sure.length sc, .slice aa (cl D).acts.length ac, .int .i64 (cl D).room, .int .i64 (cl D).steps, .int .i64 (cl D).limit], .agg (opCells o)] _ _
  rw [show opCells o = #[.int .i64 1, .string o.name, .string o.dst, .slice o.da o.data.size o.dc, .int .i64 o.n, .int .i64 o.m] by unfold opCells; rw [hk]]
  rw [show opCells o = #[.int .i64 1, .string o.name, .string o.dst, .slice o.da o.data.size o.dc, .int .i64 o.n, .int .i64 o.m] by unfold opCells; rw [hk]] at hF hrW
  go_enter Tryd.func52, Tryd.ntmps52
  go_upto_region 2 with fail
  generalize ((w.alloc (.cells #[.slice fa (cl D).files.length fc, .slice na (cl D).now.length nc, .slice sa (cl D).sure.length sc, .slice aa (cl D).acts.length ac, .int .i64 (cl D).room, .int .i64 (cl D).steps, .int .i64 (cl D).limit] 36)).alloc (.cells #[.int .i64 1, .string o.name, .string o.dst, .slice o.da o.data.size o.dc, .int .i64 o.n, .int .i64 o.m] 96)).alloc (.cells #[.slice none 0 0, .slice none 0 0, .slice none 0 0, .slice none 0 0, .int .i64 0, .int .i64 0, .int .i64 0] 36) = W at *
  have c0 : W.cell? ⟨w.heap.size + 1, 0, none⟩ = some (.int .i64 1) := hF.c5 0 (by unfold opCells; rw [hk]; rfl)
  have c1 : W.cell? ⟨w.heap.size + 1, 1, none⟩ = some (.string o.name) := hF.c5 1 rfl
  have c3 : W.cell? ⟨w.heap.size + 1, 3, none⟩ = some (.slice o.da o.data.size o.dc) := hF.c5 3 rfl
  have HP := Lib.hid (append_e hF.v o.name o.data o.da o.dc ho.n1 ho.n3 (ho.sl.toE hF.v) (by omega))
  have HD := Lib.hid (fun (wx : World) (hr' : RR (Kx E w.heap.size W.heap.size) wx (rcells (cl D) fa na sa aa fc nc sc ac) (cl D) N) => dappend_r hr' o.name o.data ho.n3 (by omega))
  have hwf := hv.wf
  clear hk
  generalize VfsS.appendS S o.name o.data = X at *
  generalize VfsS.appendS D o.name o.data = Y at *
  go_wp2_with (first
    | (go_at_call 27; refine HP.out.mono ?_; rintro e w1 ⟨rfl, hv1, hb1⟩; have hF1 := hF.prog hv1 hb1; have hr1 := hrW.blocks hb1; have g1 : w1.cell? ⟨w.heap.size + 1, 1, none⟩ = some (.string o.name) := hF1.c5 1 rfl; have g3 : w1.cell? ⟨w.heap.size + 1, 3, none⟩ = some (.slice o.da o.data.size o.dc) := hF1.c5 3 rfl; have hks := run_str_of (P := Tryd.prog) Tryd.underlying43 Tryd.underlying5 Tryd.underlying9 ((ho.sl.toE hF1.v).sl hF1.v) o.dc)
    | (refine hF1.load4 rfl _ rfl rfl rfl ?_)
    | (go_at_call 28; refine (HD.out _ hr1).mono ?_; rintro e w2 ⟨cs2, rfl, hr2, hb2⟩; have hF2 := hF1.below hb2; have hr2' := hr2.upto; have hs2 := hr2.size; have ho2 := hr2.one)
    | (refine hF2.store4 rfl _ _ rfl rfl rfl rfl hs2 ho2 ?_; intro w3 hF3 hg3; have hr3 := hr2'.other hF2.h4 (by decide) hg3)
    | (refine hF3.load4 rfl _ rfl rfl hs2 ?_)
    | (refine hF3.store6 rfl _ _ rfl rfl rfl rfl hs2 ho2 ?_; intro w4 hF4 hg4; have hr4 := hr3.other hF3.h6 (by decide) hg4))
  (try simp only [Exit.inBlock, Exit.then])
  refine bodyPost_ret (hF4.ret2 hs2 rfl _ rfl) rfl ?_
  exact hF4.post (hr4.mono (by omega) hN) (by omega) (by omega) (by first | rfl | simp)

set_option maxRecDepth 100000 in
set_option maxHeartbeats 2000000 in
theorem ls_cut (hv : VE E w0 w p S N) (hr : RR E w cs (cl D) N) (ho : o.Ok w0) (hk : o.kind = 2) (hN : N + 3 ≤ 40000000) :
    Calls Tryd.prog 52 #[.pointer (some ⟨p, 0, none⟩), .agg cs, .agg (opCells o)] w (StepPost E w0 w p (VfsS.cutS S o.name o.n).1 (VfsS.cutS D o.name o.n).1 (N + 3) ((VfsS.cutS S o.name o.n).2 == (VfsS.cutS D o.name o.n).2)) := by
  have h0 := hr
  obtain ⟨fa, na, sa, aa, fc, nc, sc, ac, rfl, hx⟩ := hr
  clear hx
  have hF : FA E (Kx E w.heap.size (((w.alloc (.cells #[.slice fa (cl D).files.length fc, .slice na (cl D).now.length nc, .slice sa (cl D).sure.length sc, .slice aa (cl D).acts.length ac, .int .i64 (cl D).room, .int .i64 (cl D).steps, .int .i64 (cl D).limit] 36)).alloc (.cells (opCells o) 96)).alloc (.cells #[.slice none 0 0, .slice none 0 0, .slice none 0 0, .slice none 0 0, .int .i64 0, .int .i64 0, .int .i64 0] 36)).heap.size) w0 w (((w.alloc (.cells #[.slice fa (cl D).files.length fc, .slice na (cl D).now.length nc, .slice sa (cl D).sure.length sc, .slice aa (cl D).acts.length ac, .int .i64 (cl D).room, .int .i64 (cl D).steps, .int .i64 (cl D).limit] 36)).alloc (.cells (opCells o) 96)).alloc (.cells #[.slice none 0 0, .slice none 0 0, .slice none 0 0, .slice none 0 0, .int .i64 0, .int .i64 0, .int .i64 0] 36)) p S N w.heap.size (w.heap.size + 1) (w.heap.size + 1 + 1) (rcells (cl D) fa na sa aa fc nc sc ac) fs0 o := FA.start hv _ _ _
  have hrW := h0.foreign hF hv
  have hone := h0.one
  show Calls _ _ #[.pointer (some ⟨p, 0, none⟩), .agg #[.slice fa (cl D).files.length fc, .slice na (cl D).now.length nc, .slice sa (cl D).sure.length sc, .slice aa (cl D).acts.length ac, .int .i64 (cl D).room, .int .i64 (cl D).steps, .int .i64 (cl D).limit], .agg (opCells o)] _ _
  rw [show opCells o = #[.int .i64 2, .string o.name, .string o.dst, .slice o.da o.data.size o.dc, .int .i64 o.n, .int .i64 o.m] by unfold opCells; rw [hk]]
  rw [show opCells o = #[.int .i64 2, .string o.name, .string o.dst, .slice o.da o.data.size o.dc, .int .i64 o.n, .int .i64 o.m] by unfold opCells; rw [hk]] at hF hrW
  go_enter Tryd.func52, Tryd.ntmps52
  go_upto_region 2 with fail
  generalize ((w.alloc (.cells #[.slice fa (cl D).files.length fc, .slice na (cl D).now.length nc, .slice sa (cl D).sure.length sc, .slice aa (cl D).acts.length ac, .int .i64 (cl D).room, .int .i64 (cl D).steps, .int .i64 (cl D).limit] 36)).alloc (.cells #[.int .i64 2, .string o.name, .string o.dst, .slice o.da o.data.size o.dc, .int .i64 o.n, .int .i64 o.m] 96)).alloc (.cells #[.slice none 0 0, .slice none 0 0, .slice none 0 0, .slice none 0 0, .int .i64 0, .int .i64 0, .int .i64 0] 36) = W at *
  have c0 : W.cell? ⟨w.heap.size + 1, 0, none⟩ = some (.int .i64 2) := hF.c5 0 (by unfold opCells; rw [hk]; rfl)
  have c1 : W.cell? ⟨w.heap.size + 1, 1, none⟩ = some (.string o.name) := hF.c5 1 rfl
  have c4 : W.cell? ⟨w.heap.size + 1, 4, none⟩ = some (.int .i64 o.n) := hF.c5 4 rfl
  have HP := Lib.hid (cut_e hF.v o.name o.n ho.n1 (by omega))
  have HD := Lib.hid (fun (wx : World) (hr' : RR (Kx E w.heap.size W.heap.size) wx (rcells (cl D) fa na sa aa fc nc sc ac) (cl D) N) => dcut_r hr' o.name o.n (by omega))
  have hwf := hv.wf
  clear hk
  generalize VfsS.cutS S o.name o.n = X at *
  generalize VfsS.cutS D o.name o.n = Y at *
  go_wp2_with (first
    | (go_at_call 49; refine HP.out.mono ?_; rintro e w1 ⟨rfl, hv1, hb1⟩; have hF1 := hF.prog hv1 hb1; have hr1 := hrW.blocks hb1; have g1 : w1.cell? ⟨w.heap.size + 1, 1, none⟩ = some (.string o.name) := hF1.c5 1 rfl; have g4 : w1.cell? ⟨w.heap.size + 1, 4, none⟩ = some (.int .i64 o.n) := hF1.c5 4 rfl)
    | (refine hF1.load4 rfl _ rfl rfl rfl ?_)
    | (go_at_call 71; refine (HD.out _ hr1).mono ?_; rintro e w2 ⟨cs2, rfl, hr2, hb2⟩; have hF2 := hF1.below hb2; have hr2' := hr2.upto; have hs2 := hr2.size; have ho2 := hr2.one)
    | (refine hF2.store4 rfl _ _ rfl rfl rfl rfl hs2 ho2 ?_; intro w3 hF3 hg3; have hr3 := hr2'.other hF2.h4 (by decide) hg3)
    | (refine hF3.load4 rfl _ rfl rfl hs2 ?_)
    | (refine hF3.store6 rfl _ _ rfl rfl rfl rfl hs2 ho2 ?_; intro w4 hF4 hg4; have hr4 := hr3.other hF3.h6 (by decide) hg4))
  (try simp only [Exit.inBlock, Exit.then])
  refine bodyPost_ret (hF4.ret2 hs2 rfl _ rfl) rfl ?_
  exact hF4.post (hr4.mono (by omega) hN) (by omega) (by omega) (by first | rfl | simp)
end
end Go.Proofs.YtfoamcobpfflbaaDoor
