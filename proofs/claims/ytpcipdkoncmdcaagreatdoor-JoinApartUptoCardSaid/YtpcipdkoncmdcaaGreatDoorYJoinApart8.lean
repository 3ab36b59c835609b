/- Texts of mine, joined: Walk: a part is made of the next lines. -/
import Derived.BigQuiet
import Derived.Test.YtpcipdkoncmdcaaGreatDoorYJoinApart7
namespace Go.Proofs.YtpcipdkoncmdcaaGreatDoor
open Go Go.RowKit
theorem partElem : Elem Tryz.prog 148 182 (.agg #[.int .i64 0, .slice none 0 0, .slice none 0 0, .slice none 0 0]) 4 80 := ⟨by kernel_rfl, by kernel_rfl⟩

/-- The loom, its inner values hidden; the blocks of F are others'. -/
def LI (F : Nat → Prop) (w0 w : World) (q : Nat) (ps : List (JoinS.Pt ByteArray)) (bs os ts : List ByteArray) : Prop :=
  ∃ bv ov tv pv xs, LJ w0 w q bv ov tv pv xs bs os ts ∧ xs.map (·.p) = ps ∧ Bd xs bs os ts ∧ ∀ b, F b → b < w.heap.size ∧ LPF q pv xs b

set_option maxRecDepth 100000 in
set_option maxHeartbeats 4000000 in
theorem add_c {F : Nat → Prop} {w0 w : World} {q : Nat} {ps : List (JoinS.Pt ByteArray)} {bs os ts : List ByteArray} (h : LI F w0 w q ps bs os ts) {i j k : Nat} (hi : i ≤ bs.length) (hj : j ≤ os.length) (hk : k ≤ ts.length) :
    Calls Tryz.prog 112 #[.pointer (some ⟨q, 0, none⟩), .int .i64 i, .int .i64 j, .int .i64 k] w fun e w' => e = .returned (.tuple #[]) ∧ LI F w0 w' q (JoinS.join ps ⟨bs.take i, os.take j, ts.take k⟩) (bs.drop i) (os.drop j) (ts.drop k) ∧ ∀ b, F b → w'.heap[b]? = w.heap[b]? := by
  obtain ⟨bv, ov, tv, pv, xs, hJ, hps, hB, hF⟩ := h
  have hF : Hid (∀ b, F b → b < w.heap.size ∧ LPF q pv xs b) := hF
  have hlb := hB.b
  have hlo := hB.o
  have hlt := hB.t
  by_cases h0 : i + j + k = 0
  · obtain rfl : i = 0 := by omega
    obtain rfl : j = 0 := by omega
    obtain rfl : k = 0 := by omega
    go_enter Tryz.func112, Tryz.ntmps112
    go_wp2_with fail
    refine bodyPost_ret (results_none rfl _ _ _) rfl ?_
    exact ⟨rfl, ⟨bv, ov, tv, pv, xs, hJ, by rw [hps]; rfl, hB, hF.out⟩, fun _ _ => rfl⟩
  · have d0 : ((i : Int) + (j : Int) + (k : Int) == 0) = false := beq_eq_false_iff_ne.2 (by omega)
    have d1 : IntKind.i64.wrap ((i : Int) + (j : Int)) = (i : Int) + (j : Int) := IntWalk.i64_in _ (by omega)
    have d2 : IntKind.i64.wrap ((i : Int) + (j : Int) + (k : Int)) = (i : Int) + (j : Int) + (k : Int) := IntWalk.i64_in _ (by omega)
    have HR := Lib.hid (R1.start hJ)
    have HB := Lib.hid hB
    have hi1 := hi
    have hj1 := hj
    have hk1 := hk
    clear hB hJ
    go_enter Tryz.func112, Tryz.ntmps112
    go_upto_region 1 with fail
    refine wp_region_hz (fun _ => True) (.tk 0 (.tk 1 (.tk 2 (.tk 3 (.tk 5 (.tk 6 (.tk 7 (.tk 8 (.tk 10 (.tk 11 (.tk 12 (.tk 13 (.br 4 (.br 9 (.br 14 (.tk 15 (.fc 16 (.fc 17 .nil))) 16 (.fc 14 (.tk 15 (.fc 17 .nil)))) 16 (.fc 9 (.fc 14 (.tk 15 (.fc 17 .nil))))) 16 (.fc 4 (.fc 9 (.fc 14 (.tk 15 (.fc 17 .nil)))))))))))))))))) (by kernel_rfl) (by kernel_rfl) (fun _ _ _ _ _ h => h) ?_
    refine goZ_meet (R := fun a W => ∃ (vb vo vt : Value) (c : Nat), a = ⟨List.toArray ((.pointer (some ⟨q, 0, none⟩)) :: (.int .i64 i) :: (.int .i64 j) :: (.int .i64 k) :: undef :: undef :: undef :: undef :: (.pointer (some ⟨c, 0, none⟩)) :: undef :: undef :: (.int .i64 i) :: (.int .i64 j) :: (.int .i64 ((i : Int) + (j : Int))) :: (.int .i64 k) :: (.int .i64 ((i : Int) + (j : Int) + (k : Int))) :: (.bool false) :: (.pointer (some ⟨q, 0, none⟩)) :: (.pointer (some ⟨q, 0, none⟩)) :: (.pointer (some ⟨q, 0, none⟩)) :: (.int .i64 i) :: vb :: (.pointer (some ⟨q, 0, none⟩)) :: (.pointer (some ⟨q, 0, none⟩)) :: (.pointer (some ⟨q, 1, none⟩)) :: (.int .i64 j) :: vo :: (.pointer (some ⟨q, 0, none⟩)) :: (.pointer (some ⟨q, 0, none⟩)) :: (.pointer (some ⟨q, 2, none⟩)) :: (.int .i64 k) :: vt :: (.agg #[.int .i64 0, vb, vo, vt]) :: undef :: undef :: undef :: undef :: undef :: undef :: undef :: undef :: undef :: undef :: undef :: undef :: undef :: undef :: undef :: undef :: undef :: undef :: undef :: undef :: undef :: undef :: undef :: undef :: undef :: undef :: undef :: undef :: undef :: undef :: undef :: undef :: undef :: undef :: undef :: undef :: undef :: undef :: undef :: undef :: undef :: undef :: undef :: undef :: undef :: undef :: undef :: undef :: undef :: undef :: undef :: undef :: undef :: undef :: undef :: undef :: undef :: undef :: undef :: undef :: undef :: undef :: undef :: undef :: undef :: undef :: undef :: undef :: undef :: undef :: undef :: undef :: undef :: undef :: undef :: undef :: undef :: undef :: undef :: []), []⟩ ∧ R2 w0 w W q pv xs (bs.drop i) (os.drop j) (ts.drop k) ⟨⟨bs.take i, os.take j, ts.take k⟩, vb, vo, vt⟩ 0 c) ?_ _ _ _ _ ?_
    rotate_left
    refine goZ_tk rfl rfl 17 rfl (.pointer (some ⟨q, 0, none⟩)) (fun _ => rfl) ?_; simp only [zT, zA, zB]
    refine goZ_tk rfl rfl 18 rfl (.pointer (some ⟨q, 0, none⟩)) (fun _ => rfl) ?_; simp only [zT, zA, zB]
    refine goZ_tk rfl rfl 19 rfl (.pointer (some ⟨q, 0, none⟩)) (fun _ => rfl) ?_; simp only [zT, zA, zB]
    refine goZ_tk rfl rfl 20 rfl (.int .i64 i) (fun _ => rfl) ?_; simp only [zT, zA, zB]
    refine goZ_tk rfl rfl 22 rfl (.pointer (some ⟨q, 0, none⟩)) (fun _ => rfl) ?_; simp only [zT, zA, zB]
    refine goZ_tk rfl rfl 23 rfl (.pointer (some ⟨q, 0, none⟩)) (fun _ => rfl) ?_; simp only [zT, zA, zB]
    refine goZ_tk rfl rfl 24 rfl (.pointer (some ⟨q, 1, none⟩)) (fun _ => rfl) ?_; simp only [zT, zA, zB]
    refine goZ_tk rfl rfl 25 rfl (.int .i64 j) (fun _ => rfl) ?_; simp only [zT, zA, zB]
    refine goZ_tk rfl rfl 27 rfl (.pointer (some ⟨q, 0, none⟩)) (fun _ => rfl) ?_; simp only [zT, zA, zB]
    refine goZ_tk rfl rfl 28 rfl (.pointer (some ⟨q, 0, none⟩)) (fun _ => rfl) ?_; simp only [zT, zA, zB]
    refine goZ_tk rfl rfl 29 rfl (.pointer (some ⟨q, 2, none⟩)) (fun _ => rfl) ?_; simp only [zT, zA, zB]
    refine goZ_tk rfl rfl 30 rfl (.int .i64 k) (fun _ => rfl) ?_; simp only [zT, zA, zB]
    refine goZ_br ?_ ?_
    · refine goZ_call (ds' := []) rfl rfl (by kernel_rfl) 21 rfl 126 _ rfl [.pointer (some ⟨q, 0, none⟩), .int .i64 i] rfl (enters_of Tryz.func126 (by kernel_rfl) rfl) ((HR.out.cut0 hi hlb).mono ?_)
      rintro e W1 ⟨vb, rfl, hR⟩
      have HR := Lib.hid hR
      clear hR
      refine ⟨vb, rfl, fun h => absurd rfl h, ?_⟩; simp only [zT, zA, zB]
      refine goZ_br ?_ ?_
      · refine goZ_call (ds' := []) rfl rfl (by kernel_rfl) 26 rfl 126 _ rfl [.pointer (some ⟨q, 1, none⟩), .int .i64 j] rfl (enters_of Tryz.func126 (by kernel_rfl) rfl) ((HR.out.cut1 hj hlo).mono ?_)
        rintro e W2 ⟨vo, rfl, hR⟩
        have HR := Lib.hid hR
        clear hR
        refine ⟨vo, rfl, fun h => absurd rfl h, ?_⟩; simp only [zT, zA, zB]
        refine goZ_br ?_ ?_
        · refine goZ_call (ds' := []) rfl rfl (by kernel_rfl) 31 rfl 126 _ rfl [.pointer (some ⟨q, 2, none⟩), .int .i64 k] rfl (enters_of Tryz.func126 (by kernel_rfl) rfl) ((HR.out.cut2 hk hlt).mono ?_)
          rintro e W3 ⟨vt, rfl, hR⟩
          have HR := Lib.hid hR
          clear hR
          refine ⟨vt, rfl, fun h => absurd rfl h, ?_⟩; simp only [zT, zA, zB]
          obtain ⟨avb, cvb, (evb : vb = .slice avb (bs.take i).length cvb), -⟩ := (HR.out.own (vb, bs.take i) (by simp)).1.form
          subst evb
          obtain ⟨avo, cvo, (evo : vo = .slice avo (os.take j).length cvo), -⟩ := (HR.out.own (vo, os.take j) (by simp)).1.form
          subst evo
          obtain ⟨avt, cvt, (evt : vt = .slice avt (ts.take k).length cvt), -⟩ := (HR.out.own (vt, ts.take k) (by simp)).1.form
          subst evt
          refine goZ_tk rfl rfl 32 rfl (.agg #[.int .i64 0, .slice avb (bs.take i).length cvb, .slice avo (os.take j).length cvo, .slice avt (ts.take k).length cvt]) (fun _ => by go_simp) ?_; simp only [zT, zA, zB]
          refine goZ_val (ds' := []) rfl rfl (by kernel_rfl) 8 rfl (.pointer (some ⟨W3.heap.size, 0, none⟩)) (W3.alloc (.cells #[.int .i64 0, .slice none 0 0, .slice none 0 0, .slice none 0 0] 182 (0, 0))) (by go_simp) (fun h => absurd rfl h) ?_; simp only [zT, zA, zB]
          have HR := Lib.hid HR.out.alloc
          obtain ⟨W9, hr9, h9⟩ := HR.out.store
          refine goZ_st (ds' := []) rfl rfl (by kernel_rfl) rfl 182 _ _ rfl ⟨W3.heap.size, 0, none⟩ _ rfl rfl W9 hr9 (fun h => absurd rfl h) ?_
          exact goZ_end ⟨_, _, _, _, rfl, h9⟩
        · refine goZ_val (ds' := []) rfl rfl (by kernel_rfl) 8 rfl (.pointer (some ⟨W2.heap.size, 0, none⟩)) (W2.alloc (.cells #[.int .i64 0, .slice none 0 0, .slice none 0 0, .slice none 0 0] 182 (0, 0))) (by go_simp) (fun h => absurd rfl h) ?_
          simp only [zT, zA, zB]
          have HR := Lib.hid HR.out.alloc
          refine goZ_call (ds' := []) rfl rfl (by kernel_rfl) 31 rfl 126 _ rfl [.pointer (some ⟨q, 2, none⟩), .int .i64 k] rfl (enters_of Tryz.func126 (by kernel_rfl) rfl) ((HR.out.cut2 hk hlt).mono ?_)
          rintro e W4 ⟨vt, rfl, hR⟩
          have HR := Lib.hid hR
          clear hR
          refine ⟨vt, rfl, fun h => absurd rfl h, ?_⟩; simp only [zT, zA, zB]
          obtain ⟨avb, cvb, (evb : vb = .slice avb (bs.take i).length cvb), -⟩ := (HR.out.own (vb, bs.take i) (by simp)).1.form
          subst evb
          obtain ⟨avo, cvo, (evo : vo = .slice avo (os.take j).length cvo), -⟩ := (HR.out.own (vo, os.take j) (by simp)).1.form
          subst evo
          obtain ⟨avt, cvt, (evt : vt = .slice avt (ts.take k).length cvt), -⟩ := (HR.out.own (vt, ts.take k) (by simp)).1.form
          subst evt
          refine goZ_tk rfl rfl 32 rfl (.agg #[.int .i64 0, .slice avb (bs.take i).length cvb, .slice avo (os.take j).length cvo, .slice avt (ts.take k).length cvt]) (fun _ => by go_simp) ?_; simp only [zT, zA, zB]
          obtain ⟨W9, hr9, h9⟩ := HR.out.store
          refine goZ_st (ds' := []) rfl rfl (by kernel_rfl) rfl 182 _ _ rfl ⟨W2.heap.size, 0, none⟩ _ rfl rfl W9 hr9 (fun h => absurd rfl h) ?_
          exact goZ_end ⟨_, _, _, _, rfl, h9⟩
      · refine goZ_val (ds' := []) rfl rfl (by kernel_rfl) 8 rfl (.pointer (some ⟨W1.heap.size, 0, none⟩)) (W1.alloc (.cells #[.int .i64 0, .slice none 0 0, .slice none 0 0, .slice none 0 0] 182 (0, 0))) (by go_simp) (fun h => absurd rfl h) ?_
        simp only [zT, zA, zB]
        have HR := Lib.hid HR.out.alloc
        refine goZ_call (ds' := []) rfl rfl (by kernel_rfl) 26 rfl 126 _ rfl [.pointer (some ⟨q, 1, none⟩), .int .i64 j] rfl (enters_of Tryz.func126 (by kernel_rfl) rfl) ((HR.out.cut1 hj hlo).mono ?_)
        rintro e W3 ⟨vo, rfl, hR⟩
        have HR := Lib.hid hR
        clear hR
        refine ⟨vo, rfl, fun h => absurd rfl h, ?_⟩; simp only [zT, zA, zB]
        refine goZ_call (ds' := []) rfl rfl (by kernel_rfl) 31 rfl 126 _ rfl [.pointer (some ⟨q, 2, none⟩), .int .i64 k] rfl (enters_of Tryz.func126 (by kernel_rfl) rfl) ((HR.out.cut2 hk hlt).mono ?_)
        rintro e W4 ⟨vt, rfl, hR⟩
        have HR := Lib.hid hR
        clear hR
        refine ⟨vt, rfl, fun h => absurd rfl h, ?_⟩; simp only [zT, zA, zB]
        obtain ⟨avb, cvb, (evb : vb = .slice avb (bs.take i).length cvb), -⟩ := (HR.out.own (vb, bs.take i) (by simp)).1.form
        subst evb
        obtain ⟨avo, cvo, (evo : vo = .slice avo (os.take j).length cvo), -⟩ := (HR.out.own (vo, os.take j) (by simp)).1.form
        subst evo
        obtain ⟨avt, cvt, (evt : vt = .slice avt (ts.take k).length cvt), -⟩ := (HR.out.own (vt, ts.take k) (by simp)).1.form
        subst evt
        refine goZ_tk rfl rfl 32 rfl (.agg #[.int .i64 0, .slice avb (bs.take i).length cvb, .slice avo (os.take j).length cvo, .slice avt (ts.take k).length cvt]) (fun _ => by go_simp) ?_; simp only [zT, zA, zB]
        obtain ⟨W9, hr9, h9⟩ := HR.out.store
        refine goZ_st (ds' := []) rfl rfl (by kernel_rfl) rfl 182 _ _ rfl ⟨W1.heap.size, 0, none⟩ _ rfl rfl W9 hr9 (fun h => absurd rfl h) ?_
        exact goZ_end ⟨_, _, _, _, rfl, h9⟩
    · refine goZ_val (ds' := []) rfl rfl (by kernel_rfl) 8 rfl (.pointer (some ⟨(w.drewN 1).heap.size, 0, none⟩)) ((w.drewN 1).alloc (.cells #[.int .i64 0, .slice none 0 0, .slice none 0 0, .slice none 0 0] 182 (0, 0))) (by go_simp) (fun h => absurd rfl h) ?_
      simp only [zT, zA, zB]
      have HR := Lib.hid HR.out.alloc
      refine goZ_call (ds' := []) rfl rfl (by kernel_rfl) 21 rfl 126 _ rfl [.pointer (some ⟨q, 0, none⟩), .int .i64 i] rfl (enters_of Tryz.func126 (by kernel_rfl) rfl) ((HR.out.cut0 hi hlb).mono ?_)
      rintro e W2 ⟨vb, rfl, hR⟩
      have HR := Lib.hid hR
      clear hR
      refine ⟨vb, rfl, fun h => absurd rfl h, ?_⟩; simp only [zT, zA, zB]
      refine goZ_call (ds' := []) rfl rfl (by kernel_rfl) 26 rfl 126 _ rfl [.pointer (some ⟨q, 1, none⟩), .int .i64 j] rfl (enters_of Tryz.func126 (by kernel_rfl) rfl) ((HR.out.cut1 hj hlo).mono ?_)
      rintro e W3 ⟨vo, rfl, hR⟩
      have HR := Lib.hid hR
      clear hR
      refine ⟨vo, rfl, fun h => absurd rfl h, ?_⟩; simp only [zT, zA, zB]
      refine goZ_call (ds' := []) rfl rfl (by kernel_rfl) 31 rfl 126 _ rfl [.pointer (some ⟨q, 2, none⟩), .int .i64 k] rfl (enters_of Tryz.func126 (by kernel_rfl) rfl) ((HR.out.cut2 hk hlt).mono ?_)
      rintro e W4 ⟨vt, rfl, hR⟩
      have HR := Lib.hid hR
      clear hR
      refine ⟨vt, rfl, fun h => absurd rfl h, ?_⟩; simp only [zT, zA, zB]
      obtain ⟨avb, cvb, (evb : vb = .slice avb (bs.take i).length cvb), -⟩ := (HR.out.own (vb, bs.take i) (by simp)).1.form
      subst evb
      obtain ⟨avo, cvo, (evo : vo = .slice avo (os.take j).length cvo), -⟩ := (HR.out.own (vo, os.take j) (by simp)).1.form
      subst evo
      obtain ⟨avt, cvt, (evt : vt = .slice avt (ts.take k).length cvt), -⟩ := (HR.out.own (vt, ts.take k) (by simp)).1.form
      subst evt
      refine goZ_tk rfl rfl 32 rfl (.agg #[.int .i64 0, .slice avb (bs.take i).length cvb, .slice avo (os.take j).length cvo, .slice avt (ts.take k).length cvt]) (fun _ => by go_simp) ?_; simp only [zT, zA, zB]
      obtain ⟨W9, hr9, h9⟩ := HR.out.store
      refine goZ_st (ds' := []) rfl rfl (by kernel_rfl) rfl 182 _ _ rfl ⟨(w.drewN 1).heap.size, 0, none⟩ _ rfl rfl W9 hr9 (fun h => absurd rfl h) ?_
      exact goZ_end ⟨_, _, _, _, rfl, h9⟩
    rintro _ W ⟨vb, vo, vt, c, rfl, hR⟩
    have HPS : Hid (xs.map (·.p) = ps) := hps
    have HIJ : Hid (i ≤ bs.length ∧ j ≤ os.length ∧ k ≤ ts.length ∧ ¬ i + j + k = 0) := ⟨hi, hj, hk, h0⟩
    clear hps HR hi1 hj1 hk1 hi hj hk h0 d0 d1 d2
    obtain ⟨p, hp⟩ : ∃ p : JoinS.Pt ByteArray, p = ⟨bs.take i, os.take j, ts.take k⟩ := ⟨_, rfl⟩
    rw [← hp] at hR
    have hlb1 : p.b.length ≤ 10000000 := by rw [hp]; show (bs.take i).length ≤ _; rw [List.length_take]; omega
    have hlo1 : p.o.length ≤ 10000000 := by rw [hp]; show (os.take j).length ≤ _; rw [List.length_take]; omega
    have hlt1 : p.t.length ≤ 10000000 := by rw [hp]; show (ts.take k).length ≤ _; rw [List.length_take]; omega
    have HP := Lib.hid hp
    clear hp
    have c1 : W.cell? ⟨c, 1, none⟩ = some vb := by simp only [World.cell?, hR.c8]; rfl
    have c2 : W.cell? ⟨c, 2, none⟩ = some vo := by simp only [World.cell?, hR.c8]; rfl
    have c3 : W.cell? ⟨c, 3, none⟩ = some vt := by simp only [World.cell?, hR.c8]; rfl
    have HKC := Lib.hid (kind_c (p := p) (tl_own hR.ob) (tl_own hR.oo) (tl_own hR.ot) (Nat.le_trans hlb1 (by decide)) (Nat.le_trans hlo1 (by decide)) (Nat.le_trans hlt1 (by decide)))
    have HR := Lib.hid hR
    clear hR
    obtain ⟨kd, HKD⟩ : ∃ kd : Nat, Hid (JoinS.kindOf p = kd) := ⟨_, Lib.hid rfl⟩
    rw [HKD.out] at HKC
    have c0 : W.cell? ⟨c, 0, none⟩ = some (.int .i64 0) := by simp only [World.cell?, HR.out.c8]; rfl
    have f0 : W.frozen? ⟨c, 0, none⟩ = false := by simp [World.frozen?, HR.out.c8]
    go_upto_region 3 with (go_at_call 127; refine HKC.out.mono ?_; rintro e w2 ⟨rfl, nq, rfl⟩)
    have HR := Lib.hid ((HR.out.below (below_dN (Below.refl _ W) nq)).kind kd)
    generalize hW3 : (W.drewN nq).setCell ⟨c, 0, none⟩ (.int .i64 (kd : Int)) = W3 at *
    have hR3 := HR.out
    clear hW3 c0 f0 c1 c2 c3 HKC HR
    obtain ⟨avb, cvb, (evb : vb = .slice avb p.b.length cvb), -⟩ := hR3.ob.form
    obtain ⟨avo, cvo, (evo : vo = .slice avo p.o.length cvo), -⟩ := hR3.oo.form
    obtain ⟨avt, cvt, (evt : vt = .slice avt p.t.length cvt), -⟩ := hR3.ot.form
    subst evb evo evt
    obtain ⟨bv3, ov3, tv3, hJ3⟩ := hR3.lj
    have q3 := hJ3.c3
    have fq := hJ3.fz 3
    have c0 : W3.cell? ⟨c, 0, none⟩ = some (.int .i64 kd) := by simp only [World.cell?, hR3.c8]; rfl
    have HNE : Hid (¬ p.b.length + p.o.length + p.t.length = 0) := by
      show ¬ _
      rw [HP.out]
      simp only [List.length_take]
      have := HIJ.out
      omega
    have hkd : decide (((kd : Nat) : Int) = 0) = decide (kd = 0) := by simp
    rcases hJ3.parts with ⟨rfl, rfl⟩ | ⟨ys, z, rfl, hz⟩
    · have HJ0 : Hid (JoinS.join ps p = [] ++ [p]) := by show _ = _; rw [← HPS.out]; exact join_nil HNE.out
      have hrow := hJ3.parts.row
      have hpq := hJ3.parts.pvq
      have HR := Lib.hid hR3
      have HJ3 := Lib.hid hJ3
      clear hR3 hJ3
      rcases Nat.eq_zero_or_pos kd with hk0 | hk0
      · have e1 : ((kd : Int) == 0) = true := by simp [hk0]
        clear hk0
        go_upto_region 7 with fail
        refine wp_region_hz (fun W' => W'.cell? ⟨q, 3, none⟩ = some (.slice none 0 0) ∧ W'.heap[c]? = some (.cells #[.int .i64 (kd : Int), .slice avb p.b.length cvb, .slice avo p.o.length cvo, .slice avt p.t.length cvt] 182 (0, 0))) (.tk 0 (.tk 1 (.tk 2 (.tk 3 (.tk 4 (.tk 5 (.fc 6 (.fc 7 (.tk 8 (.tk 9 (.fc 10 .nil))))))))))) (by kernel_rfl) (by kernel_rfl) (fun _ _ _ _ _ h => h) ?_
        have hbd : Below W3.heap.size W3 (W3.drewN 1) := below_dN (Below.refl _ W3) 1
        have hs0 : (fun W' => W'.cell? ⟨q, 3, none⟩ = some (.slice none 0 0) ∧ W'.heap[c]? = some (.cells #[.int .i64 (kd : Int), .slice avb p.b.length cvb, .slice avo p.o.length cvo, .slice avt p.t.length cvt] 182 (0, 0))) (W3.drewN 1) := ⟨q3, HR.out.c8⟩
        refine goZ_tk rfl rfl 102 rfl (.pointer (some ⟨q, 0, none⟩)) (fun _ => rfl) ?_; simp only [zT, zA, zB]
        refine goZ_tk rfl rfl 103 rfl (.pointer (some ⟨q, 0, none⟩)) (fun _ => rfl) ?_; simp only [zT, zA, zB]
        refine goZ_tk rfl rfl 104 rfl (.pointer (some ⟨q, 0, none⟩)) (fun _ => rfl) ?_; simp only [zT, zA, zB]
        refine goZ_tk rfl rfl 105 rfl (.pointer (some ⟨q, 3, none⟩)) (fun _ => rfl) ?_; simp only [zT, zA, zB]
        refine goZ_ld rfl rfl 106 rfl 148 _ rfl ⟨q, 3, none⟩ (.slice none 0 0) rfl (fun W hS => ld_parts _ _ W hS.1) (hs0) ?_; simp only [zT, zA, zB]
        refine goZ_ld rfl rfl 107 rfl 182 _ rfl ⟨c, 0, none⟩ (.agg #[.int .i64 (kd : Int), .slice avb p.b.length cvb, .slice avo p.o.length cvo, .slice avt p.t.length cvt]) rfl (fun W hS => ld_blk Tryz.underlying182 rfl (by kernel_rfl) W hS.2) (hs0) ?_; simp only [zT, zA, zB]
        have hba : Below W3.heap.size W3 ((W3.drewN 1).alloc (.cells #[.int .i64 (kd : Int), .slice avb p.b.length cvb, .slice avo p.o.length cvo, .slice avt p.t.length cvt] 182 (0, 0))) := hbd.alloc (Nat.le_refl _) _
        have hs1 : (fun W' => W'.cell? ⟨q, 3, none⟩ = some (.slice none 0 0) ∧ W'.heap[c]? = some (.cells #[.int .i64 (kd : Int), .slice avb p.b.length cvb, .slice avo p.o.length cvo, .slice avt p.t.length cvt] 182 (0, 0))) ((W3.drewN 1).alloc (.cells #[.int .i64 (kd : Int), .slice avb p.b.length cvb, .slice avo p.o.length cvo, .slice avt p.t.length cvt] 182 (0, 0))) := ⟨(hba.cell (p := ⟨q, 3, none⟩) HJ3.out.lt).trans q3, (hba.block c (Array.getElem?_eq_some_iff.1 HR.out.c8).1).trans HR.out.c8⟩
        refine goZ_val (ds' := [4]) rfl rfl (by kernel_rfl) 108 rfl (.slice (some ⟨(W3.drewN 1).heap.size, 0, none⟩) 1 1) ((W3.drewN 1).alloc (.cells #[.int .i64 (kd : Int), .slice avb p.b.length cvb, .slice avo p.o.length cvo, .slice avt p.t.length cvt] 182 (0, 0))) (by go_simp) (fun _ => hs1) ?_; simp only [zT, zA, zB]
        have hsrc : Src Tryz.prog 4 148 (.slice (some ⟨(W3.drewN 1).heap.size, 0, none⟩) 1 1) 1 [.int .i64 (kd : Int), .slice avb p.b.length cvb, .slice avo p.o.length cvo, .slice avt p.t.length cvt] ((W3.drewN 1).alloc (.cells #[.int .i64 (kd : Int), .slice avb p.b.length cvb, .slice avo p.o.length cvo, .slice avt p.t.length cvt] 182 (0, 0))) := Src.ofNew (P := Tryz.prog) (w := W3.drewN 1) (tx := 148) (e := 182) (news := [.int .i64 (kd : Int), .slice avb p.b.length cvb, .slice avo p.o.length cvo, .slice avt p.t.length cvt]) Tryz.underlying148 rfl (by intro u hu; simp at hu; rcases hu with rfl | rfl | rfl | rfl <;> rfl)
        refine goZ_lawd (ds' := []) (by kernel_rfl) 109 ⟨_, rfl, rfl, fun K' hK' => wp_appG (v := (.slice none 0 0)) (xv := .slice (some ⟨(W3.drewN 1).heap.size, 0, none⟩) 1 1) (n := 0) (m := 1) rfl _ _ _ _ rfl partElem rfl rfl (hrow.below hba) rfl hsrc (by simp only [maxLen]; omega) (by omega) fun v9 w9 ho9 hg9 hv9 => hK' _ _ ⟨fun h => absurd rfl h, ?_⟩⟩; simp only [zT, zA, zB]
        obtain ⟨a9, c9, rfl, -⟩ := ho9.form
        have hpvc : pvC ⟨p, .slice avb p.b.length cvb, .slice avo p.o.length cvo, .slice avt p.t.length cvt⟩ = [.int .i64 (kd : Int), .slice avb p.b.length cvb, .slice avo p.o.length cvo, .slice avt p.t.length cvt] := by unfold pvC; rw [HKD.out]
        rw [← hpvc] at ho9
        have hR2 : R2 w0 w (W3.drewN 1) q (.slice none 0 0) [] (bs.drop i) (os.drop j) (ts.drop k) ⟨p, .slice avb p.b.length cvb, .slice avo p.o.length cvo, .slice avt p.t.length cvt⟩ (JoinS.kindOf p) c := by rw [HKD.out]; exact HR.out.below hbd
        have hfin := hR2.push (by simpa using ho9) hg9 hv9
        have hq9 : w9.heap[q]? = W3.heap[q]? := (hg9.block q (Nat.lt_of_lt_of_le HJ3.out.lt hba.size) (fun e => (hpq q e.symm).2.1 rfl)).trans (hba.block q HJ3.out.lt)
        have hc9 : w9.cell? ⟨q, 3, none⟩ = some (.slice none 0 0) := by rw [← q3]; simp only [World.cell?, hq9]
        have hf9 : w9.frozen? ⟨q, 3, none⟩ = false := by rw [← fq]; simp only [World.frozen?, hq9]
        refine goZ_tk rfl rfl 110 rfl (.pointer (some ⟨q, 0, none⟩)) (fun _ => rfl) ?_; simp only [zT, zA, zB]
        refine goZ_tk rfl rfl 111 rfl (.pointer (some ⟨q, 3, none⟩)) (fun _ => rfl) ?_; simp only [zT, zA, zB]
        refine goZ_st (ds' := []) rfl rfl (by kernel_rfl) rfl 148 _ _ rfl ⟨q, 3, none⟩ _ rfl rfl _ (st_parts _ _ _ _ _ _ hc9 hf9) (fun h => absurd rfl h) ?_
        refine goZ_end ?_
        go_wp2_with fail
        (try simp only [Exit.inBlock, Exit.then])
        first | refine bodyPost_end (results_none rfl _ _ _) rfl ?_ | refine bodyPost_ret (results_none rfl _ _ _) rfl ?_
        obtain ⟨⟨bv8, ov8, tv8, hl8⟩, hk8⟩ := hfin
        refine ⟨rfl, ⟨bv8, ov8, tv8, _, _, hl8, ?_, HB.out.push HIJ.out.1 HIJ.out.2.1 HIJ.out.2.2.1 HIJ.out.2.2.2 HP.out, fun b hb => ⟨Nat.lt_of_lt_of_le (hF.out b hb).1 (Nat.le_trans HR.out.gr.size (Nat.le_trans hba.size (Nat.le_trans hg9.size (by simp [World.setCell])))), (hk8 b (hF.out b hb).1 (hF.out b hb).2).2⟩⟩, fun b hb => (hk8 b (hF.out b hb).1 (hF.out b hb).2).1⟩
        rw [← HP.out, HJ0.out]; simp
      · have e1 : ((kd : Int) == 0) = false := beq_eq_false_iff_ne.2 (by omega)
        clear hk0
        go_upto_region 7 with fail
        refine wp_region_hz (fun W' => W'.cell? ⟨q, 3, none⟩ = some (.slice none 0 0) ∧ W'.heap[c]? = some (.cells #[.int .i64 (kd : Int), .slice avb p.b.length cvb, .slice avo p.o.length cvo, .slice avt p.t.length cvt] 182 (0, 0))) (.tk 0 (.tk 1 (.tk 2 (.tk 3 (.tk 4 (.tk 5 (.fc 6 (.fc 7 (.tk 8 (.tk 9 (.fc 10 .nil))))))))))) (by kernel_rfl) (by kernel_rfl) (fun _ _ _ _ _ h => h) ?_
        have hbd : Below W3.heap.size W3 (W3.drewN 1) := below_dN (Below.refl _ W3) 1
        have hs0 : (fun W' => W'.cell? ⟨q, 3, none⟩ = some (.slice none 0 0) ∧ W'.heap[c]? = some (.cells #[.int .i64 (kd : Int), .slice avb p.b.length cvb, .slice avo p.o.length cvo, .slice avt p.t.length cvt] 182 (0, 0))) (W3.drewN 1) := ⟨q3, HR.out.c8⟩
        refine goZ_tk rfl rfl 102 rfl (.pointer (some ⟨q, 0, none⟩)) (fun _ => rfl) ?_; simp only [zT, zA, zB]
        refine goZ_tk rfl rfl 103 rfl (.pointer (some ⟨q, 0, none⟩)) (fun _ => rfl) ?_; simp only [zT, zA, zB]
        refine goZ_tk rfl rfl 104 rfl (.pointer (some ⟨q, 0, none⟩)) (fun _ => rfl) ?_; simp only [zT, zA, zB]
        refine goZ_tk rfl rfl 105 rfl (.pointer (some ⟨q, 3, none⟩)) (fun _ => rfl) ?_; simp only [zT, zA, zB]
        refine goZ_ld rfl rfl 106 rfl 148 _ rfl ⟨q, 3, none⟩ (.slice none 0 0) rfl (fun W hS => ld_parts _ _ W hS.1) (hs0) ?_; simp only [zT, zA, zB]
        refine goZ_ld rfl rfl 107 rfl 182 _ rfl ⟨c, 0, none⟩ (.agg #[.int .i64 (kd : Int), .slice avb p.b.length cvb, .slice avo p.o.length cvo, .slice avt p.t.length cvt]) rfl (fun W hS => ld_blk Tryz.underlying182 rfl (by kernel_rfl) W hS.2) (hs0) ?_; simp only [zT, zA, zB]
        have hba : Below W3.heap.size W3 ((W3.drewN 1).alloc (.cells #[.int .i64 (kd : Int), .slice avb p.b.length cvb, .slice avo p.o.length cvo, .slice avt p.t.length cvt] 182 (0, 0))) := hbd.alloc (Nat.le_refl _) _
        have hs1 : (fun W' => W'.cell? ⟨q, 3, none⟩ = some (.slice none 0 0) ∧ W'.heap[c]? = some (.cells #[.int .i64 (kd : Int), .slice avb p.b.length cvb, .slice avo p.o.length cvo, .slice avt p.t.length cvt] 182 (0, 0))) ((W3.drewN 1).alloc (.cells #[.int .i64 (kd : Int), .slice avb p.b.length cvb, .slice avo p.o.length cvo, .slice avt p.t.length cvt] 182 (0, 0))) := ⟨(hba.cell (p := ⟨q, 3, none⟩) HJ3.out.lt).trans q3, (hba.block c (Array.getElem?_eq_some_iff.1 HR.out.c8).1).trans HR.out.c8⟩
        refine goZ_val (ds' := [4]) rfl rfl (by kernel_rfl) 108 rfl (.slice (some ⟨(W3.drewN 1).heap.size, 0, none⟩) 1 1) ((W3.drewN 1).alloc (.cells #[.int .i64 (kd : Int), .slice avb p.b.length cvb, .slice avo p.o.length cvo, .slice avt p.t.length cvt] 182 (0, 0))) (by go_simp) (fun _ => hs1) ?_; simp only [zT, zA, zB]
        have hsrc : Src Tryz.prog 4 148 (.slice (some ⟨(W3.drewN 1).heap.size, 0, none⟩) 1 1) 1 [.int .i64 (kd : Int), .slice avb p.b.length cvb, .slice avo p.o.length cvo, .slice avt p.t.length cvt] ((W3.drewN 1).alloc (.cells #[.int .i64 (kd : Int), .slice avb p.b.length cvb, .slice avo p.o.length cvo, .slice avt p.t.length cvt] 182 (0, 0))) := Src.ofNew (P := Tryz.prog) (w := W3.drewN 1) (tx := 148) (e := 182) (news := [.int .i64 (kd : Int), .slice avb p.b.length cvb, .slice avo p.o.length cvo, .slice avt p.t.length cvt]) Tryz.underlying148 rfl (by intro u hu; simp at hu; rcases hu with rfl | rfl | rfl | rfl <;> rfl)
        refine goZ_lawd (ds' := []) (by kernel_rfl) 109 ⟨_, rfl, rfl, fun K' hK' => wp_appG (v := (.slice none 0 0)) (xv := .slice (some ⟨(W3.drewN 1).heap.size, 0, none⟩) 1 1) (n := 0) (m := 1) rfl _ _ _ _ rfl partElem rfl rfl (hrow.below hba) rfl hsrc (by simp only [maxLen]; omega) (by omega) fun v9 w9 ho9 hg9 hv9 => hK' _ _ ⟨fun h => absurd rfl h, ?_⟩⟩; simp only [zT, zA, zB]
        obtain ⟨a9, c9, rfl, -⟩ := ho9.form
        have hpvc : pvC ⟨p, .slice avb p.b.length cvb, .slice avo p.o.length cvo, .slice avt p.t.length cvt⟩ = [.int .i64 (kd : Int), .slice avb p.b.length cvb, .slice avo p.o.length cvo, .slice avt p.t.length cvt] := by unfold pvC; rw [HKD.out]
        rw [← hpvc] at ho9
        have hR2 : R2 w0 w (W3.drewN 1) q (.slice none 0 0) [] (bs.drop i) (os.drop j) (ts.drop k) ⟨p, .slice avb p.b.length cvb, .slice avo p.o.length cvo, .slice avt p.t.length cvt⟩ (JoinS.kindOf p) c := by rw [HKD.out]; exact HR.out.below hbd
        have hfin := hR2.push (by simpa using ho9) hg9 hv9
        have hq9 : w9.heap[q]? = W3.heap[q]? := (hg9.block q (Nat.lt_of_lt_of_le HJ3.out.lt hba.size) (fun e => (hpq q e.symm).2.1 rfl)).trans (hba.block q HJ3.out.lt)
        have hc9 : w9.cell? ⟨q, 3, none⟩ = some (.slice none 0 0) := by rw [← q3]; simp only [World.cell?, hq9]
        have hf9 : w9.frozen? ⟨q, 3, none⟩ = false := by rw [← fq]; simp only [World.frozen?, hq9]
        refine goZ_tk rfl rfl 110 rfl (.pointer (some ⟨q, 0, none⟩)) (fun _ => rfl) ?_; simp only [zT, zA, zB]
        refine goZ_tk rfl rfl 111 rfl (.pointer (some ⟨q, 3, none⟩)) (fun _ => rfl) ?_; simp only [zT, zA, zB]
        refine goZ_st (ds' := []) rfl rfl (by kernel_rfl) rfl 148 _ _ rfl ⟨q, 3, none⟩ _ rfl rfl _ (st_parts _ _ _ _ _ _ hc9 hf9) (fun h => absurd rfl h) ?_
        refine goZ_end ?_
        go_wp2_with fail
        (try simp only [Exit.inBlock, Exit.then])
        first | refine bodyPost_end (results_none rfl _ _ _) rfl ?_ | refine bodyPost_ret (results_none rfl _ _ _) rfl ?_
        obtain ⟨⟨bv8, ov8, tv8, hl8⟩, hk8⟩ := hfin
        refine ⟨rfl, ⟨bv8, ov8, tv8, _, _, hl8, ?_, HB.out.push HIJ.out.1 HIJ.out.2.1 HIJ.out.2.2.1 HIJ.out.2.2.2 HP.out, fun b hb => ⟨Nat.lt_of_lt_of_le (hF.out b hb).1 (Nat.le_trans HR.out.gr.size (Nat.le_trans hba.size (Nat.le_trans hg9.size (by simp [World.setCell])))), (hk8 b (hF.out b hb).1 (hF.out b hb).2).2⟩⟩, fun b hb => (hk8 b (hF.out b hb).1 (hF.out b hb).2).1⟩
        rw [← HP.out, HJ0.out]; simp
    · have hrow := hz.row
      have hpq := hJ3.parts.pvq
      have hlen : (ys ++ [z]).length = ys.length + 1 := by simp
      rw [hlen] at hrow
      obtain ⟨g, o, cap, rfl, hcap, hgl, hcs, hfr⟩ := hrow.place (by omega)
      have kz : W3.cell? ⟨g, o + ys.length * 4, none⟩ = some (.int .i64 (JoinS.kindOf z.p)) := hcs _ _ (by have := pvR_at ys z 0 (by decide); rw [Nat.add_zero] at this; exact this)
      have hyl : ys.length + 1 ≤ 30000000 := by have := HB.out.n; rw [hlen] at this; omega
      have d1 : IntKind.i64.wrap (((ys.length : Int) + 1) - 1) = (ys.length : Int) := by rw [show ((ys.length : Int) + 1) - 1 = (ys.length : Int) by omega]; exact IntWalk.i64_in _ (by omega)
      have d2 : decide ((ys.length : Int) + 1 > 0) = true := decide_eq_true (by omega)
      have d3 : decide (0 < ys.length + 1) = true := decide_eq_true (by omega)
      have d4 : (0 : Int) ≤ (ys.length : Int) := by omega
      have d5 : (ys.length : Int) < (ys.length : Int) + 1 := by omega
      obtain ⟨kn, hkn⟩ : ∃ kn : Nat, JoinS.kindOf z.p = kn := ⟨_, rfl⟩
      rw [hkn] at kz
      have HJN : Hid (JoinS.join ps p = if kd = 0 ∧ kn = 0 then ys.map (·.p) ++ [⟨z.p.b ++ p.b, z.p.o ++ p.o, z.p.t ++ p.t⟩] else (ys ++ [z]).map (·.p) ++ [p]) := by
        show _ = _
        rw [← HPS.out, List.map_append, List.map_singleton, join_snoc HNE.out, HKD.out, hkn]
      have HKN : Hid (JoinS.kindOf z.p = kn) := hkn
      have HZ := Lib.hid hz
      have HR := Lib.hid hR3
      have HJ3 := Lib.hid hJ3
      have HLEN := Lib.hid hlen
      clear hkn hR3 hz hlen hJ3
      rcases Nat.eq_zero_or_pos kd with hk0 | hk0
      · rcases Nat.eq_zero_or_pos kn with hn0 | hn0
        · have e1 : ((kd : Int) == 0) = true := by simp [hk0]
          have e2 : ((kn : Int) == 0) = true := by simp [hn0]
          have hbz := HB.out.x z (by simp)
          have hij := HIJ.out
          have hpb : p.b.length = i ∧ p.o.length = j ∧ p.t.length = k := by
            rw [HP.out]
            simp only [List.length_take]
            omega
          have hm1 : z.p.b.length + p.b.length ≤ 10000000 := by omega
          have hm2 : z.p.o.length + p.o.length ≤ 10000000 := by omega
          have hm3 : z.p.t.length + p.t.length ≤ 10000000 := by omega
          clear hpb hbz hij
          have z1 : W3.cell? ⟨g, o + ys.length * 4 + 1, none⟩ = some z.b := by rw [Nat.add_assoc]; exact hcs _ _ (pvR_at ys z 1 (by decide))
          have z2 : W3.cell? ⟨g, o + ys.length * 4 + 2, none⟩ = some z.o := by rw [Nat.add_assoc]; exact hcs _ _ (pvR_at ys z 2 (by decide))
          have z3 : W3.cell? ⟨g, o + ys.length * 4 + 3, none⟩ = some z.t := by rw [Nat.add_assoc]; exact hcs _ _ (pvR_at ys z 3 (by decide))
          have c1 : W3.cell? ⟨c, 1, none⟩ = some (.slice avb p.b.length cvb) := by simp only [World.cell?, HR.out.c8]; rfl
          have c2 : W3.cell? ⟨c, 2, none⟩ = some (.slice avo p.o.length cvo) := by simp only [World.cell?, HR.out.c8]; rfl
          have c3 : W3.cell? ⟨c, 3, none⟩ = some (.slice avt p.t.length cvt) := by simp only [World.cell?, HR.out.c8]; rfl
          clear hcs
          have HK0 := Lib.hid hk0
          have HN0 := Lib.hid hn0
          clear hk0 hn0
          go_upto_region 6 with fail
          have hk0 := HK0.out
          have hn0 := HN0.out
          refine wp_region_hz (fun W' => (W'.cell? ⟨g, o + ys.length * 4 + 1, none⟩ = some z.b ∧ W'.cell? ⟨g, o + ys.length * 4 + 2, none⟩ = some z.o ∧ W'.cell? ⟨g, o + ys.length * 4 + 3, none⟩ = some z.t) ∧ W'.cell? ⟨c, 1, none⟩ = some (.slice avb p.b.length cvb) ∧ W'.cell? ⟨c, 2, none⟩ = some (.slice avo p.o.length cvo) ∧ W'.cell? ⟨c, 3, none⟩ = some (.slice avt p.t.length cvt)) (.tk 0 (.tk 1 (.tk 2 (.tk 3 (.tk 4 (.tk 5 (.tk 6 (.tk 7 (.tk 8 (.tk 10 (.tk 11 (.tk 12 (.tk 13 (.tk 14 (.tk 15 (.tk 17 (.tk 18 (.tk 19 (.tk 20 (.tk 21 (.tk 22 (.fc 9 (.fc 16 (.fc 23 (.tk 24 (.tk 25 (.fc 26 (.tk 27 (.tk 28 (.fc 29 (.tk 30 (.tk 31 (.fc 32 .nil))))))))))))))))))))))))))))))))) (by kernel_rfl) (by kernel_rfl) (fun _ _ _ _ _ h => h) ?_
          have hbd : Below W3.heap.size W3 (W3.drewN 1) := below_dN (Below.refl _ W3) 1
          have hs0 : (fun W' => (W'.cell? ⟨g, o + ys.length * 4 + 1, none⟩ = some z.b ∧ W'.cell? ⟨g, o + ys.length * 4 + 2, none⟩ = some z.o ∧ W'.cell? ⟨g, o + ys.length * 4 + 3, none⟩ = some z.t) ∧ W'.cell? ⟨c, 1, none⟩ = some (.slice avb p.b.length cvb) ∧ W'.cell? ⟨c, 2, none⟩ = some (.slice avo p.o.length cvo) ∧ W'.cell? ⟨c, 3, none⟩ = some (.slice avt p.t.length cvt)) (W3.drewN 1) := ⟨⟨z1, z2, z3⟩, c1, c2, c3⟩
          refine goZ_tk rfl rfl 72 rfl (.pointer (some ⟨g, o + ys.length * 4, none⟩)) (fun _ => rfl) ?_; simp only [zT, zA, zB]
          refine goZ_tk rfl rfl 73 rfl (.pointer (some ⟨g, o + ys.length * 4, none⟩)) (fun _ => rfl) ?_; simp only [zT, zA, zB]
          refine goZ_tk rfl rfl 74 rfl (.pointer (some ⟨g, o + ys.length * 4, none⟩)) (fun _ => rfl) ?_; simp only [zT, zA, zB]
          refine goZ_tk rfl rfl 75 rfl (.pointer (some ⟨g, o + ys.length * 4, none⟩)) (fun _ => rfl) ?_; simp only [zT, zA, zB]
          refine goZ_tk rfl rfl 76 rfl (.pointer (some ⟨g, o + ys.length * 4, none⟩)) (fun _ => rfl) ?_; simp only [zT, zA, zB]
          refine goZ_tk rfl rfl 77 rfl (.pointer (some ⟨g, o + ys.length * 4 + 1, none⟩)) (fun _ => rfl) ?_; simp only [zT, zA, zB]
          refine goZ_ld rfl rfl 78 rfl 82 _ rfl ⟨g, o + ys.length * 4 + 1, none⟩ z.b rfl (fun W hS => ld_strs _ _ W hS.1.1) (hs0) ?_; simp only [zT, zA, zB]
          refine goZ_tk rfl rfl 79 rfl (.pointer (some ⟨c, 1, none⟩)) (fun _ => rfl) ?_; simp only [zT, zA, zB]
          refine goZ_ld rfl rfl 80 rfl 82 _ rfl ⟨c, 1, none⟩ (.slice avb p.b.length cvb) rfl (fun W hS => ld_strs _ _ W hS.2.1) (hs0) ?_; simp only [zT, zA, zB]
          refine goZ_tk rfl rfl 82 rfl (.pointer (some ⟨g, o + ys.length * 4, none⟩)) (fun _ => rfl) ?_; simp only [zT, zA, zB]
          refine goZ_tk rfl rfl 83 rfl (.pointer (some ⟨g, o + ys.length * 4, none⟩)) (fun _ => rfl) ?_; simp only [zT, zA, zB]
          refine goZ_tk rfl rfl 84 rfl (.pointer (some ⟨g, o + ys.length * 4 + 2, none⟩)) (fun _ => rfl) ?_; simp only [zT, zA, zB]
          refine goZ_ld rfl rfl 85 rfl 82 _ rfl ⟨g, o + ys.length * 4 + 2, none⟩ z.o rfl (fun W hS => ld_strs _ _ W hS.1.2.1) (hs0) ?_; simp only [zT, zA, zB]
          refine goZ_tk rfl rfl 86 rfl (.pointer (some ⟨c, 2, none⟩)) (fun _ => rfl) ?_; simp only [zT, zA, zB]
          refine goZ_ld rfl rfl 87 rfl 82 _ rfl ⟨c, 2, none⟩ (.slice avo p.o.length cvo) rfl (fun W hS => ld_strs _ _ W hS.2.2.1) (hs0) ?_; simp only [zT, zA, zB]
          refine goZ_tk rfl rfl 89 rfl (.pointer (some ⟨g, o + ys.length * 4, none⟩)) (fun _ => rfl) ?_; simp only [zT, zA, zB]
          refine goZ_tk rfl rfl 90 rfl (.pointer (some ⟨g, o + ys.length * 4, none⟩)) (fun _ => rfl) ?_; simp only [zT, zA, zB]
          refine goZ_tk rfl rfl 91 rfl (.pointer (some ⟨g, o + ys.length * 4 + 3, none⟩)) (fun _ => rfl) ?_; simp only [zT, zA, zB]
          refine goZ_ld rfl rfl 92 rfl 82 _ rfl ⟨g, o + ys.length * 4 + 3, none⟩ z.t rfl (fun W hS => ld_strs _ _ W hS.1.2.2) (hs0) ?_; simp only [zT, zA, zB]
          refine goZ_tk rfl rfl 93 rfl (.pointer (some ⟨c, 3, none⟩)) (fun _ => rfl) ?_; simp only [zT, zA, zB]
          refine goZ_ld rfl rfl 94 rfl 82 _ rfl ⟨c, 3, none⟩ (.slice avt p.t.length cvt) rfl (fun W hS => ld_strs _ _ W hS.2.2.2) (hs0) ?_; simp only [zT, zA, zB]
          have hstep : ∀ (Wa Wb : World) (r : Option Nat), Wa.grownBy Wb r → some g ≠ r → some c ≠ r → (fun W' => (W'.cell? ⟨g, o + ys.length * 4 + 1, none⟩ = some z.b ∧ W'.cell? ⟨g, o + ys.length * 4 + 2, none⟩ = some z.o ∧ W'.cell? ⟨g, o + ys.length * 4 + 3, none⟩ = some z.t) ∧ W'.cell? ⟨c, 1, none⟩ = some (.slice avb p.b.length cvb) ∧ W'.cell? ⟨c, 2, none⟩ = some (.slice avo p.o.length cvo) ∧ W'.cell? ⟨c, 3, none⟩ = some (.slice avt p.t.length cvt)) Wa → (fun W' => (W'.cell? ⟨g, o + ys.length * 4 + 1, none⟩ = some z.b ∧ W'.cell? ⟨g, o + ys.length * 4 + 2, none⟩ = some z.o ∧ W'.cell? ⟨g, o + ys.length * 4 + 3, none⟩ = some z.t) ∧ W'.cell? ⟨c, 1, none⟩ = some (.slice avb p.b.length cvb) ∧ W'.cell? ⟨c, 2, none⟩ = some (.slice avo p.o.length cvo) ∧ W'.cell? ⟨c, 3, none⟩ = some (.slice avt p.t.length cvt)) Wb := fun Wa Wb r hg e1 e2 h => ⟨⟨hg.cell h.1.1 e1, hg.cell h.1.2.1 e1, hg.cell h.1.2.2 e1⟩, hg.cell h.2.1 e2, hg.cell h.2.2.1 e2, hg.cell h.2.2.2 e2⟩
          have hR1 := HR.out.below hbd
          have hz1 := hR1.lp.last
          have cb : some c ≠ z.b.ownBlock := fun e => by have := hz1.zb.lt e.symm; have := hR1.n8; omega
          have co : some c ≠ z.o.ownBlock := fun e => by have := hz1.zo.lt e.symm; have := hR1.n8; omega
          have gb : some g ≠ z.b.ownBlock := fun e => hz1.d1.ne e.symm rfl
          have go_ : some g ≠ z.o.ownBlock := fun e => hz1.d2.ne e.symm rfl
          have gt : some g ≠ z.t.ownBlock := fun e => hz1.d3.ne e.symm rfl
          have nO := fun k hk => (hR1.nw _ (.inr (.inl rfl)) k hk).1
          have nT := fun k hk => (hR1.nw _ (.inr (.inr rfl)) k hk).1
          have hsrc1 := src_tl (tl_own hR1.ob)
          refine goZ_lawd (ds' := [22, 20, 15, 13]) (by kernel_rfl) 81 ⟨_, rfl, rfl, fun K' hK' => wp_appG (v := z.b) (xv := .slice avb p.b.length cvb) (n := z.p.b.length) (m := p.b.length) rfl _ _ _ _ rfl ES rfl rfl (HZ.out.zb.below hbd) rfl hsrc1 (by simp only [maxLen]; omega) (by omega) fun v1 w1 o1 g1 n1 => hK' _ _ ⟨fun _ => hstep _ _ _ g1 gb cb hs0, ?_⟩⟩; simp only [zT, zA, zB]
          have ho2 := (HZ.out.zo.below hbd).kept g1 HZ.out.d4.symm
          have hsrc2 := src_tl (tl_own (hR1.oo.kept g1 (db_new nO fun k hk => hz1.zb.lt hk)))
          refine goZ_lawd (ds' := [22, 20]) (by kernel_rfl) 88 ⟨_, rfl, rfl, fun K' hK' => wp_appG (v := z.o) (xv := .slice avo p.o.length cvo) (n := z.p.o.length) (m := p.o.length) rfl _ _ _ _ rfl ES rfl rfl ho2 rfl hsrc2 (by simp only [maxLen]; omega) (by omega) fun v2 w2 o2 g2 n2 => hK' _ _ ⟨fun _ => hstep _ _ _ g2 go_ co (hstep _ _ _ g1 gb cb hs0), ?_⟩⟩; simp only [zT, zA, zB]
          have ho3 := ((HZ.out.zt.below hbd).kept g1 HZ.out.d5.symm).kept g2 HZ.out.d6.symm
          have hsrc3 := src_tl (tl_own ((hR1.ot.kept g1 (db_new nT fun k hk => hz1.zb.lt hk)).kept g2 (db_new nT fun k hk => hz1.zo.lt hk)))
          refine goZ_lawd (ds' := []) (by kernel_rfl) 95 ⟨_, rfl, rfl, fun K' hK' => wp_appG (v := z.t) (xv := .slice avt p.t.length cvt) (n := z.p.t.length) (m := p.t.length) rfl _ _ _ _ rfl ES rfl rfl ho3 rfl hsrc3 (by simp only [maxLen]; omega) (by omega) fun v3 w3 o3 g3 n3 => hK' _ _ ⟨fun h => absurd rfl h, ?_⟩⟩; simp only [zT, zA, zB]
          have hs2 := hstep _ _ _ g2 go_ co (hstep _ _ _ g1 gb cb hs0)
          have y1 := g3.cell hs2.1.1 gt
          have y2 := g3.cell hs2.1.2.1 gt
          have y3 := g3.cell hs2.1.2.2 gt
          have hg3 : w3.heap[g]? = W3.heap[g]? := (g3.block g (Nat.lt_of_lt_of_le hgl (Nat.le_trans g1.size g2.size)) gt).trans ((g2.block g (Nat.lt_of_lt_of_le hgl g1.size) go_).trans (g1.block g hgl gb))
          have hfr3 : ∀ j, w3.frozen? ⟨g, j, none⟩ = false := fun j => by have := hfr j; simp only [World.frozen?, hg3] at this ⊢; exact this
          have hmg := hR1.merge (HZ.out.keepq (grown_none hbd _)) rfl (by rw [HKD.out]; exact hk0) (by rw [HKN.out]; exact hn0) o1 g1 n1 o2 g2 n2 o3 g3 n3 (fun k hk => o1.lt hk) (fun k hk => o2.lt hk)
          rw [← Nat.add_assoc, ← Nat.add_assoc, ← Nat.add_assoc] at hmg
          obtain ⟨a1, k1, rfl, -⟩ := o1.form
          obtain ⟨a2, k2, rfl, -⟩ := o2.form
          obtain ⟨a3, k3, rfl, -⟩ := o3.form
          clear hs2 hstep hs0 hsrc1 hsrc2 hsrc3
          refine goZ_tk rfl rfl 96 rfl (.pointer (some ⟨g, o + ys.length * 4, none⟩)) (fun _ => rfl) ?_; simp only [zT, zA, zB]
          refine goZ_tk rfl rfl 97 rfl (.pointer (some ⟨g, o + ys.length * 4 + 1, none⟩)) (fun _ => rfl) ?_; simp only [zT, zA, zB]
          refine goZ_st (ds' := []) rfl rfl (by kernel_rfl) rfl 82 _ _ rfl ⟨g, o + ys.length * 4 + 1, none⟩ _ rfl rfl _ (st_strs _ _ _ _ _ _ y1 (hfr3 _)) (fun h => absurd rfl h) ?_
          refine goZ_tk rfl rfl 98 rfl (.pointer (some ⟨g, o + ys.length * 4, none⟩)) (fun _ => rfl) ?_; simp only [zT, zA, zB]
          refine goZ_tk rfl rfl 99 rfl (.pointer (some ⟨g, o + ys.length * 4 + 2, none⟩)) (fun _ => rfl) ?_; simp only [zT, zA, zB]
          refine goZ_st (ds' := []) rfl rfl (by kernel_rfl) rfl 82 _ _ rfl ⟨g, o + ys.length * 4 + 2, none⟩ _ rfl rfl _ (st_strs _ z.o _ _ _ _ (by rw [World.cell?_setCell_other _ _ _ _ (by simp)]; exact y2) (by rw [World.frozen?_setCell]; exact hfr3 _)) (fun h => absurd rfl h) ?_
          refine goZ_tk rfl rfl 100 rfl (.pointer (some ⟨g, o + ys.length * 4, none⟩)) (fun _ => rfl) ?_; simp only [zT, zA, zB]
          refine goZ_tk rfl rfl 101 rfl (.pointer (some ⟨g, o + ys.length * 4 + 3, none⟩)) (fun _ => rfl) ?_; simp only [zT, zA, zB]
          refine goZ_st (ds' := []) rfl rfl (by kernel_rfl) rfl 82 _ _ rfl ⟨g, o + ys.length * 4 + 3, none⟩ _ rfl rfl _ (st_strs _ z.t _ _ _ _ (by rw [World.cell?_setCell_other _ _ _ _ (by simp), World.cell?_setCell_other _ _ _ _ (by simp)]; exact y3) (by rw [World.frozen?_setCell, World.frozen?_setCell]; exact hfr3 _)) (fun h => absurd rfl h) ?_
          refine goZ_end ?_
          go_wp2_with fail
          (try simp only [Exit.inBlock, Exit.then])
          first | refine bodyPost_end (results_none rfl _ _ _) rfl ?_ | refine bodyPost_ret (results_none rfl _ _ _) rfl ?_
          obtain ⟨⟨bv8, ov8, tv8, hl8⟩, hk8⟩ := hmg
          refine ⟨rfl, ⟨bv8, ov8, tv8, _, _, hl8, ?_, HB.out.merge HIJ.out.1 HIJ.out.2.1 HIJ.out.2.2.1 HP.out, fun b hb => ⟨Nat.lt_of_lt_of_le (hF.out b hb).1 (Nat.le_trans hR1.gr.size (Nat.le_trans g1.size (Nat.le_trans g2.size (Nat.le_trans g3.size (by simp [World.setCell]))))), (hk8 b (hF.out b hb).1 (hF.out b hb).2).2⟩⟩, fun b hb => (hk8 b (hF.out b hb).1 (hF.out b hb).2).1⟩
          rw [← HP.out, HJN.out, if_pos ⟨hk0, hn0⟩]; simp
        · have HJ0 : Hid (JoinS.join ps p = (ys ++ [z]).map (·.p) ++ [p]) := by show _ = _; rw [HJN.out, if_neg (by omega)]
          have e1 : ((kd : Int) == 0) = true := by simp [hk0]
          have e2 : ((kn : Int) == 0) = false := beq_eq_false_iff_ne.2 (by omega)
          clear hcs hfr HZ HJN hk0 hn0
          go_upto_region 7 with fail
          refine wp_region_hz (fun W' => W'.cell? ⟨q, 3, none⟩ = some (.slice (some ⟨g, o, none⟩) (ys.length + 1) cap) ∧ W'.heap[c]? = some (.cells #[.int .i64 (kd : Int), .slice avb p.b.length cvb, .slice avo p.o.length cvo, .slice avt p.t.length cvt] 182 (0, 0))) (.tk 0 (.tk 1 (.tk 2 (.tk 3 (.tk 4 (.tk 5 (.fc 6 (.fc 7 (.tk 8 (.tk 9 (.fc 10 .nil))))))))))) (by kernel_rfl) (by kernel_rfl) (fun _ _ _ _ _ h => h) ?_
          have hbd : Below W3.heap.size W3 (W3.drewN 1) := below_dN (Below.refl _ W3) 1
          have hs0 : (fun W' => W'.cell? ⟨q, 3, none⟩ = some (.slice (some ⟨g, o, none⟩) (ys.length + 1) cap) ∧ W'.heap[c]? = some (.cells #[.int .i64 (kd : Int), .slice avb p.b.length cvb, .slice avo p.o.length cvo, .slice avt p.t.length cvt] 182 (0, 0))) (W3.drewN 1) := ⟨q3, HR.out.c8⟩
          refine goZ_tk rfl rfl 102 rfl (.pointer (some ⟨q, 0, none⟩)) (fun _ => rfl) ?_; simp only [zT, zA, zB]
          refine goZ_tk rfl rfl 103 rfl (.pointer (some ⟨q, 0, none⟩)) (fun _ => rfl) ?_; simp only [zT, zA, zB]
          refine goZ_tk rfl rfl 104 rfl (.pointer (some ⟨q, 0, none⟩)) (fun _ => rfl) ?_; simp only [zT, zA, zB]
          refine goZ_tk rfl rfl 105 rfl (.pointer (some ⟨q, 3, none⟩)) (fun _ => rfl) ?_; simp only [zT, zA, zB]
          refine goZ_ld rfl rfl 106 rfl 148 _ rfl ⟨q, 3, none⟩ (.slice (some ⟨g, o, none⟩) (ys.length + 1) cap) rfl (fun W hS => ld_parts _ _ W hS.1) (hs0) ?_; simp only [zT, zA, zB]
          refine goZ_ld rfl rfl 107 rfl 182 _ rfl ⟨c, 0, none⟩ (.agg #[.int .i64 (kd : Int), .slice avb p.b.length cvb, .slice avo p.o.length cvo, .slice avt p.t.length cvt]) rfl (fun W hS => ld_blk Tryz.underlying182 rfl (by kernel_rfl) W hS.2) (hs0) ?_; simp only [zT, zA, zB]
          have hba : Below W3.heap.size W3 ((W3.drewN 1).alloc (.cells #[.int .i64 (kd : Int), .slice avb p.b.length cvb, .slice avo p.o.length cvo, .slice avt p.t.length cvt] 182 (0, 0))) := hbd.alloc (Nat.le_refl _) _
          have hs1 : (fun W' => W'.cell? ⟨q, 3, none⟩ = some (.slice (some ⟨g, o, none⟩) (ys.length + 1) cap) ∧ W'.heap[c]? = some (.cells #[.int .i64 (kd : Int), .slice avb p.b.length cvb, .slice avo p.o.length cvo, .slice avt p.t.length cvt] 182 (0, 0))) ((W3.drewN 1).alloc (.cells #[.int .i64 (kd : Int), .slice avb p.b.length cvb, .slice avo p.o.length cvo, .slice avt p.t.length cvt] 182 (0, 0))) := ⟨(hba.cell (p := ⟨q, 3, none⟩) HJ3.out.lt).trans q3, (hba.block c (Array.getElem?_eq_some_iff.1 HR.out.c8).1).trans HR.out.c8⟩
          refine goZ_val (ds' := [4]) rfl rfl (by kernel_rfl) 108 rfl (.slice (some ⟨(W3.drewN 1).heap.size, 0, none⟩) 1 1) ((W3.drewN 1).alloc (.cells #[.int .i64 (kd : Int), .slice avb p.b.length cvb, .slice avo p.o.length cvo, .slice avt p.t.length cvt] 182 (0, 0))) (by go_simp) (fun _ => hs1) ?_; simp only [zT, zA, zB]
          have hsrc : Src Tryz.prog 4 148 (.slice (some ⟨(W3.drewN 1).heap.size, 0, none⟩) 1 1) 1 [.int .i64 (kd : Int), .slice avb p.b.length cvb, .slice avo p.o.length cvo, .slice avt p.t.length cvt] ((W3.drewN 1).alloc (.cells #[.int .i64 (kd : Int), .slice avb p.b.length cvb, .slice avo p.o.length cvo, .slice avt p.t.length cvt] 182 (0, 0))) := Src.ofNew (P := Tryz.prog) (w := W3.drewN 1) (tx := 148) (e := 182) (news := [.int .i64 (kd : Int), .slice avb p.b.length cvb, .slice avo p.o.length cvo, .slice avt p.t.length cvt]) Tryz.underlying148 rfl (by intro u hu; simp at hu; rcases hu with rfl | rfl | rfl | rfl <;> rfl)
          refine goZ_lawd (ds' := []) (by kernel_rfl) 109 ⟨_, rfl, rfl, fun K' hK' => wp_appG (v := (.slice (some ⟨g, o, none⟩) (ys.length + 1) cap)) (xv := .slice (some ⟨(W3.drewN 1).heap.size, 0, none⟩) 1 1) (n := (ys.length + 1)) (m := 1) rfl _ _ _ _ rfl partElem rfl rfl (hrow.below hba) rfl hsrc (by simp only [maxLen]; omega) (by omega) fun v9 w9 ho9 hg9 hv9 => hK' _ _ ⟨fun h => absurd rfl h, ?_⟩⟩; simp only [zT, zA, zB]
          obtain ⟨a9, c9, rfl, -⟩ := ho9.form
          have hpvc : pvC ⟨p, .slice avb p.b.length cvb, .slice avo p.o.length cvo, .slice avt p.t.length cvt⟩ = [.int .i64 (kd : Int), .slice avb p.b.length cvb, .slice avo p.o.length cvo, .slice avt p.t.length cvt] := by unfold pvC; rw [HKD.out]
          rw [← hpvc] at ho9
          have hR2 : R2 w0 w (W3.drewN 1) q (.slice (some ⟨g, o, none⟩) (ys.length + 1) cap) (ys ++ [z]) (bs.drop i) (os.drop j) (ts.drop k) ⟨p, .slice avb p.b.length cvb, .slice avo p.o.length cvo, .slice avt p.t.length cvt⟩ (JoinS.kindOf p) c := by rw [HKD.out]; exact HR.out.below hbd
          have hfin := hR2.push (by rw [HLEN.out]; exact ho9) hg9 hv9
          have hq9 : w9.heap[q]? = W3.heap[q]? := (hg9.block q (Nat.lt_of_lt_of_le HJ3.out.lt hba.size) (fun e => (hpq q e.symm).2.1 rfl)).trans (hba.block q HJ3.out.lt)
          have hc9 : w9.cell? ⟨q, 3, none⟩ = some (.slice (some ⟨g, o, none⟩) (ys.length + 1) cap) := by rw [← q3]; simp only [World.cell?, hq9]
          have hf9 : w9.frozen? ⟨q, 3, none⟩ = false := by rw [← fq]; simp only [World.frozen?, hq9]
          refine goZ_tk rfl rfl 110 rfl (.pointer (some ⟨q, 0, none⟩)) (fun _ => rfl) ?_; simp only [zT, zA, zB]
          refine goZ_tk rfl rfl 111 rfl (.pointer (some ⟨q, 3, none⟩)) (fun _ => rfl) ?_; simp only [zT, zA, zB]
          refine goZ_st (ds' := []) rfl rfl (by kernel_rfl) rfl 148 _ _ rfl ⟨q, 3, none⟩ _ rfl rfl _ (st_parts _ _ _ _ _ _ hc9 hf9) (fun h => absurd rfl h) ?_
          refine goZ_end ?_
          go_wp2_with fail
          (try simp only [Exit.inBlock, Exit.then])
          first | refine bodyPost_end (results_none rfl _ _ _) rfl ?_ | refine bodyPost_ret (results_none rfl _ _ _) rfl ?_
          obtain ⟨⟨bv8, ov8, tv8, hl8⟩, hk8⟩ := hfin
          refine ⟨rfl, ⟨bv8, ov8, tv8, _, _, hl8, ?_, HB.out.push HIJ.out.1 HIJ.out.2.1 HIJ.out.2.2.1 HIJ.out.2.2.2 HP.out, fun b hb => ⟨Nat.lt_of_lt_of_le (hF.out b hb).1 (Nat.le_trans HR.out.gr.size (Nat.le_trans hba.size (Nat.le_trans hg9.size (by simp [World.setCell])))), (hk8 b (hF.out b hb).1 (hF.out b hb).2).2⟩⟩, fun b hb => (hk8 b (hF.out b hb).1 (hF.out b hb).2).1⟩
          rw [← HP.out, HJ0.out]; simp
      · have HJ0 : Hid (JoinS.join ps p = (ys ++ [z]).map (·.p) ++ [p]) := by show _ = _; rw [HJN.out, if_neg (by omega)]
        have e1 : ((kd : Int) == 0) = false := beq_eq_false_iff_ne.2 (by omega)
        clear hcs hfr HZ HJN hk0
        go_upto_region 7 with fail
        refine wp_region_hz (fun W' => W'.cell? ⟨q, 3, none⟩ = some (.slice (some ⟨g, o, none⟩) (ys.length + 1) cap) ∧ W'.heap[c]? = some (.cells #[.int .i64 (kd : Int), .slice avb p.b.length cvb, .slice avo p.o.length cvo, .slice avt p.t.length cvt] 182 (0, 0))) (.tk 0 (.tk 1 (.tk 2 (.tk 3 (.tk 4 (.tk 5 (.fc 6 (.fc 7 (.tk 8 (.tk 9 (.fc 10 .nil))))))))))) (by kernel_rfl) (by kernel_rfl) (fun _ _ _ _ _ h => h) ?_
        have hbd : Below W3.heap.size W3 (W3.drewN 1) := below_dN (Below.refl _ W3) 1
        have hs0 : (fun W' => W'.cell? ⟨q, 3, none⟩ = some (.slice (some ⟨g, o, none⟩) (ys.length + 1) cap) ∧ W'.heap[c]? = some (.cells #[.int .i64 (kd : Int), .slice avb p.b.length cvb, .slice avo p.o.length cvo, .slice avt p.t.length cvt] 182 (0, 0))) (W3.drewN 1) := ⟨q3, HR.out.c8⟩
        refine goZ_tk rfl rfl 102 rfl (.pointer (some ⟨q, 0, none⟩)) (fun _ => rfl) ?_; simp only [zT, zA, zB]
        refine goZ_tk rfl rfl 103 rfl (.pointer (some ⟨q, 0, none⟩)) (fun _ => rfl) ?_; simp only [zT, zA, zB]
        refine goZ_tk rfl rfl 104 rfl (.pointer (some ⟨q, 0, none⟩)) (fun _ => rfl) ?_; simp only [zT, zA, zB]
        refine goZ_tk rfl rfl 105 rfl (.pointer (some ⟨q, 3, none⟩)) (fun _ => rfl) ?_; simp only [zT, zA, zB]
        refine goZ_ld rfl rfl 106 rfl 148 _ rfl ⟨q, 3, none⟩ (.slice (some ⟨g, o, none⟩) (ys.length + 1) cap) rfl (fun W hS => ld_parts _ _ W hS.1) (hs0) ?_; simp only [zT, zA, zB]
        refine goZ_ld rfl rfl 107 rfl 182 _ rfl ⟨c, 0, none⟩ (.agg #[.int .i64 (kd : Int), .slice avb p.b.length cvb, .slice avo p.o.length cvo, .slice avt p.t.length cvt]) rfl (fun W hS => ld_blk Tryz.underlying182 rfl (by kernel_rfl) W hS.2) (hs0) ?_; simp only [zT, zA, zB]
        have hba : Below W3.heap.size W3 ((W3.drewN 1).alloc (.cells #[.int .i64 (kd : Int), .slice avb p.b.length cvb, .slice avo p.o.length cvo, .slice avt p.t.length cvt] 182 (0, 0))) := hbd.alloc (Nat.le_refl _) _
        have hs1 : (fun W' => W'.cell? ⟨q, 3, none⟩ = some (.slice (some ⟨g, o, none⟩) (ys.length + 1) cap) ∧ W'.heap[c]? = some (.cells #[.int .i64 (kd : Int), .slice avb p.b.length cvb, .slice avo p.o.length cvo, .slice avt p.t.length cvt] 182 (0, 0))) ((W3.drewN 1).alloc (.cells #[.int .i64 (kd : Int), .slice avb p.b.length cvb, .slice avo p.o.length cvo, .slice avt p.t.length cvt] 182 (0, 0))) := ⟨(hba.cell (p := ⟨q, 3, none⟩) HJ3.out.lt).trans q3, (hba.block c (Array.getElem?_eq_some_iff.1 HR.out.c8).1).trans HR.out.c8⟩
        refine goZ_val (ds' := [4]) rfl rfl (by kernel_rfl) 108 rfl (.slice (some ⟨(W3.drewN 1).heap.size, 0, none⟩) 1 1) ((W3.drewN 1).alloc (.cells #[.int .i64 (kd : Int), .slice avb p.b.length cvb, .slice avo p.o.length cvo, .slice avt p.t.length cvt] 182 (0, 0))) (by go_simp) (fun _ => hs1) ?_; simp only [zT, zA, zB]
        have hsrc : Src Tryz.prog 4 148 (.slice (some ⟨(W3.drewN 1).heap.size, 0, none⟩) 1 1) 1 [.int .i64 (kd : Int), .slice avb p.b.length cvb, .slice avo p.o.length cvo, .slice avt p.t.length cvt] ((W3.drewN 1).alloc (.cells #[.int .i64 (kd : Int), .slice avb p.b.length cvb, .slice avo p.o.length cvo, .slice avt p.t.length cvt] 182 (0, 0))) := Src.ofNew (P := Tryz.prog) (w := W3.drewN 1) (tx := 148) (e := 182) (news := [.int .i64 (kd : Int), .slice avb p.b.length cvb, .slice avo p.o.length cvo, .slice avt p.t.length cvt]) Tryz.underlying148 rfl (by intro u hu; simp at hu; rcases hu with rfl | rfl | rfl | rfl <;> rfl)
        refine goZ_lawd (ds' := []) (by kernel_rfl) 109 ⟨_, rfl, rfl, fun K' hK' => wp_appG (v := (.slice (some ⟨g, o, none⟩) (ys.length + 1) cap)) (xv := .slice (some ⟨(W3.drewN 1).heap.size, 0, none⟩) 1 1) (n := (ys.length + 1)) (m := 1) rfl _ _ _ _ rfl partElem rfl rfl (hrow.below hba) rfl hsrc (by simp only [maxLen]; omega) (by omega) fun v9 w9 ho9 hg9 hv9 => hK' _ _ ⟨fun h => absurd rfl h, ?_⟩⟩; simp only [zT, zA, zB]
        obtain ⟨a9, c9, rfl, -⟩ := ho9.form
        have hpvc : pvC ⟨p, .slice avb p.b.length cvb, .slice avo p.o.length cvo, .slice avt p.t.length cvt⟩ = [.int .i64 (kd : Int), .slice avb p.b.length cvb, .slice avo p.o.length cvo, .slice avt p.t.length cvt] := by unfold pvC; rw [HKD.out]
        rw [← hpvc] at ho9
        have hR2 : R2 w0 w (W3.drewN 1) q (.slice (some ⟨g, o, none⟩) (ys.length + 1) cap) (ys ++ [z]) (bs.drop i) (os.drop j) (ts.drop k) ⟨p, .slice avb p.b.length cvb, .slice avo p.o.length cvo, .slice avt p.t.length cvt⟩ (JoinS.kindOf p) c := by rw [HKD.out]; exact HR.out.below hbd
        have hfin := hR2.push (by rw [HLEN.out]; exact ho9) hg9 hv9
        have hq9 : w9.heap[q]? = W3.heap[q]? := (hg9.block q (Nat.lt_of_lt_of_le HJ3.out.lt hba.size) (fun e => (hpq q e.symm).2.1 rfl)).trans (hba.block q HJ3.out.lt)
        have hc9 : w9.cell? ⟨q, 3, none⟩ = some (.slice (some ⟨g, o, none⟩) (ys.length + 1) cap) := by rw [← q3]; simp only [World.cell?, hq9]
        have hf9 : w9.frozen? ⟨q, 3, none⟩ = false := by rw [← fq]; simp only [World.frozen?, hq9]
        refine goZ_tk rfl rfl 110 rfl (.pointer (some ⟨q, 0, none⟩)) (fun _ => rfl) ?_; simp only [zT, zA, zB]
        refine goZ_tk rfl rfl 111 rfl (.pointer (some ⟨q, 3, none⟩)) (fun _ => rfl) ?_; simp only [zT, zA, zB]
        refine goZ_st (ds' := []) rfl rfl (by kernel_rfl) rfl 148 _ _ rfl ⟨q, 3, none⟩ _ rfl rfl _ (st_parts _ _ _ _ _ _ hc9 hf9) (fun h => absurd rfl h) ?_
        refine goZ_end ?_
        go_wp2_with fail
        (try simp only [Exit.inBlock, Exit.then])
        first | refine bodyPost_end (results_none rfl _ _ _) rfl ?_ | refine bodyPost_ret (results_none rfl _ _ _) rfl ?_
        obtain ⟨⟨bv8, ov8, tv8, hl8⟩, hk8⟩ := hfin
        refine ⟨rfl, ⟨bv8, ov8, tv8, _, _, hl8, ?_, HB.out.push HIJ.out.1 HIJ.out.2.1 HIJ.out.2.2.1 HIJ.out.2.2.2 HP.out, fun b hb => ⟨Nat.lt_of_lt_of_le (hF.out b hb).1 (Nat.le_trans HR.out.gr.size (Nat.le_trans hba.size (Nat.le_trans hg9.size (by simp [World.setCell])))), (hk8 b (hF.out b hb).1 (hF.out b hb).2).2⟩⟩, fun b hb => (hk8 b (hF.out b hb).1 (hF.out b hb).2).1⟩
        rw [← HP.out, HJ0.out]; simp
end Go.Proofs.YtpcipdkoncmdcaaGreatDoor
