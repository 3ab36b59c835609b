/- The law JoinTimes answers true for all arguments of bulk at most 1048576: the row's statement and its card. Conditions: the row's own (laid tables as the card ties them; bulk). -/
import Derived.Test.YtpcipdkoncmdcaaGreatDoorZ28
namespace Go.Proofs.YtpcipdkoncmdcaaGreatDoor
open Go Go.RowKit

theorem st_files (ad : Addr) (u : Value) (a : Option Addr) (n c : Nat) (W : World) (h : W.cell? ad = some u) (hf : W.frozen? ad = false) : (Instr.storeAt 22 (.pointer (some ad)) (.slice a n c)).run Tryz.prog W = .ok () (W.setCell ad (.slice a n c)) := by go_simp

/-- The law's two arguments in their blocks. -/
structure TB (w : World) (p2 p3 : Nat) (id : List Nat) (s : T3 Nat) : Prop where
  b2 : w.heap[p2]? = some (.cells (nums .u8 id) 43 (0, 0))
  b3 : w.heap[p3]? = some (.cells #[.float .f64 s.a, .float .f64 s.b, .float .f64 s.c] 64 (0, 0))
theorem TB.below {w w' : World} {p2 p3 : Nat} {id : List Nat} {s : T3 Nat} (h : TB w p2 p3 id s) (hb : Below w.heap.size w w') : TB w' p2 p3 id s :=
  ⟨(hb.block _ (Array.getElem?_eq_some_iff.1 h.b2).1).trans h.b2, (hb.block _ (Array.getElem?_eq_some_iff.1 h.b3).1).trans h.b3⟩
theorem TB.kept {w w' : World} {p2 p3 p : Nat} {id : List Nat} {s : T3 Nat} (h : TB w p2 p3 id s) (hg : w.grownBy w' (some p)) (h2 : p2 ≠ p) (h3 : p3 ≠ p) : TB w' p2 p3 id s :=
  ⟨(hg.block _ (Array.getElem?_eq_some_iff.1 h.b2).1 (by simpa using h2)).trans h.b2, (hg.block _ (Array.getElem?_eq_some_iff.1 h.b3).1 (by simpa using h3)).trans h.b3⟩
theorem TB.stamp {w : World} {p2 p3 : Nat} {id : List Nat} {s : T3 Nat} (h : TB w p2 p3 id s) {i : Nat} (hi : i < 3) : w.cell? ⟨p3, i, none⟩ = some (.float .f64 (s.get i)) := by
  simp only [World.cell?, h.b3]
  rcases i with _ | _ | _ | i
  · rfl
  · rfl
  · rfl
  · omega

set_option maxRecDepth 100000 in
set_option maxHeartbeats 8000000 in
theorem times_c {w : World} {id : List Nat} {s : T3 Nat} (hid : OkId id) (ha : s.a < 2 ^ 64) (hb : s.b < 2 ^ 64) (hc : s.c < 2 ^ 64) (hg : Gl w) :
    Calls Tryz.prog 7 #[.agg (nums .u8 id), .agg #[.float .f64 s.a, .float .f64 s.b, .float .f64 s.c]] w fun e w' => e = .returned (.bool true) ∧ Below w.heap.size w w' := by
  have HID := Lib.hid hid
  have HGL := Lib.hid hg
  have HA := Lib.hid ha
  have HB := Lib.hid hb
  have HC := Lib.hid hc
  obtain ⟨W2, hW2⟩ : ∃ W2, (w.alloc (.cells (nums .u8 id) 43 (0, 0))).alloc (.cells #[.float .f64 s.a, .float .f64 s.b, .float .f64 s.c] 64 (0, 0)) = W2 := ⟨_, rfl⟩
  have hB2 : Below w.heap.size w W2 := by rw [← hW2]; exact ((Below.refl _ w).alloc (Nat.le_refl _) _).alloc (by simp) _
  have htb : TB W2 w.heap.size (w.heap.size + 1) id s := by
    rw [← hW2]
    refine ⟨?_, ?_⟩
    · have hb1 : Below (w.alloc (.cells (nums .u8 id) 43 (0, 0))).heap.size (w.alloc (.cells (nums .u8 id) 43 (0, 0))) ((w.alloc (.cells (nums .u8 id) 43 (0, 0))).alloc (.cells #[.float .f64 s.a, .float .f64 s.b, .float .f64 s.c] 64 (0, 0))) := (Below.refl _ _).alloc (Nat.le_refl _) _
      exact (hb1.block _ (by simp)).trans Array.getElem?_push_size
    · have hz : (w.alloc (.cells (nums .u8 id) 43 (0, 0))).heap.size = w.heap.size + 1 := by simp
      rw [← hz]; exact Array.getElem?_push_size
  have HTB := Lib.hid htb
  have HB2 := Lib.hid hB2
  have HW2 := Lib.hid hW2
  have HG2 := Lib.hid (hg.below hB2 (Nat.le_refl _))
  have HLT : Hid (w.heap.size + 1 < W2.heap.size) := (Array.getElem?_eq_some_iff.1 htb.b3).1
  have hp23 : w.heap.size ≤ w.heap.size + 1 := Nat.le_succ _
  clear hid hg ha hb hc htb hB2 hW2
  go_enter Tryz.func7, Tryz.ntmps7
  go_upto_region 1 with fail
  rw [HW2.out]
  have HAW := Lib.hid (awake_c W2 HG2.out)
  generalize hq2 : w.heap.size = p2 at *
  generalize hq3 : p2 + 1 = p3 at *
  go_upto_region 3 with (go_at_call 10; refine HAW.out.mono ?_; rintro e W3 ⟨rfl, hb3⟩)
  have HTB3 := Lib.hid (HTB.out.below hb3)
  have HLE3 : Hid (p3 < W3.heap.size) := Nat.lt_of_lt_of_le HLT.out hb3.size
  have HB3 := Lib.hid (HB2.out.trans (hb3.mono (by have := HLT.out; omega)))
  have HG3 := Lib.hid (HG2.out.below hb3 (Nat.le_refl _))
  clear hb3 HTB HLT HB2 HG2 HW2 HAW
  have HFIN : Hid (∀ {W : World}, Below p2 w W → Below w.heap.size w W) := fun h => by rw [hq2]; exact h
  obtain ⟨f, hf⟩ : ∃ f : Nat → Fi, f = fun i => ⟨pB, id, s.get i⟩ := ⟨_, rfl⟩
  have HOF : Hid (∀ i, OkFi (f i)) := fun i => by
    rw [hf]
    refine ⟨HID.out, ?_, (by decide : pB.size ≤ 2000000)⟩
    rcases i with _ | _ | i
    · exact HA.out
    · exact HB.out
    · exact HC.out
  have HRB : Hid (∀ i (w : World), (Instr.build 56 #[(0, .string ⟨#[112]⟩), (1, .agg (nums .u8 id)), (2, .float .f64 (f i).stamp)]).run Tryz.prog w = .ok (.agg (fiC (f i)).toArray) w) := fun i w => by rw [hf]; exact rb_file HID.out pB (s.get i) w
  have HFS : Hid (∀ i, (f i).stamp = s.get i) := fun i => by rw [hf]
  have HFE : Hid (f = fun i => ⟨pB, id, s.get i⟩) := hf
  clear hf
  obtain ⟨W4, hW4⟩ : ∃ W4, W3.alloc (.cells #[.slice none 0 0, .slice none 0 0, .slice none 0 0] 23 (0, 0)) = W4 := ⟨_, rfl⟩
  have hB4 : Below W3.heap.size W3 W4 := by rw [← hW4]; exact (Below.refl _ W3).alloc (Nat.le_refl _) _
  have HF30 : Hid (F3 W4 W3.heap.size (fun _ => .slice none 0 0) 0 f) := ⟨by rw [← hW4]; exact Array.getElem?_push_size, fun j hj => absurd hj (Nat.not_lt_zero _), fun j _ => rfl⟩
  have HTB4 := Lib.hid (HTB3.out.below hB4)
  have HB4 := Lib.hid (HB3.out.trans (hB4.mono (by have := HLE3.out; omega)))
  have HW4 := Lib.hid hW4
  have HG4 := Lib.hid (HG3.out.below hB4 (Nat.le_refl _))
  have HP5 : Hid (p2 ≠ W3.heap.size ∧ p3 ≠ W3.heap.size) := by have := HLE3.out; constructor <;> omega
  have HP25 : Hid (p2 ≤ W3.heap.size) := by have := HLE3.out; show p2 ≤ _; omega
  clear hB4 hW4 HTB3 HB3 HG3 HLE3
  go_upto_region 4 with fail
  rw [HW4.out]
  clear HW4
  generalize W3.heap.size = p5 at *
  go_upto_region 5 with fail
  go_loopw [15] (fun iv wx => ∃ i : Nat, i ≤ 3 ∧ iv = .int .i64 i ∧ ∃ V, Hid (F3 wx p5 V i f) ∧ Hid (TB wx p2 p3 id s) ∧ Hid (Below p2 w wx) ∧ Hid (Gl wx)) (fun iv _ => (3 - intOf iv).toNat)
  case atStart => exact ⟨0, by decide, rfl, _, HF30, HTB4, HB4, HG4⟩
  case round =>
    clear HF30 HTB4 HB4 HG4
    obtain ⟨i, hi, rfl, V, HF3, HTB, HBW, HGW⟩ := hrel
    by_cases hlt : i < 3
    · have d1 : decide ((i : Int) < 3) = true := decide_eq_true (by omega)
      have d2 : decide (i < 3) = true := decide_eq_true hlt
      have d3 : (0 : Int) ≤ (i : Int) := by omega
      have d4 : (i : Int) < 3 := by omega
      have dw : IntKind.i64.wrap ((i : Int) + 1) = ((i + 1 : Nat) : Int) := IntWalk.i64_in _ (by omega)
      have hsr : (wr.drewN 1).heap[p2]? = some (.cells (nums .u8 id) 43 (0, 0)) ∧ (wr.drewN 1).cell? ⟨p3, i, none⟩ = some (.float .f64 (f i).stamp) := ⟨HTB.out.b2, by rw [HFS.out]; exact HTB.out.stamp hlt⟩
      have hba : Below wr.heap.size wr ((wr.drewN 1).alloc (.cells (fiC (f i)).toArray 56)) := (below_dN (Below.refl _ wr) 1).alloc (Nat.le_refl _) _
      have hnp : (wr.drewN 1).heap.size ≠ p5 := by have := HF3.out.lt; show wr.heap.size ≠ p5; omega
      go_upto_region 7 with fail
      refine wp_region_hz (fun W => W.heap[p2]? = some (.cells (nums .u8 id) 43 (0, 0)) ∧ W.cell? ⟨p3, i, none⟩ = some (.float .f64 (f i).stamp)) (.tk 0 (.tk 1 (.tk 2 (.tk 3 (.tk 4 (.tk 5 (.fc 6 (.tk 7 (.fc 8 (.nil)))))))))) (by kernel_rfl) (by kernel_rfl) (fun _ _ _ _ _ h => h) ?_
      have hs0 := hsr
      refine goZ_tk rfl rfl 18 rfl (.int .i64 i) (fun _ => rfl) ?_
      simp only [List.setIfInBounds_toArray, List.set_cons_zero, List.set_cons_succ]
      refine goZ_ld rfl rfl 19 rfl 43 _ rfl ⟨p2, 0, none⟩ (.agg (nums .u8 id)) rfl (fun W hS => ld_blk id_under rfl (by rw [Array.length_toList, nums_size, HID.out.1]; kernel_rfl) W hS.1) (hs0) ?_
      simp only [List.setIfInBounds_toArray, List.set_cons_zero, List.set_cons_succ]
      refine goZ_tk rfl rfl 20 rfl (.int .i64 i) (fun _ => rfl) ?_
      simp only [List.setIfInBounds_toArray, List.set_cons_zero, List.set_cons_succ]
      refine goZ_tk rfl rfl 21 rfl (.pointer (some ⟨p3, i, none⟩)) (fun _ => by go_simp) ?_
      simp only [List.setIfInBounds_toArray, List.set_cons_zero, List.set_cons_succ]
      refine goZ_ld rfl rfl 22 rfl 44 _ rfl ⟨p3, i, none⟩ (.float .f64 (f i).stamp) rfl (fun W hS => ld_float _ _ W hS.2) (hs0) ?_
      simp only [List.setIfInBounds_toArray, List.set_cons_zero, List.set_cons_succ]
      refine goZ_tk rfl rfl 23 rfl (.agg (fiC (f i)).toArray) (exec_build _ rfl (by simp [Act.eval]) (HRB.out i)) ?_
      simp only [List.setIfInBounds_toArray, List.set_cons_zero, List.set_cons_succ]
      refine goZ_val (ds' := []) rfl rfl (by kernel_rfl) 24 rfl (.slice (some ⟨(wr.drewN 1).heap.size, 0, none⟩) 1 1) ((wr.drewN 1).alloc (.cells (fiC (f i)).toArray 56)) (exec_slice _ rfl (by simp [Act.eval]) (rb_fs (HOF.out i) (wr.drewN 1))) (fun h => absurd rfl h) ?_
      simp only [List.setIfInBounds_toArray, List.set_cons_zero, List.set_cons_succ]
      have hput := (HF3.out.below hba).put hlt hnp Array.getElem?_push_size
      refine goZ_tk rfl rfl 25 rfl (.pointer (some ⟨p5, i, none⟩)) (fun _ => by go_simp) ?_
      simp only [List.setIfInBounds_toArray, List.set_cons_zero, List.set_cons_succ]
      refine goZ_st (ds' := []) rfl rfl (by kernel_rfl) rfl 22 _ _ rfl ⟨p5, i, none⟩ (.slice (some ⟨(wr.drewN 1).heap.size, 0, none⟩) 1 1) rfl rfl _ (st_files _ _ _ _ _ _ ((HF3.out.below hba).cell hlt) ((HF3.out.below hba).fz _)) (fun h => absurd rfl h) ?_
      refine goZ_end ?_
      obtain ⟨hp1, hp2⟩ := hput
      have HBA := Lib.hid hba
      have HG8 := Lib.hid (HGW.out.below hba (Nat.le_refl _))
      have HB8 := Lib.hid ((HBW.out.trans (hba.mono (by have := HF3.out.lt; have := HP25.out; omega))).grown hp2 (Nat.le_trans (by have := HF3.out.lt; have := HP25.out; omega) hba.size) (fun k hk => by cases hk; exact HP25.out))
      have HT8 := Lib.hid ((HTB.out.below hba).kept hp2 HP5.out.1 HP5.out.2)
      have HF8 := Lib.hid hp1
      have HG9 := Lib.hid (HGL.out.below HB8.out (Nat.le_of_eq hq2))
      clear hp1 hp2 hba hsr hs0
      generalize ((wr.drewN 1).alloc (.cells (fiC (f i)).toArray 56)).setCell ⟨p5, i, none⟩ (.slice (some ⟨(wr.drewN 1).heap.size, 0, none⟩) 1 1) = W8 at *
      go_wp2_with fail
      go_roundw
      case rel => exact ⟨i + 1, hlt, by go_num, _, HF8, HT8, HB8, HG9⟩
      case measure => simp [intOf]; omega
    · have hi3 : i = 3 := by omega
      subst hi3
      have h0 : FS wr (V 0) [⟨pB, id, s.a⟩] := by have := HF3.out.one HOF.out (j := 0) (by decide); rw [HFE.out] at this; exact this
      have h1 : FS wr (V 1) [⟨pB, id, s.b⟩] := by have := HF3.out.one HOF.out (j := 1) (by decide); rw [HFE.out] at this; exact this
      have h2 : FS wr (V 2) [⟨pB, id, s.c⟩] := by have := HF3.out.one HOF.out (j := 2) (by decide); rw [HFE.out] at this; exact this
      obtain ⟨hpc, hpm⟩ := times_plain (textS []) id s.a s.b s.c
      have hmc := merge_c (T := ⟨[⟨pB, id, s.a⟩], [⟨pB, id, s.b⟩], [⟨pB, id, s.c⟩]⟩) (bl := []) h0 h1 h2 HGW.out (fun _ => Nat.zero_le _) (BS.nil wr)
      have hmc2 : Calls Tryz.prog 13 #[.agg #[V 0, V 1, V 2], SrcV (.slice none 0 0)] wr fun e w' => ∃ g o c x, e = .returned (.tuple #[.slice (some ⟨g, o, none⟩) 1 c, .int .i64 0]) ∧ x.o = ⟨pB, 1, id, whenS ⟨true, true, true⟩ ⟨s.a, s.b, s.c⟩, ByteArray.empty, ⟨true, true, true⟩, ⟨id, id, id⟩⟩ ∧ w'.rangeAt g o (ouC x) ∧ g < w'.heap.size ∧ Below wr.heap.size wr w' := by
        refine hmc.mono ?_
        rintro e w' ⟨ov, V', rfl, hV, hMO⟩
        rw [hpc, hpm] at hV
        rw [hpc, hpm]
        have hV' := hV
        obtain ⟨x, rfl, hx⟩ := mem_one hV'
        obtain ⟨g, o, c, rfl, hgl, hr⟩ := hMO.or.at (k := 0) (by simp)
        have hr0 := hr 0 (by simp)
        rw [Nat.zero_mul, Nat.add_zero] at hr0
        exact ⟨g, o, c, x, rfl, hx, hr0, hgl, hMO.below⟩
      have HMC := Lib.hid hmc2
      clear hmc hmc2 h0 h1 h2 hpc hpm
      have HF3B := HF3.out.blk
      go_upto_region 10 with (first
        | (refine wp_loadB rfl 23 _ rfl p5 rfl HF3B _ Tryz.underlying23 rfl (by kernel_rfl) ?_)
        | (go_at_call 13; refine HMC.out.mono ?_; rintro e W6 ⟨g, o, c, x, rfl, hx, hr, hgl, hb6⟩))
      have HT6 := Lib.hid (HTB.out.below hb6)
      have HB6 := Lib.hid (HBW.out.trans (hb6.mono (by have := HF3.out.lt; have := HP25.out; omega)))
      obtain ⟨t, ht⟩ : ∃ t, whenS ⟨true, true, true⟩ ⟨s.a, s.b, s.c⟩ = t := ⟨_, rfl⟩
      rw [ht] at hx
      have HKD : Hid (W6.cell? ⟨g, o + 1, none⟩ = some (.int .i64 1)) := hr 1 _ (by unfold ouC; rw [hx]; rfl)
      have HST : Hid (W6.cell? ⟨g, o + 34, none⟩ = some (.float .f64 t)) := by
        refine hr 34 _ ?_
        unfold ouC
        rw [hx]
        show (Value.string pB :: .int .i64 1 :: (nb id ++ _))[34]? = _
        rw [show (34 : Nat) = 32 + 1 + 1 from rfl, List.getElem?_cons_succ, List.getElem?_cons_succ, List.getElem?_append_right (by rw [nb_len, HID.out.1]; exact Nat.le_refl _), nb_len, HID.out.1]; rfl
      have HRI : Hid (W6.rangeAt g (o + 2) (nb id)) := by
        intro j u hu
        rw [Nat.add_assoc]
        refine hr (2 + j) u ?_
        unfold ouC
        rw [hx]
        show (Value.string pB :: .int .i64 1 :: (nb id ++ _))[2 + j]? = _
        rw [show 2 + j = j + 1 + 1 by omega, List.getElem?_cons_succ, List.getElem?_cons_succ, List.getElem?_append_left (List.getElem?_eq_some_iff.1 hu).1]; exact hu
      have htb : t < 2 ^ 64 := by rw [← ht]; exact whenS_lt HB.out HC.out
      have HCT : Hid (cn t = t) := by show cn t = t; rw [← ht]; exact cn_when _ _
      have HWT : Hid (t = if cn s.b = cn s.a then cn s.c else if cn s.c = cn s.a then cn s.b else if fkey s.b < fkey s.c then cn s.c else cn s.b) := by
        show t = _
        rw [← ht]; unfold whenS
        simp
      have HTL := Lib.hid htb
      clear hx hr hgl hb6 ht htb HF3B HMC HF3 HTB HBW HGW
      have hs0 : (W6.drewN 1).cell? ⟨g, o + 1, none⟩ = some (.int .i64 1) ∧ (W6.drewN 1).rangeAt g (o + 2) (nb id) ∧ (W6.drewN 1).heap[p2]? = some (.cells (nums .u8 id) 43 (0, 0)) := ⟨HKD.out, HRI.out, HT6.out.b2⟩
      refine wp_region_hz (fun W => W.cell? ⟨g, o + 1, none⟩ = some (.int .i64 1) ∧ W.rangeAt g (o + 2) (nb id) ∧ W.heap[p2]? = some (.cells (nums .u8 id) 43 (0, 0))) (.tk 0 (.tk 1 (.tk 2 (.tk 3 (.tk 4 (.tk 5 (.tk 6 (.tk 7 (.tk 8 (.tk 9 (.tk 10 (.tk 11 (.tk 12 (.tk 13 (.tk 14 (.tk 15 (.tk 16 (.tk 17 (.tk 18 (.tk 19 (.tk 20 (.tk 21 (.nil))))))))))))))))))))))) (by kernel_rfl) (by kernel_rfl) (fun _ _ _ _ _ h => h) ?_
      refine goZ_tk rfl rfl 34 rfl (.int .i64 0) (fun _ => rfl) ?_
      simp only [List.setIfInBounds_toArray, List.set_cons_zero, List.set_cons_succ]
      refine goZ_tk rfl rfl 35 rfl (.bool false) (fun _ => by go_simp) ?_
      simp only [List.setIfInBounds_toArray, List.set_cons_zero, List.set_cons_succ]
      refine goZ_tk rfl rfl 36 rfl (.bool false) (fun _ => rfl) ?_
      simp only [List.setIfInBounds_toArray, List.set_cons_zero, List.set_cons_succ]
      refine goZ_tk rfl rfl 37 rfl (.slice (some ⟨g, o, none⟩) 1 c) (fun _ => rfl) ?_
      simp only [List.setIfInBounds_toArray, List.set_cons_zero, List.set_cons_succ]
      refine goZ_tk rfl rfl 38 rfl (.int .i64 1) (fun _ => by go_simp) ?_
      simp only [List.setIfInBounds_toArray, List.set_cons_zero, List.set_cons_succ]
      refine goZ_tk rfl rfl 39 rfl (.bool false) (fun _ => by go_simp) ?_
      simp only [List.setIfInBounds_toArray, List.set_cons_zero, List.set_cons_succ]
      refine goZ_tk rfl rfl 40 rfl (.bool false) (fun _ => rfl) ?_
      simp only [List.setIfInBounds_toArray, List.set_cons_zero, List.set_cons_succ]
      refine goZ_tk rfl rfl 41 rfl (.bool false) (fun _ => rfl) ?_
      simp only [List.setIfInBounds_toArray, List.set_cons_zero, List.set_cons_succ]
      refine goZ_tk rfl rfl 42 rfl (.slice (some ⟨g, o, none⟩) 1 c) (fun _ => rfl) ?_
      simp only [List.setIfInBounds_toArray, List.set_cons_zero, List.set_cons_succ]
      refine goZ_tk rfl rfl 43 rfl (.pointer (some ⟨g, o, none⟩)) (fun _ => by go_simp) ?_
      simp only [List.setIfInBounds_toArray, List.set_cons_zero, List.set_cons_succ]
      refine goZ_tk rfl rfl 44 rfl (.pointer (some ⟨g, o + 1, none⟩)) (fun _ => rfl) ?_
      simp only [List.setIfInBounds_toArray, List.set_cons_zero, List.set_cons_succ]
      refine goZ_ld rfl rfl 45 rfl 3 _ rfl ⟨g, o + 1, none⟩ (.int .i64 1) rfl (fun W hS => ld_int _ _ W hS.1) (hs0) ?_
      simp only [List.setIfInBounds_toArray, List.set_cons_zero, List.set_cons_succ]
      refine goZ_tk rfl rfl 46 rfl (.bool false) (fun _ => by go_simp) ?_
      simp only [List.setIfInBounds_toArray, List.set_cons_zero, List.set_cons_succ]
      refine goZ_tk rfl rfl 47 rfl (.bool false) (fun _ => rfl) ?_
      simp only [List.setIfInBounds_toArray, List.set_cons_zero, List.set_cons_succ]
      refine goZ_tk rfl rfl 48 rfl (.bool false) (fun _ => rfl) ?_
      simp only [List.setIfInBounds_toArray, List.set_cons_zero, List.set_cons_succ]
      refine goZ_tk rfl rfl 49 rfl (.slice (some ⟨g, o, none⟩) 1 c) (fun _ => rfl) ?_
      simp only [List.setIfInBounds_toArray, List.set_cons_zero, List.set_cons_succ]
      refine goZ_tk rfl rfl 50 rfl (.pointer (some ⟨g, o, none⟩)) (fun _ => by go_simp) ?_
      simp only [List.setIfInBounds_toArray, List.set_cons_zero, List.set_cons_succ]
      refine goZ_tk rfl rfl 51 rfl (.pointer (some ⟨g, o + 2, none⟩)) (fun _ => rfl) ?_
      simp only [List.setIfInBounds_toArray, List.set_cons_zero, List.set_cons_succ]
      refine goZ_ld rfl rfl 52 rfl 43 _ rfl ⟨g, o + 2, none⟩ (.agg (nums .u8 id)) rfl (fun W hS => ld_id HID.out hS.2.1) (hs0) ?_
      simp only [List.setIfInBounds_toArray, List.set_cons_zero, List.set_cons_succ]
      refine goZ_ld rfl rfl 53 rfl 43 _ rfl ⟨p2, 0, none⟩ (.agg (nums .u8 id)) rfl (fun W hS => ld_blk id_under rfl (by rw [Array.length_toList, nums_size, HID.out.1]; kernel_rfl) W hS.2.2) (hs0) ?_
      simp only [List.setIfInBounds_toArray, List.set_cons_zero, List.set_cons_succ]
      refine goZ_tk rfl rfl 54 rfl (.bool false) (exec_bin _ _ rfl rfl rfl (fun _ => by first | rfl | go_simp) (id_same HID.out)) ?_
      simp only [List.setIfInBounds_toArray, List.set_cons_zero, List.set_cons_succ]
      refine goZ_tk rfl rfl 55 rfl (.bool false) (fun _ => rfl) ?_
      simp only [List.setIfInBounds_toArray, List.set_cons_zero, List.set_cons_succ]
      refine goZ_end ?_
      have HB7 := Lib.hid (below_dN HB6.out 1)
      have HT7 : Hid (TB (W6.drewN 1) p2 p3 id s) := HT6.out.below (below_dN (Below.refl _ W6) 1)
      have HST7 : Hid ((W6.drewN 1).cell? ⟨g, o + 34, none⟩ = some (.float .f64 t)) := HST.out
      clear hs0 HB6 HT6 HST HKD HRI
      generalize W6.drewN 1 = W7 at *
      go_upto_region 12 with fail
      have hs0 : (W7.drewN 1).cell? ⟨p3, 0, none⟩ = some (.float .f64 s.a) ∧ (W7.drewN 1).cell? ⟨p3, 1, none⟩ = some (.float .f64 s.b) ∧ (W7.drewN 1).cell? ⟨p3, 2, none⟩ = some (.float .f64 s.c) ∧ (W7.drewN 1).cell? ⟨g, o + 34, none⟩ = some (.float .f64 t) := ⟨HT7.out.stamp (i := 0) (by decide), HT7.out.stamp (i := 1) (by decide), HT7.out.stamp (i := 2) (by decide), HST7.out⟩
      refine wp_region_hz (fun W => W.cell? ⟨p3, 0, none⟩ = some (.float .f64 s.a) ∧ W.cell? ⟨p3, 1, none⟩ = some (.float .f64 s.b) ∧ W.cell? ⟨p3, 2, none⟩ = some (.float .f64 s.c) ∧ W.cell? ⟨g, o + 34, none⟩ = some (.float .f64 t)) (.tk 0 (.tk 1 (.tk 3 (.tk 4 (.tk 6 (.tk 7 (.tk 9 (.tk 10 (.tk 11 (.tk 12 (.fc 2 (.fc 5 (.fc 8 (.fc 13 (.tk 14 (.tk 15 (.tk 16 (.tk 17 (.nil))))))))))))))))))) (by kernel_rfl) (by kernel_rfl) (fun _ _ _ _ _ h => h) ?_
      refine goZ_tk rfl rfl 56 rfl (.pointer (some ⟨p3, 0, none⟩)) (fun _ => by go_simp) ?_
      simp only [List.setIfInBounds_toArray, List.set_cons_zero, List.set_cons_succ]
      refine goZ_ld rfl rfl 57 rfl 44 _ rfl ⟨p3, 0, none⟩ (.float .f64 s.a) rfl (fun W hS => ld_float _ _ W hS.1) (hs0) ?_
      simp only [List.setIfInBounds_toArray, List.set_cons_zero, List.set_cons_succ]
      refine goZ_tk rfl rfl 59 rfl (.pointer (some ⟨p3, 1, none⟩)) (fun _ => by go_simp) ?_
      simp only [List.setIfInBounds_toArray, List.set_cons_zero, List.set_cons_succ]
      refine goZ_ld rfl rfl 60 rfl 44 _ rfl ⟨p3, 1, none⟩ (.float .f64 s.b) rfl (fun W hS => ld_float _ _ W hS.2.1) (hs0) ?_
      simp only [List.setIfInBounds_toArray, List.set_cons_zero, List.set_cons_succ]
      refine goZ_tk rfl rfl 62 rfl (.pointer (some ⟨p3, 2, none⟩)) (fun _ => by go_simp) ?_
      simp only [List.setIfInBounds_toArray, List.set_cons_zero, List.set_cons_succ]
      refine goZ_ld rfl rfl 63 rfl 44 _ rfl ⟨p3, 2, none⟩ (.float .f64 s.c) rfl (fun W hS => ld_float _ _ W hS.2.2.1) (hs0) ?_
      simp only [List.setIfInBounds_toArray, List.set_cons_zero, List.set_cons_succ]
      refine goZ_tk rfl rfl 65 rfl (.slice (some ⟨g, o, none⟩) 1 c) (fun _ => rfl) ?_
      simp only [List.setIfInBounds_toArray, List.set_cons_zero, List.set_cons_succ]
      refine goZ_tk rfl rfl 66 rfl (.pointer (some ⟨g, o, none⟩)) (fun _ => by go_simp) ?_
      simp only [List.setIfInBounds_toArray, List.set_cons_zero, List.set_cons_succ]
      refine goZ_tk rfl rfl 67 rfl (.pointer (some ⟨g, o + 34, none⟩)) (fun _ => rfl) ?_
      simp only [List.setIfInBounds_toArray, List.set_cons_zero, List.set_cons_succ]
      refine goZ_ld rfl rfl 68 rfl 44 _ rfl ⟨g, o + 34, none⟩ (.float .f64 t) rfl (fun W hS => ld_float _ _ W hS.2.2.2) (hs0) ?_
      simp only [List.setIfInBounds_toArray, List.set_cons_zero, List.set_cons_succ]
      refine goZ_call (ds' := [12, 7, 4]) rfl rfl (by kernel_rfl) 58 rfl 20 _ rfl [(.float .f64 s.a)] rfl (enters_of Tryz.func20 (by kernel_rfl) rfl) ((refbits_c s.a _).mono ?_)
      rintro _ _ ⟨rfl, rfl⟩
      refine ⟨(.int .u64 (cn s.a)), rfl, fun _ => hs0, ?_⟩
      simp only [List.setIfInBounds_toArray, List.set_cons_zero, List.set_cons_succ]
      refine goZ_call (ds' := [12, 7]) rfl rfl (by kernel_rfl) 61 rfl 20 _ rfl [(.float .f64 s.b)] rfl (enters_of Tryz.func20 (by kernel_rfl) rfl) ((refbits_c s.b _).mono ?_)
      rintro _ _ ⟨rfl, rfl⟩
      refine ⟨(.int .u64 (cn s.b)), rfl, fun _ => hs0, ?_⟩
      simp only [List.setIfInBounds_toArray, List.set_cons_zero, List.set_cons_succ]
      refine goZ_call (ds' := [12]) rfl rfl (by kernel_rfl) 64 rfl 20 _ rfl [(.float .f64 s.c)] rfl (enters_of Tryz.func20 (by kernel_rfl) rfl) ((refbits_c s.c _).mono ?_)
      rintro _ _ ⟨rfl, rfl⟩
      refine ⟨(.int .u64 (cn s.c)), rfl, fun _ => hs0, ?_⟩
      simp only [List.setIfInBounds_toArray, List.set_cons_zero, List.set_cons_succ]
      refine goZ_call (ds' := []) rfl rfl (by kernel_rfl) 69 rfl 20 _ rfl [(.float .f64 t)] rfl (enters_of Tryz.func20 (by kernel_rfl) rfl) ((refbits_c t _).mono ?_)
      rintro _ _ ⟨rfl, rfl⟩
      refine ⟨(.int .u64 (cn t)), rfl, fun h => absurd rfl h, ?_⟩
      simp only [List.setIfInBounds_toArray, List.set_cons_zero, List.set_cons_succ]
      refine goZ_tk rfl rfl 9 rfl (.int .u64 (cn s.a)) (fun _ => rfl) ?_
      simp only [List.setIfInBounds_toArray, List.set_cons_zero, List.set_cons_succ]
      refine goZ_tk rfl rfl 10 rfl (.int .u64 (cn s.b)) (fun _ => rfl) ?_
      simp only [List.setIfInBounds_toArray, List.set_cons_zero, List.set_cons_succ]
      refine goZ_tk rfl rfl 11 rfl (.int .u64 (cn s.c)) (fun _ => rfl) ?_
      simp only [List.setIfInBounds_toArray, List.set_cons_zero, List.set_cons_succ]
      refine goZ_tk rfl rfl 12 rfl (.int .u64 (cn t)) (fun _ => rfl) ?_
      simp only [List.setIfInBounds_toArray, List.set_cons_zero, List.set_cons_succ]
      refine goZ_end ?_
      have HB8 := Lib.hid (below_dN HB7.out 1)
      have HT8 : Hid (TB (W7.drewN 1) p2 p3 id s) := HT7.out.below (below_dN (Below.refl _ W7) 1)
      have HST8 : Hid ((W7.drewN 1).cell? ⟨g, o + 34, none⟩ = some (.float .f64 t)) := HST7.out
      clear hs0 HB7 HT7 HST7
      generalize W7.drewN 1 = W8 at *
      by_cases hab : cn s.b = cn s.a
      · have e1 : ((cn s.b : Int) == (cn s.a : Int)) = true := beq_iff_eq.2 (by rw [hab])
        have e2 : ((cn t : Int) == (cn s.c : Int)) = true := beq_iff_eq.2 (by rw [HCT.out, HWT.out, if_pos hab])
        go_wp2_with fail
        go_ret
        exact ⟨rfl, HFIN.out HB8.out⟩
      · have e1 : ((cn s.b : Int) == (cn s.a : Int)) = false := beq_eq_false_iff_ne.2 (fun e => hab (Int.ofNat_inj.1 e))
        by_cases hac : cn s.c = cn s.a
        · have e2 : ((cn s.c : Int) == (cn s.a : Int)) = true := beq_iff_eq.2 (by rw [hac])
          have e3 : ((cn t : Int) == (cn s.b : Int)) = true := beq_iff_eq.2 (by rw [HCT.out, HWT.out, if_neg hab, if_pos hac])
          go_wp2_with fail
          go_ret
          exact ⟨rfl, HFIN.out HB8.out⟩
        · have e2 : ((cn s.c : Int) == (cn s.a : Int)) = false := beq_eq_false_iff_ne.2 (fun e => hac (Int.ofNat_inj.1 e))
          have hs0 : (W8.drewN 1).cell? ⟨g, o + 34, none⟩ = some (.float .f64 t) ∧ (W8.drewN 1).cell? ⟨p3, 1, none⟩ = some (.float .f64 s.b) ∧ (W8.drewN 1).cell? ⟨p3, 2, none⟩ = some (.float .f64 s.c) := ⟨HST8.out, HT8.out.stamp (i := 1) (by decide), HT8.out.stamp (i := 2) (by decide)⟩
          have HB9 := Lib.hid (below_dN HB8.out 1)
          have hwt := HWT.out
          rw [if_neg hab, if_neg hac] at hwt
          by_cases hlt : fkey s.b < fkey s.c
          · rw [if_pos hlt] at hwt
            have hk : fkey t = fkey s.c := by rw [hwt, fkey_of_cn]
            have hne : ((cn t : Int) == (cn s.b : Int)) = false := beq_eq_false_iff_ne.2 (fun e => by have := Int.ofNat_inj.1 e; rw [← fkey_of_cn t, this, fkey_of_cn] at hk; omega)
            have heq : ((cn t : Int) == (cn s.c : Int)) = true := beq_iff_eq.2 (by rw [HCT.out, hwt])
            have HC1 : Hid (decide (fkey t < fkey s.b) = false) := decide_eq_false (by omega)
            have HC2 : Hid (decide (fkey t < fkey s.c) = false) := decide_eq_false (by omega)
            have HR1 : Hid (∀ W, Calls Tryz.prog 22 #[.float .f64 t, .float .f64 s.b] W fun e w' => e = .returned (.bool false) ∧ w' = W) := fun W => by have := before_c t s.b W HTL.out HB.out; rw [HC1.out] at this; exact this
            have HR2 : Hid (∀ W, Calls Tryz.prog 22 #[.float .f64 t, .float .f64 s.c] W fun e w' => e = .returned (.bool false) ∧ w' = W) := fun W => by have := before_c t s.c W HTL.out HC.out; rw [HC2.out] at this; exact this
            clear hwt hk
            go_upto_region 17 with fail
            refine wp_region_hz (fun W => W.cell? ⟨g, o + 34, none⟩ = some (.float .f64 t) ∧ W.cell? ⟨p3, 1, none⟩ = some (.float .f64 s.b) ∧ W.cell? ⟨p3, 2, none⟩ = some (.float .f64 s.c)) (.tk 0 (.tk 1 (.tk 2 (.tk 3 (.tk 4 (.tk 5 (.tk 6 (.tk 7 (.tk 8 (.tk 9 (.tk 10 (.tk 11 (.tk 12 (.tk 13 (.tk 14 (.fc 15 (.tk 16 (.tk 17 (.tk 18 (.tk 19 (.tk 20 (.tk 21 (.tk 22 (.tk 23 (.tk 24 (.fc 25 (.tk 26 (.tk 27 (.tk 28 (.nil)))))))))))))))))))))))))))))) (by kernel_rfl) (by kernel_rfl) (fun _ _ _ _ _ h => h) ?_
            refine goZ_tk rfl rfl 84 rfl (.int .u64 (cn t)) (fun _ => rfl) ?_
            simp only [List.setIfInBounds_toArray, List.set_cons_zero, List.set_cons_succ]
            refine goZ_tk rfl rfl 85 rfl (.int .u64 (cn s.b)) (fun _ => rfl) ?_
            simp only [List.setIfInBounds_toArray, List.set_cons_zero, List.set_cons_succ]
            refine goZ_tk rfl rfl 86 rfl (.bool false) (fun _ => by go_simp) ?_
            simp only [List.setIfInBounds_toArray, List.set_cons_zero, List.set_cons_succ]
            refine goZ_tk rfl rfl 87 rfl (.bool false) (fun _ => rfl) ?_
            simp only [List.setIfInBounds_toArray, List.set_cons_zero, List.set_cons_succ]
            refine goZ_tk rfl rfl 88 rfl (.int .u64 (cn t)) (fun _ => rfl) ?_
            simp only [List.setIfInBounds_toArray, List.set_cons_zero, List.set_cons_succ]
            refine goZ_tk rfl rfl 89 rfl (.int .u64 (cn s.c)) (fun _ => rfl) ?_
            simp only [List.setIfInBounds_toArray, List.set_cons_zero, List.set_cons_succ]
            refine goZ_tk rfl rfl 90 rfl (.bool true) (fun _ => by go_simp) ?_
            simp only [List.setIfInBounds_toArray, List.set_cons_zero, List.set_cons_succ]
            refine goZ_tk rfl rfl 91 rfl (.bool true) (fun _ => rfl) ?_
            simp only [List.setIfInBounds_toArray, List.set_cons_zero, List.set_cons_succ]
            refine goZ_tk rfl rfl 92 rfl (.bool true) (fun _ => rfl) ?_
            simp only [List.setIfInBounds_toArray, List.set_cons_zero, List.set_cons_succ]
            refine goZ_tk rfl rfl 93 rfl (.slice (some ⟨g, o, none⟩) 1 c) (fun _ => rfl) ?_
            simp only [List.setIfInBounds_toArray, List.set_cons_zero, List.set_cons_succ]
            refine goZ_tk rfl rfl 94 rfl (.pointer (some ⟨g, o, none⟩)) (fun _ => by go_simp) ?_
            simp only [List.setIfInBounds_toArray, List.set_cons_zero, List.set_cons_succ]
            refine goZ_tk rfl rfl 95 rfl (.pointer (some ⟨g, o + 34, none⟩)) (fun _ => rfl) ?_
            simp only [List.setIfInBounds_toArray, List.set_cons_zero, List.set_cons_succ]
            refine goZ_ld rfl rfl 96 rfl 44 _ rfl ⟨g, o + 34, none⟩ (.float .f64 t) rfl (fun W hS => ld_float _ _ W hS.1) (hs0) ?_
            simp only [List.setIfInBounds_toArray, List.set_cons_zero, List.set_cons_succ]
            refine goZ_tk rfl rfl 97 rfl (.pointer (some ⟨p3, 1, none⟩)) (fun _ => by go_simp) ?_
            simp only [List.setIfInBounds_toArray, List.set_cons_zero, List.set_cons_succ]
            refine goZ_ld rfl rfl 98 rfl 44 _ rfl ⟨p3, 1, none⟩ (.float .f64 s.b) rfl (fun W hS => ld_float _ _ W hS.2.1) (hs0) ?_
            simp only [List.setIfInBounds_toArray, List.set_cons_zero, List.set_cons_succ]
            refine goZ_call (ds' := []) rfl rfl (by kernel_rfl) 99 rfl 22 _ rfl [(.float .f64 t), (.float .f64 s.b)] rfl (enters_of Tryz.func22 (by kernel_rfl) rfl) ((HR1.out _).mono ?_)
            rintro _ _ ⟨rfl, rfl⟩
            refine ⟨(.bool false), rfl, fun h => absurd rfl h, ?_⟩
            simp only [List.setIfInBounds_toArray, List.set_cons_zero, List.set_cons_succ]
            refine goZ_tk rfl rfl 100 rfl (.bool true) (fun _ => rfl) ?_
            simp only [List.setIfInBounds_toArray, List.set_cons_zero, List.set_cons_succ]
            refine goZ_tk rfl rfl 101 rfl (.bool true) (fun _ => rfl) ?_
            simp only [List.setIfInBounds_toArray, List.set_cons_zero, List.set_cons_succ]
            refine goZ_tk rfl rfl 102 rfl (.bool true) (fun _ => rfl) ?_
            simp only [List.setIfInBounds_toArray, List.set_cons_zero, List.set_cons_succ]
            refine goZ_tk rfl rfl 103 rfl (.slice (some ⟨g, o, none⟩) 1 c) (fun _ => rfl) ?_
            simp only [List.setIfInBounds_toArray, List.set_cons_zero, List.set_cons_succ]
            refine goZ_tk rfl rfl 104 rfl (.pointer (some ⟨g, o, none⟩)) (fun _ => by go_simp) ?_
            simp only [List.setIfInBounds_toArray, List.set_cons_zero, List.set_cons_succ]
            refine goZ_tk rfl rfl 105 rfl (.pointer (some ⟨g, o + 34, none⟩)) (fun _ => rfl) ?_
            simp only [List.setIfInBounds_toArray, List.set_cons_zero, List.set_cons_succ]
            refine goZ_ld rfl rfl 106 rfl 44 _ rfl ⟨g, o + 34, none⟩ (.float .f64 t) rfl (fun W hS => ld_float _ _ W hS.1) (hs0) ?_
            simp only [List.setIfInBounds_toArray, List.set_cons_zero, List.set_cons_succ]
            refine goZ_tk rfl rfl 107 rfl (.pointer (some ⟨p3, 2, none⟩)) (fun _ => by go_simp) ?_
            simp only [List.setIfInBounds_toArray, List.set_cons_zero, List.set_cons_succ]
            refine goZ_ld rfl rfl 108 rfl 44 _ rfl ⟨p3, 2, none⟩ (.float .f64 s.c) rfl (fun W hS => ld_float _ _ W hS.2.2) (hs0) ?_
            simp only [List.setIfInBounds_toArray, List.set_cons_zero, List.set_cons_succ]
            refine goZ_call (ds' := []) rfl rfl (by kernel_rfl) 109 rfl 22 _ rfl [(.float .f64 t), (.float .f64 s.c)] rfl (enters_of Tryz.func22 (by kernel_rfl) rfl) ((HR2.out _).mono ?_)
            rintro _ _ ⟨rfl, rfl⟩
            refine ⟨(.bool false), rfl, fun h => absurd rfl h, ?_⟩
            simp only [List.setIfInBounds_toArray, List.set_cons_zero, List.set_cons_succ]
            refine goZ_tk rfl rfl 110 rfl (.bool true) (fun _ => rfl) ?_
            simp only [List.setIfInBounds_toArray, List.set_cons_zero, List.set_cons_succ]
            refine goZ_tk rfl rfl 111 rfl (.bool true) (fun _ => rfl) ?_
            simp only [List.setIfInBounds_toArray, List.set_cons_zero, List.set_cons_succ]
            refine goZ_tk rfl rfl 4 rfl (.bool true) (fun _ => rfl) ?_
            simp only [List.setIfInBounds_toArray, List.set_cons_zero, List.set_cons_succ]
            refine goZ_end ?_
            go_wp2_with fail
            go_ret
            exact ⟨rfl, HFIN.out HB9.out⟩
          · rw [if_neg hlt] at hwt
            have hk : fkey t = fkey s.b := by rw [hwt, fkey_of_cn]
            have heq : ((cn t : Int) == (cn s.b : Int)) = true := beq_iff_eq.2 (by rw [HCT.out, hwt])
            have HC1 : Hid (decide (fkey t < fkey s.b) = false) := decide_eq_false (by omega)
            have HC2 : Hid (decide (fkey t < fkey s.c) = false) := decide_eq_false (by omega)
            have HR1 : Hid (∀ W, Calls Tryz.prog 22 #[.float .f64 t, .float .f64 s.b] W fun e w' => e = .returned (.bool false) ∧ w' = W) := fun W => by have := before_c t s.b W HTL.out HB.out; rw [HC1.out] at this; exact this
            have HR2 : Hid (∀ W, Calls Tryz.prog 22 #[.float .f64 t, .float .f64 s.c] W fun e w' => e = .returned (.bool false) ∧ w' = W) := fun W => by have := before_c t s.c W HTL.out HC.out; rw [HC2.out] at this; exact this
            clear hwt hk
            go_upto_region 17 with fail
            refine wp_region_hz (fun W => W.cell? ⟨g, o + 34, none⟩ = some (.float .f64 t) ∧ W.cell? ⟨p3, 1, none⟩ = some (.float .f64 s.b) ∧ W.cell? ⟨p3, 2, none⟩ = some (.float .f64 s.c)) (.tk 0 (.tk 1 (.tk 2 (.tk 3 (.tk 4 (.tk 5 (.tk 6 (.tk 7 (.tk 8 (.tk 9 (.tk 10 (.tk 11 (.tk 12 (.tk 13 (.tk 14 (.fc 15 (.tk 16 (.tk 17 (.tk 18 (.tk 19 (.tk 20 (.tk 21 (.tk 22 (.tk 23 (.tk 24 (.fc 25 (.tk 26 (.tk 27 (.tk 28 (.nil)))))))))))))))))))))))))))))) (by kernel_rfl) (by kernel_rfl) (fun _ _ _ _ _ h => h) ?_
            refine goZ_tk rfl rfl 84 rfl (.int .u64 (cn t)) (fun _ => rfl) ?_
            simp only [List.setIfInBounds_toArray, List.set_cons_zero, List.set_cons_succ]
            refine goZ_tk rfl rfl 85 rfl (.int .u64 (cn s.b)) (fun _ => rfl) ?_
            simp only [List.setIfInBounds_toArray, List.set_cons_zero, List.set_cons_succ]
            refine goZ_tk rfl rfl 86 rfl (.bool true) (fun _ => by go_simp) ?_
            simp only [List.setIfInBounds_toArray, List.set_cons_zero, List.set_cons_succ]
            refine goZ_tk rfl rfl 87 rfl (.bool true) (fun _ => rfl) ?_
            simp only [List.setIfInBounds_toArray, List.set_cons_zero, List.set_cons_succ]
            refine goZ_no rfl rfl 88 rfl ?_
            simp only [List.setIfInBounds_toArray, List.set_cons_zero, List.set_cons_succ]
            refine goZ_no rfl rfl 89 rfl ?_
            simp only [List.setIfInBounds_toArray, List.set_cons_zero, List.set_cons_succ]
            refine goZ_no rfl rfl 90 rfl ?_
            simp only [List.setIfInBounds_toArray, List.set_cons_zero, List.set_cons_succ]
            refine goZ_tk rfl rfl 91 rfl (.bool true) (fun _ => rfl) ?_
            simp only [List.setIfInBounds_toArray, List.set_cons_zero, List.set_cons_succ]
            refine goZ_tk rfl rfl 92 rfl (.bool true) (fun _ => rfl) ?_
            simp only [List.setIfInBounds_toArray, List.set_cons_zero, List.set_cons_succ]
            refine goZ_tk rfl rfl 93 rfl (.slice (some ⟨g, o, none⟩) 1 c) (fun _ => rfl) ?_
            simp only [List.setIfInBounds_toArray, List.set_cons_zero, List.set_cons_succ]
            refine goZ_tk rfl rfl 94 rfl (.pointer (some ⟨g, o, none⟩)) (fun _ => by go_simp) ?_
            simp only [List.setIfInBounds_toArray, List.set_cons_zero, List.set_cons_succ]
            refine goZ_tk rfl rfl 95 rfl (.pointer (some ⟨g, o + 34, none⟩)) (fun _ => rfl) ?_
            simp only [List.setIfInBounds_toArray, List.set_cons_zero, List.set_cons_succ]
            refine goZ_ld rfl rfl 96 rfl 44 _ rfl ⟨g, o + 34, none⟩ (.float .f64 t) rfl (fun W hS => ld_float _ _ W hS.1) (hs0) ?_
            simp only [List.setIfInBounds_toArray, List.set_cons_zero, List.set_cons_succ]
            refine goZ_tk rfl rfl 97 rfl (.pointer (some ⟨p3, 1, none⟩)) (fun _ => by go_simp) ?_
            simp only [List.setIfInBounds_toArray, List.set_cons_zero, List.set_cons_succ]
            refine goZ_ld rfl rfl 98 rfl 44 _ rfl ⟨p3, 1, none⟩ (.float .f64 s.b) rfl (fun W hS => ld_float _ _ W hS.2.1) (hs0) ?_
            simp only [List.setIfInBounds_toArray, List.set_cons_zero, List.set_cons_succ]
            refine goZ_call (ds' := []) rfl rfl (by kernel_rfl) 99 rfl 22 _ rfl [(.float .f64 t), (.float .f64 s.b)] rfl (enters_of Tryz.func22 (by kernel_rfl) rfl) ((HR1.out _).mono ?_)
            rintro _ _ ⟨rfl, rfl⟩
            refine ⟨(.bool false), rfl, fun h => absurd rfl h, ?_⟩
            simp only [List.setIfInBounds_toArray, List.set_cons_zero, List.set_cons_succ]
            refine goZ_tk rfl rfl 100 rfl (.bool true) (fun _ => rfl) ?_
            simp only [List.setIfInBounds_toArray, List.set_cons_zero, List.set_cons_succ]
            refine goZ_tk rfl rfl 101 rfl (.bool true) (fun _ => rfl) ?_
            simp only [List.setIfInBounds_toArray, List.set_cons_zero, List.set_cons_succ]
            refine goZ_tk rfl rfl 102 rfl (.bool true) (fun _ => rfl) ?_
            simp only [List.setIfInBounds_toArray, List.set_cons_zero, List.set_cons_succ]
            refine goZ_tk rfl rfl 103 rfl (.slice (some ⟨g, o, none⟩) 1 c) (fun _ => rfl) ?_
            simp only [List.setIfInBounds_toArray, List.set_cons_zero, List.set_cons_succ]
            refine goZ_tk rfl rfl 104 rfl (.pointer (some ⟨g, o, none⟩)) (fun _ => by go_simp) ?_
            simp only [List.setIfInBounds_toArray, List.set_cons_zero, List.set_cons_succ]
            refine goZ_tk rfl rfl 105 rfl (.pointer (some ⟨g, o + 34, none⟩)) (fun _ => rfl) ?_
            simp only [List.setIfInBounds_toArray, List.set_cons_zero, List.set_cons_succ]
            refine goZ_ld rfl rfl 106 rfl 44 _ rfl ⟨g, o + 34, none⟩ (.float .f64 t) rfl (fun W hS => ld_float _ _ W hS.1) (hs0) ?_
            simp only [List.setIfInBounds_toArray, List.set_cons_zero, List.set_cons_succ]
            refine goZ_tk rfl rfl 107 rfl (.pointer (some ⟨p3, 2, none⟩)) (fun _ => by go_simp) ?_
            simp only [List.setIfInBounds_toArray, List.set_cons_zero, List.set_cons_succ]
            refine goZ_ld rfl rfl 108 rfl 44 _ rfl ⟨p3, 2, none⟩ (.float .f64 s.c) rfl (fun W hS => ld_float _ _ W hS.2.2) (hs0) ?_
            simp only [List.setIfInBounds_toArray, List.set_cons_zero, List.set_cons_succ]
            refine goZ_call (ds' := []) rfl rfl (by kernel_rfl) 109 rfl 22 _ rfl [(.float .f64 t), (.float .f64 s.c)] rfl (enters_of Tryz.func22 (by kernel_rfl) rfl) ((HR2.out _).mono ?_)
            rintro _ _ ⟨rfl, rfl⟩
            refine ⟨(.bool false), rfl, fun h => absurd rfl h, ?_⟩
            simp only [List.setIfInBounds_toArray, List.set_cons_zero, List.set_cons_succ]
            refine goZ_tk rfl rfl 110 rfl (.bool true) (fun _ => rfl) ?_
            simp only [List.setIfInBounds_toArray, List.set_cons_zero, List.set_cons_succ]
            refine goZ_tk rfl rfl 111 rfl (.bool true) (fun _ => rfl) ?_
            simp only [List.setIfInBounds_toArray, List.set_cons_zero, List.set_cons_succ]
            refine goZ_tk rfl rfl 4 rfl (.bool true) (fun _ => rfl) ?_
            simp only [List.setIfInBounds_toArray, List.set_cons_zero, List.set_cons_succ]
            refine goZ_end ?_
            go_wp2_with fail
            go_ret
            exact ⟨rfl, HFIN.out HB9.out⟩
end Go.Proofs.YtpcipdkoncmdcaaGreatDoor
namespace Go.Proofs.YtpcipdkoncmdcaaGreatDoor.joinTimes
open Go.ChangeShapes Go.WideShapes Go.ChangeAt Go.RowKit
open Go.WideMaps Go.WideElems
open Go.ChangeMaps (open_string shut_string)

theorem reads (os : Os) {H : Type} (enc : TypeId × Value → H) : ∃ places, DataW.whole enc Tryz.prog ((laidWorld os).forCall (fun _ _ => 0) ⟨#[], #[Value.agg #[.int .u8 0, .int .u8 0, .int .u8 0, .int .u8 0, .int .u8 0, .int .u8 0, .int .u8 0, .int .u8 0, .int .u8 0, .int .u8 0, .int .u8 0, .int .u8 0, .int .u8 0, .int .u8 0, .int .u8 0, .int .u8 0, .int .u8 0, .int .u8 0, .int .u8 0, .int .u8 0, .int .u8 0, .int .u8 0, .int .u8 0, .int .u8 0, .int .u8 0, .int .u8 0, .int .u8 0, .int .u8 0, .int .u8 0, .int .u8 0, .int .u8 0, .int .u8 0], .agg #[.float .f64 0, .float .f64 0, .float .f64 0]], []⟩).memory Tryz.f7.params.toList Rows.joinTimesSpec.vars false (#[Value.agg #[.int .u8 0, .int .u8 0, .int .u8 0, .int .u8 0, .int .u8 0, .int .u8 0, .int .u8 0, .int .u8 0, .int .u8 0, .int .u8 0, .int .u8 0, .int .u8 0, .int .u8 0, .int .u8 0, .int .u8 0, .int .u8 0, .int .u8 0, .int .u8 0, .int .u8 0, .int .u8 0, .int .u8 0, .int .u8 0, .int .u8 0, .int .u8 0, .int .u8 0, .int .u8 0, .int .u8 0, .int .u8 0, .int .u8 0, .int .u8 0, .int .u8 0, .int .u8 0], .agg #[.float .f64 0, .float .f64 0, .float .f64 0]] : Array Value).toList 8 = some ([.agg [.lit (.int .u8 0), .lit (.int .u8 0), .lit (.int .u8 0), .lit (.int .u8 0), .lit (.int .u8 0), .lit (.int .u8 0), .lit (.int .u8 0), .lit (.int .u8 0), .lit (.int .u8 0), .lit (.int .u8 0), .lit (.int .u8 0), .lit (.int .u8 0), .lit (.int .u8 0), .lit (.int .u8 0), .lit (.int .u8 0), .lit (.int .u8 0), .lit (.int .u8 0), .lit (.int .u8 0), .lit (.int .u8 0), .lit (.int .u8 0), .lit (.int .u8 0), .lit (.int .u8 0), .lit (.int .u8 0), .lit (.int .u8 0), .lit (.int .u8 0), .lit (.int .u8 0), .lit (.int .u8 0), .lit (.int .u8 0), .lit (.int .u8 0), .lit (.int .u8 0), .lit (.int .u8 0), .lit (.int .u8 0)], .agg [.lit (.float .f64 0), .lit (.float .f64 0), .lit (.float .f64 0)]], [], places) :=
  ⟨[], by kernel_rfl⟩

set_option maxRecDepth 100000 in
theorem contract (H : Type) (enc : TypeId × Value → H) (W : World) (base : Nat) (args : Array Value) (ds : List (DataW H)) (p : List MemPlace)
    (hval : ∀ (j : Nat) t v, Tryz.f7.params[j]? = some t → args[j]? = some v → Value.okWide Tryz.prog W .any base t v)
    (hA : DataW.TrodAll enc Tryz.prog W 0 (fun _ => true) true Tryz.f7.params.toList args.toList ds p) (hk : Rows.uptoSmall H ds = true) (_hL : laidMetH Tryz.prog Rows.joinTimesUptoRow.laid W) (hshape : W.ShapedOpen Tryz.prog) :
    Calls Tryz.prog 7 args W fun e W' => e = .returned (.bool true) ∧ Below W.heap.size W W' := by
  rw [Tryz.params7] at hA hval
  obtain ⟨v0, vs0, d0, ds0, p0, q0, hargs0, rfl, rfl, h0, r0⟩ := trodAll_cons hA
  obtain ⟨v1, vs1, d1, ds1, p1, q1, hargs1, rfl, rfl, h1, r1⟩ := trodAll_cons r0
  obtain ⟨rfl, rfl, rfl⟩ := trodAll_nil r1
  rw [hargs1] at hargs0
  obtain rfl : args = #[v0, v1] := by cases args; simp_all
  have k0 := bulk_mem hk (d := d0) (by simp)
  obtain ⟨x0, rfl, z0⟩ := open_id (hval 0 43 v0 rfl rfl) h0
  have k1 := bulk_mem hk (d := d1) (by simp)
  obtain ⟨x1, rfl, wa1, wb1, wc1⟩ := open_f3 (hval 1 64 v1 rfl rfl) h1
  exact times_c z0 wa1 wb1 wc1 (gl_of_shaped hshape)

set_option maxRecDepth 100000 in
theorem lifted (os : Os) (started : os.Started) (H : Type) (enc : TypeId × Value → H) (F : Stop.Interp) :
    ReturnsInHanded {} Tryz.checked os 7 .any ((Rows.OpenSpec.upto Rows.joinTimesSpec).preRow enc Tryz.prog Tryz.f7 Rows.joinTimesUptoRow.domain false Rows.joinTimesUptoRow.laid) (((Rows.OpenSpec.upto Rows.joinTimesSpec).at F).post enc Tryz.prog Tryz.f7 false true false false) := by
  obtain ⟨places, hx⟩ := reads os enc
  refine law_lifted (laid := Rows.joinTimesUptoRow.laid) started Tryz.func7 (by kernel_rfl) rfl rfl ?_ (by kernel_rfl) ?_ ?_ ?_
  · intro ds h
    match ds, h with
    | [_, _], _ => rfl
  · rw [Tryz.params7]
    intro t ht
    have ht : t ∈ [43, 64] := ht
    simp only [List.mem_cons, List.mem_nil_iff, or_false] at ht
    rcases ht with rfl | rfl <;> exact ⟨by kernel_rfl, of_decide_eq_true (by kernel_rfl)⟩
  · exact witness_row_at (enc := enc) (C := Tryz.checked) false (laidWorld os) #[Value.agg #[.int .u8 0, .int .u8 0, .int .u8 0, .int .u8 0, .int .u8 0, .int .u8 0, .int .u8 0, .int .u8 0, .int .u8 0, .int .u8 0, .int .u8 0, .int .u8 0, .int .u8 0, .int .u8 0, .int .u8 0, .int .u8 0, .int .u8 0, .int .u8 0, .int .u8 0, .int .u8 0, .int .u8 0, .int .u8 0, .int .u8 0, .int .u8 0, .int .u8 0, .int .u8 0, .int .u8 0, .int .u8 0, .int .u8 0, .int .u8 0, .int .u8 0, .int .u8 0], .agg #[.float .f64 0, .float .f64 0, .float .f64 0]] rfl (by kernel_rfl) (by kernel_rfl) (by kernel_rfl)
      (OpenSpec.preRow_of_cond 8 hx (by kernel_rfl) (fun k hk => by cases hk; kernel_rfl) (by kernel_rfl) (laid_met os _))
  · exact contract H enc

theorem saidUpto : Rows.JoinTimesUptoSaid :=
  OpenClaim.holds_of_cond 7 Tryz.f7 rfl rfl rfl rfl rfl rfl rfl ⟨rfl, rfl, rfl, rfl, rfl⟩ rfl rfl rfl rfl rfl (by kernel_rfl) Tryz.func7 (by kernel_rfl)
    (of_decide_eq_true (by kernel_rfl)) (by unfold Func.isWrapper; rw [if_neg (by decide +kernel)]; exact ⟨rfl, rfl⟩)
    (fun os started H enc _ F => by rw [OpenClaim.pre_eq_preRow]; exact lifted os started H enc F)

theorem plain (f : FuncId) (fn : Func) (hf : Tryz.pinned.checked.prog.funcNamed "towline/towlinelaw13.JoinTimes" = some f) (hfn : Tryz.pinned.checked.prog.funcs[f]? = some fn) :
    false = Tryz.pinned.checked.prog.looks [] ∧ ∀ (j : Nat) t, fn.params[j]? = some t → Tryz.pinned.checked.prog.wantsStandIn t = false := by
  obtain rfl : f = 7 := Option.some.inj ((show Tryz.prog.funcNamed "towline/towlinelaw13.JoinTimes" = some 7 by kernel_rfl).symm.trans hf) |>.symm
  obtain rfl : fn = Tryz.f7 := (Option.some.inj (Tryz.func7.symm.trans hfn)).symm
  refine ⟨by kernel_rfl, fun j t ht => ?_⟩
  rw [Tryz.params7] at ht
  have ht : t ∈ [43, 64] := by simpa using Array.mem_of_getElem? ht
  simp only [List.mem_cons, List.mem_nil_iff, or_false] at ht
  rcases ht with rfl | rfl <;> exact (show Tryz.prog.wantsStandIn _ = false by kernel_rfl)

theorem cardUpto : Rows.JoinTimesUptoCardSaid :=
  Claim7.holds_tied_plain_at .later [] _ _ _ _ saidUpto (fun _ h => by cases h) (by kernel_rfl) (fun _ h => by cases h) joinTimesUpto_row_tie rfl ⟨rfl, rfl⟩ (by kernel_rfl) rfl plain (by kernel_rfl)
end Go.Proofs.YtpcipdkoncmdcaaGreatDoor.joinTimes
