/- Texts of mine, joined: Walks: the document's scan. -/
import Derived.Test.YtfoamcobpfflbaaDoorZ21
namespace Go.Proofs.YtfoamcobpfflbaaDoor
open Go Go.RowKit

theorem strElem : Elem Tryd.prog 42 9 (.string ByteArray.empty) 1 16 := ⟨Tryd.underlying42, by kernel_rfl⟩
def srow (L : List (List Nat)) : List Value := L.map fun d => Value.string (ofL d)
theorem srow_len (L : List (List Nat)) : (srow L).length = L.length := by simp [srow]
theorem srow_one (L : List (List Nat)) : ∀ u ∈ srow L, u.oneCell' = true := fun u hu => by obtain ⟨q, -, rfl⟩ := List.mem_map.1 hu; rfl

/-- A row of texts of the call's own. -/
structure SR (w wx : World) (v : Value) (L : List (List Nat)) : Prop where
  b : Below w.heap.size w wx
  r : OwnG wx 9 1 v L.length (srow L)
  new : ∀ k, v.ownBlock = some k → w.heap.size ≤ k
theorem SR.nil (w : World) : SR w w (.slice none 0 0) [] := ⟨Below.refl _ _, OwnG.nil _ _ _, (fun k h => by cases h)⟩
theorem SR.below {w wx w' : World} {v : Value} {L : List (List Nat)} (h : SR w wx v L) (hb : Below wx.heap.size wx w') : SR w w' v L := ⟨h.b.trans (hb.mono h.b.size), h.r.below hb, h.new⟩
theorem SR.app {w wx w' : World} {v v' : Value} {L : List (List Nat)} {d : List Nat} (h : SR w wx v L)
    (ho : OwnG w' 9 1 v' (L.length + 1) (srow L ++ srow [d])) (hg : wx.grownBy w' v.ownBlock) (hv : ∀ k, v'.ownBlock = some k → v.ownBlock = some k ∨ wx.heap.size ≤ k) : SR w w' v' (L ++ [d]) := by
  have hz := h.b.size
  exact ⟨h.b.grown hg h.b.size (fun k e => h.new k e), by rw [List.length_append]; unfold srow at *; rw [List.map_append]; exact ho, fun k hk => (hv k hk).elim (h.new k) (fun h => by omega)⟩

def RScanP (w : World) (l : List Nat) (e : Ending) (w' : World) : Prop :=
  ∃ v, e = .returned (.tuple #[v, .int .i64 (PackS.scan l).2]) ∧ SR w w' v (PackS.scan l).1

/-- A scan under way. -/
structure RScU (w wx : World) (l : List Nat) (v : Value) (L : List (List Nat)) (k : Nat) : Prop where
  r : SR w wx v L
  kl : k ≤ l.length
  s1 : L ++ (PackS.scan (l.drop k)).1 = (PackS.scan l).1
  s2 : k + (PackS.scan (l.drop k)).2 = (PackS.scan l).2
  n : L.length ≤ k

theorem run_index_str (s : ByteArray) (m : Nat) (h : m < s.size) (W : World) : (Instr.index 9 (.string s) (.int .i64 (m : Int))).run Tryd.prog W = .ok (.int .u8 (s[m].toNat : Nat)) W := by
  have h0 : (0 : Int) ≤ (m : Int) := by omega
  have hg : s[m]? = some s[m] := getElem?_pos s m h
  simp [Instr.index, run_underlying Tryd.underlying9, asIntOf, h0, hg]

set_option maxRecDepth 100000 in
set_option maxHeartbeats 1000000 in
theorem rscan_c {w : World} (s : ByteArray) (hs : s.size ≤ 10000000) :
    Calls Tryd.prog 39 #[.string s] w (RScanP w (bl s)) := by
  go_enter Tryd.func39, Tryd.ntmps39
  go_wp2_with fail
  have h0 : RScU w w (bl s) (.slice none 0 0) [] 0 := ⟨SR.nil w, Nat.zero_le _, by simp, by simp, Nat.zero_le _⟩
  have hbl := bl_len s
  go_loopw [4, 5] (fun v iv wx => ∃ (k : Nat) (L : List (List Nat)), iv = .int .i64 k ∧ RScU w wx (bl s) v L k) (fun _ iv _ => (s.size - intOf iv).toNat)
  case atStart => exact ⟨0, [], rfl, h0⟩
  case round =>
    clear h0
    obtain ⟨k, L, rfl, hU⟩ := hrel
    have hk := hU.kl
    rw [hbl] at hk
    obtain ⟨p, hp⟩ : ∃ p, p = k + 12 := ⟨_, rfl⟩
    have hw12 : IntKind.i64.wrap ((k : Int) + 12) = (p : Int) := by rw [IntWalk.i64_in _ (by omega)]; omega
    have HBL := Lib.hid hbl
    have HU := Lib.hid hU
    clear hbl hU
    by_cases h12 : p ≤ s.size
    · have hd : decide ((p : Int) ≤ (s.size : Int)) = true := decide_eq_true (by omega)
      have hd' : decide (p ≤ s.size) = true := decide_eq_true h12
      have hDl : ((bl s).drop k).length = s.size - k := by rw [List.length_drop, HBL.out]
      have hDb : ∀ x ∈ (bl s).drop k, x < 256 := fun x hx => bl_lt s x (List.mem_of_mem_drop hx)
      have HBA : Hid (∀ (i : Nat) (h : k + i < s.size), s[k + i].toNat = Sha.byteAt ((bl s).drop k) i) := fun i h => by
        unfold Sha.byteAt
        rw [List.getD_eq_getElem?_getD, List.getElem?_drop]
        unfold bl
        rw [List.getElem?_map, List.getElem?_eq_getElem (by rw [Array.length_toList]; exact h)]
        rfl
      generalize hD : (bl s).drop k = D at *
      have HD := Lib.hid hD
      have HP := Lib.hid hp
      have h4l : (D.take 4).length = 4 := by rw [List.length_take, hDl]; omega
      have hvb : ∀ i, PackS.val ((D.take 4).take i) < 4294967296 := fun i => val_lt _ (fun x hx => hDb x (List.mem_of_mem_take (List.mem_of_mem_take hx))) (by rw [List.length_take, h4l]; omega)
      have HVB := Lib.hid hvb
      have HVS : Hid (∀ i, i < 4 → PackS.val ((D.take 4).take (i + 1)) = PackS.val ((D.take 4).take i) * 256 + Sha.byteAt D i) := fun i hi => by
        rw [List.take_succ_eq_append_getElem (by rw [h4l]; exact hi), val_snoc]
        congr 1
        unfold Sha.byteAt
        rw [List.getElem_take, List.getD_eq_getElem?_getD, List.getElem?_eq_getElem (by rw [hDl]; omega)]; rfl
      have HDL := Lib.hid hDl
      have HDB := Lib.hid hDb
      clear hD hDl hDb h4l hvb hp h12
      go_upto_region 6 with fail
      go_loopw [6, 7] (fun nv iv wx => ∃ i : Nat, i ≤ 4 ∧ iv = .int .i64 i ∧ nv = .int .i64 (PackS.val ((D.take 4).take i)) ∧ wx = wr) (fun _ iv _ => (4 - intOf iv).toNat)
      case atStart => exact ⟨0, by omega, rfl, rfl, rfl⟩
      case round =>
        obtain ⟨i, hi, rfl, rfl, rfl⟩ := hrel
        by_cases hi4 : i < 4
        · have hdi : decide ((i : Int) < 4) = true := decide_eq_true (by omega)
          have hms : k + i < s.size := by have := HP.out; have := of_decide_eq_true hd'; omega
          have hy := HBA.out i hms
          have hvs := HVS.out i hi4
          have hv1 := HVB.out (i + 1)
          have hyl : Sha.byteAt D i < 256 := Sha.byteAt_lt HDB.out i
          obtain ⟨m, hm⟩ : ∃ m, m = k + i := ⟨_, rfl⟩
          have hwm : IntKind.i64.wrap ((k : Int) + (i : Int)) = (m : Int) := by rw [IntWalk.i64_in _ (by omega)]; omega
          have hix : ∀ W, (Instr.index 9 (.string s) (.int .i64 (m : Int))).run Tryd.prog W = .ok (.int .u8 (Sha.byteAt D i : Nat)) W := fun W => by
            rw [← hy]
            subst hm
            exact run_index_str s (k + i) hms W
          have hw1 : IntKind.i64.wrap ((i : Int) + 1) = (i : Int) + 1 := IntWalk.i64_in _ (by omega)
          generalize hv : PackS.val ((D.take 4).take i) = v at *
          generalize Sha.byteAt D i = y at *
          have hw2 : IntKind.i64.wrap ((v : Int) * 256) = (v : Int) * 256 := IntWalk.i64_in _ (by omega)
          have hw3 : IntKind.i64.wrap ((v : Int) * 256 + (y : Int)) = ((v * 256 + y : Nat) : Int) := by rw [IntWalk.i64_in _ (by omega)]; omega
          have hw4 : IntKind.i64.wrap (y : Int) = (y : Int) := IntWalk.i64_in _ (by omega)
          have HVS2 := Lib.hid hvs
          clear hy hvs hv hv1 hyl hm hms
          go_wp2_with fail
          go_roundw
          case rel => exact ⟨i + 1, by omega, by go_num, by rw [HVS2.out]; go_num, trivial⟩
          case measure => simp [intOf]; omega
        · have hdi : decide ((i : Int) < 4) = false := decide_eq_false (by omega)
          have hi4' : i = 4 := by omega
          subst hi4'
          have hNv : PackS.val ((D.take 4).take 4) = PackS.nlen D := by rw [List.take_of_length_le (by rw [List.length_take]; omega)]; rfl
          rw [hNv]
          have hNb := HVB.out 4
          rw [hNv] at hNb
          have hgd := PackS.good_ref (hDb := HDB.out) (h12 := by have := HP.out; have := of_decide_eq_true hd'; rw [HDL.out]; omega)
          obtain ⟨N, hN⟩ : ∃ N, PackS.nlen D = N := ⟨_, rfl⟩
          rw [hN] at hNb hgd ⊢
          have HN := Lib.hid hN
          clear hN hNv HVS HVB HBA
          have hpN : k + 12 = p := HP.out.symm
          have hD' := HDL.out
          by_cases hbig : 524288 < N ∨ s.size < p + N
          · have hg : PackS.good D = false := by
              rw [hgd]
              rcases hbig with h | h
              · rw [decide_eq_false (show ¬ N ≤ 524288 by omega)]; rfl
              · rw [decide_eq_false (show ¬ N + 12 ≤ D.length by omega)]; simp
            have HEND : Hid (k = (PackS.scan (bl s)).2 ∧ L = (PackS.scan (bl s)).1) := by
              have h1 := HU.out.s1
              have h2 := HU.out.s2
              rw [HD.out, PackS.scan_bad hg] at h1 h2
              exact ⟨by simpa using h2, by simpa using h1⟩
            have hw9 : IntKind.i64.wrap ((p : Int) + (N : Int)) = (p : Int) + (N : Int) := IntWalk.i64_in _ (by omega)
            clear hg hgd hpN hD'
            by_cases h1 : 524288 < N
            · have hd1 : decide ((N : Int) > 524288) = true := decide_eq_true (by omega)
              have hd1' : decide ((524288 : Int) < (N : Int)) = true := decide_eq_true (by omega)
              clear hbig
              go_wp2_with fail
              go_ret2
              refine ⟨_, by rw [← HEND.out.1]; rfl, ?_⟩
              rw [← HEND.out.2]; exact HU.out.r
            · have hd1 : decide ((N : Int) > 524288) = false := decide_eq_false (by omega)
              have hd1' : decide ((524288 : Int) < (N : Int)) = false := decide_eq_false (by omega)
              have hd2 : decide ((p : Int) + (N : Int) > (s.size : Int)) = true := decide_eq_true (by omega)
              have hd2' : decide ((s.size : Int) < (p : Int) + (N : Int)) = true := decide_eq_true (by omega)
              clear hbig
              go_wp2_with fail
              go_ret2
              refine ⟨_, by rw [← HEND.out.1]; rfl, ?_⟩
              rw [← HEND.out.2]; exact HU.out.r
          · have hd1 : decide ((N : Int) > 524288) = false := decide_eq_false (by omega)
            have hd1' : decide ((524288 : Int) < (N : Int)) = false := decide_eq_false (by omega)
            obtain ⟨q, hq⟩ : ∃ q, q = p + N := ⟨_, rfl⟩
            have hw9 : IntKind.i64.wrap ((p : Int) + (N : Int)) = (q : Int) := by rw [IntWalk.i64_in _ (by omega)]; omega
            have hd2 : decide ((q : Int) > (s.size : Int)) = false := decide_eq_false (by omega)
            have hd2' : decide ((s.size : Int) < (q : Int)) = false := decide_eq_false (by omega)
            have hd2'' : decide (s.size < q) = false := decide_eq_false (by omega)
            have hsr : ∀ W, (Instr.slice 9 (.string s) (some (.int .i64 (p : Int))) (some (.int .i64 (q : Int))) none).run Tryd.prog W = .ok (.string (s.extract p q)) W := fun W =>
              run_slice_string (w := W) _ _ _ _ _ _ Tryd.underlying9 (by omega) (by omega) (by omega)
            have hk12 : ∀ W, (Instr.slice 9 (.string s) (some (.int .i64 (k : Int))) (some (.int .i64 (p : Int))) none).run Tryd.prog W = .ok (.string (s.extract k p)) W := fun W =>
              run_slice_string (w := W) _ _ _ _ _ _ Tryd.underlying9 (by omega) (by omega) (by omega)
            have hblr : bl (s.extract p q) = PackS.rec1 D := by
              rw [bl_extract, List.drop_take, show q - p = N by omega]
              unfold PackS.rec1
              rw [HN.out, ← HD.out, List.drop_drop, hpN]
            have hblk : bl (s.extract k p) = D.take 12 := by
              rw [bl_extract, List.drop_take, show p - k = 12 by omega, HD.out]
            have hrl : (PackS.rec1 D).length = N := by unfold PackS.rec1; rw [HN.out, List.length_take, List.length_drop]; omega
            have hrb : ∀ x ∈ PackS.rec1 D, x < 256 := fun x hx => HDB.out x (List.mem_of_mem_drop (List.mem_of_mem_take hx))
            have hF := fun W => rframe_c (w := W) (s.extract p q) (by rw [ByteArray.size_extract]; omega)
            rw [hblr] at hF
            have hfl : (ofL (PackS.frame (PackS.rec1 D))).size = 12 + N := by rw [ofL_size, PackS.frame_len, hrl]
            have hf12 : ∀ W, (Instr.slice 9 (.string (ofL (PackS.frame (PackS.rec1 D)))) none (some (.int .i64 12)) none).run Tryd.prog W = .ok (.string ((ofL (PackS.frame (PackS.rec1 D))).extract 0 12)) W := fun W =>
              by exact run_slice_string_h _ _ _ Tryd.underlying9 _ _ (by omega) (by rw [hfl]; omega)
            have hblf : bl ((ofL (PackS.frame (PackS.rec1 D))).extract 0 12) = (PackS.frame (PackS.rec1 D)).take 12 := by
              rw [bl_extract, bl_ofL (PackS.frame_lt hrb), List.drop_zero]
            have htl : (((ofL (PackS.frame (PackS.rec1 D))).extract 0 12).toList == (s.extract k p).toList) = PackS.good D := by
              rw [tl_eq, hgd, decide_eq_true (show N ≤ 524288 by omega), decide_eq_true (show N + 12 ≤ D.length by omega), ← hblf, ← hblk]
              simp only [Bool.true_and]
              by_cases e : (ofL (PackS.frame (PackS.rec1 D))).extract 0 12 = s.extract k p
              · rw [decide_eq_true e, decide_eq_true (by rw [e])]
              · rw [decide_eq_false e, decide_eq_false (fun h => e (bl_inj h))]
            have HRL := Lib.hid hrl
            have HRB := Lib.hid hrb
            have HOF : Hid (ofL (PackS.rec1 D) = s.extract p q) := by show _ = _; rw [← hblr, ofL_bl]
            have hNl : N ≤ 524288 := by omega
            have hqs : q ≤ s.size := by omega
            clear hblr hblk hrl hrb hfl hblf hgd hD' hbig
            have HF2 := Lib.hid hF
            clear hF
            generalize (ofL (PackS.frame (PackS.rec1 D))).extract 0 12 = f12 at *
            generalize ofL (PackS.frame (PackS.rec1 D)) = f at *
            generalize s.extract k p = k12 at *
            have HQ := Lib.hid hq
            clear hq hpN
            generalize s.extract p q = r at *
            go_upto_region 11 with fail
            have HFR : Hid (∀ p', Calls Tryd.prog 67 #[.string r] (bw wr p') fun e w'' => e = .returned (.string f) ∧ ∃ q : BW, w'' = bw wr q) := fun p' => calls_bw (HF2.out _)
            refine wp_region_bw (by kernel_rfl) (by kernel_rfl) ?_
            quiet_step (fail)
            quiet_step (exact HFR.out _)
            iterate 7 quiet_step (fail)
            refine wpQuiet_nil ?_
            rintro Wn ⟨pn, hWn⟩
            have hbn : Below wr.heap.size wr Wn := by rw [hWn]; exact bw_below _ _
            clear hWn HFR HF2 hsr hk12 hf12 htl
            have hcase : PackS.good D = true ∨ PackS.good D = false := by cases PackS.good D <;> simp
            rcases hcase with hg | hg
            · rw [hg]
              have HSC := Lib.hid (PackS.scan_good hg)
              have hP2 := HU.out.r.below (hbn.alloc hbn.size (.cells #[.string r] 9))
              have hP2r := hP2.r
              have HP2 := Lib.hid hP2
              have hlen := HU.out.n
              have h63 : L.length + 1 ≤ maxLen := by simp [maxLen]; omega
              have h47 : (L.length + 1) * 16 ≤ 140737488355328 := by omega
              have hsrc : Src Tryd.prog 1 42 (.slice (some ⟨Wn.heap.size, 0, none⟩) 1 1) 1 (srow [PackS.rec1 D]) (Wn.alloc (.cells #[.string r] 9)) := by
                have h9 := Src.ofNew (P := Tryd.prog) (w := Wn) (e := 9) (news := srow [PackS.rec1 D]) (size := 1) Tryd.underlying42 rfl (srow_one _)
                have h8 : srow [PackS.rec1 D] = [Value.string r] := by unfold srow; rw [List.map_singleton, HOF.out]
                rw [h8] at h9 ⊢
                exact h9
              have hw1 : IntKind.i64.wrap (12 + (N : Int)) = 12 + (N : Int) := IntWalk.i64_in _ (by omega)
              have hw2 : IntKind.i64.wrap ((k : Int) + (12 + (N : Int))) = (k : Int) + (12 + (N : Int)) := IntWalk.i64_in _ (by omega)
              clear hg hP2
              go_wp2_with (at_builtin; refine wp_appG rfl _ _ _ _ rfl strElem rfl rfl hP2r rfl hsrc h63 h47 ?_; intro v4 w4 ho4 hg4 hv4; have HP4 := Lib.hid (HP2.out.app ho4 hg4 hv4))
              have HU2 : Hid (RScU w w4 (bl s) v4 (L ++ [PackS.rec1 D]) (k + (12 + N))) := by
                have h1 := HU.out.s1
                have h2 := HU.out.s2
                have h3 := HP.out
                have h4 := HQ.out
                rw [HD.out, HSC.out] at h1 h2
                rw [HN.out, ← HD.out, List.drop_drop] at h1 h2
                refine ⟨HP4.out, by rw [HBL.out]; omega, ?_, ?_, by rw [List.length_append]; simp; omega⟩
                · rw [List.append_assoc, ← h1, HD.out]; rfl
                · rw [← h2, Nat.add_assoc, Nat.add_assoc]
              clear hP2r HP2 HP4 HSC HU hsrc ho4 hg4 hv4
              go_roundw
              case rel => exact ⟨k + (12 + N), L ++ [PackS.rec1 D], by go_num, HU2.out⟩
              case measure =>
                have := HP.out
                have := HQ.out
                simp [intOf]; omega
            · rw [hg]
              have HEND : Hid (k = (PackS.scan (bl s)).2 ∧ L = (PackS.scan (bl s)).1) := by
                have h1 := HU.out.s1
                have h2 := HU.out.s2
                rw [HD.out, PackS.scan_bad hg] at h1 h2
                exact ⟨by simpa using h2, by simpa using h1⟩
              clear hg
              go_wp2_with fail
              go_ret2
              refine ⟨_, by rw [← HEND.out.1]; rfl, ?_⟩
              rw [← HEND.out.2]; exact HU.out.r.below hbn
    · have hd : decide ((p : Int) ≤ (s.size : Int)) = false := decide_eq_false (by omega)
      have hd' : decide (p ≤ s.size) = false := decide_eq_false h12
      have hg : PackS.good ((bl s).drop k) = false := by
        unfold PackS.good
        rw [decide_eq_false (show ¬ 12 ≤ ((bl s).drop k).length by rw [List.length_drop, HBL.out]; omega)]; rfl
      have HEND : Hid (k = (PackS.scan (bl s)).2 ∧ L = (PackS.scan (bl s)).1) := by
        have h1 := HU.out.s1
        have h2 := HU.out.s2
        rw [PackS.scan_bad hg] at h1 h2
        exact ⟨by simpa using h2, by simpa using h1⟩
      clear hg
      go_wp2_with fail
      go_ret2
      refine ⟨_, by rw [← HEND.out.1]; rfl, ?_⟩
      rw [← HEND.out.2]; exact HU.out.r
end Go.Proofs.YtfoamcobpfflbaaDoor
