/- The walk of the stable sort of any length. -/
import Derived.Test.YtlnifigbnpdemaaDoorScoreSQ
import Derived.Test.YtlnifigbnpdemaaDoorScoreMo
namespace Go.Proofs.YtlnifigbnpdemaaDoor
open Go Go.RowKit Go.Sort Go.Shelf Go.Lib

theorem symB_c (g c : Nat) (d0 : Array Mb) (w0 : World) (hg : Gl w0) (hgg : 1 < g) (hgl : g < w0.heap.size) (hH : HoldsK encB 3 w0 g 0 d0) (hsz : d0.size < 1000000)
    (a m b : Nat) (A M B : Int) (hA : A = a) (hM : M = m) (hB : B = b) (dk : Array Mb) (w : World) (ham : a < m) (hmb : m < b) (hb : b ≤ d0.size) (hs : dk.size = d0.size) (S : SWK encB 3 w0 g 0 dk w) (h1 : SortedIn (ltOf ordB) a m dk) (h2 : SortedIn (ltOf ordB) m b dk) :
    Calls Tryd.prog 46 #[.slice (some ⟨g, 0, none⟩) d0.size c, .int .i64 A, .int .i64 M, .int .i64 B, .func (.func 28) #[] #[]] w fun e w' => e = .returned (.tuple #[]) ∧ ∃ d', SymS.Merged (ltOf ordB) a b dk d' ∧ SWK encB 3 w0 g 0 d' w' := by
  subst hA hB
  exact symMerge_c hasP encB ordB swoB 28 c g 0 d0.size #[] d0 w0 enter_order (cmp_lays g d0 w0 hg hgg hgl) (rowB hH hgl) rfl (by omega) (b - a) a m b M dk w hM (Nat.le_refl _) ham hmb hb hs S h1 h2

set_option maxHeartbeats 8000000 in
set_option maxRecDepth 1000000 in
theorem stable_any (g c : Nat) (d : Array Mb) (w : World) (hg : Gl w) (hgg : 1 < g) (hgl : g < w.heap.size) (hH : HoldsK encB 3 w g 0 d) (hn : d.size < 1000000) :
    Calls Tryd.prog 39 #[.slice (some ⟨g, 0, none⟩) d.size c, .int .i64 d.size, .func (.func 28) #[] #[]] w fun e w' => e = .returned (.tuple #[]) ∧ ∃ d', SymS.Merged (ltOf ordB) 0 d.size d d' ∧ SWK encB 3 w g 0 d' w' := by
  have HI := Lib.hid (fun a b A B hA hB dk W hs S hab hb => ins_swk g c a b A B hA hB d dk w W hg hgg hgl hH hs S hab hb hn)
  have HM := Lib.hid (symB_c g c d w hg hgg hgl hH hn)
  have S0 : Aside (SWK encB 3 w g 0 d w) := SWK.start hH
  clear hH hg
  obtain ⟨n, hne⟩ : ∃ n, n = d.size := ⟨_, rfl⟩
  rw [← hne] at HI HM hn
  have HNE := Lib.hid hne
  rw [← hne]
  clear hne
  go_enter Tryd.func39, Tryd.ntmps39
  go_wp2_with fail
  go_loopw [7, 8] (fun s7 s8 wr => ∃ (q a : Nat) (dk : Array Mb), a = q * 20 ∧ s7 = .int .i64 a ∧ s8 = .int .i64 ((a : Int) + 20) ∧ a ≤ n ∧ dk.size = n ∧ Aside (PermIn 0 n d dk) ∧ Aside (∀ t, t < q → SortedIn (ltOf ordB) (t * 20) ((t + 1) * 20) dk) ∧ Aside (SWK encB 3 w g 0 dk wr)) (fun s7 _ _ => n - (intOf s7).toNat)
  case atStart => exact ⟨0, 0, d, rfl, rfl, rfl, Nat.zero_le _, HNE.out.symm, permIn_refl _ _ _, fun t h => by omega, S0⟩
  case round =>
    clear S0
    obtain ⟨q, a, dk, haq, rfl, rfl, han, hds, PM, BL, S1⟩ := hrel
    have HAQ := Lib.hid haq
    clear haq
    by_cases hlt : (a : Int) + 20 ≤ (n : Int)
    · have HC := Lib.hid (HI.out a (a + 20) a ((a : Int) + 20) rfl (by omega) dk wr hds S1.out (by omega) (by omega))
      have r1 : IntKind.i64.wrap ((a : Int) + 20 + 20) = (a : Int) + 20 + 20 := by rw [IntKind.wrap_i64]; omega
      clear S1
      go_wp2_with fail
      refine HC.out.mono ?_
      rintro e w2 ⟨rfl, d2, M2, S2⟩
      have hz2 : d2.size = n := M2.1.1.trans hds
      have PM2 : Aside (PermIn 0 n d d2) := permIn_trans _ _ _ _ _ PM.out (permIn_mono _ _ _ _ _ _ (Nat.zero_le _) (by omega) (by omega) M2.1)
      have BL2 : Aside (∀ t, t < q + 1 → SortedIn (ltOf ordB) (t * 20) ((t + 1) * 20) d2) := by
        have h0 := HAQ.out
        intro t ht
        rcases Nat.lt_or_ge t q with e | e
        · exact SymS.sortedIn_out M2.1 (BL.out t e) (.inl (by omega))
        · obtain rfl : t = q := by omega
          rw [show (t + 1) * 20 = a + 20 by omega, ← h0]
          exact M2.2
      have S3 : Aside (SWK encB 3 w g 0 d2 w2) := S2
      have hq2 : a + 20 = (q + 1) * 20 := by have := HAQ.out; omega
      clear M2 S2 PM BL HC
      go_wp2_with fail
      go_roundw
      case rel => exact ⟨q + 1, a + 20, d2, hq2, by go_num, by go_num, by omega, hz2, PM2, BL2, S3⟩
      case measure => simp [intOf]; omega
    · have HC := Lib.hid (HI.out a n a n rfl rfl dk wr hds S1.out han (Nat.le_refl _))
      clear S1
      go_wp2_with fail
      refine HC.out.mono ?_
      rintro e w2 ⟨rfl, d2, M2, S2⟩
      have hz2 : d2.size = n := M2.1.1.trans hds
      have PM2 : Aside (PermIn 0 n d d2) := permIn_trans _ _ _ _ _ PM.out (permIn_mono _ _ _ _ _ _ (Nat.zero_le _) (Nat.le_refl _) (by omega) M2.1)
      have BK : Aside (SymS.Blk (ltOf ordB) n 20 d2) := by
        have h0 := HAQ.out
        refine SymS.blk_first (q := q) (fun t ht => SymS.sortedIn_out M2.1 (BL.out t ht) (.inl (by omega))) (by omega) (by rw [← h0]; exact M2.2)
      have S3 : Aside (SWK encB 3 w g 0 d2 w2) := S2
      clear M2 S2 PM BL HC HI HAQ hlt
      go_wp2_with fail
      go_loopw [6, 7, 8] (fun s6 _ _ wi => ∃ (s : Nat) (dk : Array Mb), s6 = .int .i64 s ∧ 20 ≤ s ∧ s ≤ 2 * n + 20 ∧ dk.size = n ∧ Aside (PermIn 0 n d dk) ∧ Aside (SymS.Blk (ltOf ordB) n s dk) ∧ Aside (SWK encB 3 w g 0 dk wi)) (fun s6 _ _ _ => 2 * n + 20 - (intOf s6).toNat)
      case atStart => exact ⟨20, d2, rfl, Nat.le_refl _, by omega, hz2, PM2, BK, S3⟩
      case round =>
        clear PM2 BK S3 hz2
        obtain ⟨s, dk2, rfl, h20, hs2, hds2, PM, BK, S1⟩ := hrel
        by_cases hsn : (s : Int) < (n : Int)
        · have r1 : IntKind.i64.wrap (2 * (s : Int)) = 2 * (s : Int) := by rw [IntKind.wrap_i64]; omega
          have P0 : Aside (SymS.Pass (ltOf ordB) n s 0 dk2) := SymS.Pass.start BK.out
          clear BK
          go_wp2_with fail
          go_loopw [7, 8] (fun s7 s8 wi => ∃ (q a : Nat) (dk : Array Mb), Hid (a = q * (2 * s)) ∧ s7 = .int .i64 a ∧ s8 = .int .i64 ((a : Int) + 2 * (s : Int)) ∧ a ≤ n ∧ dk.size = n ∧ Aside (PermIn 0 n d dk) ∧ Aside (SymS.Pass (ltOf ordB) n s q dk) ∧ Aside (SWK encB 3 w g 0 dk wi)) (fun s7 _ _ => n - (intOf s7).toNat)
          case atStart => exact ⟨0, 0, dk2, by show 0 = _; rw [Nat.zero_mul], rfl, by go_num, Nat.zero_le _, hds2, PM, P0, S1⟩
          case round =>
            clear P0 PM S1 hds2
            obtain ⟨q, a, dk3, HA, rfl, rfl, han2, hds3, PM, PS, S1⟩ := hrel
            have r2 : IntKind.i64.wrap ((a : Int) + (s : Int)) = (a : Int) + (s : Int) := by rw [IntKind.wrap_i64]; omega
            have r3 : IntKind.i64.wrap ((a : Int) + 2 * (s : Int) + 2 * (s : Int)) = (a : Int) + 2 * (s : Int) + 2 * (s : Int) := by rw [IntKind.wrap_i64]; omega
            have r4 : IntKind.i64.wrap ((s : Int) * 2) = (s : Int) * 2 := by rw [IntKind.wrap_i64]; omega
            obtain ⟨k1, k2⟩ := PS.out.runs
            rw [← HA.out] at k1 k2
            by_cases hlt : (a : Int) + 2 * (s : Int) ≤ (n : Int)
            · rw [Nat.min_eq_left (by omega)] at k1 k2
              have HC := Lib.hid (HM.out a (a + s) (a + 2 * s) a ((a : Int) + s) ((a : Int) + 2 * s) rfl (by omega) (by omega) dk3 wr (by omega) (by omega) (by omega) hds3 S1.out k1 k2)
              clear S1 k1 k2
              go_wp2_with fail
              refine HC.out.mono ?_
              rintro e w4 ⟨rfl, d4, M2, S2⟩
              have hz4 : d4.size = n := M2.1.1.trans hds3
              have PM4 : Aside (PermIn 0 n d d4) := permIn_trans _ _ _ _ _ PM.out (permIn_mono _ _ _ _ _ _ (Nat.zero_le _) (by omega) (by omega) M2.1)
              have PS4 : Aside (SymS.Pass (ltOf ordB) n s (q + 1) d4) := by
                have h0 := HA.out
                exact PS.out.step (by omega) (by rw [← h0]; exact M2)
              have S4 : Aside (SWK encB 3 w g 0 d4 w4) := S2
              have HA4 : Hid (a + 2 * s = (q + 1) * (2 * s)) := by show _ = _; rw [Nat.add_mul, Nat.one_mul, ← HA.out]
              clear M2 S2 PM PS HC
              go_wp2_with fail
              go_roundw
              case rel => exact ⟨q + 1, a + 2 * s, d4, HA4, by go_num, by go_num, by omega, hz4, PM4, PS4, S4⟩
              case measure => simp [intOf]; omega
            · by_cases hm : (a : Int) + (s : Int) < (n : Int)
              · rw [Nat.min_eq_left (by omega)] at k1
                rw [Nat.min_eq_right (by omega)] at k2
                have HC := Lib.hid (HM.out a (a + s) n a ((a : Int) + s) n rfl (by omega) rfl dk3 wr (by omega) (by omega) (Nat.le_refl _) hds3 S1.out k1 k2)
                clear S1 k1 k2
                go_wp2_with fail
                refine HC.out.mono ?_
                rintro e w4 ⟨rfl, d4, M2, S2⟩
                have hz4 : d4.size = n := M2.1.1.trans hds3
                have PM4 : Aside (PermIn 0 n d d4) := permIn_trans _ _ _ _ _ PM.out (permIn_mono _ _ _ _ _ _ (Nat.zero_le _) (Nat.le_refl _) (by omega) M2.1)
                have BK4 : Aside (SymS.Blk (ltOf ordB) n (2 * s) d4) := by
                  have h0 := HA.out
                  exact PS.out.last (by omega) (by rw [← h0]; exact M2.1) (by rw [← h0]; exact M2.2) (by omega)
                have S4 : Aside (SWK encB 3 w g 0 d4 w4) := S2
                clear M2 S2 PM PS HC
                go_wp2_with fail
                go_roundw
                case rel => exact ⟨2 * s, d4, by go_num, by omega, by omega, hz4, PM4, BK4, S4⟩
                case measure => simp [intOf]; omega
              · rw [Nat.min_eq_right (by omega)] at k1
                have BK4 : Aside (SymS.Blk (ltOf ordB) n (2 * s) dk3) := by
                  have h0 := HA.out
                  exact PS.out.last (by omega) (permIn_refl _ _ _) (by rw [← h0]; exact k1) (by omega)
                clear k1 k2 PS
                go_wp2_with fail
                go_roundw
                case rel => exact ⟨2 * s, dk3, by go_num, by omega, by omega, hds3, PM, BK4, S1⟩
                case measure => simp [intOf]; omega
        · go_wp2_with fail
          go_end0
          exact ⟨rfl, dk2, ⟨PM.out, SymS.blk_end BK.out (by omega)⟩, S1.out⟩

set_option maxRecDepth 100000 in
theorem stableToAll : StableTo 1000000 := by
  intro base g c l w hg hbase hown hz hn
  have hgb := hown.lt g rfl
  have hlen : (packM l hz).toArray.size = l.length := by have := congrArg List.length (packM_val l hz); simpa using this
  have hH : HoldsK encB 3 w g 0 (packM l hz).toArray := holds_own (by rw [List.toList_toArray, packM_val]; exact hown) hlen
  have hst := stable_any g c (packM l hz).toArray w hg (by omega) hgb.2 hH (by omega)
  have HF : Hid (∀ (w' : World) (d' : Array Mb), SymS.Merged (ltOf ordB) 0 (packM l hz).toArray.size (packM l hz).toArray d' → SWK encB 3 w g 0 d' w' → ∃ l' : List Mv, l'.Perm l ∧ l'.Pairwise (fun x y => ¬ ordI y x < 0) ∧ Sl w' (some ⟨g, 0, none⟩) (mrow l') ∧ RowKit.Below base w w') := by
    intro w' d' hm hs'
    obtain ⟨⟨p1, p2, p3⟩, hs⟩ := hm
    refine ⟨d'.toList.map (·.val), ?_, ?_, ?_, ?_⟩
    · have h1 : (d'.toList).Perm (packM l hz) := by
        have e1 : (d'.extract 0 (packM l hz).toArray.size).toList = d'.toList := by rw [← p1]; simp
        have e2 : ((packM l hz).toArray.extract 0 (packM l hz).toArray.size).toList = packM l hz := by simp
        rwa [e1, e2] at p3
      have := h1.map (·.val)
      rwa [packM_val] at this
    · rw [List.pairwise_map, List.pairwise_iff_getElem]
      intro i j hi hj hij
      have hi' : i < d'.size := by simpa using hi
      have hj' : j < d'.size := by simpa using hj
      have := hs i j (Nat.zero_le _) hij (by rw [← p1]; exact hj')
      rw [getElem!_pos d' i hi', getElem!_pos d' j hj'] at this
      simp only [Array.getElem_toList]
      exact of_decide_eq_false this
    · exact sl_holds (hs'.holds hgb.2 hH p1) (hs'.lt hgb.2)
    · obtain ⟨n, os, rfl⟩ := hs'
      exact (below_sortWorldK encB 3 w g 0 n d' os hgb.2).mono hgb.1
  rw [hlen] at hst HF
  have HM := Lib.hid hst
  clear hst hH
  go_enter Tryd.func27, Tryd.ntmps27
  go_wp2_with fail
  refine HM.out.mono ?_
  rintro e w2 ⟨rfl, d', m2, s2⟩
  have HR := Lib.hid (HF.out w2 d' m2 s2)
  clear m2 s2 HM HF
  go_wp2_with fail
  go_end0
  exact ⟨rfl, HR.out⟩
end Go.Proofs.YtlnifigbnpdemaaDoor
