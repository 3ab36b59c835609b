/- Texts of mine, joined: Walk: the document's SHA-256, whole. -/
import Derived.Test.YtfoamcobpfflbaaDoorZ18
namespace Go.Proofs.YtfoamcobpfflbaaDoor
open Go Go.RowKit

set_option maxRecDepth 100000 in
set_option maxHeartbeats 2000000 in
theorem refsum_c {w : World} (s : ByteArray) (hs : s.size ≤ 100000000) :
    Calls Tryd.prog 32 #[.string s] w fun e w' => e = .returned (.agg (nums .u8 (Sha.sum (bl s)))) ∧ Below w.heap.size w w' := by
  go_enter Tryd.func32, Tryd.ntmps32
  go_upto_region 1 with fail
  have hid : (w.alloc (.cells #[Value.int .u8 0, Value.int .u8 0, Value.int .u8 0, Value.int .u8 0, Value.int .u8 0, Value.int .u8 0, Value.int .u8 0, Value.int .u8 0, Value.int .u8 0, Value.int .u8 0, Value.int .u8 0, Value.int .u8 0, Value.int .u8 0, Value.int .u8 0, Value.int .u8 0, Value.int .u8 0, Value.int .u8 0, Value.int .u8 0, Value.int .u8 0, Value.int .u8 0, Value.int .u8 0, Value.int .u8 0, Value.int .u8 0, Value.int .u8 0, Value.int .u8 0, Value.int .u8 0, Value.int .u8 0, Value.int .u8 0, Value.int .u8 0, Value.int .u8 0, Value.int .u8 0, Value.int .u8 0] 47)).heap[w.heap.size]? = some (.cells (nums .u8 (List.replicate 32 0)) 47 (0, 0)) := Array.getElem?_push_size
  have hb0 : Below w.heap.size w (w.alloc (.cells #[Value.int .u8 0, Value.int .u8 0, Value.int .u8 0, Value.int .u8 0, Value.int .u8 0, Value.int .u8 0, Value.int .u8 0, Value.int .u8 0, Value.int .u8 0, Value.int .u8 0, Value.int .u8 0, Value.int .u8 0, Value.int .u8 0, Value.int .u8 0, Value.int .u8 0, Value.int .u8 0, Value.int .u8 0, Value.int .u8 0, Value.int .u8 0, Value.int .u8 0, Value.int .u8 0, Value.int .u8 0, Value.int .u8 0, Value.int .u8 0, Value.int .u8 0, Value.int .u8 0, Value.int .u8 0, Value.int .u8 0, Value.int .u8 0, Value.int .u8 0, Value.int .u8 0, Value.int .u8 0] 47)) := (Below.refl _ w).alloc (Nat.le_refl _) _
  have HS0 : Hid ((w.alloc (.cells #[Value.int .u8 0, Value.int .u8 0, Value.int .u8 0, Value.int .u8 0, Value.int .u8 0, Value.int .u8 0, Value.int .u8 0, Value.int .u8 0, Value.int .u8 0, Value.int .u8 0, Value.int .u8 0, Value.int .u8 0, Value.int .u8 0, Value.int .u8 0, Value.int .u8 0, Value.int .u8 0, Value.int .u8 0, Value.int .u8 0, Value.int .u8 0, Value.int .u8 0, Value.int .u8 0, Value.int .u8 0, Value.int .u8 0, Value.int .u8 0, Value.int .u8 0, Value.int .u8 0, Value.int .u8 0, Value.int .u8 0, Value.int .u8 0, Value.int .u8 0, Value.int .u8 0, Value.int .u8 0] 47)).heap.size = w.heap.size + 1) := by show _ = _; simp
  generalize w.alloc (.cells #[Value.int .u8 0, Value.int .u8 0, Value.int .u8 0, Value.int .u8 0, Value.int .u8 0, Value.int .u8 0, Value.int .u8 0, Value.int .u8 0, Value.int .u8 0, Value.int .u8 0, Value.int .u8 0, Value.int .u8 0, Value.int .u8 0, Value.int .u8 0, Value.int .u8 0, Value.int .u8 0, Value.int .u8 0, Value.int .u8 0, Value.int .u8 0, Value.int .u8 0, Value.int .u8 0, Value.int .u8 0, Value.int .u8 0, Value.int .u8 0, Value.int .u8 0, Value.int .u8 0, Value.int .u8 0, Value.int .u8 0, Value.int .u8 0, Value.int .u8 0, Value.int .u8 0, Value.int .u8 0] 47) = w0 at *
  have HB0 := Lib.hid hb0
  have HID := Lib.hid hid
  clear hb0 hid
  obtain ⟨c1, w1, hconv, hO, hbc⟩ := own_bytes (P := Tryd.prog) w0 9 43 5 s Tryd.underlying9 Tryd.underlying43 Tryd.underlying5 (by simp [maxLen]; omega)
  have hR1 : RB w0 w1 (.slice (some ⟨w0.heap.size, 0, none⟩) s.size c1) (bl s) := ⟨hbc, by rw [bl_len, nb_bl]; exact hO, fun k hk => by simp [Value.ownBlock] at hk; omega⟩
  have hRa := hR1.alloc (.cells #[.int .u8 128] 5)
  have hsrc : Src Tryd.prog 1 43 (.slice (some ⟨w1.heap.size, 0, none⟩) 1 1) 1 (nb [128]) (w1.alloc (.cells #[.int .u8 128] 5)) := Src.ofNew (e := 5) (news := nb [128]) Tryd.underlying43 rfl (nb_one _)
  have hRr := hRa.r
  rw [bl_len] at hRr
  have HRa := Lib.hid hRa
  have wl1 : IntKind.u64.wrap (s.size : Int) = (s.size : Int) := wrap_u64n _ (by omega)
  clear hR1 hRa hO hbc
  go_upto_region 3 with (at_builtin; refine wp_appF rfl _ _ _ _ rfl byteElem rfl rfl hRr rfl hsrc (by simp [maxLen]; omega) (by omega) ?_; intro v2 w2 ho2 hg2 hv2)
  have hR2 := HRa.out.app (X := [128]) (by rw [bl_len]; exact ho2) hg2 hv2
  have HLN := Lib.hid (bl_len s)
  clear HRa hRr ho2 hg2 hv2 hsrc hconv
  go_loopw [4] (fun rv wx => ∃ (z : Nat) (L : List Nat), z ≤ (119 - s.size % 64) % 64 ∧ L.length = s.size + 1 + z ∧ L = bl s ++ [128] ++ List.replicate z 0 ∧ RB w0 wx rv L) (fun rv _ => s.size + 65 - slLen rv)
  case atStart => exact ⟨0, bl s ++ [128], by omega, by rw [List.length_append, HLN.out]; rfl, by simp, hR2⟩
  case round =>
    clear hR2
    obtain ⟨z, L, hz, hL, hLe, hR⟩ := hrel
    obtain ⟨ra, rc, rfl, hrc, hrm, -⟩ := hR.r.form
    by_cases h56 : z < (119 - s.size % 64) % 64
    · have hm56 : (((L.length : Int) % 64) != 56) = true := by rw [bne_iff_ne]; omega
      have h63 : L.length + 1 ≤ maxLen := by simp [maxLen]; omega
      have h47 : (L.length + 1) * 1 ≤ 140737488355328 := by omega
      have hM1 := hR.alloc (.cells #[.int .u8 0] 5)
      have hsrc : Src Tryd.prog 1 43 (.slice (some ⟨wr.heap.size, 0, none⟩) 1 1) 1 (nb [0]) (wr.alloc (.cells #[.int .u8 0] 5)) := Src.ofNew (e := 5) (news := nb [0]) Tryd.underlying43 rfl (nb_one _)
      have hMr := hM1.r
      have HM1 := Lib.hid hM1
      have HL := Lib.hid hL
      have HLE := Lib.hid hLe
      clear hR hM1 hL hLe hrm
      go_wp2_with (at_builtin; refine wp_appF rfl _ _ _ _ rfl byteElem rfl rfl hMr rfl hsrc h63 h47 ?_; intro v2 w2 ho2 hg2 hv2; have HM2 := Lib.hid (HM1.out.app (X := [0]) ho2 hg2 hv2))
      obtain ⟨rb, rcb, rfl, -, -, -⟩ := HM2.out.r.form
      go_roundw
      case rel => exact ⟨z + 1, L ++ [0], by omega, by rw [List.length_append, HL.out]; rfl, by rw [HLE.out, List.append_assoc (bl s ++ [128]), show [0] = List.replicate 1 0 from rfl, List.replicate_append_replicate], HM2.out⟩
      case measure =>
        have := HL.out
        show s.size + 65 - (L ++ [0]).length < s.size + 65 - L.length
        rw [List.length_append]; simp; omega
    · have hz2 : z = (119 - s.size % 64) % 64 := by omega
      have hm56 : (((L.length : Int) % 64) != 56) = false := by rw [bne_eq_false_iff_eq]; omega
      subst hz2
      have HL0 := Lib.hid hL
      have HL1 := Lib.hid hLe
      clear hz h56 hrc hrm hL hLe
      go_upto_region 7 with fail
      go_loopw [4, 5, 6] (fun rv pv iv wx => ∃ (c : Nat) (q : Nat) (L' : List Nat), c ≤ 8 ∧ iv = .int .i64 c ∧ pv = .int .u64 q ∧ q = (if c < 8 then 256 ^ (7 - c) else 0) ∧ L'.length = L.length + c ∧ L' = L ++ (List.range c).map (fun i => s.size * 8 / 256 ^ (7 - i) % 256) ∧ RB w0 wx rv L') (fun _ _ iv _ => (8 - intOf iv).toNat)
      case atStart => exact ⟨0, 72057594037927936, L, by omega, rfl, rfl, by decide, rfl, by simp, hR⟩
      case round =>
        clear hR
        obtain ⟨c, q, L', hc, rfl, rfl, hq, hL', hLe', hR⟩ := hrel
        obtain ⟨ra, rc, rfl, hrc, hrm, -⟩ := hR.r.form
        by_cases hc8 : c < 8
        · rw [if_pos hc8] at hq
          have hd : decide ((c : Int) < 8) = true := decide_eq_true (by omega)
          have hqp : 0 < q := by rw [hq]; exact Nat.pow_pos (by omega)
          have hne : (q : Int) ≠ 0 := by omega
          have hq2 : Int.tdiv (q : Int) 256 = ((q / 256 : Nat) : Int) := by rw [Int.tdiv_eq_ediv_of_nonneg (by omega)]; omega
          have hqw : IntKind.u64.wrap ((q / 256 : Nat) : Int) = ((q / 256 : Nat) : Int) := wrap_u64n _ (by rw [hq]; have := Nat.pow_le_pow_right (show 0 < 256 by omega) (show 7 - c ≤ 7 by omega); omega)
          have hqs : Hid (q / 256 = (if c + 1 < 8 then 256 ^ (7 - (c + 1)) else 0)) := by
            show _ = _
            rw [hq]
            by_cases h7 : c + 1 < 8
            · rw [if_pos h7, show 7 - c = (7 - (c + 1)) + 1 by omega, Nat.pow_succ, Nat.mul_div_cancel _ (by omega)]
            · rw [if_neg h7, show 7 - c = 0 by omega]
          have HY : Hid ((List.range (c + 1)).map (fun i => s.size * 8 / 256 ^ (7 - i) % 256) = (List.range c).map (fun i => s.size * 8 / 256 ^ (7 - i) % 256) ++ [s.size * 8 / q % 256]) := by
            show _ = _
            rw [List.range_succ, List.map_append, hq]; rfl
          generalize q / 256 = q2 at *
          have hzl := Nat.div_le_self (s.size * 8) q
          have hby : Int.tdiv ((s.size : Int) * 8) (q : Int) = ((s.size * 8 / q : Nat) : Int) := by rw [Int.tdiv_eq_ediv_of_nonneg (by omega), show (s.size : Int) * 8 = ((s.size * 8 : Nat) : Int) by omega, ← Int.natCast_ediv]
          generalize s.size * 8 / q = z at *
          have hwz : IntKind.u64.wrap (z : Int) = (z : Int) := wrap_u64n _ (by omega)
          have hbyte : (z : Int).tmod 256 = ((z % 256 : Nat) : Int) := by rw [Int.tmod_eq_emod_of_nonneg (by omega)]; omega
          have h63 : L'.length + 1 ≤ maxLen := by have := HL0.out; simp [maxLen]; omega
          have h47 : (L'.length + 1) * 1 ≤ 140737488355328 := by have := HL0.out; omega
          have HLE := Lib.hid hLe'
          have HLL := Lib.hid hL'
          have hw8 : IntKind.i64.wrap ((c : Int) + 1) = (c : Int) + 1 := IntWalk.i64_in _ (by omega)
          have hyl : z % 256 < 256 := Nat.mod_lt _ (by omega)
          generalize z % 256 = y at *
          have hy8 : (y : Int) % 256 = (y : Int) := by omega
          have hyw : IntKind.u64.wrap (y : Int) = (y : Int) := wrap_u64n _ (by omega)
          have hM1 := hR.alloc (.cells #[.int .u8 y] 5)
          have hsrc : Src Tryd.prog 1 43 (.slice (some ⟨wr.heap.size, 0, none⟩) 1 1) 1 (nb [y]) (wr.alloc (.cells #[.int .u8 y] 5)) := Src.ofNew (e := 5) (news := nb [y]) Tryd.underlying43 rfl (nb_one _)
          have hMr := hM1.r
          have HM1 := Lib.hid hM1
          clear hq hL' hLe' hR hM1 hrm hqp hzl hyl
          go_wp2_with (at_builtin; refine wp_appF rfl _ _ _ _ rfl byteElem rfl rfl hMr rfl hsrc h63 h47 ?_; intro v2 w2 ho2 hg2 hv2; have HM2 := Lib.hid (HM1.out.app (X := [y]) ho2 hg2 hv2))
          obtain ⟨rb, rcb, rfl, -, -, -⟩ := HM2.out.r.form
          go_roundw
          case rel => exact ⟨c + 1, q2, L' ++ [y], by omega, by go_num, rfl, hqs.out, by rw [List.length_append, HLL.out]; rfl, by rw [HLE.out, HY.out, List.append_assoc], HM2.out⟩
          case measure => simp [intOf]; omega
        · have hd : decide ((c : Int) < 8) = false := decide_eq_false (by omega)
          have hc9 : c = 8 := by omega
          subst hc9
          have HPP : Hid (Sha.pad (bl s) = L') := by
            show _ = _
            rw [hLe', HL1.out, Sha.pad, HLN.out]
          have hPl := Sha.pad_mod (bl s)
          have hPl2 := Sha.pad_len (bl s)
          rw [HPP.out] at hPl hPl2
          rw [HLN.out] at hPl2
          have hPb : ∀ x ∈ L', x < 256 := by rw [← HPP.out]; exact Sha.pad_lt _ (bl_lt s)
          have hPm : L'.length ≤ 200000000 := by omega
          have hP64 : 64 ≤ L'.length := by omega
          clear hPl2 hLe' hL' hq HL0 HL1 hm56
          obtain ⟨ra', rc', hra, -, -, hsl⟩ := hR.r.form
          injection hra with hra _ hrb
          subst hra hrb
          obtain ⟨g, o, rfl, hgl, hcel⟩ := hsl.at (k := 0) (by rw [nb_len]; omega)
          have hcel : ∀ i, i < L'.length → wr.cell? ⟨g, o + i, none⟩ = some (.int .u8 (Sha.byteAt L' i)) := fun i hi => by
            have h2 := nb_at hi
            obtain ⟨h3, h4⟩ := List.getElem?_eq_some_iff.1 h2
            rw [← h4]; exact hcel i h3
          have hbr := hR.b
          have HPM := Lib.hid hPl
          have HPB := Lib.hid hPb
          have HCE := Lib.hid hcel
          clear hR hsl hcel hPl hPb HLN hrm
          go_upto_region 12 with (first
            | (go_at_call 72; refine (parts_c _).mono ?_; rintro e w3 ⟨rfl, hk3, hb3⟩; have HK3 := Lib.hid hk3; have HB3 := Lib.hid hb3; clear hk3 hb3)
            | (go_at_call 73; refine (start_c _).mono ?_; rintro e w4 ⟨rfl, hk4, hb4⟩; have HK4 := Lib.hid hk4; have HB4 := Lib.hid hb4; clear hk4 hb4))
          have hRH : RH w0 w4 wr.heap.size w3.heap.size g o L' (Sha.blks Sha.start (Sha.byteAt L') 0) := by
            have hk := arr_nums Sha.KS HK3.out
            have hh := arr_nums Sha.HS HK4.out
            have z3 := hk.lt
            have z4 := hh.lt
            have zb := hbr.size
            exact ⟨(hbr.trans (HB3.out.mono zb)).trans (HB4.out.mono (by omega)), ⟨_, hk.below HB4.out⟩, ⟨_, hh⟩, fun i hi => by
              rw [HB4.out.cell (p := ⟨g, o + i, none⟩) (show g < _ by omega), HB3.out.cell (p := ⟨g, o + i, none⟩) hgl]; exact HCE.out i hi, by omega, by omega, by omega, by omega, by omega⟩
          generalize wr.heap.size = bk at *
          generalize w3.heap.size = bh at *
          clear HK3 HB3 HK4 HB4 HCE hbr hgl
          go_wp2_with fail
          go_loopw [10] (fun iv wx => ∃ n t : Nat, t = 64 * n ∧ t ≤ L'.length ∧ iv = .int .i64 t ∧ RH w0 wx bk bh g o L' (Sha.blks Sha.start (Sha.byteAt L') n)) (fun iv _ => (L'.length - intOf iv).toNat)
          case atStart => exact ⟨0, 0, rfl, by omega, rfl, hRH⟩
          case round =>
            clear hRH
            obtain ⟨n, t, ht, hn, rfl, hRH⟩ := hrel
            by_cases hn2 : t < L'.length
            · have hd : decide ((t : Int) < (L'.length : Int)) = true := decide_eq_true (by omega)
              have hd' : decide (t < L'.length) = true := decide_eq_true hn2
              have htl : t + 64 ≤ L'.length := by have := HPM.out; omega
              have HT : Hid (64 * n = t) := ht.symm
              clear ht hn hn2
              have hmk := make64
              have hWS0 := WS.start hRH
              go_upto_region 17 with fail
              generalize wr.heap.size = bw at *
              clear hmk hRH
              generalize wr.alloc (.cells z64 137) = W at *
              obtain ⟨B, HBe⟩ : ∃ B : Nat → Nat, Hid (∀ j, B j = Sha.byteAt L' (64 * n + j)) := ⟨fun j => Sha.byteAt L' (64 * n + j), fun _ => rfl⟩
              have HBb : Hid (∀ j, B j < 256) := fun j => by rw [HBe.out]; exact Sha.byteAt_lt HPB.out _
              go_wp2_with fail
              try rw [hd]
              try rw [hd']
              clear hd hd'
              refine wloop_c hWS0 HBb HBe HT htl hPm (fun _ _ _ _ _ h => h) ?_
              intro v12 v13 v14 v15 v63 v64 v65 v66 v67 v68 v69 v70 v71 v72 v73 v74 v75 v76 v77 v78 v79 v80 v81 v82 v83 v84 v85 v86 v87 v88 v89 v90 v91 v92 v93 v94 v95 v96 v97 v98 v99 v100 v101 v102 v103 v104 v105 v106 v107 v108 v109 v110 v111 v112 v113 v114 v115 v116 v117 v118 v119 v120 v121 v122 v123 v124 v125 v126 v127 v128 v129 v130 v131 v132 v133 v134 v135 wr hW
              have HHB := Lib.hid (Sha.blks_bd Sha.start_bd (Sha.byteAt L') n)
              have HSB := Lib.hid (Sha.sched_bd HBb.out 64)
              have HBL : Hid (Sha.blks Sha.start (Sha.byteAt L') (n + 1) = fun i => (Sha.blks Sha.start (Sha.byteAt L') n i + Sha.rnds (Sha.blks Sha.start (Sha.byteAt L') n) (Sha.sched B 64) 64 i) % 4294967296) := by
                show Sha.blk _ _ = _
                have hBf : (fun i => Sha.byteAt L' (64 * n + i)) = B := funext fun j => (HBe.out j).symm
                rw [hBf]; rfl
              generalize Sha.sched B 64 = SC at *
              obtain ⟨H2, hH2⟩ : ∃ H2, Sha.blks Sha.start (Sha.byteAt L') (n + 1) = H2 := ⟨_, rfl⟩
              rw [hH2] at HBL
              have HH2 := Lib.hid hH2
              clear hH2
              generalize Sha.blks Sha.start (Sha.byteAt L') n = H at *
              have hBE : Below wr.heap.size wr (wr.alloc (.cells #[] 137)) := (Below.refl _ wr).alloc (Nat.le_refl _) _
              have hW2 := hW.below hBE
              obtain ⟨ch, hch⟩ := hW2.r.h
              have hsrc : Src Tryd.prog 1 138 (.slice (some ⟨bh, 0, none⟩) 8 8) 8 ((List.range 8).map fun i => Value.int .u64 (H i)) (wr.alloc (.cells #[] 137)) :=
                Src.ofSlice _ Tryd.underlying138 _ 8 8 _ (by simp) (fun j u hu => by
                  have hj := (List.getElem?_eq_some_iff.1 hu).1
                  rw [List.length_map, List.length_range] at hj
                  rw [List.getElem?_map, List.getElem?_range hj] at hu
                  injection hu with hu
                  rw [Addr.add_lit, Nat.zero_add, ← hu]; exact hch.c j hj) (fun u hu => by obtain ⟨i, -, rfl⟩ := List.mem_map.1 hu; rfl)
              have HWE := Lib.hid hW2
              clear hW2 hch hW hBE
              have HLT := Lib.hid HWE.out.r.hl
              go_upto_region 29 with (at_builtin; refine wp_appNew rfl _ _ _ _ rfl u64Elem rfl rfl rfl hsrc (by omega) (by simp [maxLen]) (by omega) ?_; intro cv w5 hcv ho2 hb2)
              have hVS : VS w0 w5 bk bh g o L' H bw SC (wr.alloc (.cells #[] 137)).heap.size 0 (Sha.rnds H SC 0) := by
                have hlt := ho2.lt (k := (wr.alloc (.cells #[] 137)).heap.size) rfl
                have := HWE.out.r.hl
                exact ⟨HWE.out.below hb2, hlt, by omega, fun i hi => by rw [Nat.zero_add]; exact ho2.cell (by rw [List.getElem?_map, List.getElem?_range hi]; rfl)⟩
              clear HLT HWE ho2 hb2 hsrc
              have hz9 : (wr.alloc (.cells #[] 137)).heap.size = wr.heap.size + 1 := by simp
              rw [hz9] at hVS
              clear hz9
              go_wp2_with fail
              refine vloop_c hVS hcv HHB HSB (fun _ _ _ _ _ h => h) ?_
              intro v17 v18 v19 v20 v21 v139 v140 v141 v142 v143 v144 v145 v146 v147 v148 v149 v150 v151 v152 v153 v154 v155 v156 v157 v158 v159 v160 v161 v162 v163 v164 v165 v166 v167 v168 v169 v170 v171 v172 v173 v174 v175 v176 v177 v178 v179 v180 v181 v182 v183 v184 v185 v186 v187 v188 v189 v190 v191 v192 v193 v194 v195 v196 v197 v198 v199 v200 v201 v202 v203 v204 v205 v206 v207 v208 v209 v210 v211 v212 v213 v214 v215 v216 v217 v218 v219 v220 v221 v222 v223 v224 v225 v226 v227 v228 v229 v230 v231 v232 v233 v234 v235 v236 v237 v238 v239 v240 v241 v242 v243 v244 v245 v246 v247 v248 v249 v250 v251 v252 v253 v254 v255 v256 v257 v258 v259 v260 bv cv wr hcv hVS
              have hV64 := (show VS w0 wr bk bh g o L' H bw SC bv 0 (Sha.rnds H SC 64) from hVS)
              clear hVS
              have HVB := Lib.hid (Sha.rnds_bd HHB.out SC 64)
              generalize Sha.rnds H SC 64 = V at *
              have hRV : RV w0 wr bk bh g o L' H bv V := ⟨hV64.w.r, hV64.lt, hV64.ne, fun i hi => by have := hV64.c i hi; rwa [Nat.zero_add] at this⟩
              clear hV64
              go_wp2_with fail
              go_loopw [22] (fun iv wx => ∃ i : Nat, i ≤ 8 ∧ iv = .int .i64 i ∧ RV w0 wx bk bh g o L' (fun k => if k < i then (H k + V k) % 4294967296 else H k) bv V) (fun iv _ => (8 - intOf iv).toNat)
              case atStart => exact ⟨0, by omega, rfl, hRV.congr fun k _ => by rw [if_neg (by omega)]⟩
              case round =>
                clear hRV
                obtain ⟨m, hm, rfl, hD⟩ := hrel
                by_cases hm2 : m < 8
                · have hd : decide ((m : Int) < 8) = true := decide_eq_true (by omega)
                  have m5 : (m : Int) < 8 := by omega
                  have cp := hD.ch m hm2
                  simp only [if_neg (Nat.lt_irrefl m)] at cp
                  have cv' := hD.c m hm2
                  have hh := HHB.out m
                  have hv := HVB.out m
                  have hw1 : IntKind.i64.wrap ((m : Int) + 1) = (m : Int) + 1 := IntWalk.i64_in _ (by omega)
                  have HD := Lib.hid hD
                  clear hD
                  obtain ⟨y, hy⟩ : ∃ y, y = (H m + V m) % 4294967296 := ⟨_, rfl⟩
                  have HY := Lib.hid hy
                  generalize hx1 : H m = hh1 at *
                  generalize hx2 : V m = vv1 at *
                  obtain ⟨s1, hs1⟩ : ∃ a, a = hh1 + vv1 := ⟨_, rfl⟩
                  have k1 : IntKind.u64.wrap ((hh1 : Int) + (vv1 : Int)) = (s1 : Int) := by rw [show (hh1 : Int) + (vv1 : Int) = (s1 : Int) by omega, wrap_u64n _ (by omega)]
                  have k3 : Int.tmod (s1 : Int) 4294967296 = (y : Int) := by rw [Int.tmod_eq_emod_of_nonneg (by omega)]; omega
                  have k5 : IntKind.u64.wrap (y : Int) = (y : Int) := wrap_u64n _ (by omega)
                  have HX1 := Lib.hid hx1
                  have HX2 := Lib.hid hx2
                  clear hh hv hy hs1 hx1 hx2
                  go_upto_region 40 with fail
                  refine wp_region_dn [.blk [0, 1, 2, 3, 4, 5, 6, 7, 8, 9, 10, 11, 12, 13], .frc [14]] (by kernel_rfl) (by kernel_rfl) (fun _ _ _ _ _ h => h) ?_
                  refine goS_dn ?_
                  simp only [opsAt, List.filterMap_cons, List.filterMap_nil, List.getElem?_toArray, List.getElem?_cons_zero, List.getElem?_cons_succ]
                  iterate 14 quiet_step (fail)
                  refine wpQuiet_nil ?_
                  rintro _ ⟨nq, rfl⟩
                  refine goS_last ?_
                  simp only [opsAt, List.filterMap_cons, List.filterMap_nil, List.getElem?_toArray, List.getElem?_cons_zero, List.getElem?_cons_succ]
                  have hD := HD.out.drewN (1 + nq)
                  have cq := hD.ch m hm2
                  simp only [if_neg (Nat.lt_irrefl m)] at cq
                  rw [HX1.out] at cq
                  have fq := hD.fz m
                  have HD2 := Lib.hid hD
                  clear hD cp cv' k1 k3 k5 HD
                  go_wp2_with fail
                  go_roundw
                  case rel =>
                    refine ⟨m + 1, by omega, by go_num, (HD2.out.set m _ y rfl).congr fun k _ => ?_⟩
                    unfold Sha.upd
                    by_cases e : k = m
                    · subst e; rw [if_pos rfl, if_pos (by omega), HX1.out, HX2.out, HY.out]
                    · rw [if_neg e]
                      by_cases e2 : k < m
                      · simp only [if_pos e2]; rw [if_pos (by omega)]
                      · simp only [if_neg e2]; rw [if_neg (by omega)]
                  case measure => simp [intOf]; omega
                · have hd : decide ((m : Int) < 8) = false := decide_eq_false (by omega)
                  have htw : IntKind.i64.wrap ((t : Int) + 64) = ((t + 64 : Nat) : Int) := by rw [IntWalk.i64_in _ (by omega)]; omega
                  have HEND : Hid (RH w0 wr bk bh g o L' H2) := hD.r.congr fun k hk => by
                    rw [HBL.out, if_pos (by omega)]
                  clear hD hm hm2
                  go_wp2_with fail
                  go_roundw
                  case rel => exact ⟨n + 1, t + 64, by have := HT.out; omega, htl, by go_num, by rw [HH2.out]; exact HEND.out⟩
                  case measure => simp [intOf]; omega
            · have hd : decide ((t : Int) < (L'.length : Int)) = false := decide_eq_false (by omega)
              have hd' : decide (t < L'.length) = false := decide_eq_false hn2
              have HSUM : Hid (Sha.sum (bl s) = (List.range 32).map (Sha.out (Sha.blks Sha.start (Sha.byteAt L') n))) := by
                show _ = _
                unfold Sha.sum
                rw [HPP.out, show L'.length / 64 = n by omega]
              have HHB := Lib.hid (Sha.blks_bd Sha.start_bd (Sha.byteAt L') n)
              generalize Sha.blks Sha.start (Sha.byteAt L') n = H at *
              have hlow := hRH.b
              have hlo := hRH.lo
              obtain ⟨ch, hAH⟩ := hRH.h
              clear ht hn hn2 hRH HPP HPM HPB
              have hI : (wr.alloc (.cells #[Value.int .u8 0, Value.int .u8 0, Value.int .u8 0, Value.int .u8 0, Value.int .u8 0, Value.int .u8 0, Value.int .u8 0, Value.int .u8 0, Value.int .u8 0, Value.int .u8 0, Value.int .u8 0, Value.int .u8 0, Value.int .u8 0, Value.int .u8 0, Value.int .u8 0, Value.int .u8 0, Value.int .u8 0, Value.int .u8 0, Value.int .u8 0, Value.int .u8 0, Value.int .u8 0, Value.int .u8 0, Value.int .u8 0, Value.int .u8 0, Value.int .u8 0, Value.int .u8 0, Value.int .u8 0, Value.int .u8 0, Value.int .u8 0, Value.int .u8 0, Value.int .u8 0, Value.int .u8 0] 47)).heap[wr.heap.size]? = some (.cells #[Value.int .u8 0, Value.int .u8 0, Value.int .u8 0, Value.int .u8 0, Value.int .u8 0, Value.int .u8 0, Value.int .u8 0, Value.int .u8 0, Value.int .u8 0, Value.int .u8 0, Value.int .u8 0, Value.int .u8 0, Value.int .u8 0, Value.int .u8 0, Value.int .u8 0, Value.int .u8 0, Value.int .u8 0, Value.int .u8 0, Value.int .u8 0, Value.int .u8 0, Value.int .u8 0, Value.int .u8 0, Value.int .u8 0, Value.int .u8 0, Value.int .u8 0, Value.int .u8 0, Value.int .u8 0, Value.int .u8 0, Value.int .u8 0, Value.int .u8 0, Value.int .u8 0, Value.int .u8 0] 47 (0, 0)) := Array.getElem?_push_size
              have hbI : Below wr.heap.size wr (wr.alloc (.cells #[Value.int .u8 0, Value.int .u8 0, Value.int .u8 0, Value.int .u8 0, Value.int .u8 0, Value.int .u8 0, Value.int .u8 0, Value.int .u8 0, Value.int .u8 0, Value.int .u8 0, Value.int .u8 0, Value.int .u8 0, Value.int .u8 0, Value.int .u8 0, Value.int .u8 0, Value.int .u8 0, Value.int .u8 0, Value.int .u8 0, Value.int .u8 0, Value.int .u8 0, Value.int .u8 0, Value.int .u8 0, Value.int .u8 0, Value.int .u8 0, Value.int .u8 0, Value.int .u8 0, Value.int .u8 0, Value.int .u8 0, Value.int .u8 0, Value.int .u8 0, Value.int .u8 0, Value.int .u8 0] 47)) := (Below.refl _ wr).alloc (Nat.le_refl _) _
              go_upto_region 42 with (refine wp_storeB rfl 47 _ _ rfl wr.heap.size #[Value.int .u8 0, Value.int .u8 0, Value.int .u8 0, Value.int .u8 0, Value.int .u8 0, Value.int .u8 0, Value.int .u8 0, Value.int .u8 0, Value.int .u8 0, Value.int .u8 0, Value.int .u8 0, Value.int .u8 0, Value.int .u8 0, Value.int .u8 0, Value.int .u8 0, Value.int .u8 0, Value.int .u8 0, Value.int .u8 0, Value.int .u8 0, Value.int .u8 0, Value.int .u8 0, Value.int .u8 0, Value.int .u8 0, Value.int .u8 0, Value.int .u8 0, Value.int .u8 0, Value.int .u8 0, Value.int .u8 0, Value.int .u8 0, Value.int .u8 0, Value.int .u8 0, Value.int .u8 0] rfl rfl hI (by kernel_rfl) (by kernel_rfl) (by kernel_rfl) ?_; intro wi hi3 gi)
              have hbi : Below wr.heap.size wr wi := hbI.grown gi (by simp) (fun k e => by injection e with e; omega)
              have hOS : OS w0 wi wr.heap.size bh H (fun q => if q < 0 then Sha.out H q else 0) :=
                ⟨⟨hlow.trans (hbi.mono hlow.size), ⟨_, (arr_nums (List.replicate 32 0) hi3).congr fun q hq => by
                  rw [if_neg (by omega), List.getD_eq_getElem?_getD, List.getElem?_eq_getElem hq, List.getElem_replicate]; rfl⟩, hlow.size⟩, ⟨ch, hAH.below hbi⟩, by have := hAH.lt; omega⟩
              generalize wr.heap.size = bi at *
              clear hi3 gi hbi hI hbI hAH hlow hlo
              go_wp2_with fail
              go_loopw [24] (fun iv wx => ∃ i : Nat, i ≤ 32 ∧ iv = .int .i64 i ∧ OS w0 wx bi bh H (fun q => if q < i then Sha.out H q else 0)) (fun iv _ => (32 - intOf iv).toNat)
              case atStart => exact ⟨0, by omega, rfl, hOS⟩
              case round =>
                clear hOS
                obtain ⟨i, hi, rfl, hO⟩ := hrel
                by_cases hi2 : i < 32
                · have hd : decide ((i : Int) < 32) = true := decide_eq_true (by omega)
                  have k1 : IntKind.i64.wrap (Int.tdiv (i : Int) 4) = ((i / 4 : Nat) : Int) := by rw [Int.tdiv_eq_ediv_of_nonneg (by omega), IntWalk.i64_in _ (by omega)]; omega
                  have k2 : Int.tmod (i : Int) 4 = ((i % 4 : Nat) : Int) := by rw [Int.tmod_eq_emod_of_nonneg (by omega)]; omega
                  have k0' : (i : Int) / 4 = ((i / 4 : Nat) : Int) := by omega
                  have k2' : (i : Int) % 4 = ((i % 4 : Nat) : Int) := by omega
                  have k0 : Int.tdiv (i : Int) 4 = ((i / 4 : Nat) : Int) := by rw [Int.tdiv_eq_ediv_of_nonneg (by omega)]; omega
                  have hq4 : i / 4 < 8 := by omega
                  have cH := hO.ch (i / 4) hq4
                  have hHb := HHB.out (i / 4)
                  have HOV : Hid (Sha.out H i = H (i / 4) / 2 ^ (24 - 8 * (i % 4)) % 256) := by
                    show _ = _
                    unfold Sha.out
                    rw [show (256 : Nat) ^ (3 - i % 4) = 2 ^ (24 - 8 * (i % 4)) by rw [show 24 - 8 * (i % 4) = 8 * (3 - i % 4) by omega, Nat.pow_mul]]
                  have hw1 : IntKind.i64.wrap ((i : Int) + 1) = (i : Int) + 1 := IntWalk.i64_in _ (by omega)
                  have hm4 : i % 4 < 4 := by omega
                  generalize i / 4 = q4 at *
                  generalize i % 4 = r4 at *
                  have k3 : IntKind.i64.wrap (8 * (r4 : Int)) = ((8 * r4 : Nat) : Int) := by rw [IntWalk.i64_in _ (by omega)]; omega
                  have k3' : 8 * (r4 : Int) = ((8 * r4 : Nat) : Int) := by omega
                  have hr8 : 8 * r4 ≤ 24 := by omega
                  generalize 8 * r4 = r8 at *
                  have k4 : IntKind.i64.wrap (24 - (r8 : Int)) = ((24 - r8 : Nat) : Int) := by rw [IntWalk.i64_in _ (by omega)]; omega
                  have k4' : 24 - (r8 : Int) = ((24 - r8 : Nat) : Int) := by omega
                  have hs24 : 24 - r8 ≤ 24 := by omega
                  generalize 24 - r8 = sh at *
                  generalize hHq : H q4 = hv at *
                  have hdl := Nat.div_le_self hv (2 ^ sh)
                  have HDR := Lib.hid (drop_c (w := wr) (x := hv) (by omega) sh (by omega))
                  generalize hv / 2 ^ sh = dv at *
                  have k5 : Int.tmod (dv : Int) 256 = ((dv % 256 : Nat) : Int) := by rw [Int.tmod_eq_emod_of_nonneg (by omega)]; omega
                  have k5' : (dv : Int) % 256 = ((dv % 256 : Nat) : Int) := by omega
                  have hyl : dv % 256 < 256 := Nat.mod_lt _ (by omega)
                  generalize dv % 256 = y at *
                  have k6 : IntKind.u64.wrap (y : Int) = (y : Int) := wrap_u64n _ (by omega)
                  have k7' : (y : Int) % 256 = (y : Int) := by omega
                  have k7 : IntKind.u8.wrap (y : Int) = (y : Int) := by simp [IntKind.wrap, IntKind.bits, IntKind.signed]; omega
                  have i1 : (q4 : Int) < 8 := by omega
                  have i2 : (i : Int) < 32 := by omega
                  have HO := Lib.hid hO
                  clear hO hdl hyl hHb hHq
                  have ci := HO.out.c i hi2
                  have fi := HO.out.fz i
                  go_wp2_with (go_at_call 75; refine HDR.out.mono ?_; rintro e w' ⟨rfl, rfl⟩)
                  go_roundw
                  case rel =>
                    refine ⟨i + 1, by omega, by go_num, HO.out.set i y fun q hq => ?_⟩
                    by_cases e : q = i
                    · subst e; rw [if_pos rfl, if_pos (by omega), HOV.out]
                    · rw [if_neg e]
                      by_cases e2 : q < i
                      · rw [if_pos e2, if_pos (by omega)]
                      · rw [if_neg e2, if_neg (by omega)]
                  case measure => simp [intOf]; omega
                · have hd : decide ((i : Int) < 32) = false := decide_eq_false (by omega)
                  obtain ⟨csI, hAI⟩ := hO.i.a
                  have hb9 := hO.i.b
                  have hres : wr.heap[w.heap.size]? = some (.cells (nums .u8 (List.replicate 32 0)) 47 (0, 0)) := (hb9.block _ (by have := HS0.out; omega)).trans HID.out
                  have hAIh := hAI.h
                  have hAIs := hAI.sz
                  have hAIo := hAI.one
                  have hEQ : Hid (csI = nums .u8 (Sha.sum (bl s))) := by
                    show _ = _
                    rw [HSUM.out]
                    apply Array.ext_getElem?
                    intro q
                    by_cases hq : q < 32
                    · rw [hAI.at_ q hq, if_pos (by omega)]
                      unfold nums
                      rw [List.getElem?_toArray, List.getElem?_map, List.getElem?_map, List.getElem?_range hq]; rfl
                    · rw [Array.getElem?_eq_none (by omega), Array.getElem?_eq_none (by simp [nums]; omega)]
                  clear hO hAI
                  have HB9 := Lib.hid hb9
                  clear hb9
                  go_wp2_with (first
                    | (refine wp_loadB rfl 47 _ rfl bi rfl hAIh _ Tryd.underlying47 rfl (by rw [Array.length_toList, hAIs]; kernel_rfl) ?_)
                    | (refine wp_storeB rfl 47 _ _ rfl w.heap.size csI rfl rfl hres (by rw [hAIs]; kernel_rfl) (by rw [hAIs]; kernel_rfl) hAIo ?_; intro w9 h9 g9))
                  (try simp only [Exit.inBlock, Exit.then])
                  refine bodyPost_ret (results_cell Tryd.results32 rfl h9 Tryd.underlying47 rfl (by rw [Array.length_toList, hAIs]; kernel_rfl)) rfl ?_
                  rw [hEQ.out]
                  refine ⟨rfl, ?_⟩
                  have hbb := HB0.out.trans (HB9.out.mono HB0.out.size)
                  exact hbb.grown g9 hbb.size (fun k e => by injection e with e; omega)
end Go.Proofs.YtfoamcobpfflbaaDoor
