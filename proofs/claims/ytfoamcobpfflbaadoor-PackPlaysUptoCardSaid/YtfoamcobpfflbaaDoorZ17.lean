/- Texts of mine, joined: Walk: the words of a block, in the document's SHA-256. -/
import Derived.Test.YtfoamcobpfflbaaDoorZ16
namespace Go.Proofs.YtfoamcobpfflbaaDoor
open Go Go.RowKit

set_option maxRecDepth 100000 in
set_option maxHeartbeats 2000000 in
theorem wloop_c {w0 : World} {bk bh g o n t bw rc : Nat} {L' : List Nat} {H B : Nat → Nat} {u0 u1 u2 u3 u5 u6 u7 u8 u13 u14 u15 u16 u17 u18 u19 u20 u21 u22 u23 u24 u25 u26 u27 u28 u29 u30 u31 u32 u33 u34 u35 u36 u37 u38 u39 u40 u41 u42 u43 u44 u45 u46 u47 u48 u49 u50 u51 u52 u53 u54 u55 u56 u57 u58 u59 u60 u61 u62 u63 u64 u65 u66 u67 u68 u69 u70 u71 u72 u73 u74 u75 u76 u77 u78 u79 u80 u81 u82 u83 u84 u85 u86 u87 u88 u89 u90 u91 u92 u93 u94 u95 u96 u97 u98 u99 u100 u101 u102 u103 u104 u105 u106 u107 u108 u109 u110 u111 u112 u113 u114 u115 u116 u117 u118 u119 u120 u121 u122 u123 u124 u125 u126 u127 u128 u129 u130 u131 u132 u133 u134 u135 u136 u137 u138 u139 u140 u141 u142 u143 u144 u145 u146 u147 u148 u149 u150 u151 u152 u153 u154 u155 u156 u157 u158 u159 u160 u161 u162 u163 u164 u165 u166 u167 u168 u169 u170 u171 u172 u173 u174 u175 u176 u177 u178 u179 u180 u181 u182 u183 u184 u185 u186 u187 u188 u189 u190 u191 u192 u193 u194 u195 u196 u197 u198 u199 u200 u201 u202 u203 u204 u205 u206 u207 u208 u209 u210 u211 u212 u213 u214 u215 u216 u217 u218 u219 u220 u221 u222 u223 u224 u225 u226 u227 u228 u229 u230 u231 u232 u233 u234 u235 u236 u237 u238 u239 u240 u241 u242 u243 u244 u245 u246 u247 u248 u249 u250 u251 u252 u253 u254 u255 u256 u257 u258 u259 u260 u261 u262 u263 u264 u265 u266 u267 u268 u269 u270 u271 u272 u273 u274 u275 u276 u277 u278 u279 u280 u281 u282 u283 u284 u285 u286 u287 u288 u289 u290 u291 u292 u293 u294 u295 u296 u297 u298 : Value} {Q : Exit → Act → World → Prop} {W : World}
    (hWS0 : WS w0 W bk bh g o L' H bw (fun _ => 0)) (HBb : Hid (∀ j, B j < 256)) (HBe : Hid (∀ j, B j = Sha.byteAt L' (64 * n + j))) (HT : Hid (64 * n = t)) (htl : t + 64 ≤ L'.length) (hPm : L'.length ≤ 200000000)
    (hpan : ∀ (d : Tmp) (v : Value) c a w, Q (.panic c) (a.put (some d) v) w → Q (.panic c) a w)
    (hexit : ∀ (v12 v13 v14 v15 v63 v64 v65 v66 v67 v68 v69 v70 v71 v72 v73 v74 v75 v76 v77 v78 v79 v80 v81 v82 v83 v84 v85 v86 v87 v88 v89 v90 v91 v92 v93 v94 v95 v96 v97 v98 v99 v100 v101 v102 v103 v104 v105 v106 v107 v108 v109 v110 v111 v112 v113 v114 v115 v116 v117 v118 v119 v120 v121 v122 v123 v124 v125 v126 v127 v128 v129 v130 v131 v132 v133 v134 v135 : Value) (wx : World), WS w0 wx bk bh g o L' H bw (Sha.sched B 64) → Q (.exit 6) ⟨(List.toArray (u0 :: u1 :: u2 :: u3 :: .slice (some ⟨g, o, none⟩) L'.length rc :: u5 :: u6 :: u7 :: u8 :: .int .u64 4294967296 :: .int .i64 t :: .slice (some ⟨bw, 0, none⟩) 64 64 :: v12 :: v13 :: v14 :: v15 :: u16 :: u17 :: u18 :: u19 :: u20 :: u21 :: u22 :: u23 :: u24 :: u25 :: u26 :: u27 :: u28 :: u29 :: u30 :: u31 :: u32 :: u33 :: u34 :: u35 :: u36 :: u37 :: u38 :: u39 :: u40 :: u41 :: u42 :: u43 :: u44 :: u45 :: u46 :: u47 :: u48 :: u49 :: u50 :: u51 :: u52 :: u53 :: u54 :: u55 :: u56 :: u57 :: u58 :: u59 :: u60 :: u61 :: u62 :: v63 :: v64 :: v65 :: v66 :: v67 :: v68 :: v69 :: v70 :: v71 :: v72 :: v73 :: v74 :: v75 :: v76 :: v77 :: v78 :: v79 :: v80 :: v81 :: v82 :: v83 :: v84 :: v85 :: v86 :: v87 :: v88 :: v89 :: v90 :: v91 :: v92 :: v93 :: v94 :: v95 :: v96 :: v97 :: v98 :: v99 :: v100 :: v101 :: v102 :: v103 :: v104 :: v105 :: v106 :: v107 :: v108 :: v109 :: v110 :: v111 :: v112 :: v113 :: v114 :: v115 :: v116 :: v117 :: v118 :: v119 :: v120 :: v121 :: v122 :: v123 :: v124 :: v125 :: v126 :: v127 :: v128 :: v129 :: v130 :: v131 :: v132 :: v133 :: v134 :: v135 :: u136 :: u137 :: u138 :: u139 :: u140 :: u141 :: u142 :: u143 :: u144 :: u145 :: u146 :: u147 :: u148 :: u149 :: u150 :: u151 :: u152 :: u153 :: u154 :: u155 :: u156 :: u157 :: u158 :: u159 :: u160 :: u161 :: u162 :: u163 :: u164 :: u165 :: u166 :: u167 :: u168 :: u169 :: u170 :: u171 :: u172 :: u173 :: u174 :: u175 :: u176 :: u177 :: u178 :: u179 :: u180 :: u181 :: u182 :: u183 :: u184 :: u185 :: u186 :: u187 :: u188 :: u189 :: u190 :: u191 :: u192 :: u193 :: u194 :: u195 :: u196 :: u197 :: u198 :: u199 :: u200 :: u201 :: u202 :: u203 :: u204 :: u205 :: u206 :: u207 :: u208 :: u209 :: u210 :: u211 :: u212 :: u213 :: u214 :: u215 :: u216 :: u217 :: u218 :: u219 :: u220 :: u221 :: u222 :: u223 :: u224 :: u225 :: u226 :: u227 :: u228 :: u229 :: u230 :: u231 :: u232 :: u233 :: u234 :: u235 :: u236 :: u237 :: u238 :: u239 :: u240 :: u241 :: u242 :: u243 :: u244 :: u245 :: u246 :: u247 :: u248 :: u249 :: u250 :: u251 :: u252 :: u253 :: u254 :: u255 :: u256 :: u257 :: u258 :: u259 :: u260 :: u261 :: u262 :: u263 :: u264 :: u265 :: u266 :: u267 :: u268 :: u269 :: u270 :: u271 :: u272 :: u273 :: u274 :: u275 :: u276 :: u277 :: u278 :: u279 :: u280 :: u281 :: u282 :: u283 :: u284 :: u285 :: u286 :: u287 :: u288 :: u289 :: u290 :: u291 :: u292 :: u293 :: u294 :: u295 :: u296 :: u297 :: u298 :: [])), []⟩ wx) :
    Code.wp Tryd.prog (Code.loop wBody) Q ⟨(List.toArray (u0 :: u1 :: u2 :: u3 :: .slice (some ⟨g, o, none⟩) L'.length rc :: u5 :: u6 :: u7 :: u8 :: .int .u64 4294967296 :: .int .i64 t :: .slice (some ⟨bw, 0, none⟩) 64 64 :: .int .i64 0 :: u13 :: u14 :: u15 :: u16 :: u17 :: u18 :: u19 :: u20 :: u21 :: u22 :: u23 :: u24 :: u25 :: u26 :: u27 :: u28 :: u29 :: u30 :: u31 :: u32 :: u33 :: u34 :: u35 :: u36 :: u37 :: u38 :: u39 :: u40 :: u41 :: u42 :: u43 :: u44 :: u45 :: u46 :: u47 :: u48 :: u49 :: u50 :: u51 :: u52 :: u53 :: u54 :: u55 :: u56 :: u57 :: u58 :: u59 :: u60 :: u61 :: u62 :: u63 :: u64 :: u65 :: u66 :: u67 :: u68 :: u69 :: u70 :: u71 :: u72 :: u73 :: u74 :: u75 :: u76 :: u77 :: u78 :: u79 :: u80 :: u81 :: u82 :: u83 :: u84 :: u85 :: u86 :: u87 :: u88 :: u89 :: u90 :: u91 :: u92 :: u93 :: u94 :: u95 :: u96 :: u97 :: u98 :: u99 :: u100 :: u101 :: u102 :: u103 :: u104 :: u105 :: u106 :: u107 :: u108 :: u109 :: u110 :: u111 :: u112 :: u113 :: u114 :: u115 :: u116 :: u117 :: u118 :: u119 :: u120 :: u121 :: u122 :: u123 :: u124 :: u125 :: u126 :: u127 :: u128 :: u129 :: u130 :: u131 :: u132 :: u133 :: u134 :: u135 :: u136 :: u137 :: u138 :: u139 :: u140 :: u141 :: u142 :: u143 :: u144 :: u145 :: u146 :: u147 :: u148 :: u149 :: u150 :: u151 :: u152 :: u153 :: u154 :: u155 :: u156 :: u157 :: u158 :: u159 :: u160 :: u161 :: u162 :: u163 :: u164 :: u165 :: u166 :: u167 :: u168 :: u169 :: u170 :: u171 :: u172 :: u173 :: u174 :: u175 :: u176 :: u177 :: u178 :: u179 :: u180 :: u181 :: u182 :: u183 :: u184 :: u185 :: u186 :: u187 :: u188 :: u189 :: u190 :: u191 :: u192 :: u193 :: u194 :: u195 :: u196 :: u197 :: u198 :: u199 :: u200 :: u201 :: u202 :: u203 :: u204 :: u205 :: u206 :: u207 :: u208 :: u209 :: u210 :: u211 :: u212 :: u213 :: u214 :: u215 :: u216 :: u217 :: u218 :: u219 :: u220 :: u221 :: u222 :: u223 :: u224 :: u225 :: u226 :: u227 :: u228 :: u229 :: u230 :: u231 :: u232 :: u233 :: u234 :: u235 :: u236 :: u237 :: u238 :: u239 :: u240 :: u241 :: u242 :: u243 :: u244 :: u245 :: u246 :: u247 :: u248 :: u249 :: u250 :: u251 :: u252 :: u253 :: u254 :: u255 :: u256 :: u257 :: u258 :: u259 :: u260 :: u261 :: u262 :: u263 :: u264 :: u265 :: u266 :: u267 :: u268 :: u269 :: u270 :: u271 :: u272 :: u273 :: u274 :: u275 :: u276 :: u277 :: u278 :: u279 :: u280 :: u281 :: u282 :: u283 :: u284 :: u285 :: u286 :: u287 :: u288 :: u289 :: u290 :: u291 :: u292 :: u293 :: u294 :: u295 :: u296 :: u297 :: u298 :: [])), []⟩ W := by
  conv => arg 2; arg 1; whnf
  go_loopw [12] (fun iv wx => ∃ i : Nat, i ≤ 64 ∧ iv = .int .i64 i ∧ WS w0 wx bk bh g o L' H bw (Sha.sched B i)) (fun iv _ => (64 - intOf iv).toNat)
  case atStart => exact ⟨0, by omega, rfl, hWS0⟩
  case round =>
    clear hWS0
    obtain ⟨i, hi, rfl, hW⟩ := hrel
    by_cases hi2 : i < 64
    · have hd : decide ((i : Int) < 64) = true := decide_eq_true (by omega)
      by_cases hi3 : i < 16
      · have hd3 : decide ((i : Int) < 16) = true := decide_eq_true (by omega)
        go_upto_region 22 with fail
        go_loopw [13] (fun iv wx => ∃ j : Nat, j ≤ 4 ∧ iv = .int .i64 j ∧ WS w0 wx bk bh g o L' H bw (Sha.upd (Sha.sched B i) i (Sha.wrd B i j))) (fun iv _ => (4 - intOf iv).toNat)
        case atStart => exact ⟨0, by omega, rfl, hW.congr fun z _ => (by
          unfold Sha.upd
          split
          · subst z; exact Sha.sched_zero _ _ _ (Nat.le_refl _)
          · rfl : Sha.sched B i z = Sha.upd (Sha.sched B i) i (Sha.wrd B i 0) z)⟩
        case round =>
          clear hW
          obtain ⟨j, hj, rfl, hW⟩ := hrel
          have hd8 := hd
          clear hd
          by_cases hj2 : j < 4
          · have hd : decide ((j : Int) < 4) = true := decide_eq_true (by omega)
            obtain ⟨x4, hx4⟩ : ∃ x4, x4 = 4 * i := ⟨_, rfl⟩
            obtain ⟨u, hu⟩ : ∃ u, u = t + x4 := ⟨_, rfl⟩
            obtain ⟨m, hm⟩ : ∃ m, m = u + j := ⟨_, rfl⟩
            have k1 : IntKind.i64.wrap (4 * (i : Int)) = (x4 : Int) := by rw [IntWalk.i64_in _ (by omega)]; omega
            have k2 : IntKind.i64.wrap ((t : Int) + (x4 : Int)) = (u : Int) := by rw [IntWalk.i64_in _ (by omega)]; omega
            have k3 : IntKind.i64.wrap ((u : Int) + (j : Int)) = (m : Int) := by rw [IntWalk.i64_in _ (by omega)]; omega
            have kb : (m : Int) < (L'.length : Int) := by omega
            have kb0 : (0 : Int) ≤ (m : Int) := by omega
            have hbyte : Sha.byteAt L' m = B (4 * i + j) := by rw [HBe.out, HT.out]; congr 1; omega
            have cb := hW.r.s m (by omega)
            rw [hbyte] at cb
            have cw := hW.c i hi2
            rw [show Sha.upd (Sha.sched B i) i (Sha.wrd B i j) i = Sha.wrd B i j by unfold Sha.upd; rw [if_pos rfl]] at cw
            have fw := hW.fz i
            have hv := Sha.wrd_lt HBb.out i j
            have hv2 : 256 ^ j ≤ 256 ^ 3 := Nat.pow_le_pow_right (by omega) (by omega)
            have hy := HBb.out (4 * i + j)
            have HNX : Hid (Sha.wrd B i (j + 1) = Sha.wrd B i j * 256 + B (4 * i + j)) := rfl
            have HUP : Hid (∀ v, Sha.upd (Sha.upd (Sha.sched B i) i (Sha.wrd B i j)) i v = Sha.upd (Sha.sched B i) i v) := fun v => by funext z; unfold Sha.upd; split <;> rfl
            have HW := Lib.hid hW
            clear hW hbyte
            generalize Sha.wrd B i j = v at *
            generalize B (4 * i + j) = y at *
            obtain ⟨v2, hv3⟩ : ∃ v2, v2 = v * 256 := ⟨_, rfl⟩
            obtain ⟨v4, hv5⟩ : ∃ v4, v4 = v2 + y := ⟨_, rfl⟩
            have k4 : IntKind.u64.wrap ((v : Int) * 256) = (v2 : Int) := by rw [show (v : Int) * 256 = (v2 : Int) by omega, wrap_u64n _ (by omega)]
            have k5 : IntKind.u64.wrap (y : Int) = (y : Int) := wrap_u64n _ (by omega)
            have k6 : IntKind.u64.wrap ((v2 : Int) + (y : Int)) = (v4 : Int) := by rw [show (v2 : Int) + (y : Int) = (v4 : Int) by omega, wrap_u64n _ (by omega)]
            have HV4 : Hid (v4 = v * 256 + y) := by show _ = _; omega
            have i1 : (i : Int) < 64 := by omega
            have hw1 : IntKind.i64.wrap ((j : Int) + 1) = (j : Int) + 1 := IntWalk.i64_in _ (by omega)
            clear hx4 hu hm hv hv2 hy hv3 hv5
            go_upto_region 24 with fail
            refine wp_region_dn [.blk [0, 1, 2, 3, 4, 5, 6, 7, 8, 9, 10, 11, 12, 13, 14, 15, 16, 17, 18], .frc [19]] (by kernel_rfl) (by kernel_rfl) (fun d v c a w h => hpan d v c a w h) ?_
            refine goS_dn ?_
            simp only [opsAt, List.filterMap_cons, List.filterMap_nil, List.getElem?_toArray, List.getElem?_cons_zero, List.getElem?_cons_succ]
            iterate 19 quiet_step (fail)
            refine wpQuiet_nil ?_
            rintro _ ⟨nq, rfl⟩
            refine goS_last ?_
            simp only [opsAt, List.filterMap_cons, List.filterMap_nil, List.getElem?_toArray, List.getElem?_cons_zero, List.getElem?_cons_succ]
            have hW := HW.out.drewN (1 + nq)
            have cq := hW.c i hi2
            have fq := hW.fz i
            have HW2 := Lib.hid hW
            clear hW HW cw cb fw
            go_wp2_with fail
            go_roundw
            case rel =>
              refine ⟨j + 1, by omega, by go_num, ?_⟩
              rw [HNX.out, ← HUP.out]
              exact HW2.out.set i _ _ (by rw [HV4.out])
            case measure => simp [intOf]; omega
          · have hd : decide ((j : Int) < 4) = false := decide_eq_false (by omega)
            have hj4 : j = 4 := by omega
            have hw1 : IntKind.i64.wrap ((i : Int) + 1) = (i : Int) + 1 := IntWalk.i64_in _ (by omega)
            have HW2 : Hid (WS w0 wr bk bh g o L' H bw (Sha.sched B (i + 1))) := hW.congr fun z _ => by
              rw [hj4]
              show _ = Sha.upd (Sha.sched B i) i (if i < 16 then Sha.wrd B i 4 else _) z
              rw [if_pos hi3]
            clear hW hj4
            go_wp2_with fail
            go_roundw
            case rel => exact ⟨i + 1, by omega, by go_num, HW2.out⟩
            case measure => simp [intOf]; omega
      · have hd3 : decide ((i : Int) < 16) = false := decide_eq_false (by omega)
        have x15 : IntKind.i64.wrap ((i : Int) - 15) = ((i - 15 : Nat) : Int) := by rw [IntWalk.i64_in _ (by omega)]; omega
        have x2 : IntKind.i64.wrap ((i : Int) - 2) = ((i - 2 : Nat) : Int) := by rw [IntWalk.i64_in _ (by omega)]; omega
        have x16 : IntKind.i64.wrap ((i : Int) - 16) = ((i - 16 : Nat) : Int) := by rw [IntWalk.i64_in _ (by omega)]; omega
        have x7 : IntKind.i64.wrap ((i : Int) - 7) = ((i - 7 : Nat) : Int) := by rw [IntWalk.i64_in _ (by omega)]; omega
        have c15 := hW.c (i - 15) (by omega)
        have c2 := hW.c (i - 2) (by omega)
        have c16 := hW.c (i - 16) (by omega)
        have c7 := hW.c (i - 7) (by omega)
        have l1 : i - 15 < 64 := by omega
        have l2 : i - 2 < 64 := by omega
        have l3 : i - 16 < 64 := by omega
        have l4 : i - 7 < 64 := by omega
        have m1 : ((i - 15 : Nat) : Int) < 64 := by omega
        have m2 : ((i - 2 : Nat) : Int) < 64 := by omega
        have m3 : ((i - 16 : Nat) : Int) < 64 := by omega
        have m4 : ((i - 7 : Nat) : Int) < 64 := by omega
        have m5 : (i : Int) < 64 := by omega
        have HBD := Lib.hid (Sha.sched_bd HBb.out i)
        have HNEW : Hid (Sha.wnew (Sha.sched B i) i = (Sha.sched B i (i - 16) + Sha.sched B i (i - 7) + Sha.sg0 (Sha.sched B i (i - 15)) + Sha.sg1 (Sha.sched B i (i - 2))) % 4294967296) := rfl
        have hx := HBD.out (i - 15)
        have hy := HBD.out (i - 2)
        have hu := HBD.out (i - 16)
        have hv := HBD.out (i - 7)
        have HWD := Lib.hid hW
        clear hW HBD
        generalize Sha.sched B i (i - 15) = x at *
        generalize Sha.sched B i (i - 2) = y at *
        generalize Sha.sched B i (i - 16) = u at *
        generalize Sha.sched B i (i - 7) = v at *
        go_upto_region 27 with fail
        clear x15 x2 x16 x7 c15 c2 l1 l2 m1 m2
        have R : ∀ (x : Nat), x < 4294967296 → ∀ n : Nat, n ≤ 32 → ∀ q, Calls Tryd.prog 74 #[.int .u64 x, .int .i64 (n : Int)] (wr.drewN (1 + q)) fun e w' => e = .returned (.int .u64 (Sha.rotr x n)) ∧ ∃ q', w' = wr.drewN (1 + q') :=
          fun x hx n hn q => (turn_c (w := wr.drewN (1 + q)) hx n hn).mono fun e w' ⟨h, q2, h2⟩ => ⟨h, q + q2, by rw [h2]; simp [World.drewN, Nat.add_assoc]⟩
        have DR : ∀ (x : Nat), x < 4294967296 → ∀ (n d : Nat), n ≤ 64 → d = x / 2 ^ n → ∀ q, Calls Tryd.prog 75 #[.int .u64 x, .int .i64 (n : Int)] (wr.drewN (1 + q)) fun e w' => e = .returned (.int .u64 d) ∧ ∃ q', w' = wr.drewN (1 + q') :=
          fun x hx n d hn hd q => (drop_c (w := wr.drewN (1 + q)) (by omega) n hn).mono fun e w' ⟨h, h2⟩ => ⟨by rw [h, hd], q, h2⟩
        have R1 := Lib.hid (R x hx 7 (by omega))
        have R2 := Lib.hid (R x hx 18 (by omega))
        have R3 := Lib.hid (R y hy 17 (by omega))
        have R4 := Lib.hid (R y hy 19 (by omega))
        have R5 := Lib.hid (DR x hx 3 (x / 8) (by omega) rfl)
        have R6 := Lib.hid (DR y hy 10 (y / 1024) (by omega) rfl)
        have b1 := Sha.rotr_lt hx (show 7 ≤ 32 by omega)
        have b2 := Sha.rotr_lt hx (show 18 ≤ 32 by omega)
        have b3 := Sha.rotr_lt hy (show 17 ≤ 32 by omega)
        have b4 := Sha.rotr_lt hy (show 19 ≤ 32 by omega)
        have X1 := bits_xor_u64_nat (Sha.rotr x 7) (Sha.rotr x 18) (by omega) (by omega)
        have Y1 := bits_xor_u64_nat (Sha.rotr y 17) (Sha.rotr y 19) (by omega) (by omega)
        have b5 := Sha.xor_lt b1 b2
        have b6 := Sha.xor_lt b3 b4
        have X2 : bits .xor .u64 ((Sha.rotr x 7 ^^^ Sha.rotr x 18 : Nat) : Int) ((x / 8 : Nat) : Int) = ((Sha.sg0 x : Nat) : Int) := by
          rw [bits_xor_u64_nat _ _ (by omega) (by omega)]; rfl
        have Y2 : bits .xor .u64 ((Sha.rotr y 17 ^^^ Sha.rotr y 19 : Nat) : Int) ((y / 1024 : Nat) : Int) = ((Sha.sg1 y : Nat) : Int) := by
          rw [bits_xor_u64_nat _ _ (by omega) (by omega)]; rfl
        have b7 := Sha.sg0_lt hx
        have b8 := Sha.sg1_lt hy
        clear R DR
        generalize hX7 : Sha.rotr x 7 ^^^ Sha.rotr x 18 = xx at *
        generalize hY7 : Sha.rotr y 17 ^^^ Sha.rotr y 19 = yy at *
        generalize Sha.rotr x 7 = x7' at *
        generalize Sha.rotr x 18 = x18 at *
        generalize Sha.rotr y 17 = y17 at *
        generalize Sha.rotr y 19 = y19 at *
        generalize Sha.sg0 x = s0 at *
        generalize Sha.sg1 y = s1 at *
        generalize x / 8 = x8 at *
        generalize y / 1024 = y1024 at *
        obtain ⟨a1, ha1⟩ : ∃ a, a = u + v := ⟨_, rfl⟩
        obtain ⟨a2, ha2⟩ : ∃ a, a = a1 + s0 := ⟨_, rfl⟩
        obtain ⟨a3, ha3⟩ : ∃ a, a = a2 + s1 := ⟨_, rfl⟩
        obtain ⟨a4, ha4⟩ : ∃ a, a = a3 % 4294967296 := ⟨_, rfl⟩
        have k1 : IntKind.u64.wrap ((u : Int) + (v : Int)) = (a1 : Int) := by rw [show (u : Int) + (v : Int) = (a1 : Int) by omega, wrap_u64n _ (by omega)]
        have k2 : IntKind.u64.wrap ((a1 : Int) + (s0 : Int)) = (a2 : Int) := by rw [show (a1 : Int) + (s0 : Int) = (a2 : Int) by omega, wrap_u64n _ (by omega)]
        have k3 : IntKind.u64.wrap ((a2 : Int) + (s1 : Int)) = (a3 : Int) := by rw [show (a2 : Int) + (s1 : Int) = (a3 : Int) by omega, wrap_u64n _ (by omega)]
        have k4 : Int.tmod (a3 : Int) 4294967296 = (a4 : Int) := by rw [Int.tmod_eq_emod_of_nonneg (by omega)]; omega
        have k5 : IntKind.u64.wrap (a4 : Int) = (a4 : Int) := wrap_u64n _ (by omega)
        have x16 : IntKind.i64.wrap ((i : Int) - 16) = ((i - 16 : Nat) : Int) := by rw [IntWalk.i64_in _ (by omega)]; omega
        have x7 : IntKind.i64.wrap ((i : Int) - 7) = ((i - 7 : Nat) : Int) := by rw [IntWalk.i64_in _ (by omega)]; omega
        have HNE : Hid ((u + v + s0 + s1) % 4294967296 = a4) := by show _ = _; omega
        clear ha1 ha2 ha3 ha4 hX7 hY7 b1 b2 b3 b4 b5 b6 b7 b8 hx hy hu hv
        refine wp_region_dn [.blk [0, 1, 2, 3, 4, 5, 6, 7, 8, 9, 10, 11, 12, 13, 14, 15, 16, 17, 18, 19, 20, 21, 22, 23, 24, 25, 26, 27, 28, 29, 30, 31, 32, 33], .frc [34]] (by kernel_rfl) (by kernel_rfl) (fun d v c a w h => hpan d v c a w h) ?_
        refine goS_dn ?_
        simp only [opsAt, List.filterMap_cons, List.filterMap_nil, List.getElem?_toArray, List.getElem?_cons_zero, List.getElem?_cons_succ]
        iterate 14 quiet_step (fail)
        quiet_step (exact R1.out _)
        quiet_step (fail)
        quiet_step (exact R2.out _)
        iterate 2 quiet_step (fail)
        quiet_step (exact R5.out _)
        iterate 3 quiet_step (fail)
        quiet_step (exact R3.out _)
        quiet_step (fail)
        quiet_step (exact R4.out _)
        iterate 2 quiet_step (fail)
        quiet_step (exact R6.out _)
        iterate 5 quiet_step (fail)
        refine wpQuiet_nil ?_
        rintro _ ⟨nq2, rfl⟩
        refine goS_last ?_
        simp only [opsAt, List.filterMap_cons, List.filterMap_nil, List.getElem?_toArray, List.getElem?_cons_zero, List.getElem?_cons_succ]
        have hWq := HWD.out.drewN (1 + nq2)
        have cq := hWq.c i hi2
        have fq := hWq.fz i
        have HWQ := Lib.hid hWq
        have hw1 : IntKind.i64.wrap ((i : Int) + 1) = (i : Int) + 1 := IntWalk.i64_in _ (by omega)
        clear hWq c16 c7 X1 X2 Y1 Y2 R1 R2 R3 R4 R5 R6 HWD
        go_wp2_with fail
        go_roundw
        case rel =>
          refine ⟨i + 1, by omega, by go_num, ?_⟩
          show WS w0 _ bk bh g o L' _ bw (Sha.upd (Sha.sched B i) i (if i < 16 then Sha.wrd B i 4 else Sha.wnew (Sha.sched B i) i))
          rw [if_neg hi3, HNEW.out, HNE.out]
          exact HWQ.out.set i _ _ rfl
        case measure => simp [intOf]; omega
    · have hd : decide ((i : Int) < 64) = false := decide_eq_false (by omega)
      have hi64 : i = 64 := by omega
      have hW := (show WS w0 wr bk bh g o L' H bw (Sha.sched B 64) from hi64 ▸ hW)
      clear hi hi2 hi64
      go_wp2_with fail
      exact hW
end Go.Proofs.YtfoamcobpfflbaaDoor
