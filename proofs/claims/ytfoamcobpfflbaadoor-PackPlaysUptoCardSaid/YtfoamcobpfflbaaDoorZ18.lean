/- Texts of mine, joined: Walk: the rounds of a block, in the document's SHA-256. -/
import Derived.Test.YtfoamcobpfflbaaDoorZ17
namespace Go.Proofs.YtfoamcobpfflbaaDoor
open Go Go.RowKit

set_option maxRecDepth 100000 in
set_option maxHeartbeats 4000000 in
theorem vloop_c {w0 : World} {bk bh g o bw bv cv rc : Nat} {L' : List Nat} {H SC : Nat → Nat} {u0 u1 u2 u3 u5 u6 u8 u10 u12 u13 u14 u15 u18 u19 u20 u21 u22 u23 u24 u25 u26 u27 u28 u29 u30 u31 u32 u33 u34 u35 u36 u37 u38 u39 u40 u41 u42 u43 u44 u45 u46 u47 u48 u49 u50 u51 u52 u53 u54 u55 u56 u57 u58 u59 u60 u61 u62 u63 u64 u65 u66 u67 u68 u69 u70 u71 u72 u73 u74 u75 u76 u77 u78 u79 u80 u81 u82 u83 u84 u85 u86 u87 u88 u89 u90 u91 u92 u93 u94 u95 u96 u97 u98 u99 u100 u101 u102 u103 u104 u105 u106 u107 u108 u109 u110 u111 u112 u113 u114 u115 u116 u117 u118 u119 u120 u121 u122 u123 u124 u125 u126 u127 u128 u129 u130 u131 u132 u133 u134 u135 u136 u137 u138 u139 u140 u141 u142 u143 u144 u145 u146 u147 u148 u149 u150 u151 u152 u153 u154 u155 u156 u157 u158 u159 u160 u161 u162 u163 u164 u165 u166 u167 u168 u169 u170 u171 u172 u173 u174 u175 u176 u177 u178 u179 u180 u181 u182 u183 u184 u185 u186 u187 u188 u189 u190 u191 u192 u193 u194 u195 u196 u197 u198 u199 u200 u201 u202 u203 u204 u205 u206 u207 u208 u209 u210 u211 u212 u213 u214 u215 u216 u217 u218 u219 u220 u221 u222 u223 u224 u225 u226 u227 u228 u229 u230 u231 u232 u233 u234 u235 u236 u237 u238 u239 u240 u241 u242 u243 u244 u245 u246 u247 u248 u249 u250 u251 u252 u253 u254 u255 u256 u257 u258 u259 u260 u261 u262 u263 u264 u265 u266 u267 u268 u269 u270 u271 u272 u273 u274 u275 u276 u277 u278 u279 u280 u281 u282 u283 u284 u285 u286 u287 u288 u289 u290 u291 u292 u293 u294 u295 u296 u297 u298 : Value} {Q : Exit → Act → World → Prop} {W : World}
    (hVS : VS w0 W bk bh g o L' H bw SC bv 0 (Sha.rnds H SC 0)) (hcv : 8 ≤ cv) (HHB : Hid (Sha.Bd H)) (HSB : Hid (Sha.Bd SC))
    (hpan : ∀ (d : Tmp) (v : Value) c a w, Q (.panic c) (a.put (some d) v) w → Q (.panic c) a w)
    (hexit : ∀ {v17 v18 v19 v20 v21 v139 v140 v141 v142 v143 v144 v145 v146 v147 v148 v149 v150 v151 v152 v153 v154 v155 v156 v157 v158 v159 v160 v161 v162 v163 v164 v165 v166 v167 v168 v169 v170 v171 v172 v173 v174 v175 v176 v177 v178 v179 v180 v181 v182 v183 v184 v185 v186 v187 v188 v189 v190 v191 v192 v193 v194 v195 v196 v197 v198 v199 v200 v201 v202 v203 v204 v205 v206 v207 v208 v209 v210 v211 v212 v213 v214 v215 v216 v217 v218 v219 v220 v221 v222 v223 v224 v225 v226 v227 v228 v229 v230 v231 v232 v233 v234 v235 v236 v237 v238 v239 v240 v241 v242 v243 v244 v245 v246 v247 v248 v249 v250 v251 v252 v253 v254 v255 v256 v257 v258 v259 v260 : Value} {bv c : Nat} {wx : World}, 8 ≤ c → VS w0 wx bk bh g o L' H bw SC bv 0 (Sha.rnds H SC 64) → Q (.exit 10) ⟨(List.toArray (u0 :: u1 :: u2 :: u3 :: .slice (some ⟨g, o, none⟩) L'.length rc :: u5 :: u6 :: .slice (some ⟨bk, 0, none⟩) 64 64 :: u8 :: .int .u64 4294967296 :: u10 :: .slice (some ⟨bw, 0, none⟩) 64 64 :: u12 :: u13 :: u14 :: u15 :: .slice (some ⟨bv, 0, none⟩) 8 c :: v17 :: v18 :: v19 :: v20 :: v21 :: u22 :: u23 :: u24 :: u25 :: u26 :: u27 :: u28 :: u29 :: u30 :: u31 :: u32 :: u33 :: u34 :: u35 :: u36 :: u37 :: u38 :: u39 :: u40 :: u41 :: u42 :: u43 :: u44 :: u45 :: u46 :: u47 :: u48 :: u49 :: u50 :: u51 :: u52 :: u53 :: u54 :: u55 :: u56 :: u57 :: u58 :: u59 :: u60 :: u61 :: u62 :: u63 :: u64 :: u65 :: u66 :: u67 :: u68 :: u69 :: u70 :: u71 :: u72 :: u73 :: u74 :: u75 :: u76 :: u77 :: u78 :: u79 :: u80 :: u81 :: u82 :: u83 :: u84 :: u85 :: u86 :: u87 :: u88 :: u89 :: u90 :: u91 :: u92 :: u93 :: u94 :: u95 :: u96 :: u97 :: u98 :: u99 :: u100 :: u101 :: u102 :: u103 :: u104 :: u105 :: u106 :: u107 :: u108 :: u109 :: u110 :: u111 :: u112 :: u113 :: u114 :: u115 :: u116 :: u117 :: u118 :: u119 :: u120 :: u121 :: u122 :: u123 :: u124 :: u125 :: u126 :: u127 :: u128 :: u129 :: u130 :: u131 :: u132 :: u133 :: u134 :: u135 :: u136 :: u137 :: u138 :: v139 :: v140 :: v141 :: v142 :: v143 :: v144 :: v145 :: v146 :: v147 :: v148 :: v149 :: v150 :: v151 :: v152 :: v153 :: v154 :: v155 :: v156 :: v157 :: v158 :: v159 :: v160 :: v161 :: v162 :: v163 :: v164 :: v165 :: v166 :: v167 :: v168 :: v169 :: v170 :: v171 :: v172 :: v173 :: v174 :: v175 :: v176 :: v177 :: v178 :: v179 :: v180 :: v181 :: v182 :: v183 :: v184 :: v185 :: v186 :: v187 :: v188 :: v189 :: v190 :: v191 :: v192 :: v193 :: v194 :: v195 :: v196 :: v197 :: v198 :: v199 :: v200 :: v201 :: v202 :: v203 :: v204 :: v205 :: v206 :: v207 :: v208 :: v209 :: v210 :: v211 :: v212 :: v213 :: v214 :: v215 :: v216 :: v217 :: v218 :: v219 :: v220 :: v221 :: v222 :: v223 :: v224 :: v225 :: v226 :: v227 :: v228 :: v229 :: v230 :: v231 :: v232 :: v233 :: v234 :: v235 :: v236 :: v237 :: v238 :: v239 :: v240 :: v241 :: v242 :: v243 :: v244 :: v245 :: v246 :: v247 :: v248 :: v249 :: v250 :: v251 :: v252 :: v253 :: v254 :: v255 :: v256 :: v257 :: v258 :: v259 :: v260 :: u261 :: u262 :: u263 :: u264 :: u265 :: u266 :: u267 :: u268 :: u269 :: u270 :: u271 :: u272 :: u273 :: u274 :: u275 :: u276 :: u277 :: u278 :: u279 :: u280 :: u281 :: u282 :: u283 :: u284 :: u285 :: u286 :: u287 :: u288 :: u289 :: u290 :: u291 :: u292 :: u293 :: u294 :: u295 :: u296 :: u297 :: u298 :: [])), []⟩ wx) :
    Code.wp Tryd.prog (Code.loop vBody) Q ⟨(List.toArray (u0 :: u1 :: u2 :: u3 :: .slice (some ⟨g, o, none⟩) L'.length rc :: u5 :: u6 :: .slice (some ⟨bk, 0, none⟩) 64 64 :: u8 :: .int .u64 4294967296 :: u10 :: .slice (some ⟨bw, 0, none⟩) 64 64 :: u12 :: u13 :: u14 :: u15 :: .slice (some ⟨bv, 0, none⟩) 8 cv :: .int .i64 0 :: u18 :: u19 :: u20 :: u21 :: u22 :: u23 :: u24 :: u25 :: u26 :: u27 :: u28 :: u29 :: u30 :: u31 :: u32 :: u33 :: u34 :: u35 :: u36 :: u37 :: u38 :: u39 :: u40 :: u41 :: u42 :: u43 :: u44 :: u45 :: u46 :: u47 :: u48 :: u49 :: u50 :: u51 :: u52 :: u53 :: u54 :: u55 :: u56 :: u57 :: u58 :: u59 :: u60 :: u61 :: u62 :: u63 :: u64 :: u65 :: u66 :: u67 :: u68 :: u69 :: u70 :: u71 :: u72 :: u73 :: u74 :: u75 :: u76 :: u77 :: u78 :: u79 :: u80 :: u81 :: u82 :: u83 :: u84 :: u85 :: u86 :: u87 :: u88 :: u89 :: u90 :: u91 :: u92 :: u93 :: u94 :: u95 :: u96 :: u97 :: u98 :: u99 :: u100 :: u101 :: u102 :: u103 :: u104 :: u105 :: u106 :: u107 :: u108 :: u109 :: u110 :: u111 :: u112 :: u113 :: u114 :: u115 :: u116 :: u117 :: u118 :: u119 :: u120 :: u121 :: u122 :: u123 :: u124 :: u125 :: u126 :: u127 :: u128 :: u129 :: u130 :: u131 :: u132 :: u133 :: u134 :: u135 :: u136 :: u137 :: u138 :: u139 :: u140 :: u141 :: u142 :: u143 :: u144 :: u145 :: u146 :: u147 :: u148 :: u149 :: u150 :: u151 :: u152 :: u153 :: u154 :: u155 :: u156 :: u157 :: u158 :: u159 :: u160 :: u161 :: u162 :: u163 :: u164 :: u165 :: u166 :: u167 :: u168 :: u169 :: u170 :: u171 :: u172 :: u173 :: u174 :: u175 :: u176 :: u177 :: u178 :: u179 :: u180 :: u181 :: u182 :: u183 :: u184 :: u185 :: u186 :: u187 :: u188 :: u189 :: u190 :: u191 :: u192 :: u193 :: u194 :: u195 :: u196 :: u197 :: u198 :: u199 :: u200 :: u201 :: u202 :: u203 :: u204 :: u205 :: u206 :: u207 :: u208 :: u209 :: u210 :: u211 :: u212 :: u213 :: u214 :: u215 :: u216 :: u217 :: u218 :: u219 :: u220 :: u221 :: u222 :: u223 :: u224 :: u225 :: u226 :: u227 :: u228 :: u229 :: u230 :: u231 :: u232 :: u233 :: u234 :: u235 :: u236 :: u237 :: u238 :: u239 :: u240 :: u241 :: u242 :: u243 :: u244 :: u245 :: u246 :: u247 :: u248 :: u249 :: u250 :: u251 :: u252 :: u253 :: u254 :: u255 :: u256 :: u257 :: u258 :: u259 :: u260 :: u261 :: u262 :: u263 :: u264 :: u265 :: u266 :: u267 :: u268 :: u269 :: u270 :: u271 :: u272 :: u273 :: u274 :: u275 :: u276 :: u277 :: u278 :: u279 :: u280 :: u281 :: u282 :: u283 :: u284 :: u285 :: u286 :: u287 :: u288 :: u289 :: u290 :: u291 :: u292 :: u293 :: u294 :: u295 :: u296 :: u297 :: u298 :: [])), []⟩ W := by
  conv => arg 2; arg 1; whnf
  go_loopw [16, 17] (fun vv iv wx => ∃ i bv c : Nat, i ≤ 64 ∧ iv = .int .i64 i ∧ vv = .slice (some ⟨bv, 0, none⟩) 8 c ∧ 8 ≤ c ∧ VS w0 wx bk bh g o L' H bw SC bv 0 (Sha.rnds H SC i)) (fun _ iv _ => (64 - intOf iv).toNat)
  case atStart => exact ⟨0, bv, cv, by omega, rfl, rfl, hcv, hVS⟩
  case round =>
    clear hVS
    obtain ⟨i, bv, cv, hi, rfl, rfl, hcv, hVS⟩ := hrel
    by_cases hi2 : i < 64
    · have hd : decide ((i : Int) < 64) = true := decide_eq_true (by omega)
      have HFB := Lib.hid (Sha.rnds_bd HHB.out SC i)
      have HKB := Lib.hid (Sha.kk_bd i)
      have HSn := Lib.hid (HSB.out i)
      have HRn : Hid (Sha.rnds H SC (i + 1) = Sha.rnd (Sha.rnds H SC i) (Sha.kk i) (SC i)) := rfl
      generalize Sha.rnds H SC i = f at *
      obtain ⟨f', hf'⟩ : ∃ f', Sha.rnds H SC (i + 1) = f' := ⟨_, rfl⟩
      rw [hf'] at HRn
      have HF' := Lib.hid hf'
      clear hf'
      have hf := HFB.out
      have v0 := hVS.c 0 (by omega)
      have v1 := hVS.c 1 (by omega)
      have v2' := hVS.c 2 (by omega)
      have v4 := hVS.c 4 (by omega)
      have v5 := hVS.c 5 (by omega)
      have v6 := hVS.c 6 (by omega)
      simp only [Nat.zero_add] at v0 v1 v2' v4 v5 v6
      have A1 := bits_and_u64_nat (f 4) (f 5) (by have := hf 4; omega) (by have := hf 5; omega)
      have NE : IntKind.u64.wrap (4294967295 - (f 4 : Int)) = ((4294967295 - f 4 : Nat) : Int) := by
        have := hf 4
        rw [show (4294967295 : Int) - (f 4 : Int) = ((4294967295 - f 4 : Nat) : Int) by omega, wrap_u64n _ (by omega)]
      have A2 := bits_and_u64_nat (4294967295 - f 4) (f 6) (by omega) (by have := hf 6; omega)
      have X3 := bits_xor_u64_nat (f 4 &&& f 5) ((4294967295 - f 4) &&& f 6) (by have := Sha.and_lt (b := f 5) (hf 4); omega) (by have := Sha.and_lt (a := 4294967295 - f 4) (b := f 6) (by omega); omega)
      have HCH : Hid ((f 4 &&& f 5) ^^^ ((4294967295 - f 4) &&& f 6) < 4294967296) := Sha.xor_lt (Sha.and_lt (hf 4)) (Sha.and_lt (by omega))
      have HT1 : Hid (Sha.t1 f (Sha.kk i) (SC i) = f 7 + (Sha.rotr (f 4) 6 ^^^ Sha.rotr (f 4) 11 ^^^ Sha.rotr (f 4) 25) + ((f 4 &&& f 5) ^^^ ((4294967295 - f 4) &&& f 6)) + Sha.kk i + SC i) := rfl
      clear hf
      generalize (f 4 &&& f 5) ^^^ ((4294967295 - f 4) &&& f 6) = ch at *
      generalize f 4 &&& f 5 = a1 at *
      generalize (4294967295 - f 4) &&& f 6 = a2 at *
      generalize 4294967295 - f 4 = ne at *
      go_upto_region 32 with fail
      go_quiet (fail)
      clear A1 NE A2 X3
      have hf := HFB.out
      have B1 := bits_and_u64_nat (f 0) (f 1) (by have := hf 0; omega) (by have := hf 1; omega)
      have B2 := bits_and_u64_nat (f 0) (f 2) (by have := hf 0; omega) (by have := hf 2; omega)
      have B3 := bits_and_u64_nat (f 1) (f 2) (by have := hf 1; omega) (by have := hf 2; omega)
      have b1 := Sha.and_lt (b := f 1) (hf 0)
      have b2 := Sha.and_lt (b := f 2) (hf 0)
      have b3 := Sha.and_lt (b := f 2) (hf 1)
      have b4 := Sha.xor_lt b1 b2
      have B4 := bits_xor_u64_nat (f 0 &&& f 1) (f 0 &&& f 2) (by omega) (by omega)
      have B5 := bits_xor_u64_nat ((f 0 &&& f 1) ^^^ (f 0 &&& f 2)) (f 1 &&& f 2) (by omega) (by omega)
      have HMJ : Hid ((f 0 &&& f 1) ^^^ (f 0 &&& f 2) ^^^ (f 1 &&& f 2) < 4294967296) := Sha.xor_lt b4 b3
      have HT2 : Hid (Sha.t2 f = (Sha.rotr (f 0) 2 ^^^ Sha.rotr (f 0) 13 ^^^ Sha.rotr (f 0) 22) + ((f 0 &&& f 1) ^^^ (f 0 &&& f 2) ^^^ (f 1 &&& f 2))) := rfl
      clear hf b1 b2 b3 b4
      generalize (f 0 &&& f 1) ^^^ (f 0 &&& f 2) ^^^ (f 1 &&& f 2) = mj at *
      generalize (f 0 &&& f 1) ^^^ (f 0 &&& f 2) = x4 at *
      generalize f 0 &&& f 1 = c1' at *
      generalize f 0 &&& f 2 = c2' at *
      generalize f 1 &&& f 2 = c3' at *
      have hVS2 := hVS.drewN nq
      clear v0 v1 v2' v4 v5 v6 hVS
      generalize wr.drewN nq = W2 at *
      have v0 := hVS2.c 0 (by omega)
      have v1 := hVS2.c 1 (by omega)
      have v2' := hVS2.c 2 (by omega)
      simp only [Nat.zero_add] at v0 v1 v2'
      go_upto_region 33 with fail
      go_quiet (fail)
      have hVS := hVS2.drewN nq
      clear v0 v1 v2' B1 B2 B3 B4 B5 hVS2
      generalize W2.drewN nq = W3 at *
      go_upto_region 34 with fail
      have hf := HFB.out
      have R : ∀ (x : Nat), x < 4294967296 → ∀ n : Nat, n ≤ 32 → ∀ q, Calls Tryd.prog 74 #[.int .u64 x, .int .i64 (n : Int)] (W3.drewN (1 + q)) fun e w' => e = .returned (.int .u64 (Sha.rotr x n)) ∧ ∃ q', w' = W3.drewN (1 + q') :=
        fun x hx n hn q => (turn_c (w := W3.drewN (1 + q)) hx n hn).mono fun e w' ⟨h, q2, h2⟩ => ⟨h, q + q2, by rw [h2]; simp [World.drewN, Nat.add_assoc]⟩
      have R1 := Lib.hid (R _ (hf 4) 6 (by omega))
      have R2 := Lib.hid (R _ (hf 4) 11 (by omega))
      have R3 := Lib.hid (R _ (hf 4) 25 (by omega))
      have l6 := Sha.rotr_lt (hf 4) (show 6 ≤ 32 by omega)
      have l11 := Sha.rotr_lt (hf 4) (show 11 ≤ 32 by omega)
      have l25 := Sha.rotr_lt (hf 4) (show 25 ≤ 32 by omega)
      have X1 := bits_xor_u64_nat (Sha.rotr (f 4) 6) (Sha.rotr (f 4) 11) (by omega) (by omega)
      have l17 := Sha.xor_lt l6 l11
      have X2 := bits_xor_u64_nat (Sha.rotr (f 4) 6 ^^^ Sha.rotr (f 4) 11) (Sha.rotr (f 4) 25) (by omega) (by omega)
      have l42 := Sha.xor_lt l17 l25
      clear R
      have hf7 := hf 7
      have hch := HCH.out
      have hkb := HKB.out
      have hsn := HSn.out
      have v7 := hVS.c 7 (by omega)
      have v4 := hVS.c 4 (by omega)
      have wn := hVS.w.c i hi2
      have kn := hVS.kc i hi2
      simp only [Nat.zero_add] at v7 v4
      generalize Sha.rotr (f 4) 6 ^^^ Sha.rotr (f 4) 11 ^^^ Sha.rotr (f 4) 25 = x2 at *
      generalize Sha.rotr (f 4) 6 ^^^ Sha.rotr (f 4) 11 = x1 at *
      generalize Sha.rotr (f 4) 6 = r6 at *
      generalize Sha.rotr (f 4) 11 = r11 at *
      generalize Sha.rotr (f 4) 25 = r25 at *
      generalize hKi : Sha.kk i = ki at *
      generalize hSi : SC i = si at *
      obtain ⟨a1', ha1⟩ : ∃ a, a = f 7 + x2 := ⟨_, rfl⟩
      obtain ⟨a2', ha2⟩ : ∃ a, a = a1' + ch := ⟨_, rfl⟩
      obtain ⟨a3, ha3⟩ : ∃ a, a = a2' + ki := ⟨_, rfl⟩
      obtain ⟨tt, ha4⟩ : ∃ a, a = a3 + si := ⟨_, rfl⟩
      have k1 : IntKind.u64.wrap ((f 7 : Int) + (x2 : Int)) = (a1' : Int) := by rw [show (f 7 : Int) + (x2 : Int) = (a1' : Int) by omega, wrap_u64n _ (by omega)]
      have k2 : IntKind.u64.wrap ((a1' : Int) + (ch : Int)) = (a2' : Int) := by rw [show (a1' : Int) + (ch : Int) = (a2' : Int) by omega, wrap_u64n _ (by omega)]
      have k3 : IntKind.u64.wrap ((a2' : Int) + (ki : Int)) = (a3 : Int) := by rw [show (a2' : Int) + (ki : Int) = (a3 : Int) by omega, wrap_u64n _ (by omega)]
      have k4 : IntKind.u64.wrap ((a3 : Int) + (si : Int)) = (tt : Int) := by rw [show (a3 : Int) + (si : Int) = (tt : Int) by omega, wrap_u64n _ (by omega)]
      have HTT : Hid (Sha.t1 f ki si = tt ∧ tt < 25769803776) := ⟨by rw [HT1.out]; omega, by omega⟩
      have i1 : (i : Int) < 64 := by omega
      clear ha1 ha2 ha3 ha4 l6 l11 l25 l17 l42 hf hf7 hch hkb hsn HT1 hKi hSi
      have HVS := Lib.hid hVS
      clear hVS
      refine wp_region_dn [.blk [0, 1, 2, 3, 4, 5, 6, 7, 8, 9, 10, 11, 12, 13, 14, 15, 16, 17, 18, 19, 20, 21, 22, 23, 24, 25, 26, 27, 28, 29, 30]] (by kernel_rfl) (by kernel_rfl) (fun d v c a w h => hpan d v c a w h) ?_
      refine goS_dn ?_
      simp only [opsAt, List.filterMap_cons, List.filterMap_nil, List.getElem?_toArray, List.getElem?_cons_zero, List.getElem?_cons_succ]
      iterate 6 quiet_step (fail)
      quiet_step (exact R1.out _)
      iterate 3 quiet_step (fail)
      quiet_step (exact R2.out _)
      iterate 4 quiet_step (fail)
      quiet_step (exact R3.out _)
      iterate 15 quiet_step (fail)
      refine wpQuiet_nil ?_
      rintro _ ⟨nq2, rfl⟩
      simp only [goS]
      have hVS := (HVS.out.drewN 1).drewN nq2
      clear k1 k2 k3 k4 X1 X2 v7 v4 wn kn R1 R2 R3 HVS
      generalize (W3.drewN 1).drewN nq2 = W4 at *
      go_upto_region 35 with fail
      have hf := HFB.out
      have R : ∀ (x : Nat), x < 4294967296 → ∀ n : Nat, n ≤ 32 → ∀ q, Calls Tryd.prog 74 #[.int .u64 x, .int .i64 (n : Int)] (W4.drewN (1 + q)) fun e w' => e = .returned (.int .u64 (Sha.rotr x n)) ∧ ∃ q', w' = W4.drewN (1 + q') :=
        fun x hx n hn q => (turn_c (w := W4.drewN (1 + q)) hx n hn).mono fun e w' ⟨h, q2, h2⟩ => ⟨h, q + q2, by rw [h2]; simp [World.drewN, Nat.add_assoc]⟩
      have R1 := Lib.hid (R _ (hf 0) 2 (by omega))
      have R2 := Lib.hid (R _ (hf 0) 13 (by omega))
      have R3 := Lib.hid (R _ (hf 0) 22 (by omega))
      have l6 := Sha.rotr_lt (hf 0) (show 2 ≤ 32 by omega)
      have l11 := Sha.rotr_lt (hf 0) (show 13 ≤ 32 by omega)
      have l25 := Sha.rotr_lt (hf 0) (show 22 ≤ 32 by omega)
      have X1 := bits_xor_u64_nat (Sha.rotr (f 0) 2) (Sha.rotr (f 0) 13) (by omega) (by omega)
      have l17 := Sha.xor_lt l6 l11
      have X2 := bits_xor_u64_nat (Sha.rotr (f 0) 2 ^^^ Sha.rotr (f 0) 13) (Sha.rotr (f 0) 22) (by omega) (by omega)
      have l42 := Sha.xor_lt l17 l25
      have hmj := HMJ.out
      clear R
      have v0 := hVS.c 0 (by omega)
      simp only [Nat.zero_add] at v0
      generalize Sha.rotr (f 0) 2 ^^^ Sha.rotr (f 0) 13 ^^^ Sha.rotr (f 0) 22 = x2' at *
      generalize Sha.rotr (f 0) 2 ^^^ Sha.rotr (f 0) 13 = x1' at *
      generalize Sha.rotr (f 0) 2 = r6' at *
      generalize Sha.rotr (f 0) 13 = r11' at *
      generalize Sha.rotr (f 0) 22 = r25' at *
      obtain ⟨uu, hu4⟩ : ∃ a, a = x2' + mj := ⟨_, rfl⟩
      have k1 : IntKind.u64.wrap ((x2' : Int) + (mj : Int)) = (uu : Int) := by rw [show (x2' : Int) + (mj : Int) = (uu : Int) by omega, wrap_u64n _ (by omega)]
      have HUU : Hid (Sha.t2 f = uu ∧ uu < 8589934592) := ⟨by rw [HT2.out]; omega, by omega⟩
      clear hu4 l6 l11 l25 l17 l42 hf hmj HT2 HMJ
      have HVS := Lib.hid hVS
      clear hVS
      refine wp_region_dn [.blk [0, 1, 2, 3, 4, 5, 6, 7, 8, 9, 10, 11, 12, 13, 14, 15, 16]] (by kernel_rfl) (by kernel_rfl) (fun d v c a w h => hpan d v c a w h) ?_
      refine goS_dn ?_
      simp only [opsAt, List.filterMap_cons, List.filterMap_nil, List.getElem?_toArray, List.getElem?_cons_zero, List.getElem?_cons_succ]
      iterate 3 quiet_step (fail)
      quiet_step (exact R1.out _)
      iterate 3 quiet_step (fail)
      quiet_step (exact R2.out _)
      iterate 4 quiet_step (fail)
      quiet_step (exact R3.out _)
      iterate 4 quiet_step (fail)
      refine wpQuiet_nil ?_
      rintro _ ⟨nq3, rfl⟩
      simp only [goS]
      have hVS := (HVS.out.drewN 1).drewN nq3
      clear k1 X1 X2 v0 R1 R2 R3 HVS
      generalize (W4.drewN 1).drewN nq3 = W5 at *
      go_upto_region 36 with fail
      have hf := HFB.out
      have htt := HTT.out.2
      have huu := HUU.out.2
      have hf3 := hf 3
      obtain ⟨s1, hs1⟩ : ∃ a, a = tt + uu := ⟨_, rfl⟩
      obtain ⟨s2, hs2⟩ : ∃ a, a = f 3 + tt := ⟨_, rfl⟩
      obtain ⟨m1, hm1⟩ : ∃ a, a = s1 % 4294967296 := ⟨_, rfl⟩
      obtain ⟨m2, hm2⟩ : ∃ a, a = s2 % 4294967296 := ⟨_, rfl⟩
      have k1 : IntKind.u64.wrap ((tt : Int) + (uu : Int)) = (s1 : Int) := by rw [show (tt : Int) + (uu : Int) = (s1 : Int) by omega, wrap_u64n _ (by omega)]
      have k2 : IntKind.u64.wrap ((f 3 : Int) + (tt : Int)) = (s2 : Int) := by rw [show (f 3 : Int) + (tt : Int) = (s2 : Int) by omega, wrap_u64n _ (by omega)]
      have k3 : Int.tmod (s1 : Int) 4294967296 = (m1 : Int) := by rw [Int.tmod_eq_emod_of_nonneg (by omega)]; omega
      have k4 : Int.tmod (s2 : Int) 4294967296 = (m2 : Int) := by rw [Int.tmod_eq_emod_of_nonneg (by omega)]; omega
      have k5 : IntKind.u64.wrap (m1 : Int) = (m1 : Int) := wrap_u64n _ (by omega)
      have k6 : IntKind.u64.wrap (m2 : Int) = (m2 : Int) := wrap_u64n _ (by omega)
      have HL8 : Hid (∀ j, j < 8 → [m1, f 0, f 1, f 2, m2, f 4, f 5, f 6].getD j 0 = f' j) := fun j hj => by
        rw [HRn.out]
        unfold Sha.rnd
        rw [HTT.out.1, HUU.out.1]
        match j, hj with
        | 0, _ => rw [if_pos rfl]; show m1 = _; rw [hm1, hs1]
        | 1, _ => rfl
        | 2, _ => rfl
        | 3, _ => rfl
        | 4, _ => show m2 = (f 3 + tt) % 4294967296; rw [hm2, hs2]
        | 5, _ => rfl
        | 6, _ => rfl
        | 7, _ => rfl
      have v0 := hVS.c 0 (by omega)
      have v1 := hVS.c 1 (by omega)
      have v2' := hVS.c 2 (by omega)
      have v3 := hVS.c 3 (by omega)
      have v4 := hVS.c 4 (by omega)
      have v5 := hVS.c 5 (by omega)
      have v6 := hVS.c 6 (by omega)
      simp only [Nat.zero_add] at v0 v1 v2' v3 v4 v5 v6
      have HVS := Lib.hid hVS
      clear hVS hf htt huu hf3 hs1 hs2 hm1 hm2 HTT HUU HRn HCH
      refine wp_region_dn [.blk [0, 1, 2, 3, 4, 5, 6, 7, 8, 9, 10, 11, 12, 13, 14, 15, 16, 17, 18, 19, 20, 21, 22, 23, 24, 25, 26, 27, 28, 29], .frc [30, 31]] (by kernel_rfl) (by kernel_rfl) (fun d v c a w h => hpan d v c a w h) ?_
      refine goS_dn ?_
      simp only [opsAt, List.filterMap_cons, List.filterMap_nil, List.getElem?_toArray, List.getElem?_cons_zero, List.getElem?_cons_succ]
      iterate 30 quiet_step (fail)
      refine wpQuiet_nil ?_
      rintro _ ⟨nq4, rfl⟩
      refine goS_last ?_
      simp only [opsAt, List.filterMap_cons, List.filterMap_nil, List.getElem?_toArray, List.getElem?_cons_zero, List.getElem?_cons_succ]
      have HNX := Lib.hid ((HVS.out.drewN (1 + nq4)).next [m1, f 0, f 1, f 2, m2, f 4, f 5, f 6] f' rfl HL8.out)
      have hw1 : IntKind.i64.wrap ((i : Int) + 1) = (i : Int) + 1 := IntWalk.i64_in _ (by omega)
      clear k1 k2 k3 k4 k5 k6 v0 v1 v2' v3 v4 v5 v6 HVS HL8
      go_wp2_with fail
      go_roundw
      case rel => exact ⟨i + 1, _, 8, by omega, by go_num, rfl, by omega, by rw [HF'.out]; exact HNX.out⟩
      case measure => simp [intOf]; omega
    · have hd : decide ((i : Int) < 64) = false := decide_eq_false (by omega)
      have hi64 : i = 64 := by omega
      have hV := (show VS w0 wr bk bh g o L' H bw SC bv 0 (Sha.rnds H SC 64) from hi64 ▸ hVS)
      clear hi hi2 hi64 hVS
      go_wp2_with fail
      exact hexit hcv hV
end Go.Proofs.YtfoamcobpfflbaaDoor
