/- Texts of mine, joined: Walk of the document's merging: its second loop (what becomes of each path). -/
import Derived.Test.YtpcipdkoncmdcaaGreatDoorYJoinMerges33
namespace Go.Proofs.YtpcipdkoncmdcaaGreatDoor
open Go Go.RowKit
set_option maxRecDepth 100000 in
set_option maxHeartbeats 8000000 in
theorem rm_loopB {w W : World} {va vb vc : Value} {ba_ an : Option Addr} {bc_ cn p10 : Nat} {T : T3 (List Fi)} {bl : List Bl} {u4 u5 u6 u7 u8 u9 u12 u13 u14 u15 u18 u19 u20 u21 u22 u23 u24 u25 u26 u27 u28 u29 u30 u31 u32 u33 u34 u35 u36 u37 u38 u39 u40 u41 u42 u43 u44 u45 u46 u47 u48 u49 u50 u51 u52 u53 u54 u55 u56 u57 u58 u59 u60 u61 u62 u63 u64 u65 u66 u67 u68 u69 u70 u71 u72 u73 u74 u75 u76 u77 u78 u79 u80 u81 u82 u83 u84 u85 u86 u87 u88 u89 u90 u91 u92 u93 u94 u95 u96 u97 u98 u99 u100 u101 u102 u103 u104 u105 u106 u107 u108 u109 u110 u111 u112 u113 u114 u115 u116 u117 u118 u119 u120 u121 u122 u123 u124 u125 u126 u127 u128 u129 u130 u131 u132 u133 u134 u135 u136 u137 u138 u139 u140 u141 u142 u143 u144 u145 u146 u147 u148 u149 u150 u151 u152 u153 u154 u155 u156 u157 u158 u159 u160 u161 u162 u163 u164 u165 u166 u167 u168 u169 u170 u171 u172 u173 u174 u175 u176 u177 u178 u179 u180 u181 u182 u183 u184 u185 u186 u187 u188 u189 u190 u191 u192 u193 u194 u195 u196 u197 u198 u199 u200 u201 u202 u203 u204 u205 u206 u207 u208 u209 u210 u211 u212 u213 u214 u215 u216 u217 u218 u219 u220 u221 u222 u223 u224 u225 u226 u227 u228 u229 u230 u231 u232 u233 u234 u235 u236 u237 u238 u239 u240 u241 u242 u243 u244 u245 u246 u247 u248 u249 u250 u251 u252 u253 u254 u255 u256 u257 u258 u259 : Value} {Q : Exit → Act → World → Prop}
    (hT : okT3 T) (hFS : ∀ i, i < 3 → FS w ((⟨va, vb, vc⟩ : T3 Value).get i) (T.get i)) (hB : Below w.heap.size w W)
    (hblk : W.heap[p10]? = some (.cells #[va, vb, vc] 91 (0, 0)))
    (hbs : BS w (.slice ba_ bl.length bc_) bl) (hz : ∀ id, (textS bl id).1.size ≤ 1000) (hnm : Tl W (.slice an (nmsT T).length cn) (nmsT T)) (hpz : ∀ p ∈ nmsT T, p.size ≤ 2000000) (hnl : (nmsT T).length ≤ 768)
    (hpan : ∀ (d : Tmp) (v : Value) c a w, Q (.panic c) (a.put (some d) v) w → Q (.panic c) a w)
    (hexit : ∀ (v8 v9 v16 v17 v18 v19 v20 v21 v22 v23 v24 v25 v26 v27 v28 v91 v92 v93 v94 v95 v96 v97 v98 v99 v100 v101 v102 v103 v104 v105 v106 v107 v108 v109 v110 v111 v112 v113 v114 v115 v116 v117 v118 v119 v120 v121 v122 v123 v124 v125 v126 v127 v128 v129 v130 v131 v132 v133 v134 v135 v136 v137 v138 v139 v140 v141 v142 v143 v144 v145 v146 v147 v148 v149 v150 v151 v152 v153 v154 v155 v156 v157 v158 v159 v160 v161 v162 v163 v164 v165 v166 v167 v168 v169 v170 v171 v172 v173 v174 v175 v176 v177 v178 v179 v180 v181 v182 v183 v184 v185 v186 v187 v188 v189 v190 v191 v192 v193 v194 v195 v196 v197 v198 v199 v200 v201 v202 v203 v204 v205 v206 v207 v208 v209 v210 v211 v212 v213 v214 v215 v216 v217 v218 v219 v220 v221 v222 v223 v224 v225 v226 v227 v228 v229 v230 v231 : Value) (wx : World) (l : List Ou), decGo (textS bl) (upT T 3) [] (nmsT T) = (0, l) → DQ W wx v16 l → l.length ≤ 768 → Q (.exit 4) ⟨(List.toArray (va :: vb :: vc :: .slice ba_ bl.length bc_ :: u4 :: u5 :: u6 :: u7 :: v8 :: v9 :: .pointer (some ⟨p10, 0, none⟩) :: .slice an (nmsT T).length cn :: u12 :: u13 :: u14 :: u15 :: v16 :: v17 :: v18 :: v19 :: v20 :: v21 :: v22 :: v23 :: v24 :: v25 :: v26 :: v27 :: v28 :: u29 :: u30 :: u31 :: u32 :: u33 :: u34 :: u35 :: u36 :: u37 :: u38 :: u39 :: u40 :: u41 :: u42 :: u43 :: u44 :: u45 :: u46 :: u47 :: u48 :: u49 :: u50 :: u51 :: u52 :: u53 :: u54 :: u55 :: u56 :: u57 :: u58 :: u59 :: u60 :: u61 :: u62 :: u63 :: u64 :: u65 :: u66 :: u67 :: u68 :: u69 :: u70 :: u71 :: u72 :: u73 :: u74 :: u75 :: u76 :: u77 :: u78 :: u79 :: u80 :: u81 :: u82 :: u83 :: u84 :: u85 :: u86 :: u87 :: u88 :: u89 :: u90 :: v91 :: v92 :: v93 :: v94 :: v95 :: v96 :: v97 :: v98 :: v99 :: v100 :: v101 :: v102 :: v103 :: v104 :: v105 :: v106 :: v107 :: v108 :: v109 :: v110 :: v111 :: v112 :: v113 :: v114 :: v115 :: v116 :: v117 :: v118 :: v119 :: v120 :: v121 :: v122 :: v123 :: v124 :: v125 :: v126 :: v127 :: v128 :: v129 :: v130 :: v131 :: v132 :: v133 :: v134 :: v135 :: v136 :: v137 :: v138 :: v139 :: v140 :: v141 :: v142 :: v143 :: v144 :: v145 :: v146 :: v147 :: v148 :: v149 :: v150 :: v151 :: v152 :: v153 :: v154 :: v155 :: v156 :: v157 :: v158 :: v159 :: v160 :: v161 :: v162 :: v163 :: v164 :: v165 :: v166 :: v167 :: v168 :: v169 :: v170 :: v171 :: v172 :: v173 :: v174 :: v175 :: v176 :: v177 :: v178 :: v179 :: v180 :: v181 :: v182 :: v183 :: v184 :: v185 :: v186 :: v187 :: v188 :: v189 :: v190 :: v191 :: v192 :: v193 :: v194 :: v195 :: v196 :: v197 :: v198 :: v199 :: v200 :: v201 :: v202 :: v203 :: v204 :: v205 :: v206 :: v207 :: v208 :: v209 :: v210 :: v211 :: v212 :: v213 :: v214 :: v215 :: v216 :: v217 :: v218 :: v219 :: v220 :: v221 :: v222 :: v223 :: v224 :: v225 :: v226 :: v227 :: v228 :: v229 :: v230 :: v231 :: u232 :: u233 :: u234 :: u235 :: u236 :: u237 :: u238 :: u239 :: u240 :: u241 :: u242 :: u243 :: u244 :: u245 :: u246 :: u247 :: u248 :: u249 :: u250 :: u251 :: u252 :: u253 :: u254 :: u255 :: u256 :: u257 :: u258 :: u259 :: [])), []⟩ wx)
    (hret : ∀ (v16 v17 v18 v19 v20 v21 v22 v23 v24 v25 v26 v27 v28 v91 v92 v93 v94 v95 v96 v97 v98 v99 v100 v101 v102 v103 v104 v105 v106 v107 v108 v109 v110 v111 v112 v113 v114 v115 v116 v117 v118 v119 v120 v121 v122 v123 v124 v125 v126 v127 v128 v129 v130 v131 v132 v133 v134 v135 v136 v137 v138 v139 v140 v141 v142 v143 v144 v145 v146 v147 v148 v149 v150 v151 v152 v153 v154 v155 v156 v157 v158 v159 v160 v161 v162 v163 v164 v165 v166 v167 v168 v169 v170 v171 v172 v173 v174 v175 v176 v177 v178 v179 v180 v181 v182 v183 v184 v185 v186 v187 v188 v189 v190 v191 v192 v193 v194 v195 v196 v197 v198 v199 v200 v201 v202 v203 v204 v205 v206 v207 v208 v209 v210 v211 v212 v213 v214 v215 v216 v217 v218 v219 v220 v221 v222 v223 v224 v225 v226 v227 v228 v229 v230 v231 : Value) (wx : World) (e : Int), e ≠ 0 → decGo (textS bl) (upT T 3) [] (nmsT T) = (e, []) → Below W.heap.size W wx → Q .ret ⟨(List.toArray (va :: vb :: vc :: .slice ba_ bl.length bc_ :: u4 :: u5 :: u6 :: u7 :: .slice none 0 0 :: .int .i64 e :: .pointer (some ⟨p10, 0, none⟩) :: .slice an (nmsT T).length cn :: u12 :: u13 :: u14 :: u15 :: v16 :: v17 :: v18 :: v19 :: v20 :: v21 :: v22 :: v23 :: v24 :: v25 :: v26 :: v27 :: v28 :: u29 :: u30 :: u31 :: u32 :: u33 :: u34 :: u35 :: u36 :: u37 :: u38 :: u39 :: u40 :: u41 :: u42 :: u43 :: u44 :: u45 :: u46 :: u47 :: u48 :: u49 :: u50 :: u51 :: u52 :: u53 :: u54 :: u55 :: u56 :: u57 :: u58 :: u59 :: u60 :: u61 :: u62 :: u63 :: u64 :: u65 :: u66 :: u67 :: u68 :: u69 :: u70 :: u71 :: u72 :: u73 :: u74 :: u75 :: u76 :: u77 :: u78 :: u79 :: u80 :: u81 :: u82 :: u83 :: u84 :: u85 :: u86 :: u87 :: u88 :: u89 :: u90 :: v91 :: v92 :: v93 :: v94 :: v95 :: v96 :: v97 :: v98 :: v99 :: v100 :: v101 :: v102 :: v103 :: v104 :: v105 :: v106 :: v107 :: v108 :: v109 :: v110 :: v111 :: v112 :: v113 :: v114 :: v115 :: v116 :: v117 :: v118 :: v119 :: v120 :: v121 :: v122 :: v123 :: v124 :: v125 :: v126 :: v127 :: v128 :: v129 :: v130 :: v131 :: v132 :: v133 :: v134 :: v135 :: v136 :: v137 :: v138 :: v139 :: v140 :: v141 :: v142 :: v143 :: v144 :: v145 :: v146 :: v147 :: v148 :: v149 :: v150 :: v151 :: v152 :: v153 :: v154 :: v155 :: v156 :: v157 :: v158 :: v159 :: v160 :: v161 :: v162 :: v163 :: v164 :: v165 :: v166 :: v167 :: v168 :: v169 :: v170 :: v171 :: v172 :: v173 :: v174 :: v175 :: v176 :: v177 :: v178 :: v179 :: v180 :: v181 :: v182 :: v183 :: v184 :: v185 :: v186 :: v187 :: v188 :: v189 :: v190 :: v191 :: v192 :: v193 :: v194 :: v195 :: v196 :: v197 :: v198 :: v199 :: v200 :: v201 :: v202 :: v203 :: v204 :: v205 :: v206 :: v207 :: v208 :: v209 :: v210 :: v211 :: v212 :: v213 :: v214 :: v215 :: v216 :: v217 :: v218 :: v219 :: v220 :: v221 :: v222 :: v223 :: v224 :: v225 :: v226 :: v227 :: v228 :: v229 :: v230 :: v231 :: u232 :: u233 :: u234 :: u235 :: u236 :: u237 :: u238 :: u239 :: u240 :: u241 :: u242 :: u243 :: u244 :: u245 :: u246 :: u247 :: u248 :: u249 :: u250 :: u251 :: u252 :: u253 :: u254 :: u255 :: u256 :: u257 :: u258 :: u259 :: [])), []⟩ wx) :
    Code.wp Tryz.prog (Code.loop (rmBody 1)) Q ⟨(List.toArray (va :: vb :: vc :: .slice ba_ bl.length bc_ :: u4 :: u5 :: u6 :: u7 :: u8 :: u9 :: .pointer (some ⟨p10, 0, none⟩) :: .slice an (nmsT T).length cn :: u12 :: u13 :: u14 :: u15 :: .slice none 0 0 :: .int .i64 0 :: u18 :: u19 :: u20 :: u21 :: u22 :: u23 :: u24 :: u25 :: u26 :: u27 :: u28 :: u29 :: u30 :: u31 :: u32 :: u33 :: u34 :: u35 :: u36 :: u37 :: u38 :: u39 :: u40 :: u41 :: u42 :: u43 :: u44 :: u45 :: u46 :: u47 :: u48 :: u49 :: u50 :: u51 :: u52 :: u53 :: u54 :: u55 :: u56 :: u57 :: u58 :: u59 :: u60 :: u61 :: u62 :: u63 :: u64 :: u65 :: u66 :: u67 :: u68 :: u69 :: u70 :: u71 :: u72 :: u73 :: u74 :: u75 :: u76 :: u77 :: u78 :: u79 :: u80 :: u81 :: u82 :: u83 :: u84 :: u85 :: u86 :: u87 :: u88 :: u89 :: u90 :: u91 :: u92 :: u93 :: u94 :: u95 :: u96 :: u97 :: u98 :: u99 :: u100 :: u101 :: u102 :: u103 :: u104 :: u105 :: u106 :: u107 :: u108 :: u109 :: u110 :: u111 :: u112 :: u113 :: u114 :: u115 :: u116 :: u117 :: u118 :: u119 :: u120 :: u121 :: u122 :: u123 :: u124 :: u125 :: u126 :: u127 :: u128 :: u129 :: u130 :: u131 :: u132 :: u133 :: u134 :: u135 :: u136 :: u137 :: u138 :: u139 :: u140 :: u141 :: u142 :: u143 :: u144 :: u145 :: u146 :: u147 :: u148 :: u149 :: u150 :: u151 :: u152 :: u153 :: u154 :: u155 :: u156 :: u157 :: u158 :: u159 :: u160 :: u161 :: u162 :: u163 :: u164 :: u165 :: u166 :: u167 :: u168 :: u169 :: u170 :: u171 :: u172 :: u173 :: u174 :: u175 :: u176 :: u177 :: u178 :: u179 :: u180 :: u181 :: u182 :: u183 :: u184 :: u185 :: u186 :: u187 :: u188 :: u189 :: u190 :: u191 :: u192 :: u193 :: u194 :: u195 :: u196 :: u197 :: u198 :: u199 :: u200 :: u201 :: u202 :: u203 :: u204 :: u205 :: u206 :: u207 :: u208 :: u209 :: u210 :: u211 :: u212 :: u213 :: u214 :: u215 :: u216 :: u217 :: u218 :: u219 :: u220 :: u221 :: u222 :: u223 :: u224 :: u225 :: u226 :: u227 :: u228 :: u229 :: u230 :: u231 :: u232 :: u233 :: u234 :: u235 :: u236 :: u237 :: u238 :: u239 :: u240 :: u241 :: u242 :: u243 :: u244 :: u245 :: u246 :: u247 :: u248 :: u249 :: u250 :: u251 :: u252 :: u253 :: u254 :: u255 :: u256 :: u257 :: u258 :: u259 :: [])), []⟩ W := by
  have HEX := Lib.hid hexit
  have HRT := Lib.hid hret
  have HPAN := Lib.hid hpan
  have HTN := Lib.hid hnm
  have HPZ := Lib.hid hpz
  have HZ := Lib.hid hz
  have HCELL : Hid (∀ i, i < 3 → ∀ W', Below W.heap.size W W' → W'.cell? ⟨p10, i, none⟩ = some ((⟨va, vb, vc⟩ : T3 Value).get i)) := fun i hi W' hb => snap_cell ((hb.block p10 (Array.getElem?_eq_some_iff.1 hblk).1).trans hblk) hi
  have HFS : Hid (∀ i, i < 3 → ∀ W', Below W.heap.size W W' → FS W' ((⟨va, vb, vc⟩ : T3 Value).get i) (T.get i)) := fun i hi W' hb => (hFS i hi).below (hB.trans (hb.mono hB.size))
  have HBS : Hid (∀ W', Below W.heap.size W W' → BS W' (.slice ba_ bl.length bc_) bl) := fun W' hb => hbs.below (hB.trans (hb.mono hB.size))
  have HTH : Hid (∀ p ∈ nmsT T, thOf (upT T 3) p = thT T p) := fun p hp => thOf_nms hT hp
  obtain ⟨nms, hnms⟩ : ∃ nms, nmsT T = nms := ⟨_, rfl⟩
  rw [hnms] at HEX HRT HTN HPZ HTH hnl ⊢
  clear hT hFS hB hblk hbs hz hnm hpz hexit hret hpan hnms
  conv => arg 2; arg 1; whnf
  go_loopw [16, 17] (fun ov nv wx => ∃ n : Nat, n ≤ nms.length ∧ nv = .int .i64 n ∧ ∃ l : List Ou, Hid (DQ W wx ov l) ∧ Hid (decGo (textS bl) (upT T 3) [] nms = decGo (textS bl) (upT T 3) l (nms.drop n)) ∧ l.length ≤ n) (fun _ nv _ => (nms.length - intOf nv).toNat)
  case atStart => exact ⟨0, Nat.zero_le _, rfl, [], DQ.nil W, rfl, Nat.le_refl _⟩
  case round =>
    obtain ⟨n, hn, rfl, l, HDQ, HDG, hln⟩ := hrel
    by_cases hlt : n < nms.length
    · have d1 : decide ((n : Int) < (nms.length : Int)) = true := decide_eq_true (by omega)
      have d2 : decide (n < nms.length) = true := decide_eq_true hlt
      have d3 : (0 : Int) ≤ (n : Int) := by omega
      have d4 : (n : Int) < (nms.length : Int) := by omega
      have dw : IntKind.i64.wrap ((n : Int) + 1) = ((n + 1 : Nat) : Int) := IntWalk.i64_in _ (by omega)
      obtain ⟨bn, on, c', e, -, -, hbnl, hcells⟩ := HTN.out.some_ (fun e => by rw [e] at hlt; simp at hlt)
      injection e with e1 _ e2
      subst e1 e2
      have hmem : nms[n] ∈ nms := List.getElem_mem hlt
      have hpz := HPZ.out _ hmem
      have hth := HTH.out _ hmem
      have hcn0 := hcells n hlt
      have hdr : nms.drop n = nms[n] :: nms.drop (n + 1) := List.drop_eq_getElem_cons hlt
      have hdg := HDG.out
      rw [hdr] at hdg
      generalize nms[n] = p at *
      have hdg2 : decGo (textS bl) (upT T 3) [] nms = if (decS (textS bl) (hasT T p) (idsT T p) zId).err ≠ 0 then ((decS (textS bl) (hasT T p) (idsT T p) zId).err, []) else decGo (textS bl) (upT T 3) (if (decS (textS bl) (hasT T p) (idsT T p) zId).keep then l ++ [⟨p, (decS (textS bl) (hasT T p) (idsT T p) zId).kind, (decS (textS bl) (hasT T p) (idsT T p) zId).id, whenS (hasT T p) (stsT T p), (decS (textS bl) (hasT T p) (idsT T p) zId).text, hasT T p, idsT T p⟩] else l) (nms.drop (n + 1)) := by
        rw [hdg, decGo_step (d := decS (textS bl) (hasT T p) (idsT T p) zId) hth rfl]; rfl
      have HDG2 := Lib.hid hdg2
      have HCN : Hid (∀ W', Below W.heap.size W W' → W'.cell? ⟨bn, on + n, none⟩ = some (.string p)) := fun W' hb => (hb.cell (p := ⟨bn, on + n, none⟩) hbnl).trans hcn0
      clear hdr hdg hdg2 HDG hmem hth hcells hcn0 hbnl
      have HBQ0 : Hid (Below W.heap.size W wr) := HDQ.out.below
      have hcn := HCN.out wr HBQ0.out
      have HOK0 := Lib.hid (okOu0 hpz)
      have HLN0 := Lib.hid (doC_len HOK0.out)
      have HRB0 := Lib.hid (rb_out0 p)
      have HF0 : Hid ((fillO T p 0).1 = ⟨p, 0, zId, 0, ByteArray.empty, ⟨false, false, false⟩, ⟨zId, zId, zId⟩⟩ ∧ (fillO T p 0).2 = ⟨0, 0, 0⟩) := ⟨rfl, rfl⟩
      have HZSZ : Hid (Tryz.zeroCells48.size = (doC ⟨p, 0, zId, 0, ByteArray.empty, ⟨false, false, false⟩, ⟨zId, zId, zId⟩⟩).toArray.size) := by show _ = _; exact dout_zcells.trans (by rw [List.size_toArray, HLN0.out])
      have HISZ : Hid ((Tryz.prog.info? 48).map (·.size) = some (doC ⟨p, 0, zId, 0, ByteArray.empty, ⟨false, false, false⟩, ⟨zId, zId, zId⟩⟩).toArray.size) := by show _ = _; rw [List.size_toArray, HLN0.out]; exact dout_info
      obtain ⟨o0, ho0⟩ : ∃ o0 : Ou, (⟨p, 0, zId, 0, ByteArray.empty, ⟨false, false, false⟩, ⟨zId, zId, zId⟩⟩ : Ou) = o0 := ⟨_, rfl⟩
      rw [ho0] at HOK0 HLN0 HRB0 HF0 HZSZ HISZ
      clear ho0
      generalize wr = wq at *
      go_upto_region 21 with (first
        | (refine wpList_bld rfl _ rfl (by simp only [Act.put, List.setIfInBounds_toArray]; simp [Act.eval] <;> rfl) HRB0.out ?_)
        | (refine wp_storeB rfl 48 _ _ rfl wq.heap.size (doC o0).toArray rfl rfl (old := Tryz.zeroCells48) Array.getElem?_push_size HZSZ.out HISZ.out doC_all ?_; intro W5 hb5 hg5))
      have hq5 : Below wq.heap.size wq W5 := ((Below.refl wq.heap.size wq).alloc (Nat.le_refl _) _).grown hg5 (by simp) (fun k hk => by cases hk; exact Nat.le_refl _)
      have hd5 : DO W5 wq.heap.size o0 := ⟨hb5, HOK0.out⟩
      have hb6 : Below W5.heap.size W5 (W5.alloc (.cells #[.float .f64 0, .float .f64 0, .float .f64 0] 64 (0, 0))) := (Below.refl _ W5).alloc (Nat.le_refl _) _
      have hs6 : SB (W5.alloc (.cells #[.float .f64 0, .float .f64 0, .float .f64 0] 64 (0, 0))) W5.heap.size ⟨0, 0, 0⟩ := Array.getElem?_push_size
      have HDO6 : Hid (DO (W5.alloc (.cells #[.float .f64 0, .float .f64 0, .float .f64 0] 64 (0, 0))) wq.heap.size (fillO T p 0).1) := by show DO _ _ _; rw [HF0.out.1]; exact hd5.below hb6
      have HSB6 : Hid (SB (W5.alloc (.cells #[.float .f64 0, .float .f64 0, .float .f64 0] 64 (0, 0))) W5.heap.size (fillO T p 0).2) := by show SB _ _ _; rw [HF0.out.2]; exact hs6
      have HQ6 := Lib.hid (hq5.trans (hb6.mono hq5.size))
      have HPP : Hid (wq.heap.size < W5.heap.size ∧ W.heap.size ≤ wq.heap.size) := ⟨hd5.lt, HBQ0.out.size⟩
      clear hb5 hg5 hq5 hd5 hb6 hs6 HOK0 HLN0 HRB0 HF0 HZSZ HISZ hcn
      go_upto_region 22 with fail
      generalize W5.alloc (.cells #[.float .f64 0, .float .f64 0, .float .f64 0] 64 (0, 0)) = W6 at *
      obtain ⟨p18, hp18⟩ : ∃ p18, wq.heap.size = p18 := ⟨_, rfl⟩
      obtain ⟨p19, hp19⟩ : ∃ p19, W5.heap.size = p19 := ⟨_, rfl⟩
      rw [hp18] at HDO6 HPP ⊢
      rw [hp19] at HSB6 HPP ⊢
      have HP18 := Lib.hid hp18
      clear hp18 hp19
      go_upto_region 23 with fail
      go_loopw [20] (fun iv wx => ∃ i : Nat, i ≤ 3 ∧ iv = .int .i64 i ∧ Hid (DO wx p18 (fillO T p i).1) ∧ Hid (SB wx p19 (fillO T p i).2) ∧ Hid (Below wq.heap.size wq wx)) (fun iv _ => (3 - intOf iv).toNat)
      case atStart => exact ⟨0, by decide, rfl, HDO6.out, HSB6.out, HQ6.out⟩
      case round =>
        clear HDO6 HSB6 HQ6
        obtain ⟨i, hi, rfl, HDO, HSB, HQ⟩ := hrel
        by_cases hit : i < 3
        · -- @dev{ L4
          have c1 : decide ((i : Int) < 3) = true := decide_eq_true (by omega)
          have c2 : decide (i < 3) = true := decide_eq_true hit
          have c3 : (0 : Int) ≤ (i : Int) := by omega
          have c4 : (i : Int) < 3 := by omega
          have cw : IntKind.i64.wrap ((i : Int) + 1) = ((i + 1 : Nat) : Int) := IntWalk.i64_in _ (by omega)
          have HBW : Hid (Below W.heap.size W wr) := HBQ0.out.trans (HQ.out.mono HBQ0.out.size)
          have hfn := fun h => fillO_none (T := T) (p := p) (i := i) h
          have hfs := fun f h => fillO_some (T := T) (p := p) (i := i) (f := f) h
          have hfi := HFS.out i hit
          have hci := HCELL.out i hit
          generalize T.get i = ts at hfn hfs hfi
          obtain ⟨fv, hfv⟩ : ∃ fv, (⟨va, vb, vc⟩ : T3 Value).get i = fv := ⟨_, rfl⟩
          rw [hfv] at hfi hci
          obtain ⟨af, cf, rfl⟩ := (hfi wr HBW.out).lit
          have HFN := Lib.hid hfn
          have HFM := Lib.hid hfs
          have HFI := Lib.hid hfi
          have HCI := Lib.hid hci
          have HBD : Hid (Below wr.heap.size wr (wr.drewN 1)) := below_dN (Below.refl _ wr) 1
          have HBWD : Hid (Below W.heap.size W (wr.drewN 1)) := HBW.out.trans (HBD.out.mono HBW.out.size)
          have hs0 : (fun W' : World => W'.cell? ⟨p10, i, none⟩ = some (.slice af ts.length cf) ∧ W'.cell? ⟨bn, on + n, none⟩ = some (.string p)) (wr.drewN 1) := ⟨hci _ HBWD.out, HCN.out _ HBWD.out⟩
          have HFD := Lib.hid (find_c (hfi _ HBWD.out) (p := p) (by omega))
          clear hfn hfs hfi hci hfv
          obtain ⟨fp, hfp⟩ : ∃ fp, findP p ts 0 = fp := ⟨_, rfl⟩
          rw [hfp] at HFD
          have HFP := Lib.hid hfp
          clear hfp
          go_upto_region 25 with fail
          refine wp_region_hz (fun W' : World => W'.cell? ⟨p10, i, none⟩ = some (.slice af ts.length cf) ∧ W'.cell? ⟨bn, on + n, none⟩ = some (.string p)) (.tk 0 (.tk 1 (.tk 2 (.tk 3 (.tk 4 (.tk 5 (.tk 6 (.fc 7 (.tk 8 (.nil)))))))))) (by kernel_rfl) (by kernel_rfl) (fun d v c a w h => HPAN.out d v c a w h) ?_
          refine goZ_tk rfl rfl 106 rfl (.int .i64 i) (fun _ => rfl) ?_; simp only [zT, zA, zB]
          refine goZ_tk rfl rfl 107 rfl (.pointer (some ⟨p10, i, none⟩)) (fun _ => by go_simp) ?_; simp only [zT, zA, zB]
          refine goZ_ld rfl rfl 108 rfl 38 _ rfl ⟨p10, i, none⟩ (.slice af ts.length cf) rfl (fun W hS => ld_dfiles _ _ W hS.1) (hs0) ?_; simp only [zT, zA, zB]
          refine goZ_tk rfl rfl 109 rfl (.slice (some ⟨bn, on, none⟩) nms.length cn) (fun _ => rfl) ?_; simp only [zT, zA, zB]
          refine goZ_tk rfl rfl 110 rfl (.int .i64 n) (fun _ => rfl) ?_; simp only [zT, zA, zB]
          refine goZ_tk rfl rfl 111 rfl (.pointer (some ⟨bn, on + n, none⟩)) (fun _ => by go_simp) ?_; simp only [zT, zA, zB]
          refine goZ_ld rfl rfl 112 rfl 9 _ rfl ⟨bn, on + n, none⟩ (.string p) rfl (fun W hS => ld_str9 _ _ W hS.2) (hs0) ?_; simp only [zT, zA, zB]
          refine goZ_call (ds' := []) rfl rfl (by kernel_rfl) 113 rfl 21 _ rfl [(.slice af ts.length cf), .string p] rfl (enters_of Tryz.func21 (by kernel_rfl) rfl) ((HFD.out).mono ?_)
          rintro e W5 ⟨rfl, hb5⟩
          have HB5 := Lib.hid hb5
          clear hb5 hs0
          refine ⟨(.int .i64 fp), rfl, fun h => absurd rfl h, ?_⟩; simp only [zT, zA, zB]
          refine goZ_tk rfl rfl 21 rfl (.int .i64 fp) (fun _ => rfl) ?_; simp only [zT, zA, zB]
          refine goZ_end ?_
          have hq5 := HQ.out.trans ((HBD.out.trans (HB5.out.mono HBD.out.size)).mono HQ.out.size)
          have hb5 := HBD.out.trans (HB5.out.mono HBD.out.size)
          have HQ5 := Lib.hid hq5
          have HDO5 := Lib.hid (HDO.out.below hb5)
          have HSB5 := Lib.hid (HSB.out.below hb5)
          have HBW5 := Lib.hid (HBW.out.trans (hb5.mono HBW.out.size))
          clear hq5 hb5 HB5 HBD HBWD HQ HDO HSB HBW HFD
          cases hfa : fiAt ts p with
          | none =>
            have h1 := HFN.out hfa
            have h2 : fp = -1 := HFP.out.symm.trans (findP_none hfa)
            subst h2
            have HDN : Hid (Hid (DO W5 p18 (fillO T p (i + 1)).1)) := by show DO _ _ _; rw [h1]; exact HDO5.out
            have HSN : Hid (Hid (SB W5 p19 (fillO T p (i + 1)).2)) := by show SB _ _ _; rw [h1]; exact HSB5.out
            have HQN : Hid (Hid (Below wq.heap.size wq W5)) := HQ5
            have e1 : decide ((-1 : Int) ≥ 0) = false := by decide
            clear h1 hfa HFN HFM HFP HDO5 HSB5 HQ5 HBW5 HFI HCI
            go_wp2_with fail
            go_roundw
            case rel => exact ⟨i + 1, by omega, by go_num, HDN.out, HSN.out, HQN.out⟩
            case measure => simp [intOf]; omega
          | some f =>
            have h1 := HFM.out f hfa
            obtain ⟨j, h2, h3⟩ := findP_some (k := 0) hfa
            rw [Nat.zero_add] at h2
            have h4 : fp = (j : Int) := HFP.out.symm.trans h2
            subst h4
            obtain ⟨hjl, hje⟩ := List.getElem?_eq_some_iff.1 h3
            have e1 : decide ((j : Int) ≥ 0) = true := decide_eq_true (by omega)
            have e2 : decide ((0 : Int) ≤ (j : Int)) = true := decide_eq_true (by omega)
            have e3 : (0 : Int) ≤ (j : Int) := by omega
            have e4 : (j : Int) < (ts.length : Int) := by omega
            have HFO : Hid ((fillO T p (i + 1)).1 = { (fillO T p i).1 with has := (fillO T p i).1.has.set i true, ids := (fillO T p i).1.ids.set i f.id } ∧ (fillO T p (i + 1)).2 = (fillO T p i).2.set i f.stamp) := by rw [h1]; exact ⟨rfl, rfl⟩
            have HJL := Lib.hid hjl
            have HJE := Lib.hid hje
            clear h1 h2 h3 hfa HFN HFM HFP hje
            obtain ⟨fo, hfo⟩ : ∃ fo, fillO T p i = fo := ⟨_, rfl⟩
            rw [hfo] at HDO5 HSB5 HFO
            clear hfo
            obtain ⟨o5, s5⟩ := fo
            have HFO : Hid ((fillO T p (i + 1)).1 = { o5 with has := o5.has.set i true, ids := o5.ids.set i f.id } ∧ (fillO T p (i + 1)).2 = s5.set i f.stamp) := HFO
            have HDO5 : Hid (DO W5 p18 o5) := HDO5
            have HSB5 : Hid (SB W5 p19 s5) := HSB5
            have hcH := HDO5.out.hg hit
            have hfH := HDO5.out.blk.fz (36 + i)
            go_upto_region 28 with fail
            obtain ⟨hd6, hg6⟩ := HDO5.out.hasput hit true
            have hbb6 : Below p18 W5 (W5.setCell ⟨p18, 36 + i, none⟩ (.bool true)) := (Below.refl _ W5).grown hg6 (Nat.le_of_lt HDO5.out.lt) (fun k hk => by cases hk; exact Nat.le_refl _)
            have hs6 := HSB5.out.kept hg6 (by have := HPP.out.1; simp; omega)
            clear hcH hfH hg6
            generalize W5.setCell ⟨p18, 36 + i, none⟩ (.bool true) = W7 at *
            have hwp : W.heap.size ≤ p18 := HPP.out.2
            have HQ7 : Hid (Below wq.heap.size wq W7) := HQ5.out.trans (by rw [HP18.out]; exact hbb6)
            have HBW7 : Hid (Below W.heap.size W W7) := HBW5.out.trans (hbb6.mono hwp)
            obtain ⟨b, o, c', e, -, hr⟩ := (HFI.out W7 HBW7.out).at HJL.out
            injection e with e5 _ e6
            subst e5 e6
            have hrj := hr j HJL.out
            rw [HJE.out] at hrj
            have hokf : OkFi f := by have h := (HFI.out W7 HBW7.out).ok _ (List.getElem_mem HJL.out); rw [HJE.out] at h; exact h
            have hci7 := HCI.out W7 HBW7.out
            have HFF := Lib.hid (fi_fld hokf hrj)
            have HOKF := Lib.hid hokf
            have HINF : Hid ((Tryz.prog.info? 43).map (·.size) = some (nb f.id).length) := by show _ = _; rw [nb_len, hokf.id.1]; kernel_rfl
            have HINF2 : Hid ((Tryz.prog.info? 43).map (·.size) = some (nums .u8 f.id).size) := by show _ = _; rw [nums_size, hokf.id.1]; kernel_rfl
            have HTHR : Hid (W7.there p18 (39 + i * 32) (nums .u8 f.id).size) := by
              show W7.there p18 (39 + i * 32) (nums .u8 f.id).size
              rw [nums_size, hokf.id.1]
              exact hd6.blk.there (39 + i * 32) 32 (by rw [doC_len hd6.ok]; omega)
            have HD7 := Lib.hid hd6
            have HS7 := Lib.hid hs6
            clear hr hrj hokf hbb6 hd6 hs6 HQ5 HBW5 HDO5 HSB5
            go_upto_region 29 with (first
              | (refine wpList_load_mid rfl 43 _ rfl b (o + j * 34 + 1) rfl (nb f.id) _ HFF.out.1 id_under rfl HINF.out ?_)
              | (refine wpList_store_mid rfl 43 _ _ rfl p18 (39 + i * 32) (nums .u8 f.id) rfl rfl HTHR.out HINF2.out (nums_one _ _) ?_))
            obtain ⟨hd8, hg8⟩ := HD7.out.idsput hit HOKF.out.id
            have hbb8 : Below p18 W7 (W7.setCells p18 (39 + i * 32) (nb f.id)) := (Below.refl _ W7).grown hg8 (Nat.le_of_lt HD7.out.lt) (fun k hk => by cases hk; exact Nat.le_refl _)
            have hs8 := HS7.out.kept hg8 (by have := HPP.out.1; simp; omega)
            have hnb : (nums .u8 f.id).toList = nb f.id := rfl
            try rw [hnb]
            clear hg8 hnb hci7
            generalize W7.setCells p18 (39 + i * 32) (nb f.id) = W8 at *
            have HQ8 : Hid (Below wq.heap.size wq W8) := HQ7.out.trans (by rw [HP18.out]; exact hbb8)
            have HBW8 : Hid (Below W.heap.size W W8) := HBW7.out.trans (hbb8.mono hwp)
            have hci8 := HCI.out W8 HBW8.out
            have hst8 : W8.cell? ⟨b, o + j * 34 + 33, none⟩ = some (.float .f64 f.stamp) := by
              obtain ⟨b2, o2, c2', e, -, hr⟩ := (HFI.out W8 HBW8.out).at HJL.out
              injection e with e5 _ e6
              injection e5 with e5
              injection e5 with e7 e8 _
              subst e7 e8
              have hrj := hr j HJL.out
              rw [HJE.out] at hrj
              exact (fi_fld HOKF.out hrj).2
            have hc19 := hs8.cell hit
            have hf19 := hs8.fz i
            have hsf : (store ⟨p19, i, none⟩ (.float .f64 f.stamp)).run Tryz.prog W8 = .ok () (W8.setCell ⟨p19, i, none⟩ (.float .f64 f.stamp)) := by rw [run_store _ _ _ _ _ rfl, hc19]; simp [hf19]
            have hg9 := grown_set W8 p19 i (.float .f64 f.stamp)
            have hbb9 : Below p18 W8 (W8.setCell ⟨p19, i, none⟩ (.float .f64 f.stamp)) := (Below.refl _ W8).grown hg9 (Nat.le_of_lt hd8.lt) (fun k hk => by cases hk; have := HPP.out.1; omega)
            have HDN : Hid (Hid (DO (W8.setCell ⟨p19, i, none⟩ (.float .f64 f.stamp)) p18 (fillO T p (i + 1)).1)) := by show DO _ _ _; rw [HFO.out.1]; exact hd8.kept hg9 (by have := HPP.out.1; simp; omega)
            have HSN : Hid (Hid (SB (W8.setCell ⟨p19, i, none⟩ (.float .f64 f.stamp)) p19 (fillO T p (i + 1)).2)) := by show SB _ _ _; rw [HFO.out.2]; exact hs8.put hit _
            have HQN : Hid (Hid (Below wq.heap.size wq (W8.setCell ⟨p19, i, none⟩ (.float .f64 f.stamp)))) := HQ8.out.trans (by rw [HP18.out]; exact hbb9)
            clear hd8 hs8 hbb8 hbb9 hg9 HFO HFF HOKF HINF HINF2 HTHR HD7 HS7 HQ7 HQ8 HBW7 HBW8 HFI HCI HJL HJE
            go_wp2_with fail
            go_roundw
            case rel => exact ⟨i + 1, by omega, by go_num, HDN.out, HSN.out, HQN.out⟩
            case measure => simp [intOf]; omega
        · have hi3 : i = 3 := by omega
          have c1 : decide ((i : Int) < 3) = false := decide_eq_false (by omega)
          have c2 : decide (i < 3) = false := decide_eq_false hit
          have HDO3 : Hid (DO wr p18 ⟨p, 0, zId, 0, ByteArray.empty, hasT T p, idsT T p⟩) := by show DO _ _ _; have h := HDO.out; rw [hi3, fillO_all] at h; exact h
          have HSB3 : Hid (SB wr p19 (stsT T p)) := by show SB _ _ _; have h := HSB.out; rw [hi3, fillO_all] at h; exact h
          have HSTB : Hid ((stsT T p).b < 2 ^ 64 ∧ (stsT T p).c < 2 ^ 64) := ⟨stF_lt (l := T.b) (HFS.out 1 (by decide) W (Below.refl _ _)).ok p, stF_lt (l := T.c) (HFS.out 2 (by decide) W (Below.refl _ _)).ok p⟩
          clear hi3 HDO HSB
          generalize hasT T p = h at HDG2 HDO3
          generalize idsT T p = ids at HDG2 HDO3
          generalize stsT T p = sts at HDG2 HSB3 HSTB
          generalize wr = w7 at *
          have HB3 : Hid (w7.rangeAt p18 36 [.bool h.a, .bool h.b, .bool h.c]) := HDO3.out.b3
          have HSBK : Hid (w7.heap[p19]? = some (.cells #[.float .f64 sts.a, .float .f64 sts.b, .float .f64 sts.c] 64 (0, 0))) := HSB3.out
          go_upto_region 31 with (first
            | (refine wpList_load_mid rfl 45 _ rfl p18 36 rfl [.bool h.a, .bool h.b, .bool h.c] _ HB3.out Tryz.underlying45 rfl (by kernel_rfl) ?_)
            | (refine wp_loadB rfl 64 _ rfl p19 rfl HSBK.out _ Tryz.underlying64 rfl (by kernel_rfl) ?_)
            | (go_at_call 32; refine (rwhen_c w7 h sts HSTB.out.1 HSTB.out.2).mono ?_; rintro e w9 ⟨rfl, hb9⟩; have HD9 := Lib.hid (HDO3.out.below hb9); have HB9 := Lib.hid hb9; have hc34 := HD9.out.sc; have hf34 := HD9.out.blk.fz 34; have hsf : (store ⟨p18, 34, none⟩ (.float .f64 (whenS h sts))).run Tryz.prog w9 = .ok () (w9.setCell ⟨p18, 34, none⟩ (.float .f64 (whenS h sts))) := (by rw [run_store _ _ _ _ _ rfl, hc34]; simp [hf34]); clear hb9))
          obtain ⟨hd10, hg10⟩ := HD9.out.stamp (x := whenS h sts) (whenS_lt HSTB.out.1 HSTB.out.2)
          have hbb10 : Below p18 w9 (w9.setCell ⟨p18, 34, none⟩ (.float .f64 (whenS h sts))) := (Below.refl _ w9).grown hg10 (Nat.le_of_lt HD9.out.lt) (fun k hk => by cases hk; exact Nat.le_refl _)
          clear hc34 hf34 hsf hg10 HB3 HSBK HSB3 HDO3 HSTB
          generalize w9.setCell ⟨p18, 34, none⟩ (.float .f64 (whenS h sts)) = W10 at *
          have HQ10 : Hid (Below wq.heap.size wq W10) := (HQ.out.trans (HB9.out.mono HQ.out.size)).trans (by rw [HP18.out]; exact hbb10)
          have HD10 : Hid (DO W10 p18 ⟨p, 0, zId, whenS h sts, ByteArray.empty, h, ids⟩) := hd10
          clear hbb10 hd10 HB9 HD9 HQ
          generalize whenS h sts = st at *
          have HOK : Hid (OkOu ⟨p, 0, zId, st, ByteArray.empty, h, ids⟩) := HD10.out.ok
          obtain ⟨zab, hzab⟩ : ∃ z, eqS h.a h.b ids.a ids.b = z := ⟨_, rfl⟩
          obtain ⟨zac, hzac⟩ : ∃ z, eqS h.a h.c ids.a ids.c = z := ⟨_, rfl⟩
          obtain ⟨zbc, hzbc⟩ : ∃ z, eqS h.b h.c ids.b ids.c = z := ⟨_, rfl⟩
          have HDEC : Hid (decS (textS bl) h ids zId = if zbc || zac then ⟨h.b, 0, 1, ids.b, ByteArray.empty⟩ else if zab then ⟨h.c, 0, 1, ids.c, ByteArray.empty⟩ else ⟨true, (weaveS (textS bl) h ids).1, (weaveS (textS bl) h ids).2.1, zId, (weaveS (textS bl) h ids).2.2⟩) := by
            show _ = _
            rw [← hzab, ← hzac, ← hzbc]; rfl
          have HZAB := Lib.hid hzab
          have HZAC := Lib.hid hzac
          have HZBC := Lib.hid hzbc
          clear hzab hzac hzbc
          go_cut [22, 23] from 143 to 174 (fun v22 v23 wx => v22 = .bool (!zab) ∧ v23 = .bool (!zac) ∧ Below W10.heap.size W10 wx)
          case first =>
            -- @dev{ R31
            have hs0 : DO (W10.drewN 1) p18 ⟨p, 0, zId, st, ByteArray.empty, h, ids⟩ := HD10.out.below (below_dN (Below.refl _ W10) 1)
            obtain ⟨n1, hn1⟩ : ∃ n, (h.b != h.a) = n := ⟨_, rfl⟩
            obtain ⟨n2, hn2⟩ : ∃ n, (h.c != h.a) = n := ⟨_, rfl⟩
            obtain ⟨m1, hm1⟩ : ∃ m, (!decide (ids.b = ids.a)) = m := ⟨_, rfl⟩
            obtain ⟨m2, hm2⟩ : ∃ m, (!decide (ids.c = ids.a)) = m := ⟨_, rfl⟩
            have HQ1 : Hid (∀ w, (binOp .neq 4 (.bool h.b) (.bool h.a)).run Tryz.prog w = .ok (.bool n1) w) := fun w => by rw [bool_neq, hn1]
            have HQ2 : Hid (∀ w, (binOp .neq 4 (.bool h.c) (.bool h.a)).run Tryz.prog w = .ok (.bool n2) w) := fun w => by rw [bool_neq, hn2]
            have HM1 : Hid (∀ w, (binOp .neq 43 (.agg (nums .u8 ids.b)) (.agg (nums .u8 ids.a))).run Tryz.prog w = .ok (.bool m1) w) := fun w => by rw [id_neq HOK.out.ib HOK.out.ia, hm1]
            have HM2 : Hid (∀ w, (binOp .neq 43 (.agg (nums .u8 ids.c)) (.agg (nums .u8 ids.a))).run Tryz.prog w = .ok (.bool m2) w) := fun w => by rw [id_neq HOK.out.ic HOK.out.ia, hm2]
            have HE1 : Hid ((n1 = true → (!zab) = true) ∧ (n1 = false → (!zab) = m1)) := ⟨fun e => by rw [← HZAB.out]; exact eqS_ne (hn1.trans e), fun e => by rw [← HZAB.out, ← hm1]; exact eqS_sm (hn1.trans e)⟩
            have HE2 : Hid ((n2 = true → (!zac) = true) ∧ (n2 = false → (!zac) = m2)) := ⟨fun e => by rw [← HZAC.out]; exact eqS_ne (hn2.trans e), fun e => by rw [← HZAC.out, ← hm2]; exact eqS_sm (hn2.trans e)⟩
            clear hn1 hn2 hm1 hm2
            have hd : Below W10.heap.size W10 (W10.drewN 1) := below_dN (Below.refl _ W10) 1
            have HBD := Lib.hid hd
            clear hd
            cases n1
            · cases n2
              · have HX1 := Lib.hid (HE1.out.2 rfl)
                have HX2 := Lib.hid (HE2.out.2 rfl)
                refine wp_region_hz (fun W => DO W p18 ⟨p, 0, zId, st, ByteArray.empty, h, ids⟩) (.tk 0 (.tk 1 (.tk 2 (.tk 3 (.tk 4 (.tk 5 (.tk 6 (.tk 7 (.tk 8 (.tk 9 (.tk 10 (.tk 11 (.tk 12 (.tk 13 (.tk 14 (.tk 15 (.tk 16 (.tk 17 (.tk 18 (.tk 19 (.tk 20 (.tk 21 (.tk 22 (.tk 23 (.tk 24 (.tk 25 (.tk 26 (.tk 27 (.tk 28 (.tk 29 (.tk 30 (.tk 31 (.tk 32 (.tk 33 (.nil))))))))))))))))))))))))))))))))))) (by kernel_rfl) (by kernel_rfl) (fun d v c a w h => HPAN.out d v c a w h) ?_
                refine goZ_tk rfl rfl 143 rfl (.pointer (some ⟨p18, 36, none⟩)) (fun _ => rfl) ?_; simp only [zT, zA, zB]
                refine goZ_tk rfl rfl 144 rfl (.pointer (some ⟨p18, 37, none⟩)) (fun _ => by go_simp) ?_; simp only [zT, zA, zB]
                refine goZ_ld rfl rfl 145 rfl 4 _ rfl ⟨p18, 37, none⟩ (.bool h.b) rfl (fun W hS => ld_bool _ _ W (hS.hg (i := 1) (by decide))) (hs0) ?_; simp only [zT, zA, zB]
                refine goZ_tk rfl rfl 146 rfl (.pointer (some ⟨p18, 36, none⟩)) (fun _ => rfl) ?_; simp only [zT, zA, zB]
                refine goZ_tk rfl rfl 147 rfl (.pointer (some ⟨p18, 36, none⟩)) (fun _ => by go_simp) ?_; simp only [zT, zA, zB]
                refine goZ_ld rfl rfl 148 rfl 4 _ rfl ⟨p18, 36, none⟩ (.bool h.a) rfl (fun W hS => ld_bool _ _ W (hS.hg (i := 0) (by decide))) (hs0) ?_; simp only [zT, zA, zB]
                refine goZ_tk rfl rfl 149 rfl (.bool false) (exec_bin _ _ rfl rfl rfl (fun _ => by first | rfl | go_simp) HQ1.out) ?_; simp only [zT, zA, zB]
                refine goZ_tk rfl rfl 150 rfl (.bool false) (fun _ => rfl) ?_; simp only [zT, zA, zB]
                refine goZ_tk rfl rfl 151 rfl (.pointer (some ⟨p18, 39, none⟩)) (fun _ => rfl) ?_; simp only [zT, zA, zB]
                refine goZ_tk rfl rfl 152 rfl (.pointer (some ⟨p18, 71, none⟩)) (fun _ => by go_simp) ?_; simp only [zT, zA, zB]
                refine goZ_ld rfl rfl 153 rfl 43 _ rfl ⟨p18, 71, none⟩ (.agg (nums .u8 ids.b)) rfl (fun W hS => ld_id HOK.out.ib (hS.ig (i := 1) (by decide))) (hs0) ?_; simp only [zT, zA, zB]
                refine goZ_tk rfl rfl 154 rfl (.pointer (some ⟨p18, 39, none⟩)) (fun _ => rfl) ?_; simp only [zT, zA, zB]
                refine goZ_tk rfl rfl 155 rfl (.pointer (some ⟨p18, 39, none⟩)) (fun _ => by go_simp) ?_; simp only [zT, zA, zB]
                refine goZ_ld rfl rfl 156 rfl 43 _ rfl ⟨p18, 39, none⟩ (.agg (nums .u8 ids.a)) rfl (fun W hS => ld_id HOK.out.ia (hS.ig (i := 0) (by decide))) (hs0) ?_; simp only [zT, zA, zB]
                refine goZ_tk rfl rfl 157 rfl (.bool m1) (exec_bin _ _ rfl rfl rfl (fun _ => by first | rfl | go_simp) HM1.out) ?_; simp only [zT, zA, zB]
                refine goZ_tk rfl rfl 158 rfl (.bool m1) (fun _ => rfl) ?_; simp only [zT, zA, zB]
                refine goZ_tk rfl rfl 159 rfl (.pointer (some ⟨p18, 36, none⟩)) (fun _ => rfl) ?_; simp only [zT, zA, zB]
                refine goZ_tk rfl rfl 160 rfl (.pointer (some ⟨p18, 38, none⟩)) (fun _ => by go_simp) ?_; simp only [zT, zA, zB]
                refine goZ_ld rfl rfl 161 rfl 4 _ rfl ⟨p18, 38, none⟩ (.bool h.c) rfl (fun W hS => ld_bool _ _ W (hS.hg (i := 2) (by decide))) (hs0) ?_; simp only [zT, zA, zB]
                refine goZ_tk rfl rfl 162 rfl (.pointer (some ⟨p18, 36, none⟩)) (fun _ => rfl) ?_; simp only [zT, zA, zB]
                refine goZ_tk rfl rfl 163 rfl (.pointer (some ⟨p18, 36, none⟩)) (fun _ => by go_simp) ?_; simp only [zT, zA, zB]
                refine goZ_ld rfl rfl 164 rfl 4 _ rfl ⟨p18, 36, none⟩ (.bool h.a) rfl (fun W hS => ld_bool _ _ W (hS.hg (i := 0) (by decide))) (hs0) ?_; simp only [zT, zA, zB]
                refine goZ_tk rfl rfl 165 rfl (.bool false) (exec_bin _ _ rfl rfl rfl (fun _ => by first | rfl | go_simp) HQ2.out) ?_; simp only [zT, zA, zB]
                refine goZ_tk rfl rfl 166 rfl (.bool false) (fun _ => rfl) ?_; simp only [zT, zA, zB]
                refine goZ_tk rfl rfl 167 rfl (.pointer (some ⟨p18, 39, none⟩)) (fun _ => rfl) ?_; simp only [zT, zA, zB]
                refine goZ_tk rfl rfl 168 rfl (.pointer (some ⟨p18, 103, none⟩)) (fun _ => by go_simp) ?_; simp only [zT, zA, zB]
                refine goZ_ld rfl rfl 169 rfl 43 _ rfl ⟨p18, 103, none⟩ (.agg (nums .u8 ids.c)) rfl (fun W hS => ld_id HOK.out.ic (hS.ig (i := 2) (by decide))) (hs0) ?_; simp only [zT, zA, zB]
                refine goZ_tk rfl rfl 170 rfl (.pointer (some ⟨p18, 39, none⟩)) (fun _ => rfl) ?_; simp only [zT, zA, zB]
                refine goZ_tk rfl rfl 171 rfl (.pointer (some ⟨p18, 39, none⟩)) (fun _ => by go_simp) ?_; simp only [zT, zA, zB]
                refine goZ_ld rfl rfl 172 rfl 43 _ rfl ⟨p18, 39, none⟩ (.agg (nums .u8 ids.a)) rfl (fun W hS => ld_id HOK.out.ia (hS.ig (i := 0) (by decide))) (hs0) ?_; simp only [zT, zA, zB]
                refine goZ_tk rfl rfl 173 rfl (.bool m2) (exec_bin _ _ rfl rfl rfl (fun _ => by first | rfl | go_simp) HM2.out) ?_; simp only [zT, zA, zB]
                refine goZ_tk rfl rfl 174 rfl (.bool m2) (fun _ => rfl) ?_; simp only [zT, zA, zB]
                refine goZ_tk rfl rfl 22 rfl (.bool m1) (fun _ => rfl) ?_; simp only [zT, zA, zB]
                refine goZ_tk rfl rfl 23 rfl (.bool m2) (fun _ => rfl) ?_; simp only [zT, zA, zB]
                refine goZ_end ?_
                go_wp2_with fail
                go_meet
                case rel => exact ⟨congrArg Value.bool (HX1.out).symm, congrArg Value.bool (HX2.out).symm, HBD.out⟩
              · have HX1 := Lib.hid (HE1.out.2 rfl)
                have HX2 := Lib.hid (HE2.out.1 rfl)
                refine wp_region_hz (fun W => DO W p18 ⟨p, 0, zId, st, ByteArray.empty, h, ids⟩) (.tk 0 (.tk 1 (.tk 2 (.tk 3 (.tk 4 (.tk 5 (.tk 6 (.tk 7 (.tk 8 (.tk 9 (.tk 10 (.tk 11 (.tk 12 (.tk 13 (.tk 14 (.tk 15 (.tk 16 (.tk 17 (.tk 18 (.tk 19 (.tk 20 (.tk 21 (.tk 22 (.tk 23 (.tk 24 (.tk 25 (.tk 26 (.tk 27 (.tk 28 (.tk 29 (.tk 30 (.tk 31 (.tk 32 (.tk 33 (.nil))))))))))))))))))))))))))))))))))) (by kernel_rfl) (by kernel_rfl) (fun d v c a w h => HPAN.out d v c a w h) ?_
                refine goZ_tk rfl rfl 143 rfl (.pointer (some ⟨p18, 36, none⟩)) (fun _ => rfl) ?_; simp only [zT, zA, zB]
                refine goZ_tk rfl rfl 144 rfl (.pointer (some ⟨p18, 37, none⟩)) (fun _ => by go_simp) ?_; simp only [zT, zA, zB]
                refine goZ_ld rfl rfl 145 rfl 4 _ rfl ⟨p18, 37, none⟩ (.bool h.b) rfl (fun W hS => ld_bool _ _ W (hS.hg (i := 1) (by decide))) (hs0) ?_; simp only [zT, zA, zB]
                refine goZ_tk rfl rfl 146 rfl (.pointer (some ⟨p18, 36, none⟩)) (fun _ => rfl) ?_; simp only [zT, zA, zB]
                refine goZ_tk rfl rfl 147 rfl (.pointer (some ⟨p18, 36, none⟩)) (fun _ => by go_simp) ?_; simp only [zT, zA, zB]
                refine goZ_ld rfl rfl 148 rfl 4 _ rfl ⟨p18, 36, none⟩ (.bool h.a) rfl (fun W hS => ld_bool _ _ W (hS.hg (i := 0) (by decide))) (hs0) ?_; simp only [zT, zA, zB]
                refine goZ_tk rfl rfl 149 rfl (.bool false) (exec_bin _ _ rfl rfl rfl (fun _ => by first | rfl | go_simp) HQ1.out) ?_; simp only [zT, zA, zB]
                refine goZ_tk rfl rfl 150 rfl (.bool false) (fun _ => rfl) ?_; simp only [zT, zA, zB]
                refine goZ_tk rfl rfl 151 rfl (.pointer (some ⟨p18, 39, none⟩)) (fun _ => rfl) ?_; simp only [zT, zA, zB]
                refine goZ_tk rfl rfl 152 rfl (.pointer (some ⟨p18, 71, none⟩)) (fun _ => by go_simp) ?_; simp only [zT, zA, zB]
                refine goZ_ld rfl rfl 153 rfl 43 _ rfl ⟨p18, 71, none⟩ (.agg (nums .u8 ids.b)) rfl (fun W hS => ld_id HOK.out.ib (hS.ig (i := 1) (by decide))) (hs0) ?_; simp only [zT, zA, zB]
                refine goZ_tk rfl rfl 154 rfl (.pointer (some ⟨p18, 39, none⟩)) (fun _ => rfl) ?_; simp only [zT, zA, zB]
                refine goZ_tk rfl rfl 155 rfl (.pointer (some ⟨p18, 39, none⟩)) (fun _ => by go_simp) ?_; simp only [zT, zA, zB]
                refine goZ_ld rfl rfl 156 rfl 43 _ rfl ⟨p18, 39, none⟩ (.agg (nums .u8 ids.a)) rfl (fun W hS => ld_id HOK.out.ia (hS.ig (i := 0) (by decide))) (hs0) ?_; simp only [zT, zA, zB]
                refine goZ_tk rfl rfl 157 rfl (.bool m1) (exec_bin _ _ rfl rfl rfl (fun _ => by first | rfl | go_simp) HM1.out) ?_; simp only [zT, zA, zB]
                refine goZ_tk rfl rfl 158 rfl (.bool m1) (fun _ => rfl) ?_; simp only [zT, zA, zB]
                refine goZ_tk rfl rfl 159 rfl (.pointer (some ⟨p18, 36, none⟩)) (fun _ => rfl) ?_; simp only [zT, zA, zB]
                refine goZ_tk rfl rfl 160 rfl (.pointer (some ⟨p18, 38, none⟩)) (fun _ => by go_simp) ?_; simp only [zT, zA, zB]
                refine goZ_ld rfl rfl 161 rfl 4 _ rfl ⟨p18, 38, none⟩ (.bool h.c) rfl (fun W hS => ld_bool _ _ W (hS.hg (i := 2) (by decide))) (hs0) ?_; simp only [zT, zA, zB]
                refine goZ_tk rfl rfl 162 rfl (.pointer (some ⟨p18, 36, none⟩)) (fun _ => rfl) ?_; simp only [zT, zA, zB]
                refine goZ_tk rfl rfl 163 rfl (.pointer (some ⟨p18, 36, none⟩)) (fun _ => by go_simp) ?_; simp only [zT, zA, zB]
                refine goZ_ld rfl rfl 164 rfl 4 _ rfl ⟨p18, 36, none⟩ (.bool h.a) rfl (fun W hS => ld_bool _ _ W (hS.hg (i := 0) (by decide))) (hs0) ?_; simp only [zT, zA, zB]
                refine goZ_tk rfl rfl 165 rfl (.bool true) (exec_bin _ _ rfl rfl rfl (fun _ => by first | rfl | go_simp) HQ2.out) ?_; simp only [zT, zA, zB]
                refine goZ_tk rfl rfl 166 rfl (.bool true) (fun _ => rfl) ?_; simp only [zT, zA, zB]
                refine goZ_no rfl rfl 167 rfl ?_; simp only [zT, zA, zB]
                refine goZ_no rfl rfl 168 rfl ?_; simp only [zT, zA, zB]
                refine goZ_no rfl rfl 169 rfl ?_; simp only [zT, zA, zB]
                refine goZ_no rfl rfl 170 rfl ?_; simp only [zT, zA, zB]
                refine goZ_no rfl rfl 171 rfl ?_; simp only [zT, zA, zB]
                refine goZ_no rfl rfl 172 rfl ?_; simp only [zT, zA, zB]
                refine goZ_no rfl rfl 173 rfl ?_; simp only [zT, zA, zB]
                refine goZ_tk rfl rfl 174 rfl (.bool true) (fun _ => rfl) ?_; simp only [zT, zA, zB]
                refine goZ_tk rfl rfl 22 rfl (.bool m1) (fun _ => rfl) ?_; simp only [zT, zA, zB]
                refine goZ_tk rfl rfl 23 rfl (.bool true) (fun _ => rfl) ?_; simp only [zT, zA, zB]
                refine goZ_end ?_
                go_wp2_with fail
                go_meet
                case rel => exact ⟨congrArg Value.bool (HX1.out).symm, congrArg Value.bool (HX2.out).symm, HBD.out⟩
            · cases n2
              · have HX1 := Lib.hid (HE1.out.1 rfl)
                have HX2 := Lib.hid (HE2.out.2 rfl)
                refine wp_region_hz (fun W => DO W p18 ⟨p, 0, zId, st, ByteArray.empty, h, ids⟩) (.tk 0 (.tk 1 (.tk 2 (.tk 3 (.tk 4 (.tk 5 (.tk 6 (.tk 7 (.tk 8 (.tk 9 (.tk 10 (.tk 11 (.tk 12 (.tk 13 (.tk 14 (.tk 15 (.tk 16 (.tk 17 (.tk 18 (.tk 19 (.tk 20 (.tk 21 (.tk 22 (.tk 23 (.tk 24 (.tk 25 (.tk 26 (.tk 27 (.tk 28 (.tk 29 (.tk 30 (.tk 31 (.tk 32 (.tk 33 (.nil))))))))))))))))))))))))))))))))))) (by kernel_rfl) (by kernel_rfl) (fun d v c a w h => HPAN.out d v c a w h) ?_
                refine goZ_tk rfl rfl 143 rfl (.pointer (some ⟨p18, 36, none⟩)) (fun _ => rfl) ?_; simp only [zT, zA, zB]
                refine goZ_tk rfl rfl 144 rfl (.pointer (some ⟨p18, 37, none⟩)) (fun _ => by go_simp) ?_; simp only [zT, zA, zB]
                refine goZ_ld rfl rfl 145 rfl 4 _ rfl ⟨p18, 37, none⟩ (.bool h.b) rfl (fun W hS => ld_bool _ _ W (hS.hg (i := 1) (by decide))) (hs0) ?_; simp only [zT, zA, zB]
                refine goZ_tk rfl rfl 146 rfl (.pointer (some ⟨p18, 36, none⟩)) (fun _ => rfl) ?_; simp only [zT, zA, zB]
                refine goZ_tk rfl rfl 147 rfl (.pointer (some ⟨p18, 36, none⟩)) (fun _ => by go_simp) ?_; simp only [zT, zA, zB]
                refine goZ_ld rfl rfl 148 rfl 4 _ rfl ⟨p18, 36, none⟩ (.bool h.a) rfl (fun W hS => ld_bool _ _ W (hS.hg (i := 0) (by decide))) (hs0) ?_; simp only [zT, zA, zB]
                refine goZ_tk rfl rfl 149 rfl (.bool true) (exec_bin _ _ rfl rfl rfl (fun _ => by first | rfl | go_simp) HQ1.out) ?_; simp only [zT, zA, zB]
                refine goZ_tk rfl rfl 150 rfl (.bool true) (fun _ => rfl) ?_; simp only [zT, zA, zB]
                refine goZ_no rfl rfl 151 rfl ?_; simp only [zT, zA, zB]
                refine goZ_no rfl rfl 152 rfl ?_; simp only [zT, zA, zB]
                refine goZ_no rfl rfl 153 rfl ?_; simp only [zT, zA, zB]
                refine goZ_no rfl rfl 154 rfl ?_; simp only [zT, zA, zB]
                refine goZ_no rfl rfl 155 rfl ?_; simp only [zT, zA, zB]
                refine goZ_no rfl rfl 156 rfl ?_; simp only [zT, zA, zB]
                refine goZ_no rfl rfl 157 rfl ?_; simp only [zT, zA, zB]
                refine goZ_tk rfl rfl 158 rfl (.bool true) (fun _ => rfl) ?_; simp only [zT, zA, zB]
                refine goZ_tk rfl rfl 159 rfl (.pointer (some ⟨p18, 36, none⟩)) (fun _ => rfl) ?_; simp only [zT, zA, zB]
                refine goZ_tk rfl rfl 160 rfl (.pointer (some ⟨p18, 38, none⟩)) (fun _ => by go_simp) ?_; simp only [zT, zA, zB]
                refine goZ_ld rfl rfl 161 rfl 4 _ rfl ⟨p18, 38, none⟩ (.bool h.c) rfl (fun W hS => ld_bool _ _ W (hS.hg (i := 2) (by decide))) (hs0) ?_; simp only [zT, zA, zB]
                refine goZ_tk rfl rfl 162 rfl (.pointer (some ⟨p18, 36, none⟩)) (fun _ => rfl) ?_; simp only [zT, zA, zB]
                refine goZ_tk rfl rfl 163 rfl (.pointer (some ⟨p18, 36, none⟩)) (fun _ => by go_simp) ?_; simp only [zT, zA, zB]
                refine goZ_ld rfl rfl 164 rfl 4 _ rfl ⟨p18, 36, none⟩ (.bool h.a) rfl (fun W hS => ld_bool _ _ W (hS.hg (i := 0) (by decide))) (hs0) ?_; simp only [zT, zA, zB]
                refine goZ_tk rfl rfl 165 rfl (.bool false) (exec_bin _ _ rfl rfl rfl (fun _ => by first | rfl | go_simp) HQ2.out) ?_; simp only [zT, zA, zB]
                refine goZ_tk rfl rfl 166 rfl (.bool false) (fun _ => rfl) ?_; simp only [zT, zA, zB]
                refine goZ_tk rfl rfl 167 rfl (.pointer (some ⟨p18, 39, none⟩)) (fun _ => rfl) ?_; simp only [zT, zA, zB]
                refine goZ_tk rfl rfl 168 rfl (.pointer (some ⟨p18, 103, none⟩)) (fun _ => by go_simp) ?_; simp only [zT, zA, zB]
                refine goZ_ld rfl rfl 169 rfl 43 _ rfl ⟨p18, 103, none⟩ (.agg (nums .u8 ids.c)) rfl (fun W hS => ld_id HOK.out.ic (hS.ig (i := 2) (by decide))) (hs0) ?_; simp only [zT, zA, zB]
                refine goZ_tk rfl rfl 170 rfl (.pointer (some ⟨p18, 39, none⟩)) (fun _ => rfl) ?_; simp only [zT, zA, zB]
                refine goZ_tk rfl rfl 171 rfl (.pointer (some ⟨p18, 39, none⟩)) (fun _ => by go_simp) ?_; simp only [zT, zA, zB]
                refine goZ_ld rfl rfl 172 rfl 43 _ rfl ⟨p18, 39, none⟩ (.agg (nums .u8 ids.a)) rfl (fun W hS => ld_id HOK.out.ia (hS.ig (i := 0) (by decide))) (hs0) ?_; simp only [zT, zA, zB]
                refine goZ_tk rfl rfl 173 rfl (.bool m2) (exec_bin _ _ rfl rfl rfl (fun _ => by first | rfl | go_simp) HM2.out) ?_; simp only [zT, zA, zB]
                refine goZ_tk rfl rfl 174 rfl (.bool m2) (fun _ => rfl) ?_; simp only [zT, zA, zB]
                refine goZ_tk rfl rfl 22 rfl (.bool true) (fun _ => rfl) ?_; simp only [zT, zA, zB]
                refine goZ_tk rfl rfl 23 rfl (.bool m2) (fun _ => rfl) ?_; simp only [zT, zA, zB]
                refine goZ_end ?_
                go_wp2_with fail
                go_meet
                case rel => exact ⟨congrArg Value.bool (HX1.out).symm, congrArg Value.bool (HX2.out).symm, HBD.out⟩
              · have HX1 := Lib.hid (HE1.out.1 rfl)
                have HX2 := Lib.hid (HE2.out.1 rfl)
                refine wp_region_hz (fun W => DO W p18 ⟨p, 0, zId, st, ByteArray.empty, h, ids⟩) (.tk 0 (.tk 1 (.tk 2 (.tk 3 (.tk 4 (.tk 5 (.tk 6 (.tk 7 (.tk 8 (.tk 9 (.tk 10 (.tk 11 (.tk 12 (.tk 13 (.tk 14 (.tk 15 (.tk 16 (.tk 17 (.tk 18 (.tk 19 (.tk 20 (.tk 21 (.tk 22 (.tk 23 (.tk 24 (.tk 25 (.tk 26 (.tk 27 (.tk 28 (.tk 29 (.tk 30 (.tk 31 (.tk 32 (.tk 33 (.nil))))))))))))))))))))))))))))))))))) (by kernel_rfl) (by kernel_rfl) (fun d v c a w h => HPAN.out d v c a w h) ?_
                refine goZ_tk rfl rfl 143 rfl (.pointer (some ⟨p18, 36, none⟩)) (fun _ => rfl) ?_; simp only [zT, zA, zB]
                refine goZ_tk rfl rfl 144 rfl (.pointer (some ⟨p18, 37, none⟩)) (fun _ => by go_simp) ?_; simp only [zT, zA, zB]
                refine goZ_ld rfl rfl 145 rfl 4 _ rfl ⟨p18, 37, none⟩ (.bool h.b) rfl (fun W hS => ld_bool _ _ W (hS.hg (i := 1) (by decide))) (hs0) ?_; simp only [zT, zA, zB]
                refine goZ_tk rfl rfl 146 rfl (.pointer (some ⟨p18, 36, none⟩)) (fun _ => rfl) ?_; simp only [zT, zA, zB]
                refine goZ_tk rfl rfl 147 rfl (.pointer (some ⟨p18, 36, none⟩)) (fun _ => by go_simp) ?_; simp only [zT, zA, zB]
                refine goZ_ld rfl rfl 148 rfl 4 _ rfl ⟨p18, 36, none⟩ (.bool h.a) rfl (fun W hS => ld_bool _ _ W (hS.hg (i := 0) (by decide))) (hs0) ?_; simp only [zT, zA, zB]
                refine goZ_tk rfl rfl 149 rfl (.bool true) (exec_bin _ _ rfl rfl rfl (fun _ => by first | rfl | go_simp) HQ1.out) ?_; simp only [zT, zA, zB]
                refine goZ_tk rfl rfl 150 rfl (.bool true) (fun _ => rfl) ?_; simp only [zT, zA, zB]
                refine goZ_no rfl rfl 151 rfl ?_; simp only [zT, zA, zB]
                refine goZ_no rfl rfl 152 rfl ?_; simp only [zT, zA, zB]
                refine goZ_no rfl rfl 153 rfl ?_; simp only [zT, zA, zB]
                refine goZ_no rfl rfl 154 rfl ?_; simp only [zT, zA, zB]
                refine goZ_no rfl rfl 155 rfl ?_; simp only [zT, zA, zB]
                refine goZ_no rfl rfl 156 rfl ?_; simp only [zT, zA, zB]
                refine goZ_no rfl rfl 157 rfl ?_; simp only [zT, zA, zB]
                refine goZ_tk rfl rfl 158 rfl (.bool true) (fun _ => rfl) ?_; simp only [zT, zA, zB]
                refine goZ_tk rfl rfl 159 rfl (.pointer (some ⟨p18, 36, none⟩)) (fun _ => rfl) ?_; simp only [zT, zA, zB]
                refine goZ_tk rfl rfl 160 rfl (.pointer (some ⟨p18, 38, none⟩)) (fun _ => by go_simp) ?_; simp only [zT, zA, zB]
                refine goZ_ld rfl rfl 161 rfl 4 _ rfl ⟨p18, 38, none⟩ (.bool h.c) rfl (fun W hS => ld_bool _ _ W (hS.hg (i := 2) (by decide))) (hs0) ?_; simp only [zT, zA, zB]
                refine goZ_tk rfl rfl 162 rfl (.pointer (some ⟨p18, 36, none⟩)) (fun _ => rfl) ?_; simp only [zT, zA, zB]
                refine goZ_tk rfl rfl 163 rfl (.pointer (some ⟨p18, 36, none⟩)) (fun _ => by go_simp) ?_; simp only [zT, zA, zB]
                refine goZ_ld rfl rfl 164 rfl 4 _ rfl ⟨p18, 36, none⟩ (.bool h.a) rfl (fun W hS => ld_bool _ _ W (hS.hg (i := 0) (by decide))) (hs0) ?_; simp only [zT, zA, zB]
                refine goZ_tk rfl rfl 165 rfl (.bool true) (exec_bin _ _ rfl rfl rfl (fun _ => by first | rfl | go_simp) HQ2.out) ?_; simp only [zT, zA, zB]
                refine goZ_tk rfl rfl 166 rfl (.bool true) (fun _ => rfl) ?_; simp only [zT, zA, zB]
                refine goZ_no rfl rfl 167 rfl ?_; simp only [zT, zA, zB]
                refine goZ_no rfl rfl 168 rfl ?_; simp only [zT, zA, zB]
                refine goZ_no rfl rfl 169 rfl ?_; simp only [zT, zA, zB]
                refine goZ_no rfl rfl 170 rfl ?_; simp only [zT, zA, zB]
                refine goZ_no rfl rfl 171 rfl ?_; simp only [zT, zA, zB]
                refine goZ_no rfl rfl 172 rfl ?_; simp only [zT, zA, zB]
                refine goZ_no rfl rfl 173 rfl ?_; simp only [zT, zA, zB]
                refine goZ_tk rfl rfl 174 rfl (.bool true) (fun _ => rfl) ?_; simp only [zT, zA, zB]
                refine goZ_tk rfl rfl 22 rfl (.bool true) (fun _ => rfl) ?_; simp only [zT, zA, zB]
                refine goZ_tk rfl rfl 23 rfl (.bool true) (fun _ => rfl) ?_; simp only [zT, zA, zB]
                refine goZ_end ?_
                go_wp2_with fail
                go_meet
                case rel => exact ⟨congrArg Value.bool (HX1.out).symm, congrArg Value.bool (HX2.out).symm, HBD.out⟩
          case rest =>
            obtain ⟨rfl, rfl, hbc⟩ := hcut
            have HQ11 := Lib.hid (HQ10.out.trans (hbc.mono HQ10.out.size))
            have HD11 := Lib.hid (HD10.out.below hbc)
            clear hbc HQ10 HD10 HZAB HZAC
            generalize wc = W11 at *
            go_upto_region 32 with fail
            go_cut [24] from 175 to 190 (fun v24 wx => v24 = .bool zbc ∧ wx = W11)
            case first =>
              -- @dev{ R32
              obtain ⟨n3, hn3⟩ : ∃ n, (h.b == h.c) = n := ⟨_, rfl⟩
              obtain ⟨m3, hm3⟩ : ∃ m, decide (ids.b = ids.c) = m := ⟨_, rfl⟩
              have HQ3 : Hid (∀ w, (binOp .eql 4 (.bool h.b) (.bool h.c)).run Tryz.prog w = .ok (.bool n3) w) := fun w => by rw [bool_eql, hn3]
              have HM3 : Hid (∀ w, (binOp .eql 43 (.agg (nums .u8 ids.b)) (.agg (nums .u8 ids.c))).run Tryz.prog w = .ok (.bool m3) w) := fun w => by rw [id_eql HOK.out.ib HOK.out.ic, hm3]
              have HE3 : Hid ((n3 = true → zbc = m3) ∧ (n3 = false → zbc = false)) := ⟨fun e => by rw [← HZBC.out, ← hm3]; exact eqS_eq (hn3.trans e), fun e => by rw [← HZBC.out]; exact eqS_diff (hn3.trans e)⟩
              clear hn3 hm3
              cases n3
              · have HX3 := Lib.hid (HE3.out.2 rfl)
                refine goP_start ?_
                refine goP_tk rfl 175 rfl (.pointer (some ⟨p18, 36, none⟩)) (rfl) ?_; simp only [zT, zA, zB]
                refine goP_tk rfl 176 rfl (.pointer (some ⟨p18, 37, none⟩)) (by go_simp) ?_; simp only [zT, zA, zB]
                refine goP_ld rfl 177 rfl 4 _ rfl ⟨p18, 37, none⟩ (.bool h.b) rfl (ld_bool _ _ _ (HD11.out.hg (i := 1) (by decide))) ?_; simp only [zT, zA, zB]
                refine goP_tk rfl 178 rfl (.pointer (some ⟨p18, 36, none⟩)) (rfl) ?_; simp only [zT, zA, zB]
                refine goP_tk rfl 179 rfl (.pointer (some ⟨p18, 38, none⟩)) (by go_simp) ?_; simp only [zT, zA, zB]
                refine goP_ld rfl 180 rfl 4 _ rfl ⟨p18, 38, none⟩ (.bool h.c) rfl (ld_bool _ _ _ (HD11.out.hg (i := 2) (by decide))) ?_; simp only [zT, zA, zB]
                refine goP_tk rfl 181 rfl (.bool false) (exec_bin _ _ rfl rfl rfl (fun _ => by first | rfl | go_simp) HQ3.out _) ?_; simp only [zT, zA, zB]
                refine goP_mv rfl 182 rfl _ rfl (.bool false) rfl ?_; simp only [zT, zA, zB]
                refine goP_no rfl 183 rfl ?_; simp only [zT, zA, zB]
                refine goP_no rfl 184 rfl ?_; simp only [zT, zA, zB]
                refine goP_no rfl 185 rfl ?_; simp only [zT, zA, zB]
                refine goP_no rfl 186 rfl ?_; simp only [zT, zA, zB]
                refine goP_no rfl 187 rfl ?_; simp only [zT, zA, zB]
                refine goP_no rfl 188 rfl ?_; simp only [zT, zA, zB]
                refine goP_no rfl 189 rfl ?_; simp only [zT, zA, zB]
                refine goP_pk rfl 190 rfl _ _ _ rfl false rfl (.bool false) rfl ?_; simp only [zT, zA, zB]
                refine goP_as rfl 24 rfl _ rfl (.bool false) rfl ?_; simp only [zT, zA, zB]
                refine goP_end ?_
                go_wp2_with fail
                go_meet
                case rel => exact ⟨congrArg Value.bool (HX3.out).symm, rfl⟩
              · have HX3 := Lib.hid (HE3.out.1 rfl)
                refine goP_start ?_
                refine goP_tk rfl 175 rfl (.pointer (some ⟨p18, 36, none⟩)) (rfl) ?_; simp only [zT, zA, zB]
                refine goP_tk rfl 176 rfl (.pointer (some ⟨p18, 37, none⟩)) (by go_simp) ?_; simp only [zT, zA, zB]
                refine goP_ld rfl 177 rfl 4 _ rfl ⟨p18, 37, none⟩ (.bool h.b) rfl (ld_bool _ _ _ (HD11.out.hg (i := 1) (by decide))) ?_; simp only [zT, zA, zB]
                refine goP_tk rfl 178 rfl (.pointer (some ⟨p18, 36, none⟩)) (rfl) ?_; simp only [zT, zA, zB]
                refine goP_tk rfl 179 rfl (.pointer (some ⟨p18, 38, none⟩)) (by go_simp) ?_; simp only [zT, zA, zB]
                refine goP_ld rfl 180 rfl 4 _ rfl ⟨p18, 38, none⟩ (.bool h.c) rfl (ld_bool _ _ _ (HD11.out.hg (i := 2) (by decide))) ?_; simp only [zT, zA, zB]
                refine goP_tk rfl 181 rfl (.bool true) (exec_bin _ _ rfl rfl rfl (fun _ => by first | rfl | go_simp) HQ3.out _) ?_; simp only [zT, zA, zB]
                refine goP_mv rfl 182 rfl _ rfl (.bool true) rfl ?_; simp only [zT, zA, zB]
                refine goP_tk rfl 183 rfl (.pointer (some ⟨p18, 39, none⟩)) (rfl) ?_; simp only [zT, zA, zB]
                refine goP_tk rfl 184 rfl (.pointer (some ⟨p18, 71, none⟩)) (by go_simp) ?_; simp only [zT, zA, zB]
                refine goP_ld rfl 185 rfl 43 _ rfl ⟨p18, 71, none⟩ (.agg (nums .u8 ids.b)) rfl (ld_id HOK.out.ib (HD11.out.ig (i := 1) (by decide))) ?_; simp only [zT, zA, zB]
                refine goP_tk rfl 186 rfl (.pointer (some ⟨p18, 39, none⟩)) (rfl) ?_; simp only [zT, zA, zB]
                refine goP_tk rfl 187 rfl (.pointer (some ⟨p18, 103, none⟩)) (by go_simp) ?_; simp only [zT, zA, zB]
                refine goP_ld rfl 188 rfl 43 _ rfl ⟨p18, 103, none⟩ (.agg (nums .u8 ids.c)) rfl (ld_id HOK.out.ic (HD11.out.ig (i := 2) (by decide))) ?_; simp only [zT, zA, zB]
                refine goP_tk rfl 189 rfl (.bool m3) (exec_bin _ _ rfl rfl rfl (fun _ => by first | rfl | go_simp) HM3.out _) ?_; simp only [zT, zA, zB]
                refine goP_pk rfl 190 rfl _ _ _ rfl true rfl (.bool m3) rfl ?_; simp only [zT, zA, zB]
                refine goP_as rfl 24 rfl _ rfl (.bool m3) rfl ?_; simp only [zT, zA, zB]
                refine goP_end ?_
                go_wp2_with fail
                go_meet
                case rel => exact ⟨congrArg Value.bool (HX3.out).symm, rfl⟩
            case rest =>
              obtain ⟨rfl, rfl⟩ := hcut
              clear HZBC
              cases zbc with
              | true =>
                -- @dev{ S1
                have HDC : Hid (decS (textS bl) h ids zId = ⟨h.b, 0, 1, ids.b, ByteArray.empty⟩) := by show _ = _; rw [HDEC.out]; rfl
                have hdgs := HDG2.out
                rw [HDC.out, if_neg (by simp)] at hdgs
                have HDG3 := Lib.hid hdgs
                clear hdgs HDG2 HDEC HDC
                have hh : wc.cell? ⟨p18, 37, none⟩ = some (.bool h.b) := HD11.out.hg (i := 1) (by decide)
                obtain ⟨hv, hhv⟩ : ∃ b, h.b = b := ⟨_, rfl⟩
                rw [hhv] at hh HDG3
                clear hhv
                cases hv with
                | false =>
                  have HDN : Hid (Hid (decGo (textS bl) (upT T 3) [] nms = decGo (textS bl) (upT T 3) l (nms.drop (n + 1)))) := HDG3.out
                  have HDQN : Hid (Hid (DQ W wc u16 l)) := HDQ.out.step HQ11.out
                  clear HDG3 HDQ HQ11 HD11
                  go_wp2_with fail
                  exact ⟨⟨n + 1, hlt, by go_num, l, HDQN.out, HDN.out, by omega⟩, by simp [intOf]; omega⟩
                | true =>
                  have HDG4 : Hid (decGo (textS bl) (upT T 3) [] nms = decGo (textS bl) (upT T 3) (l ++ [⟨p, 1, ids.b, st, ByteArray.empty, h, ids⟩]) (nms.drop (n + 1))) := HDG3.out
                  clear HDG3
                  have hk1 := HD11.out.kc
                  have hf1 := HD11.out.blk.fz 1
                  obtain ⟨hd12, hg12⟩ := HD11.out.kind (k := 1) (by decide)
                  have hbb12 : Below p18 wc (wc.setCell ⟨p18, 1, none⟩ (.int .i64 ((1 : Nat) : Int))) := (Below.refl _ wc).grown hg12 (Nat.le_of_lt HD11.out.lt) (fun k hk => by cases hk; exact Nat.le_refl _)
                  have hW12 : ∃ W12, wc.setCell ⟨p18, 1, none⟩ (.int .i64 ((1 : Nat) : Int)) = W12 := ⟨_, rfl⟩
                  obtain ⟨W12, hW12⟩ := hW12
                  rw [hW12] at hd12 hbb12
                  have HW12 : Hid (wc.setCell ⟨p18, 1, none⟩ (.int .i64 1) = W12) := hW12
                  clear hW12 hg12
                  go_upto_region 41 with fail
                  rw [HW12.out]
                  clear HW12 hk1 hf1 hh
                  have HQ12 : Hid (Below wq.heap.size wq W12) := HQ11.out.trans (by rw [HP18.out]; exact hbb12)
                  have HD12 := Lib.hid hd12
                  have HIG : Hid (W12.rangeAt p18 71 (nb ids.b)) := hd12.ig (i := 1) (by decide)
                  have HII : Hid ((Tryz.prog.info? 43).map (·.size) = some (nb ids.b).length) := by show _ = _; rw [nb_len, HOK.out.ib.1]; kernel_rfl
                  have HIJ : Hid ((Tryz.prog.info? 43).map (·.size) = some (nums .u8 ids.b).size) := by show _ = _; rw [nums_size, HOK.out.ib.1]; kernel_rfl
                  have HTHR : Hid (W12.there p18 2 (nums .u8 ids.b).size) := by show W12.there _ _ _; rw [nums_size, HOK.out.ib.1]; exact hd12.range
                  clear hbb12 hd12 HQ11 HD11
                  go_upto_region 42 with (first
                    | (refine wpList_load_mid rfl 43 _ rfl p18 71 rfl (nb ids.b) _ HIG.out id_under rfl HII.out ?_)
                    | (refine wpList_store_mid rfl 43 _ _ rfl p18 2 (nums .u8 ids.b) rfl rfl HTHR.out HIJ.out (nums_one _ _) ?_))
                  obtain ⟨hd13, hg13⟩ := HD12.out.idput HOK.out.ib
                  have hbb13 : Below p18 W12 (W12.setCells p18 2 (nb ids.b)) := (Below.refl _ W12).grown hg13 (Nat.le_of_lt HD12.out.lt) (fun k hk => by cases hk; exact Nat.le_refl _)
                  have hnb : (nums .u8 ids.b).toList = nb ids.b := rfl
                  try rw [hnb]
                  clear hg13 hnb
                  generalize W12.setCells p18 2 (nb ids.b) = W13 at *
                  have HQ13 : Hid (Below wq.heap.size wq W13) := HQ12.out.trans (by rw [HP18.out]; exact hbb13)
                  obtain ⟨o13, ho13⟩ : ∃ o : Ou, (⟨p, 1, ids.b, st, ByteArray.empty, h, ids⟩ : Ou) = o := ⟨_, rfl⟩
                  have hd13 : DO W13 p18 ⟨p, 1, ids.b, st, ByteArray.empty, h, ids⟩ := hd13
                  rw [ho13] at hd13 HDG4
                  have HD13 := Lib.hid hd13
                  have HDN : Hid (Hid (decGo (textS bl) (upT T 3) [] nms = decGo (textS bl) (upT T 3) (l ++ [o13]) (nms.drop (n + 1)))) := HDG4.out
                  clear hbb13 hd13 ho13 HQ12 HD12 HIG HII HIJ HTHR HDG4
                  have HLNX := Lib.hid (doC_len HD13.out.ok)
                  have HBKX : Hid (W13.heap[p18]? = some (.cells (doC o13).toArray 48 (0, 0))) := HD13.out.blk
                  have HISX : Hid ((Tryz.prog.info? 48).map (·.size) = some (doC o13).toArray.size) := by show _ = _; rw [List.size_toArray, HLNX.out]; exact dout_info
                  have hba : Below W13.heap.size W13 (W13.alloc (.cells (doC o13).toArray 48)) := (Below.refl _ W13).alloc (Nat.le_refl _) _
                  have HSRC : Hid (Src Tryz.prog 135 35 (.slice (some ⟨W13.heap.size, 0, none⟩) 1 1) 1 (doC o13) (W13.alloc (.cells (doC o13).toArray 48))) := Src.ofNew Tryz.underlying35 HLNX.out doC_one'
                  have HDQX := Lib.hid ((HDQ.out.step HQ13.out).step hba)
                  have HOKX := Lib.hid HD13.out.ok
                  clear hba HDQ HD13 HQ13
                  go_upto_region 19 with (first
                    | (refine wp_loadB rfl 48 _ rfl p18 rfl HBKX.out _ Tryz.underlying48 rfl HISX.out ?_)
                    | (refine wpList_build1 (cs := (doC o13).toArray) (n := 135) rfl _ rfl (by simp only [Act.put, List.setIfInBounds_toArray]; simp [Act.eval]) Tryz.underlying35 dout_info dout_zero (by decide) (by decide) (by rw [List.size_toArray]; exact HLNX.out) ?_)
                    | (refine wp_appG rfl _ _ _ _ rfl doutElem (by kernel_rfl) (v := u16) (xv := .slice (some ⟨W13.heap.size, 0, none⟩) 1 1) (n := l.length) (m := 1) rfl HDQX.out.row rfl HSRC.out (by simp only [maxLen]; omega) (by omega) ?_; intro v26 W26 ho26 hg26 hv26))
                  have HDQY : Hid (Hid (DQ W W26 v26 (l ++ [o13]))) := HDQX.out.app hg26 ho26 hv26 HOKX.out
                  have hlnY : (l ++ [o13]).length ≤ n + 1 := by simp; omega
                  have HLNY := Lib.hid hlnY
                  clear ho26 hg26 hv26 HDQX HSRC HBKX HISX HLNX HOKX hlnY
                  go_wp2_with fail
                  go_roundw
                  case rel => exact ⟨n + 1, hlt, by go_num, l ++ [o13], HDQY.out, HDN.out, HLNY.out⟩
                  case measure => simp [intOf]; omega
              | false =>
                cases zac with
                | true =>
                  -- @dev{ S2
                  have HDC : Hid (decS (textS bl) h ids zId = ⟨h.b, 0, 1, ids.b, ByteArray.empty⟩) := by show _ = _; rw [HDEC.out]; rfl
                  have hdgs := HDG2.out
                  rw [HDC.out, if_neg (by simp)] at hdgs
                  have HDG3 := Lib.hid hdgs
                  clear hdgs HDG2 HDEC HDC
                  have hh : wc.cell? ⟨p18, 37, none⟩ = some (.bool h.b) := HD11.out.hg (i := 1) (by decide)
                  obtain ⟨hv, hhv⟩ : ∃ b, h.b = b := ⟨_, rfl⟩
                  rw [hhv] at hh HDG3
                  clear hhv
                  cases hv with
                  | false =>
                    have HDN : Hid (Hid (decGo (textS bl) (upT T 3) [] nms = decGo (textS bl) (upT T 3) l (nms.drop (n + 1)))) := HDG3.out
                    have HDQN : Hid (Hid (DQ W wc u16 l)) := HDQ.out.step HQ11.out
                    clear HDG3 HDQ HQ11 HD11
                    go_wp2_with fail
                    exact ⟨⟨n + 1, hlt, by go_num, l, HDQN.out, HDN.out, by omega⟩, by simp [intOf]; omega⟩
                  | true =>
                    have HDG4 : Hid (decGo (textS bl) (upT T 3) [] nms = decGo (textS bl) (upT T 3) (l ++ [⟨p, 1, ids.b, st, ByteArray.empty, h, ids⟩]) (nms.drop (n + 1))) := HDG3.out
                    clear HDG3
                    have hk1 := HD11.out.kc
                    have hf1 := HD11.out.blk.fz 1
                    obtain ⟨hd12, hg12⟩ := HD11.out.kind (k := 1) (by decide)
                    have hbb12 : Below p18 wc (wc.setCell ⟨p18, 1, none⟩ (.int .i64 ((1 : Nat) : Int))) := (Below.refl _ wc).grown hg12 (Nat.le_of_lt HD11.out.lt) (fun k hk => by cases hk; exact Nat.le_refl _)
                    have hW12 : ∃ W12, wc.setCell ⟨p18, 1, none⟩ (.int .i64 ((1 : Nat) : Int)) = W12 := ⟨_, rfl⟩
                    obtain ⟨W12, hW12⟩ := hW12
                    rw [hW12] at hd12 hbb12
                    have HW12 : Hid (wc.setCell ⟨p18, 1, none⟩ (.int .i64 1) = W12) := hW12
                    clear hW12 hg12
                    go_upto_region 41 with fail
                    rw [HW12.out]
                    clear HW12 hk1 hf1 hh
                    have HQ12 : Hid (Below wq.heap.size wq W12) := HQ11.out.trans (by rw [HP18.out]; exact hbb12)
                    have HD12 := Lib.hid hd12
                    have HIG : Hid (W12.rangeAt p18 71 (nb ids.b)) := hd12.ig (i := 1) (by decide)
                    have HII : Hid ((Tryz.prog.info? 43).map (·.size) = some (nb ids.b).length) := by show _ = _; rw [nb_len, HOK.out.ib.1]; kernel_rfl
                    have HIJ : Hid ((Tryz.prog.info? 43).map (·.size) = some (nums .u8 ids.b).size) := by show _ = _; rw [nums_size, HOK.out.ib.1]; kernel_rfl
                    have HTHR : Hid (W12.there p18 2 (nums .u8 ids.b).size) := by show W12.there _ _ _; rw [nums_size, HOK.out.ib.1]; exact hd12.range
                    clear hbb12 hd12 HQ11 HD11
                    go_upto_region 42 with (first
                      | (refine wpList_load_mid rfl 43 _ rfl p18 71 rfl (nb ids.b) _ HIG.out id_under rfl HII.out ?_)
                      | (refine wpList_store_mid rfl 43 _ _ rfl p18 2 (nums .u8 ids.b) rfl rfl HTHR.out HIJ.out (nums_one _ _) ?_))
                    obtain ⟨hd13, hg13⟩ := HD12.out.idput HOK.out.ib
                    have hbb13 : Below p18 W12 (W12.setCells p18 2 (nb ids.b)) := (Below.refl _ W12).grown hg13 (Nat.le_of_lt HD12.out.lt) (fun k hk => by cases hk; exact Nat.le_refl _)
                    have hnb : (nums .u8 ids.b).toList = nb ids.b := rfl
                    try rw [hnb]
                    clear hg13 hnb
                    generalize W12.setCells p18 2 (nb ids.b) = W13 at *
                    have HQ13 : Hid (Below wq.heap.size wq W13) := HQ12.out.trans (by rw [HP18.out]; exact hbb13)
                    obtain ⟨o13, ho13⟩ : ∃ o : Ou, (⟨p, 1, ids.b, st, ByteArray.empty, h, ids⟩ : Ou) = o := ⟨_, rfl⟩
                    have hd13 : DO W13 p18 ⟨p, 1, ids.b, st, ByteArray.empty, h, ids⟩ := hd13
                    rw [ho13] at hd13 HDG4
                    have HD13 := Lib.hid hd13
                    have HDN : Hid (Hid (decGo (textS bl) (upT T 3) [] nms = decGo (textS bl) (upT T 3) (l ++ [o13]) (nms.drop (n + 1)))) := HDG4.out
                    clear hbb13 hd13 ho13 HQ12 HD12 HIG HII HIJ HTHR HDG4
                    have HLNX := Lib.hid (doC_len HD13.out.ok)
                    have HBKX : Hid (W13.heap[p18]? = some (.cells (doC o13).toArray 48 (0, 0))) := HD13.out.blk
                    have HISX : Hid ((Tryz.prog.info? 48).map (·.size) = some (doC o13).toArray.size) := by show _ = _; rw [List.size_toArray, HLNX.out]; exact dout_info
                    have hba : Below W13.heap.size W13 (W13.alloc (.cells (doC o13).toArray 48)) := (Below.refl _ W13).alloc (Nat.le_refl _) _
                    have HSRC : Hid (Src Tryz.prog 135 35 (.slice (some ⟨W13.heap.size, 0, none⟩) 1 1) 1 (doC o13) (W13.alloc (.cells (doC o13).toArray 48))) := Src.ofNew Tryz.underlying35 HLNX.out doC_one'
                    have HDQX := Lib.hid ((HDQ.out.step HQ13.out).step hba)
                    have HOKX := Lib.hid HD13.out.ok
                    clear hba HDQ HD13 HQ13
                    go_upto_region 19 with (first
                      | (refine wp_loadB rfl 48 _ rfl p18 rfl HBKX.out _ Tryz.underlying48 rfl HISX.out ?_)
                      | (refine wpList_build1 (cs := (doC o13).toArray) (n := 135) rfl _ rfl (by simp only [Act.put, List.setIfInBounds_toArray]; simp [Act.eval]) Tryz.underlying35 dout_info dout_zero (by decide) (by decide) (by rw [List.size_toArray]; exact HLNX.out) ?_)
                      | (refine wp_appG rfl _ _ _ _ rfl doutElem (by kernel_rfl) (v := u16) (xv := .slice (some ⟨W13.heap.size, 0, none⟩) 1 1) (n := l.length) (m := 1) rfl HDQX.out.row rfl HSRC.out (by simp only [maxLen]; omega) (by omega) ?_; intro v26 W26 ho26 hg26 hv26))
                    have HDQY : Hid (Hid (DQ W W26 v26 (l ++ [o13]))) := HDQX.out.app hg26 ho26 hv26 HOKX.out
                    have hlnY : (l ++ [o13]).length ≤ n + 1 := by simp; omega
                    have HLNY := Lib.hid hlnY
                    clear ho26 hg26 hv26 HDQX HSRC HBKX HISX HLNX HOKX hlnY
                    go_wp2_with fail
                    go_roundw
                    case rel => exact ⟨n + 1, hlt, by go_num, l ++ [o13], HDQY.out, HDN.out, HLNY.out⟩
                    case measure => simp [intOf]; omega
                | false =>
                  cases zab with
                  | true =>
                    -- @dev{ S3
                    have HDC : Hid (decS (textS bl) h ids zId = ⟨h.c, 0, 1, ids.c, ByteArray.empty⟩) := by show _ = _; rw [HDEC.out]; rfl
                    have hdgs := HDG2.out
                    rw [HDC.out, if_neg (by simp)] at hdgs
                    have HDG3 := Lib.hid hdgs
                    clear hdgs HDG2 HDEC HDC
                    have hh : wc.cell? ⟨p18, 38, none⟩ = some (.bool h.c) := HD11.out.hg (i := 2) (by decide)
                    obtain ⟨hv, hhv⟩ : ∃ b, h.c = b := ⟨_, rfl⟩
                    rw [hhv] at hh HDG3
                    clear hhv
                    cases hv with
                    | false =>
                      have HDN : Hid (Hid (decGo (textS bl) (upT T 3) [] nms = decGo (textS bl) (upT T 3) l (nms.drop (n + 1)))) := HDG3.out
                      have HDQN : Hid (Hid (DQ W wc u16 l)) := HDQ.out.step HQ11.out
                      clear HDG3 HDQ HQ11 HD11
                      go_wp2_with fail
                      exact ⟨⟨n + 1, hlt, by go_num, l, HDQN.out, HDN.out, by omega⟩, by simp [intOf]; omega⟩
                    | true =>
                      have HDG4 : Hid (decGo (textS bl) (upT T 3) [] nms = decGo (textS bl) (upT T 3) (l ++ [⟨p, 1, ids.c, st, ByteArray.empty, h, ids⟩]) (nms.drop (n + 1))) := HDG3.out
                      clear HDG3
                      have hk1 := HD11.out.kc
                      have hf1 := HD11.out.blk.fz 1
                      obtain ⟨hd12, hg12⟩ := HD11.out.kind (k := 1) (by decide)
                      have hbb12 : Below p18 wc (wc.setCell ⟨p18, 1, none⟩ (.int .i64 ((1 : Nat) : Int))) := (Below.refl _ wc).grown hg12 (Nat.le_of_lt HD11.out.lt) (fun k hk => by cases hk; exact Nat.le_refl _)
                      have hW12 : ∃ W12, wc.setCell ⟨p18, 1, none⟩ (.int .i64 ((1 : Nat) : Int)) = W12 := ⟨_, rfl⟩
                      obtain ⟨W12, hW12⟩ := hW12
                      rw [hW12] at hd12 hbb12
                      have HW12 : Hid (wc.setCell ⟨p18, 1, none⟩ (.int .i64 1) = W12) := hW12
                      clear hW12 hg12
                      go_upto_region 41 with fail
                      rw [HW12.out]
                      clear HW12 hk1 hf1 hh
                      have HQ12 : Hid (Below wq.heap.size wq W12) := HQ11.out.trans (by rw [HP18.out]; exact hbb12)
                      have HD12 := Lib.hid hd12
                      have HIG : Hid (W12.rangeAt p18 103 (nb ids.c)) := hd12.ig (i := 2) (by decide)
                      have HII : Hid ((Tryz.prog.info? 43).map (·.size) = some (nb ids.c).length) := by show _ = _; rw [nb_len, HOK.out.ic.1]; kernel_rfl
                      have HIJ : Hid ((Tryz.prog.info? 43).map (·.size) = some (nums .u8 ids.c).size) := by show _ = _; rw [nums_size, HOK.out.ic.1]; kernel_rfl
                      have HTHR : Hid (W12.there p18 2 (nums .u8 ids.c).size) := by show W12.there _ _ _; rw [nums_size, HOK.out.ic.1]; exact hd12.range
                      clear hbb12 hd12 HQ11 HD11
                      go_upto_region 42 with (first
                        | (refine wpList_load_mid rfl 43 _ rfl p18 103 rfl (nb ids.c) _ HIG.out id_under rfl HII.out ?_)
                        | (refine wpList_store_mid rfl 43 _ _ rfl p18 2 (nums .u8 ids.c) rfl rfl HTHR.out HIJ.out (nums_one _ _) ?_))
                      obtain ⟨hd13, hg13⟩ := HD12.out.idput HOK.out.ic
                      have hbb13 : Below p18 W12 (W12.setCells p18 2 (nb ids.c)) := (Below.refl _ W12).grown hg13 (Nat.le_of_lt HD12.out.lt) (fun k hk => by cases hk; exact Nat.le_refl _)
                      have hnb : (nums .u8 ids.c).toList = nb ids.c := rfl
                      try rw [hnb]
                      clear hg13 hnb
                      generalize W12.setCells p18 2 (nb ids.c) = W13 at *
                      have HQ13 : Hid (Below wq.heap.size wq W13) := HQ12.out.trans (by rw [HP18.out]; exact hbb13)
                      obtain ⟨o13, ho13⟩ : ∃ o : Ou, (⟨p, 1, ids.c, st, ByteArray.empty, h, ids⟩ : Ou) = o := ⟨_, rfl⟩
                      have hd13 : DO W13 p18 ⟨p, 1, ids.c, st, ByteArray.empty, h, ids⟩ := hd13
                      rw [ho13] at hd13 HDG4
                      have HD13 := Lib.hid hd13
                      have HDN : Hid (Hid (decGo (textS bl) (upT T 3) [] nms = decGo (textS bl) (upT T 3) (l ++ [o13]) (nms.drop (n + 1)))) := HDG4.out
                      clear hbb13 hd13 ho13 HQ12 HD12 HIG HII HIJ HTHR HDG4
                      have HLNX := Lib.hid (doC_len HD13.out.ok)
                      have HBKX : Hid (W13.heap[p18]? = some (.cells (doC o13).toArray 48 (0, 0))) := HD13.out.blk
                      have HISX : Hid ((Tryz.prog.info? 48).map (·.size) = some (doC o13).toArray.size) := by show _ = _; rw [List.size_toArray, HLNX.out]; exact dout_info
                      have hba : Below W13.heap.size W13 (W13.alloc (.cells (doC o13).toArray 48)) := (Below.refl _ W13).alloc (Nat.le_refl _) _
                      have HSRC : Hid (Src Tryz.prog 135 35 (.slice (some ⟨W13.heap.size, 0, none⟩) 1 1) 1 (doC o13) (W13.alloc (.cells (doC o13).toArray 48))) := Src.ofNew Tryz.underlying35 HLNX.out doC_one'
                      have HDQX := Lib.hid ((HDQ.out.step HQ13.out).step hba)
                      have HOKX := Lib.hid HD13.out.ok
                      clear hba HDQ HD13 HQ13
                      go_upto_region 19 with (first
                        | (refine wp_loadB rfl 48 _ rfl p18 rfl HBKX.out _ Tryz.underlying48 rfl HISX.out ?_)
                        | (refine wpList_build1 (cs := (doC o13).toArray) (n := 135) rfl _ rfl (by simp only [Act.put, List.setIfInBounds_toArray]; simp [Act.eval]) Tryz.underlying35 dout_info dout_zero (by decide) (by decide) (by rw [List.size_toArray]; exact HLNX.out) ?_)
                        | (refine wp_appG rfl _ _ _ _ rfl doutElem (by kernel_rfl) (v := u16) (xv := .slice (some ⟨W13.heap.size, 0, none⟩) 1 1) (n := l.length) (m := 1) rfl HDQX.out.row rfl HSRC.out (by simp only [maxLen]; omega) (by omega) ?_; intro v26 W26 ho26 hg26 hv26))
                      have HDQY : Hid (Hid (DQ W W26 v26 (l ++ [o13]))) := HDQX.out.app hg26 ho26 hv26 HOKX.out
                      have hlnY : (l ++ [o13]).length ≤ n + 1 := by simp; omega
                      have HLNY := Lib.hid hlnY
                      clear ho26 hg26 hv26 HDQX HSRC HBKX HISX HLNX HOKX hlnY
                      go_wp2_with fail
                      go_roundw
                      case rel => exact ⟨n + 1, hlt, by go_num, l ++ [o13], HDQY.out, HDN.out, HLNY.out⟩
                      case measure => simp [intOf]; omega
                  | false =>
                    -- @dev{ WV
                    have HDC : Hid (decS (textS bl) h ids zId = ⟨true, (weaveS (textS bl) h ids).1, (weaveS (textS bl) h ids).2.1, zId, (weaveS (textS bl) h ids).2.2⟩) := by show _ = _; rw [HDEC.out]; rfl
                    have hdgs := HDG2.out
                    rw [HDC.out] at hdgs
                    have hdgs : decGo (textS bl) (upT T 3) [] nms = if (weaveS (textS bl) h ids).1 ≠ 0 then ((weaveS (textS bl) h ids).1, []) else decGo (textS bl) (upT T 3) (l ++ [⟨p, (weaveS (textS bl) h ids).2.1, zId, st, (weaveS (textS bl) h ids).2.2, h, ids⟩]) (nms.drop (n + 1)) := hdgs
                    have HKD := Lib.hid (weaveS_kind (textS bl) h ids)
                    have HWV := Lib.hid (rwoven_c HOK.out (HBS.out wc (HBQ0.out.trans (HQ11.out.mono HBQ0.out.size))) HZ.out)
                    have HWV : Hid (Calls Tryz.prog 33 #[.agg (doC ⟨p, 0, zId, st, ByteArray.empty, h, ids⟩).toArray, .slice ba_ bl.length bc_] wc fun e w' => e = .returned (.tuple #[.string (weaveS (textS bl) h ids).2.2, .int .i64 (weaveS (textS bl) h ids).2.1, .int .i64 (weaveS (textS bl) h ids).1]) ∧ Below wc.heap.size wc w') := HWV
                    have HDG3 := Lib.hid hdgs
                    clear hdgs HDG2 HDEC HDC
                    generalize weaveS (textS bl) h ids = wv at HKD HWV HDG3
                    obtain ⟨er, kd, tx⟩ := wv
                    have HDG3 : Hid (decGo (textS bl) (upT T 3) [] nms = if er ≠ 0 then (er, []) else decGo (textS bl) (upT T 3) (l ++ [⟨p, kd, zId, st, tx, h, ids⟩]) (nms.drop (n + 1))) := HDG3
                    have HKD : Hid (kd ≤ 3) := HKD
                    have HWV : Hid (Calls Tryz.prog 33 #[.agg (doC ⟨p, 0, zId, st, ByteArray.empty, h, ids⟩).toArray, .slice ba_ bl.length bc_] wc fun e w' => e = .returned (.tuple #[.string tx, .int .i64 kd, .int .i64 er]) ∧ Below wc.heap.size wc w') := HWV
                    have HLN0 := Lib.hid (doC_len HOK.out)
                    have HBK0 : Hid (wc.heap[p18]? = some (.cells (doC ⟨p, 0, zId, st, ByteArray.empty, h, ids⟩).toArray 48 (0, 0))) := HD11.out.blk
                    have HIS0 : Hid ((Tryz.prog.info? 48).map (·.size) = some (doC ⟨p, 0, zId, st, ByteArray.empty, h, ids⟩).toArray.size) := by show _ = _; rw [List.size_toArray, HLN0.out]; exact dout_info
                    go_upto_region 44 with (first
                      | (refine wp_loadB rfl 48 _ rfl p18 rfl HBK0.out _ Tryz.underlying48 rfl HIS0.out ?_)
                      | (go_at_call 33; refine HWV.out.mono ?_; rintro e W12 ⟨rfl, hb12⟩))
                    have HD12 := Lib.hid (HD11.out.below hb12)
                    have HQ12 := Lib.hid (HQ11.out.trans (hb12.mono HQ11.out.size))
                    clear hb12 HD11 HQ11 HWV HBK0 HIS0 HLN0
                    by_cases her : er = 0
                    · subst her
                      have hd := HDG3.out
                      rw [if_neg (by simp)] at hd
                      have HDG4 := Lib.hid hd
                      clear hd HDG3
                      have ht := HD12.out.tc
                      have hft := HD12.out.blk.fz 35
                      go_upto_region 47 with fail
                      obtain ⟨hd13, hg13⟩ := HD12.out.text tx
                      have hbb13 : Below p18 W12 (W12.setCell ⟨p18, 35, none⟩ (.string tx)) := (Below.refl _ W12).grown hg13 (Nat.le_of_lt HD12.out.lt) (fun k hk => by cases hk; exact Nat.le_refl _)
                      clear ht hft hg13
                      generalize W12.setCell ⟨p18, 35, none⟩ (.string tx) = W13 at *
                      have HQ13 : Hid (Below wq.heap.size wq W13) := HQ12.out.trans (by rw [HP18.out]; exact hbb13)
                      have hk1 := hd13.kc
                      have hf1 := hd13.blk.fz 1
                      have HD13 := Lib.hid hd13
                      clear hbb13 hd13 HD12 HQ12
                      go_upto_region 48 with fail
                      obtain ⟨hd14, hg14⟩ := HD13.out.kind (k := kd) (Nat.le_succ_of_le HKD.out)
                      have hbb14 : Below p18 W13 (W13.setCell ⟨p18, 1, none⟩ (.int .i64 (kd : Int))) := (Below.refl _ W13).grown hg14 (Nat.le_of_lt HD13.out.lt) (fun k hk => by cases hk; exact Nat.le_refl _)
                      clear hk1 hf1 hg14
                      generalize W13.setCell ⟨p18, 1, none⟩ (.int .i64 (kd : Int)) = W14 at *
                      have HQ14 : Hid (Below wq.heap.size wq W14) := HQ13.out.trans (by rw [HP18.out]; exact hbb14)
                      obtain ⟨o14, ho14⟩ : ∃ o : Ou, (⟨p, kd, zId, st, tx, h, ids⟩ : Ou) = o := ⟨_, rfl⟩
                      have hd14 : DO W14 p18 ⟨p, kd, zId, st, tx, h, ids⟩ := hd14
                      rw [ho14] at hd14 HDG4
                      have HD14 := Lib.hid hd14
                      have HDN : Hid (Hid (decGo (textS bl) (upT T 3) [] nms = decGo (textS bl) (upT T 3) (l ++ [o14]) (nms.drop (n + 1)))) := HDG4.out
                      clear hbb14 hd14 ho14 HQ13 HD13 HDG4 HKD
                      have HLNX := Lib.hid (doC_len HD14.out.ok)
                      have HBKX : Hid (W14.heap[p18]? = some (.cells (doC o14).toArray 48 (0, 0))) := HD14.out.blk
                      have HISX : Hid ((Tryz.prog.info? 48).map (·.size) = some (doC o14).toArray.size) := by show _ = _; rw [List.size_toArray, HLNX.out]; exact dout_info
                      have hba : Below W14.heap.size W14 (W14.alloc (.cells (doC o14).toArray 48)) := (Below.refl _ W14).alloc (Nat.le_refl _) _
                      have HSRC : Hid (Src Tryz.prog 135 35 (.slice (some ⟨W14.heap.size, 0, none⟩) 1 1) 1 (doC o14) (W14.alloc (.cells (doC o14).toArray 48))) := Src.ofNew Tryz.underlying35 HLNX.out doC_one'
                      have HDQX := Lib.hid ((HDQ.out.step HQ14.out).step hba)
                      have HOKX := Lib.hid HD14.out.ok
                      clear hba HDQ HD14 HQ14
                      go_upto_region 19 with (first
                        | (refine wp_loadB rfl 48 _ rfl p18 rfl HBKX.out _ Tryz.underlying48 rfl HISX.out ?_)
                        | (refine wpList_build1 (cs := (doC o14).toArray) (n := 135) rfl _ rfl (by simp only [Act.put, List.setIfInBounds_toArray]; simp [Act.eval]) Tryz.underlying35 dout_info dout_zero (by decide) (by decide) (by rw [List.size_toArray]; exact HLNX.out) ?_)
                        | (refine wp_appG rfl _ _ _ _ rfl doutElem (by kernel_rfl) (v := u16) (xv := .slice (some ⟨W14.heap.size, 0, none⟩) 1 1) (n := l.length) (m := 1) rfl HDQX.out.row rfl HSRC.out (by simp only [maxLen]; omega) (by omega) ?_; intro v26 W26 ho26 hg26 hv26))
                      have HDQY : Hid (Hid (DQ W W26 v26 (l ++ [o14]))) := HDQX.out.app hg26 ho26 hv26 HOKX.out
                      have hlnY : (l ++ [o14]).length ≤ n + 1 := by simp; omega
                      have HLNY := Lib.hid hlnY
                      clear ho26 hg26 hv26 HDQX HSRC HBKX HISX HLNX HOKX hlnY
                      go_wp2_with fail
                      go_roundw
                      case rel => exact ⟨n + 1, hlt, by go_num, l ++ [o14], HDQY.out, HDN.out, HLNY.out⟩
                      case measure => simp [intOf]; omega
                    · have e0 : (er == 0) = false := beq_eq_false_iff_ne.2 her
                      have HNE := Lib.hid her
                      have HF : Hid (decGo (textS bl) (upT T 3) [] nms = (er, [])) := by show _ = _; rw [HDG3.out, if_pos her]
                      have HBF : Hid (Below W.heap.size W W12) := HBQ0.out.trans (HQ12.out.mono HBQ0.out.size)
                      clear her HDG3 HD12 HQ12
                      go_wp2_with fail
                      apply HRT.out
                      · exact HNE.out
                      · exact HF.out
                      · exact HBF.out
    · have hne : n = nms.length := by omega
      have d1 : decide ((n : Int) < (nms.length : Int)) = false := decide_eq_false (by omega)
      have d2 : decide (n < nms.length) = false := decide_eq_false hlt
      have HF : Hid (decGo (textS bl) (upT T 3) [] nms = (0, l)) := by show _ = _; rw [HDG.out, hne, List.drop_length]; rfl
      have hl : l.length ≤ 768 := by omega
      have HLL := Lib.hid hl
      clear hne HDG hl hln
      go_wp2_with fail
      apply HEX.out
      · exact HF.out
      · exact HDQ.out
      · exact HLL.out
end Go.Proofs.YtpcipdkoncmdcaaGreatDoor
