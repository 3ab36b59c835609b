/- Texts of mine, joined: Walk of the document's merging: its first loop (the paths). -/
import Derived.Test.YtpcipdkoncmdcaaGreatDoorYJoinMerges28
namespace Go.Proofs.YtpcipdkoncmdcaaGreatDoor
open Go Go.RowKit
noncomputable def rmBody (n : Nat) : Code := ((Tryz.f14.body.map loopsOf).getD []).getD n .skip

/-- The paths so far, the first k files of the i-th snapshot looked through. -/
def accK (T : T3 (List Fi)) (i k : Nat) : List ByteArray := accD T i ++ (((T.get i).take k).map (·.path)).filter (keepP T i)
theorem accK_zero (T : T3 (List Fi)) (i : Nat) : accK T i 0 = accD T i := by simp [accK]
theorem accK_all (T : T3 (List Fi)) (i : Nat) : accK T i (T.get i).length = accD T (i + 1) := by
  unfold accK
  rw [List.take_length]; rfl
theorem accK_step {T : T3 (List Fi)} {i k : Nat} (hk : k < (T.get i).length) : accK T i (k + 1) = if keepP T i (T.get i)[k].path then accK T i k ++ [(T.get i)[k].path] else accK T i k := by
  unfold accK
  rw [List.take_add_one, List.getElem?_eq_getElem hk, List.map_append, List.filter_append]
  show _ ++ (_ ++ List.filter (keepP T i) [(T.get i)[k].path]) = _
  rw [List.filter_cons]
  split <;> simp
theorem accK_len (T : T3 (List Fi)) (i k : Nat) : (accK T i k).length ≤ (accD T i).length + k := by
  unfold accK
  have := List.length_filter_le (keepP T i) (((T.get i).take k).map (·.path))
  rw [List.length_map, List.length_take] at this
  rw [List.length_append]
  omega
theorem chkA_next (T : T3 (List Fi)) {i : Nat} (hi : i < 3) : chkA T (3 - i) = if chkS (T.get i) ≠ 0 then chkS (T.get i) else chkA T (3 - (i + 1)) := by
  rcases i with _ | _ | _ | i
  · rfl
  · rfl
  · rfl
  · omega
/-- The block of the three snapshots. -/
theorem snap_cell {W : World} {p : Nat} {va vb vc : Value} {e : TypeId} (h : W.heap[p]? = some (.cells #[va, vb, vc] e (0, 0))) {i : Nat} (hi : i < 3) : W.cell? ⟨p, i, none⟩ = some ((⟨va, vb, vc⟩ : T3 Value).get i) := by
  simp only [World.cell?, h]
  rcases i with _ | _ | _ | i
  · rfl
  · rfl
  · rfl
  · omega

set_option maxRecDepth 100000 in
set_option maxHeartbeats 8000000 in
theorem rm_loopA {w W : World} {aa ab ac : Option Addr} {ca cb cc p10 : Nat} {sv : Value} {T : T3 (List Fi)} {u4 u5 u6 u7 u13 u14 u15 u16 u17 u18 u19 u20 u21 u22 u23 u24 u25 u26 u27 u28 u29 u30 u31 u32 u33 u34 u35 u36 u37 u38 u39 u40 u41 u42 u43 u44 u45 u46 u47 u48 u49 u50 u51 u52 u53 u54 u55 u56 u57 u58 u59 u60 u61 u62 u63 u64 u65 u66 u67 u68 u69 u70 u71 u72 u73 u74 u75 u76 u77 u78 u79 u80 u81 u82 u83 u84 u85 u86 u87 u88 u89 u90 u91 u92 u93 u94 u95 u96 u97 u98 u99 u100 u101 u102 u103 u104 u105 u106 u107 u108 u109 u110 u111 u112 u113 u114 u115 u116 u117 u118 u119 u120 u121 u122 u123 u124 u125 u126 u127 u128 u129 u130 u131 u132 u133 u134 u135 u136 u137 u138 u139 u140 u141 u142 u143 u144 u145 u146 u147 u148 u149 u150 u151 u152 u153 u154 u155 u156 u157 u158 u159 u160 u161 u162 u163 u164 u165 u166 u167 u168 u169 u170 u171 u172 u173 u174 u175 u176 u177 u178 u179 u180 u181 u182 u183 u184 u185 u186 u187 u188 u189 u190 u191 u192 u193 u194 u195 u196 u197 u198 u199 u200 u201 u202 u203 u204 u205 u206 u207 u208 u209 u210 u211 u212 u213 u214 u215 u216 u217 u218 u219 u220 u221 u222 u223 u224 u225 u226 u227 u228 u229 u230 u231 u232 u233 u234 u235 u236 u237 u238 u239 u240 u241 u242 u243 u244 u245 u246 u247 u248 u249 u250 u251 u252 u253 u254 u255 u256 u257 u258 u259 : Value} {Q : Exit → Act → World → Prop}
    (hFS : ∀ i, i < 3 → FS w ((⟨.slice aa T.a.length ca, .slice ab T.b.length cb, .slice ac T.c.length cc⟩ : T3 Value).get i) (T.get i)) (hB : Below w.heap.size w W)
    (hblk : W.heap[p10]? = some (.cells #[.slice aa T.a.length ca, .slice ab T.b.length cb, .slice ac T.c.length cc] 91 (0, 0)))
    (hexit : ∀ (v8 v9 v11 v12 v13 v14 v15 v35 v36 v37 v38 v39 v40 v41 v42 v43 v44 v45 v46 v47 v48 v49 v50 v51 v52 v53 v54 v55 v56 v57 v58 v59 v60 v61 v62 v63 v64 v65 v66 v67 v68 v69 v70 v71 v72 v73 v74 v75 v76 v77 v78 v79 v80 v81 v82 v83 v84 v85 v86 v87 v88 : Value) (wx : World), chkA T 3 = 0 → OwnG wx 9 1 v11 (accD T 3).length (lrow (accD T 3)) → (accD T 3).length ≤ 768 → Below W.heap.size W wx → Q (.exit 0) ⟨(List.toArray (.slice aa T.a.length ca :: .slice ab T.b.length cb :: .slice ac T.c.length cc :: sv :: u4 :: u5 :: u6 :: u7 :: v8 :: v9 :: .pointer (some ⟨p10, 0, none⟩) :: v11 :: v12 :: v13 :: v14 :: v15 :: u16 :: u17 :: u18 :: u19 :: u20 :: u21 :: u22 :: u23 :: u24 :: u25 :: u26 :: u27 :: u28 :: u29 :: u30 :: u31 :: u32 :: u33 :: u34 :: v35 :: v36 :: v37 :: v38 :: v39 :: v40 :: v41 :: v42 :: v43 :: v44 :: v45 :: v46 :: v47 :: v48 :: v49 :: v50 :: v51 :: v52 :: v53 :: v54 :: v55 :: v56 :: v57 :: v58 :: v59 :: v60 :: v61 :: v62 :: v63 :: v64 :: v65 :: v66 :: v67 :: v68 :: v69 :: v70 :: v71 :: v72 :: v73 :: v74 :: v75 :: v76 :: v77 :: v78 :: v79 :: v80 :: v81 :: v82 :: v83 :: v84 :: v85 :: v86 :: v87 :: v88 :: u89 :: u90 :: u91 :: u92 :: u93 :: u94 :: u95 :: u96 :: u97 :: u98 :: u99 :: u100 :: u101 :: u102 :: u103 :: u104 :: u105 :: u106 :: u107 :: u108 :: u109 :: u110 :: u111 :: u112 :: u113 :: u114 :: u115 :: u116 :: u117 :: u118 :: u119 :: u120 :: u121 :: u122 :: u123 :: u124 :: u125 :: u126 :: u127 :: u128 :: u129 :: u130 :: u131 :: u132 :: u133 :: u134 :: u135 :: u136 :: u137 :: u138 :: u139 :: u140 :: u141 :: u142 :: u143 :: u144 :: u145 :: u146 :: u147 :: u148 :: u149 :: u150 :: u151 :: u152 :: u153 :: u154 :: u155 :: u156 :: u157 :: u158 :: u159 :: u160 :: u161 :: u162 :: u163 :: u164 :: u165 :: u166 :: u167 :: u168 :: u169 :: u170 :: u171 :: u172 :: u173 :: u174 :: u175 :: u176 :: u177 :: u178 :: u179 :: u180 :: u181 :: u182 :: u183 :: u184 :: u185 :: u186 :: u187 :: u188 :: u189 :: u190 :: u191 :: u192 :: u193 :: u194 :: u195 :: u196 :: u197 :: u198 :: u199 :: u200 :: u201 :: u202 :: u203 :: u204 :: u205 :: u206 :: u207 :: u208 :: u209 :: u210 :: u211 :: u212 :: u213 :: u214 :: u215 :: u216 :: u217 :: u218 :: u219 :: u220 :: u221 :: u222 :: u223 :: u224 :: u225 :: u226 :: u227 :: u228 :: u229 :: u230 :: u231 :: u232 :: u233 :: u234 :: u235 :: u236 :: u237 :: u238 :: u239 :: u240 :: u241 :: u242 :: u243 :: u244 :: u245 :: u246 :: u247 :: u248 :: u249 :: u250 :: u251 :: u252 :: u253 :: u254 :: u255 :: u256 :: u257 :: u258 :: u259 :: [])), []⟩ wx)
    (hret : ∀ (v11 v12 v13 v14 v15 v35 v36 v37 v38 v39 v40 v41 v42 v43 v44 v45 v46 v47 v48 v49 v50 v51 v52 v53 v54 v55 v56 v57 v58 v59 v60 v61 v62 v63 v64 v65 v66 v67 v68 v69 v70 v71 v72 v73 v74 v75 v76 v77 v78 v79 v80 v81 v82 v83 v84 v85 v86 v87 v88 : Value) (wx : World), chkA T 3 ≠ 0 → Below W.heap.size W wx → Q .ret ⟨(List.toArray (.slice aa T.a.length ca :: .slice ab T.b.length cb :: .slice ac T.c.length cc :: sv :: u4 :: u5 :: u6 :: u7 :: .slice none 0 0 :: .int .i64 (chkA T 3) :: .pointer (some ⟨p10, 0, none⟩) :: v11 :: v12 :: v13 :: v14 :: v15 :: u16 :: u17 :: u18 :: u19 :: u20 :: u21 :: u22 :: u23 :: u24 :: u25 :: u26 :: u27 :: u28 :: u29 :: u30 :: u31 :: u32 :: u33 :: u34 :: v35 :: v36 :: v37 :: v38 :: v39 :: v40 :: v41 :: v42 :: v43 :: v44 :: v45 :: v46 :: v47 :: v48 :: v49 :: v50 :: v51 :: v52 :: v53 :: v54 :: v55 :: v56 :: v57 :: v58 :: v59 :: v60 :: v61 :: v62 :: v63 :: v64 :: v65 :: v66 :: v67 :: v68 :: v69 :: v70 :: v71 :: v72 :: v73 :: v74 :: v75 :: v76 :: v77 :: v78 :: v79 :: v80 :: v81 :: v82 :: v83 :: v84 :: v85 :: v86 :: v87 :: v88 :: u89 :: u90 :: u91 :: u92 :: u93 :: u94 :: u95 :: u96 :: u97 :: u98 :: u99 :: u100 :: u101 :: u102 :: u103 :: u104 :: u105 :: u106 :: u107 :: u108 :: u109 :: u110 :: u111 :: u112 :: u113 :: u114 :: u115 :: u116 :: u117 :: u118 :: u119 :: u120 :: u121 :: u122 :: u123 :: u124 :: u125 :: u126 :: u127 :: u128 :: u129 :: u130 :: u131 :: u132 :: u133 :: u134 :: u135 :: u136 :: u137 :: u138 :: u139 :: u140 :: u141 :: u142 :: u143 :: u144 :: u145 :: u146 :: u147 :: u148 :: u149 :: u150 :: u151 :: u152 :: u153 :: u154 :: u155 :: u156 :: u157 :: u158 :: u159 :: u160 :: u161 :: u162 :: u163 :: u164 :: u165 :: u166 :: u167 :: u168 :: u169 :: u170 :: u171 :: u172 :: u173 :: u174 :: u175 :: u176 :: u177 :: u178 :: u179 :: u180 :: u181 :: u182 :: u183 :: u184 :: u185 :: u186 :: u187 :: u188 :: u189 :: u190 :: u191 :: u192 :: u193 :: u194 :: u195 :: u196 :: u197 :: u198 :: u199 :: u200 :: u201 :: u202 :: u203 :: u204 :: u205 :: u206 :: u207 :: u208 :: u209 :: u210 :: u211 :: u212 :: u213 :: u214 :: u215 :: u216 :: u217 :: u218 :: u219 :: u220 :: u221 :: u222 :: u223 :: u224 :: u225 :: u226 :: u227 :: u228 :: u229 :: u230 :: u231 :: u232 :: u233 :: u234 :: u235 :: u236 :: u237 :: u238 :: u239 :: u240 :: u241 :: u242 :: u243 :: u244 :: u245 :: u246 :: u247 :: u248 :: u249 :: u250 :: u251 :: u252 :: u253 :: u254 :: u255 :: u256 :: u257 :: u258 :: u259 :: [])), []⟩ wx) :
    Code.wp Tryz.prog (Code.loop (rmBody 0)) Q ⟨(List.toArray (.slice aa T.a.length ca :: .slice ab T.b.length cb :: .slice ac T.c.length cc :: sv :: u4 :: u5 :: u6 :: u7 :: .slice none 0 0 :: .int .i64 0 :: .pointer (some ⟨p10, 0, none⟩) :: .slice none 0 0 :: .int .i64 0 :: u13 :: u14 :: u15 :: u16 :: u17 :: u18 :: u19 :: u20 :: u21 :: u22 :: u23 :: u24 :: u25 :: u26 :: u27 :: u28 :: u29 :: u30 :: u31 :: u32 :: u33 :: u34 :: u35 :: u36 :: u37 :: u38 :: u39 :: u40 :: u41 :: u42 :: u43 :: u44 :: u45 :: u46 :: u47 :: u48 :: u49 :: u50 :: u51 :: u52 :: u53 :: u54 :: u55 :: u56 :: u57 :: u58 :: u59 :: u60 :: u61 :: u62 :: u63 :: u64 :: u65 :: u66 :: u67 :: u68 :: u69 :: u70 :: u71 :: u72 :: u73 :: u74 :: u75 :: u76 :: u77 :: u78 :: u79 :: u80 :: u81 :: u82 :: u83 :: u84 :: u85 :: u86 :: u87 :: u88 :: u89 :: u90 :: u91 :: u92 :: u93 :: u94 :: u95 :: u96 :: u97 :: u98 :: u99 :: u100 :: u101 :: u102 :: u103 :: u104 :: u105 :: u106 :: u107 :: u108 :: u109 :: u110 :: u111 :: u112 :: u113 :: u114 :: u115 :: u116 :: u117 :: u118 :: u119 :: u120 :: u121 :: u122 :: u123 :: u124 :: u125 :: u126 :: u127 :: u128 :: u129 :: u130 :: u131 :: u132 :: u133 :: u134 :: u135 :: u136 :: u137 :: u138 :: u139 :: u140 :: u141 :: u142 :: u143 :: u144 :: u145 :: u146 :: u147 :: u148 :: u149 :: u150 :: u151 :: u152 :: u153 :: u154 :: u155 :: u156 :: u157 :: u158 :: u159 :: u160 :: u161 :: u162 :: u163 :: u164 :: u165 :: u166 :: u167 :: u168 :: u169 :: u170 :: u171 :: u172 :: u173 :: u174 :: u175 :: u176 :: u177 :: u178 :: u179 :: u180 :: u181 :: u182 :: u183 :: u184 :: u185 :: u186 :: u187 :: u188 :: u189 :: u190 :: u191 :: u192 :: u193 :: u194 :: u195 :: u196 :: u197 :: u198 :: u199 :: u200 :: u201 :: u202 :: u203 :: u204 :: u205 :: u206 :: u207 :: u208 :: u209 :: u210 :: u211 :: u212 :: u213 :: u214 :: u215 :: u216 :: u217 :: u218 :: u219 :: u220 :: u221 :: u222 :: u223 :: u224 :: u225 :: u226 :: u227 :: u228 :: u229 :: u230 :: u231 :: u232 :: u233 :: u234 :: u235 :: u236 :: u237 :: u238 :: u239 :: u240 :: u241 :: u242 :: u243 :: u244 :: u245 :: u246 :: u247 :: u248 :: u249 :: u250 :: u251 :: u252 :: u253 :: u254 :: u255 :: u256 :: u257 :: u258 :: u259 :: [])), []⟩ W := by
  have HFS := Lib.hid hFS
  have HB := Lib.hid hB
  have HEX := Lib.hid hexit
  have HRT := Lib.hid hret
  have HCELL : Hid (∀ i, i < 3 → ∀ W', Below W.heap.size W W' → W'.cell? ⟨p10, i, none⟩ = some ((⟨.slice aa T.a.length ca, .slice ab T.b.length cb, .slice ac T.c.length cc⟩ : T3 Value).get i)) := fun i hi W' hb => snap_cell ((hb.block p10 (Array.getElem?_eq_some_iff.1 hblk).1).trans hblk) hi
  have HFA : Hid (∀ W', Below W.heap.size W W' → FS W' (.slice aa T.a.length ca) T.a) := fun W' hb => (hFS 0 (by decide)).below (hB.trans (hb.mono hB.size))
  have HFB : Hid (∀ W', Below W.heap.size W W' → FS W' (.slice ab T.b.length cb) T.b) := fun W' hb => (hFS 1 (by decide)).below (hB.trans (hb.mono hB.size))
  clear hFS hB hblk hexit hret
  conv => arg 2; arg 1; whnf
  go_loopw [11, 12] (fun pv iv wx => ∃ i : Nat, i ≤ 3 ∧ iv = .int .i64 i ∧ Hid (OwnG wx 9 1 pv (accD T i).length (lrow (accD T i))) ∧ Hid (∀ g, pv.ownBlock = some g → W.heap.size ≤ g) ∧ Hid (chkA T 3 = chkA T (3 - i)) ∧ Hid ((accD T i).length ≤ 256 * i) ∧ Hid (Below W.heap.size W wx)) (fun _ iv _ => (3 - intOf iv).toNat)
  case atStart => exact ⟨0, by decide, rfl, OwnG.nil _ _ _, (fun g hg => by cases hg), rfl, Nat.le_refl _, Below.refl _ _⟩
  case round =>
    obtain ⟨i, hi, rfl, HOW, HOB, HCH, HLN, HBW⟩ := hrel
    by_cases hlt : i < 3
    · -- @dev{ LA
      have d1 : decide ((i : Int) < 3) = true := decide_eq_true (by omega)
      have d2 : decide (i < 3) = true := decide_eq_true hlt
      have d3 : (0 : Int) ≤ (i : Int) := by omega
      have d4 : (i : Int) < 3 := by omega
      have dw : IntKind.i64.wrap ((i : Int) + 1) = ((i + 1 : Nat) : Int) := IntWalk.i64_in _ (by omega)
      have hfi : ∀ W', Below W.heap.size W W' → FS W' ((⟨.slice aa T.a.length ca, .slice ab T.b.length cb, .slice ac T.c.length cc⟩ : T3 Value).get i) (T.get i) := fun W' hb => (HFS.out i hlt).below (HB.out.trans (hb.mono HB.out.size))
      have hci := HCELL.out i hlt
      have hcs := chkA_next T hlt
      rw [← HCH.out] at hcs
      have hkz := accK_zero T i
      have hka := accK_all T i
      have hkl := accK_len T i
      have hks := fun k hk => accK_step (T := T) (i := i) (k := k) hk
      generalize T.get i = ts at hfi hcs hka hks
      obtain ⟨fv, hfv⟩ : ∃ fv, (⟨.slice aa T.a.length ca, .slice ab T.b.length cb, .slice ac T.c.length cc⟩ : T3 Value).get i = fv := ⟨_, rfl⟩
      rw [hfv] at hfi hci
      obtain ⟨af, cf, rfl⟩ := (hfi wr HBW.out).lit
      have HFI := Lib.hid hfi
      have HCI := Lib.hid hci
      have HCS := Lib.hid hcs
      have HKZ := Lib.hid hkz
      have HKA := Lib.hid hka
      have HKL := Lib.hid hkl
      have HKS := Lib.hid hks
      have hc0 := hci wr HBW.out
      have HCK := Lib.hid (rcheck_c (hfi wr HBW.out))
      obtain ⟨ck, hck⟩ : ∃ ck, chkS ts = ck := ⟨_, rfl⟩
      have HLT : Hid (ck = 0 → ts.length ≤ 256) := fun h => chkS_len (hck.trans h)
      rw [hck] at HCK HCS
      clear hck hfi hci hcs hkz hka hkl hks hfv HCH
      by_cases hck0 : ck = 0
      · subst hck0
        rw [if_neg (by simp)] at HCS
        have hnl := HLT.out rfl
        go_upto_region 10 with (go_at_call 30; refine HCK.out.mono ?_; rintro e W6 ⟨rfl, hb6⟩)
        have HOW6 : Hid (OwnG W6 9 1 u11 (accK T i 0).length (lrow (accK T i 0))) := by show OwnG _ _ _ _ _ _; rw [HKZ.out]; exact HOW.out.below hb6
        have HBW6 := Lib.hid (HBW.out.trans (hb6.mono HBW.out.size))
        clear hb6 HOW HBW HCK hc0
        go_loopw [11, 14] (fun pv jv wx => ∃ j : Nat, j ≤ ts.length ∧ jv = .int .i64 j ∧ Hid (OwnG wx 9 1 pv (accK T i j).length (lrow (accK T i j))) ∧ Hid (∀ g, pv.ownBlock = some g → W.heap.size ≤ g) ∧ Hid (Below W.heap.size W wx)) (fun _ jv _ => (ts.length - intOf jv).toNat)
        case atStart => exact ⟨0, Nat.zero_le _, rfl, HOW6.out, HOB.out, HBW6.out⟩
        case round =>
          clear HOW6 HOB HBW6
          obtain ⟨j, hj, rfl, HOW, HOB, HBW⟩ := hrel
          have hc0 := HCI.out wr HBW.out
          by_cases hjl : j < ts.length
          · have c1 : decide ((j : Int) < (ts.length : Int)) = true := decide_eq_true (by omega)
            have c2 : decide (j < ts.length) = true := decide_eq_true hjl
            have c3 : (0 : Int) ≤ (j : Int) := by omega
            have c4 : (j : Int) < (ts.length : Int) := by omega
            have cw : IntKind.i64.wrap ((j : Int) + 1) = ((j + 1 : Nat) : Int) := IntWalk.i64_in _ (by omega)
            obtain ⟨b, o, c', e, hbl, hr⟩ := (HFI.out wr HBW.out).at hjl
            injection e with e1 _ e2
            subst e1 e2
            have hp : wr.cell? ⟨b, o + j * 34, none⟩ = some (.string ts[j].path) := hr j hjl 0 _ rfl
            have hpz : ts[j].path.size ≤ 2000000 := ((HFI.out wr HBW.out).ok _ (List.getElem_mem hjl)).pz
            have hks := HKS.out j hjl
            clear hr hbl
            obtain ⟨p, hpe⟩ : ∃ p, ts[j].path = p := ⟨_, rfl⟩
            rw [hpe] at hp hpz hks
            clear hpe
            have hkl := HKL.out j
            have hln := HLN.out
            have HKN := Lib.hid hks
            clear hks
            have HFDA : Hid (∀ W', Below W.heap.size W W' → Calls Tryz.prog 21 #[.slice aa T.a.length ca, .string p] W' fun e w' => e = .returned (.int .i64 (findP p T.a 0)) ∧ Below W'.heap.size W' w') := fun W' hb => find_c (HFA.out W' hb) (by omega)
            have HFDB : Hid (∀ W', Below W.heap.size W W' → Calls Tryz.prog 21 #[.slice ab T.b.length cb, .string p] W' fun e w' => e = .returned (.int .i64 (findP p T.b 0)) ∧ Below W'.heap.size W' w') := fun W' hb => find_c (HFB.out W' hb) (by omega)
            obtain ⟨za, hza⟩ : ∃ z, (fiAt T.a p).isNone = z := ⟨_, rfl⟩
            obtain ⟨zb, hzb⟩ : ∃ z, (fiAt T.b p).isNone = z := ⟨_, rfl⟩
            have hfa : decide (findP p T.a 0 < 0) = za := findP_lt.trans hza
            have hfb : decide (findP p T.b 0 < 0) = zb := findP_lt.trans hzb
            have HKP : Hid (keepP T i p = ((za && zb) || decide (i = 0) || (decide (i = 1) && za))) := by show _ = _; unfold keepP; rw [hza, hzb]
            clear hza hzb
            generalize findP p T.a 0 = fa at *
            generalize findP p T.b 0 = fb at *
            go_upto_region 13 with fail
            go_cut [84] from 61 to 83 (fun v wx => v = .bool (keepP T i p) ∧ Below wr.heap.size wr wx)
            case first =>
              have HBX0 : Hid (Below W.heap.size W wr) := HBW
              have HWX0 : Hid (Below wr.heap.size wr wr) := Below.refl _ _
              have hi012 : i = 0 ∨ i = 1 ∨ i = 2 := by omega
              cases za with
              | true =>
                cases zb with
                | true =>
                  refine goP_start ?_
                  refine goP_mv rfl 61 rfl _ rfl (.slice aa T.a.length ca) rfl ?_; simp only [zT, zA, zB]
                  refine goP_mv rfl 62 rfl _ rfl (.string p) rfl ?_; simp only [zT, zA, zB]
                  refine goP_call rfl 63 rfl 21 _ rfl [(.slice aa T.a.length ca), .string p] rfl (enters_of Tryz.func21 (by kernel_rfl) rfl) ((HFDA.out _ HBX0.out).mono ?_)
                  rintro e w20 ⟨rfl, hb⟩
                  have HBX1 := Lib.hid (HBX0.out.trans (hb.mono HBX0.out.size))
                  have HWX1 := Lib.hid (HWX0.out.trans (hb.mono HWX0.out.size))
                  clear hb
                  refine ⟨(.int .i64 fa), rfl, ?_⟩; simp only [zT, zA, zB]
                  refine goP_tk rfl 64 rfl (.bool true) (by go_simp) ?_; simp only [zT, zA, zB]
                  refine goP_mv rfl 65 rfl _ rfl (.bool true) rfl ?_; simp only [zT, zA, zB]
                  refine goP_mv rfl 66 rfl _ rfl (.slice ab T.b.length cb) rfl ?_; simp only [zT, zA, zB]
                  refine goP_mv rfl 67 rfl _ rfl (.string p) rfl ?_; simp only [zT, zA, zB]
                  refine goP_call rfl 68 rfl 21 _ rfl [(.slice ab T.b.length cb), .string p] rfl (enters_of Tryz.func21 (by kernel_rfl) rfl) ((HFDB.out _ HBX1.out).mono ?_)
                  rintro e w21 ⟨rfl, hb⟩
                  have HBX2 := Lib.hid (HBX1.out.trans (hb.mono HBX1.out.size))
                  have HWX2 := Lib.hid (HWX1.out.trans (hb.mono HWX1.out.size))
                  clear hb
                  refine ⟨(.int .i64 fb), rfl, ?_⟩; simp only [zT, zA, zB]
                  refine goP_tk rfl 69 rfl (.bool true) (by go_simp) ?_; simp only [zT, zA, zB]
                  refine goP_pk rfl 70 rfl _ _ _ rfl true rfl (.bool true) rfl ?_; simp only [zT, zA, zB]
                  refine goP_mv rfl 71 rfl _ rfl (.bool true) rfl ?_; simp only [zT, zA, zB]
                  refine goP_no rfl 72 rfl ?_; simp only [zT, zA, zB]
                  refine goP_no rfl 73 rfl ?_; simp only [zT, zA, zB]
                  refine goP_pk rfl 74 rfl _ _ _ rfl true rfl (.bool true) rfl ?_; simp only [zT, zA, zB]
                  refine goP_mv rfl 75 rfl _ rfl (.bool true) rfl ?_; simp only [zT, zA, zB]
                  refine goP_no rfl 76 rfl ?_; simp only [zT, zA, zB]
                  refine goP_no rfl 77 rfl ?_; simp only [zT, zA, zB]
                  refine goP_no rfl 78 rfl ?_; simp only [zT, zA, zB]
                  refine goP_no rfl 79 rfl ?_; simp only [zT, zA, zB]
                  refine goP_no rfl 80 rfl ?_; simp only [zT, zA, zB]
                  refine goP_no rfl 81 rfl ?_; simp only [zT, zA, zB]
                  refine goP_no rfl 82 rfl ?_; simp only [zT, zA, zB]
                  refine goP_no rfl 83 rfl ?_; simp only [zT, zA, zB]
                  refine goP_pk rfl 84 rfl _ _ _ rfl true rfl (.bool true) rfl ?_; simp only [zT, zA, zB]
                  refine goP_end ?_
                  go_wp2_with fail
                  go_meet
                  case rel => exact ⟨by rw [HKP.out]; rfl, HWX2.out⟩
                | false =>
                  rcases hi012 with h | h | h
                  · have e0 : ((i : Int) == 0) = true := by rw [h]; rfl
                    have HH := Lib.hid h
                    clear h
                    refine goP_start ?_
                    refine goP_mv rfl 61 rfl _ rfl (.slice aa T.a.length ca) rfl ?_; simp only [zT, zA, zB]
                    refine goP_mv rfl 62 rfl _ rfl (.string p) rfl ?_; simp only [zT, zA, zB]
                    refine goP_call rfl 63 rfl 21 _ rfl [(.slice aa T.a.length ca), .string p] rfl (enters_of Tryz.func21 (by kernel_rfl) rfl) ((HFDA.out _ HBX0.out).mono ?_)
                    rintro e w20 ⟨rfl, hb⟩
                    have HBX1 := Lib.hid (HBX0.out.trans (hb.mono HBX0.out.size))
                    have HWX1 := Lib.hid (HWX0.out.trans (hb.mono HWX0.out.size))
                    clear hb
                    refine ⟨(.int .i64 fa), rfl, ?_⟩; simp only [zT, zA, zB]
                    refine goP_tk rfl 64 rfl (.bool true) (by go_simp) ?_; simp only [zT, zA, zB]
                    refine goP_mv rfl 65 rfl _ rfl (.bool true) rfl ?_; simp only [zT, zA, zB]
                    refine goP_mv rfl 66 rfl _ rfl (.slice ab T.b.length cb) rfl ?_; simp only [zT, zA, zB]
                    refine goP_mv rfl 67 rfl _ rfl (.string p) rfl ?_; simp only [zT, zA, zB]
                    refine goP_call rfl 68 rfl 21 _ rfl [(.slice ab T.b.length cb), .string p] rfl (enters_of Tryz.func21 (by kernel_rfl) rfl) ((HFDB.out _ HBX1.out).mono ?_)
                    rintro e w21 ⟨rfl, hb⟩
                    have HBX2 := Lib.hid (HBX1.out.trans (hb.mono HBX1.out.size))
                    have HWX2 := Lib.hid (HWX1.out.trans (hb.mono HWX1.out.size))
                    clear hb
                    refine ⟨(.int .i64 fb), rfl, ?_⟩; simp only [zT, zA, zB]
                    refine goP_tk rfl 69 rfl (.bool false) (by go_simp) ?_; simp only [zT, zA, zB]
                    refine goP_pk rfl 70 rfl _ _ _ rfl true rfl (.bool false) rfl ?_; simp only [zT, zA, zB]
                    refine goP_mv rfl 71 rfl _ rfl (.bool false) rfl ?_; simp only [zT, zA, zB]
                    refine goP_mv rfl 72 rfl _ rfl (.int .i64 i) rfl ?_; simp only [zT, zA, zB]
                    refine goP_tk rfl 73 rfl (.bool true) (by go_simp) ?_; simp only [zT, zA, zB]
                    refine goP_pk rfl 74 rfl _ _ _ rfl false rfl (.bool true) rfl ?_; simp only [zT, zA, zB]
                    refine goP_mv rfl 75 rfl _ rfl (.bool true) rfl ?_; simp only [zT, zA, zB]
                    refine goP_no rfl 76 rfl ?_; simp only [zT, zA, zB]
                    refine goP_no rfl 77 rfl ?_; simp only [zT, zA, zB]
                    refine goP_no rfl 78 rfl ?_; simp only [zT, zA, zB]
                    refine goP_no rfl 79 rfl ?_; simp only [zT, zA, zB]
                    refine goP_no rfl 80 rfl ?_; simp only [zT, zA, zB]
                    refine goP_no rfl 81 rfl ?_; simp only [zT, zA, zB]
                    refine goP_no rfl 82 rfl ?_; simp only [zT, zA, zB]
                    refine goP_no rfl 83 rfl ?_; simp only [zT, zA, zB]
                    refine goP_pk rfl 84 rfl _ _ _ rfl true rfl (.bool true) rfl ?_; simp only [zT, zA, zB]
                    refine goP_end ?_
                    go_wp2_with fail
                    go_meet
                    case rel => exact ⟨by rw [HKP.out, HH.out]; rfl, HWX2.out⟩
                  · have e0 : ((i : Int) == 0) = false := by rw [h]; rfl
                    have e1 : ((i : Int) == 1) = true := by rw [h]; rfl
                    have HH := Lib.hid h
                    clear h
                    refine goP_start ?_
                    refine goP_mv rfl 61 rfl _ rfl (.slice aa T.a.length ca) rfl ?_; simp only [zT, zA, zB]
                    refine goP_mv rfl 62 rfl _ rfl (.string p) rfl ?_; simp only [zT, zA, zB]
                    refine goP_call rfl 63 rfl 21 _ rfl [(.slice aa T.a.length ca), .string p] rfl (enters_of Tryz.func21 (by kernel_rfl) rfl) ((HFDA.out _ HBX0.out).mono ?_)
                    rintro e w20 ⟨rfl, hb⟩
                    have HBX1 := Lib.hid (HBX0.out.trans (hb.mono HBX0.out.size))
                    have HWX1 := Lib.hid (HWX0.out.trans (hb.mono HWX0.out.size))
                    clear hb
                    refine ⟨(.int .i64 fa), rfl, ?_⟩; simp only [zT, zA, zB]
                    refine goP_tk rfl 64 rfl (.bool true) (by go_simp) ?_; simp only [zT, zA, zB]
                    refine goP_mv rfl 65 rfl _ rfl (.bool true) rfl ?_; simp only [zT, zA, zB]
                    refine goP_mv rfl 66 rfl _ rfl (.slice ab T.b.length cb) rfl ?_; simp only [zT, zA, zB]
                    refine goP_mv rfl 67 rfl _ rfl (.string p) rfl ?_; simp only [zT, zA, zB]
                    refine goP_call rfl 68 rfl 21 _ rfl [(.slice ab T.b.length cb), .string p] rfl (enters_of Tryz.func21 (by kernel_rfl) rfl) ((HFDB.out _ HBX1.out).mono ?_)
                    rintro e w21 ⟨rfl, hb⟩
                    have HBX2 := Lib.hid (HBX1.out.trans (hb.mono HBX1.out.size))
                    have HWX2 := Lib.hid (HWX1.out.trans (hb.mono HWX1.out.size))
                    clear hb
                    refine ⟨(.int .i64 fb), rfl, ?_⟩; simp only [zT, zA, zB]
                    refine goP_tk rfl 69 rfl (.bool false) (by go_simp) ?_; simp only [zT, zA, zB]
                    refine goP_pk rfl 70 rfl _ _ _ rfl true rfl (.bool false) rfl ?_; simp only [zT, zA, zB]
                    refine goP_mv rfl 71 rfl _ rfl (.bool false) rfl ?_; simp only [zT, zA, zB]
                    refine goP_mv rfl 72 rfl _ rfl (.int .i64 i) rfl ?_; simp only [zT, zA, zB]
                    refine goP_tk rfl 73 rfl (.bool false) (by go_simp) ?_; simp only [zT, zA, zB]
                    refine goP_pk rfl 74 rfl _ _ _ rfl false rfl (.bool false) rfl ?_; simp only [zT, zA, zB]
                    refine goP_mv rfl 75 rfl _ rfl (.bool false) rfl ?_; simp only [zT, zA, zB]
                    refine goP_mv rfl 76 rfl _ rfl (.int .i64 i) rfl ?_; simp only [zT, zA, zB]
                    refine goP_tk rfl 77 rfl (.bool true) (by go_simp) ?_; simp only [zT, zA, zB]
                    refine goP_mv rfl 78 rfl _ rfl (.bool true) rfl ?_; simp only [zT, zA, zB]
                    refine goP_mv rfl 79 rfl _ rfl (.slice aa T.a.length ca) rfl ?_; simp only [zT, zA, zB]
                    refine goP_mv rfl 80 rfl _ rfl (.string p) rfl ?_; simp only [zT, zA, zB]
                    refine goP_call rfl 81 rfl 21 _ rfl [(.slice aa T.a.length ca), .string p] rfl (enters_of Tryz.func21 (by kernel_rfl) rfl) ((HFDA.out _ HBX2.out).mono ?_)
                    rintro e w22 ⟨rfl, hb⟩
                    have HBX3 := Lib.hid (HBX2.out.trans (hb.mono HBX2.out.size))
                    have HWX3 := Lib.hid (HWX2.out.trans (hb.mono HWX2.out.size))
                    clear hb
                    refine ⟨(.int .i64 fa), rfl, ?_⟩; simp only [zT, zA, zB]
                    refine goP_tk rfl 82 rfl (.bool true) (by go_simp) ?_; simp only [zT, zA, zB]
                    refine goP_pk rfl 83 rfl _ _ _ rfl true rfl (.bool true) rfl ?_; simp only [zT, zA, zB]
                    refine goP_pk rfl 84 rfl _ _ _ rfl false rfl (.bool true) rfl ?_; simp only [zT, zA, zB]
                    refine goP_end ?_
                    go_wp2_with fail
                    go_meet
                    case rel => exact ⟨by rw [HKP.out, HH.out]; rfl, HWX3.out⟩
                  · have e0 : ((i : Int) == 0) = false := by rw [h]; rfl
                    have e1 : ((i : Int) == 1) = false := by rw [h]; rfl
                    have HH := Lib.hid h
                    clear h
                    refine goP_start ?_
                    refine goP_mv rfl 61 rfl _ rfl (.slice aa T.a.length ca) rfl ?_; simp only [zT, zA, zB]
                    refine goP_mv rfl 62 rfl _ rfl (.string p) rfl ?_; simp only [zT, zA, zB]
                    refine goP_call rfl 63 rfl 21 _ rfl [(.slice aa T.a.length ca), .string p] rfl (enters_of Tryz.func21 (by kernel_rfl) rfl) ((HFDA.out _ HBX0.out).mono ?_)
                    rintro e w20 ⟨rfl, hb⟩
                    have HBX1 := Lib.hid (HBX0.out.trans (hb.mono HBX0.out.size))
                    have HWX1 := Lib.hid (HWX0.out.trans (hb.mono HWX0.out.size))
                    clear hb
                    refine ⟨(.int .i64 fa), rfl, ?_⟩; simp only [zT, zA, zB]
                    refine goP_tk rfl 64 rfl (.bool true) (by go_simp) ?_; simp only [zT, zA, zB]
                    refine goP_mv rfl 65 rfl _ rfl (.bool true) rfl ?_; simp only [zT, zA, zB]
                    refine goP_mv rfl 66 rfl _ rfl (.slice ab T.b.length cb) rfl ?_; simp only [zT, zA, zB]
                    refine goP_mv rfl 67 rfl _ rfl (.string p) rfl ?_; simp only [zT, zA, zB]
                    refine goP_call rfl 68 rfl 21 _ rfl [(.slice ab T.b.length cb), .string p] rfl (enters_of Tryz.func21 (by kernel_rfl) rfl) ((HFDB.out _ HBX1.out).mono ?_)
                    rintro e w21 ⟨rfl, hb⟩
                    have HBX2 := Lib.hid (HBX1.out.trans (hb.mono HBX1.out.size))
                    have HWX2 := Lib.hid (HWX1.out.trans (hb.mono HWX1.out.size))
                    clear hb
                    refine ⟨(.int .i64 fb), rfl, ?_⟩; simp only [zT, zA, zB]
                    refine goP_tk rfl 69 rfl (.bool false) (by go_simp) ?_; simp only [zT, zA, zB]
                    refine goP_pk rfl 70 rfl _ _ _ rfl true rfl (.bool false) rfl ?_; simp only [zT, zA, zB]
                    refine goP_mv rfl 71 rfl _ rfl (.bool false) rfl ?_; simp only [zT, zA, zB]
                    refine goP_mv rfl 72 rfl _ rfl (.int .i64 i) rfl ?_; simp only [zT, zA, zB]
                    refine goP_tk rfl 73 rfl (.bool false) (by go_simp) ?_; simp only [zT, zA, zB]
                    refine goP_pk rfl 74 rfl _ _ _ rfl false rfl (.bool false) rfl ?_; simp only [zT, zA, zB]
                    refine goP_mv rfl 75 rfl _ rfl (.bool false) rfl ?_; simp only [zT, zA, zB]
                    refine goP_mv rfl 76 rfl _ rfl (.int .i64 i) rfl ?_; simp only [zT, zA, zB]
                    refine goP_tk rfl 77 rfl (.bool false) (by go_simp) ?_; simp only [zT, zA, zB]
                    refine goP_mv rfl 78 rfl _ rfl (.bool false) rfl ?_; simp only [zT, zA, zB]
                    refine goP_no rfl 79 rfl ?_; simp only [zT, zA, zB]
                    refine goP_no rfl 80 rfl ?_; simp only [zT, zA, zB]
                    refine goP_no rfl 81 rfl ?_; simp only [zT, zA, zB]
                    refine goP_no rfl 82 rfl ?_; simp only [zT, zA, zB]
                    refine goP_pk rfl 83 rfl _ _ _ rfl false rfl (.bool false) rfl ?_; simp only [zT, zA, zB]
                    refine goP_pk rfl 84 rfl _ _ _ rfl false rfl (.bool false) rfl ?_; simp only [zT, zA, zB]
                    refine goP_end ?_
                    go_wp2_with fail
                    go_meet
                    case rel => exact ⟨by rw [HKP.out, HH.out]; rfl, HWX2.out⟩
              | false =>
                rcases hi012 with h | h | h
                · have e0 : ((i : Int) == 0) = true := by rw [h]; rfl
                  have HH := Lib.hid h
                  clear h
                  refine goP_start ?_
                  refine goP_mv rfl 61 rfl _ rfl (.slice aa T.a.length ca) rfl ?_; simp only [zT, zA, zB]
                  refine goP_mv rfl 62 rfl _ rfl (.string p) rfl ?_; simp only [zT, zA, zB]
                  refine goP_call rfl 63 rfl 21 _ rfl [(.slice aa T.a.length ca), .string p] rfl (enters_of Tryz.func21 (by kernel_rfl) rfl) ((HFDA.out _ HBX0.out).mono ?_)
                  rintro e w20 ⟨rfl, hb⟩
                  have HBX1 := Lib.hid (HBX0.out.trans (hb.mono HBX0.out.size))
                  have HWX1 := Lib.hid (HWX0.out.trans (hb.mono HWX0.out.size))
                  clear hb
                  refine ⟨(.int .i64 fa), rfl, ?_⟩; simp only [zT, zA, zB]
                  refine goP_tk rfl 64 rfl (.bool false) (by go_simp) ?_; simp only [zT, zA, zB]
                  refine goP_mv rfl 65 rfl _ rfl (.bool false) rfl ?_; simp only [zT, zA, zB]
                  refine goP_no rfl 66 rfl ?_; simp only [zT, zA, zB]
                  refine goP_no rfl 67 rfl ?_; simp only [zT, zA, zB]
                  refine goP_no rfl 68 rfl ?_; simp only [zT, zA, zB]
                  refine goP_no rfl 69 rfl ?_; simp only [zT, zA, zB]
                  refine goP_pk rfl 70 rfl _ _ _ rfl false rfl (.bool false) rfl ?_; simp only [zT, zA, zB]
                  refine goP_mv rfl 71 rfl _ rfl (.bool false) rfl ?_; simp only [zT, zA, zB]
                  refine goP_mv rfl 72 rfl _ rfl (.int .i64 i) rfl ?_; simp only [zT, zA, zB]
                  refine goP_tk rfl 73 rfl (.bool true) (by go_simp) ?_; simp only [zT, zA, zB]
                  refine goP_pk rfl 74 rfl _ _ _ rfl false rfl (.bool true) rfl ?_; simp only [zT, zA, zB]
                  refine goP_mv rfl 75 rfl _ rfl (.bool true) rfl ?_; simp only [zT, zA, zB]
                  refine goP_no rfl 76 rfl ?_; simp only [zT, zA, zB]
                  refine goP_no rfl 77 rfl ?_; simp only [zT, zA, zB]
                  refine goP_no rfl 78 rfl ?_; simp only [zT, zA, zB]
                  refine goP_no rfl 79 rfl ?_; simp only [zT, zA, zB]
                  refine goP_no rfl 80 rfl ?_; simp only [zT, zA, zB]
                  refine goP_no rfl 81 rfl ?_; simp only [zT, zA, zB]
                  refine goP_no rfl 82 rfl ?_; simp only [zT, zA, zB]
                  refine goP_no rfl 83 rfl ?_; simp only [zT, zA, zB]
                  refine goP_pk rfl 84 rfl _ _ _ rfl true rfl (.bool true) rfl ?_; simp only [zT, zA, zB]
                  refine goP_end ?_
                  go_wp2_with fail
                  go_meet
                  case rel => exact ⟨by rw [HKP.out, HH.out]; rfl, HWX1.out⟩
                · have e0 : ((i : Int) == 0) = false := by rw [h]; rfl
                  have e1 : ((i : Int) == 1) = true := by rw [h]; rfl
                  have HH := Lib.hid h
                  clear h
                  refine goP_start ?_
                  refine goP_mv rfl 61 rfl _ rfl (.slice aa T.a.length ca) rfl ?_; simp only [zT, zA, zB]
                  refine goP_mv rfl 62 rfl _ rfl (.string p) rfl ?_; simp only [zT, zA, zB]
                  refine goP_call rfl 63 rfl 21 _ rfl [(.slice aa T.a.length ca), .string p] rfl (enters_of Tryz.func21 (by kernel_rfl) rfl) ((HFDA.out _ HBX0.out).mono ?_)
                  rintro e w20 ⟨rfl, hb⟩
                  have HBX1 := Lib.hid (HBX0.out.trans (hb.mono HBX0.out.size))
                  have HWX1 := Lib.hid (HWX0.out.trans (hb.mono HWX0.out.size))
                  clear hb
                  refine ⟨(.int .i64 fa), rfl, ?_⟩; simp only [zT, zA, zB]
                  refine goP_tk rfl 64 rfl (.bool false) (by go_simp) ?_; simp only [zT, zA, zB]
                  refine goP_mv rfl 65 rfl _ rfl (.bool false) rfl ?_; simp only [zT, zA, zB]
                  refine goP_no rfl 66 rfl ?_; simp only [zT, zA, zB]
                  refine goP_no rfl 67 rfl ?_; simp only [zT, zA, zB]
                  refine goP_no rfl 68 rfl ?_; simp only [zT, zA, zB]
                  refine goP_no rfl 69 rfl ?_; simp only [zT, zA, zB]
                  refine goP_pk rfl 70 rfl _ _ _ rfl false rfl (.bool false) rfl ?_; simp only [zT, zA, zB]
                  refine goP_mv rfl 71 rfl _ rfl (.bool false) rfl ?_; simp only [zT, zA, zB]
                  refine goP_mv rfl 72 rfl _ rfl (.int .i64 i) rfl ?_; simp only [zT, zA, zB]
                  refine goP_tk rfl 73 rfl (.bool false) (by go_simp) ?_; simp only [zT, zA, zB]
                  refine goP_pk rfl 74 rfl _ _ _ rfl false rfl (.bool false) rfl ?_; simp only [zT, zA, zB]
                  refine goP_mv rfl 75 rfl _ rfl (.bool false) rfl ?_; simp only [zT, zA, zB]
                  refine goP_mv rfl 76 rfl _ rfl (.int .i64 i) rfl ?_; simp only [zT, zA, zB]
                  refine goP_tk rfl 77 rfl (.bool true) (by go_simp) ?_; simp only [zT, zA, zB]
                  refine goP_mv rfl 78 rfl _ rfl (.bool true) rfl ?_; simp only [zT, zA, zB]
                  refine goP_mv rfl 79 rfl _ rfl (.slice aa T.a.length ca) rfl ?_; simp only [zT, zA, zB]
                  refine goP_mv rfl 80 rfl _ rfl (.string p) rfl ?_; simp only [zT, zA, zB]
                  refine goP_call rfl 81 rfl 21 _ rfl [(.slice aa T.a.length ca), .string p] rfl (enters_of Tryz.func21 (by kernel_rfl) rfl) ((HFDA.out _ HBX1.out).mono ?_)
                  rintro e w21 ⟨rfl, hb⟩
                  have HBX2 := Lib.hid (HBX1.out.trans (hb.mono HBX1.out.size))
                  have HWX2 := Lib.hid (HWX1.out.trans (hb.mono HWX1.out.size))
                  clear hb
                  refine ⟨(.int .i64 fa), rfl, ?_⟩; simp only [zT, zA, zB]
                  refine goP_tk rfl 82 rfl (.bool false) (by go_simp) ?_; simp only [zT, zA, zB]
                  refine goP_pk rfl 83 rfl _ _ _ rfl true rfl (.bool false) rfl ?_; simp only [zT, zA, zB]
                  refine goP_pk rfl 84 rfl _ _ _ rfl false rfl (.bool false) rfl ?_; simp only [zT, zA, zB]
                  refine goP_end ?_
                  go_wp2_with fail
                  go_meet
                  case rel => exact ⟨by rw [HKP.out, HH.out]; rfl, HWX2.out⟩
                · have e0 : ((i : Int) == 0) = false := by rw [h]; rfl
                  have e1 : ((i : Int) == 1) = false := by rw [h]; rfl
                  have HH := Lib.hid h
                  clear h
                  refine goP_start ?_
                  refine goP_mv rfl 61 rfl _ rfl (.slice aa T.a.length ca) rfl ?_; simp only [zT, zA, zB]
                  refine goP_mv rfl 62 rfl _ rfl (.string p) rfl ?_; simp only [zT, zA, zB]
                  refine goP_call rfl 63 rfl 21 _ rfl [(.slice aa T.a.length ca), .string p] rfl (enters_of Tryz.func21 (by kernel_rfl) rfl) ((HFDA.out _ HBX0.out).mono ?_)
                  rintro e w20 ⟨rfl, hb⟩
                  have HBX1 := Lib.hid (HBX0.out.trans (hb.mono HBX0.out.size))
                  have HWX1 := Lib.hid (HWX0.out.trans (hb.mono HWX0.out.size))
                  clear hb
                  refine ⟨(.int .i64 fa), rfl, ?_⟩; simp only [zT, zA, zB]
                  refine goP_tk rfl 64 rfl (.bool false) (by go_simp) ?_; simp only [zT, zA, zB]
                  refine goP_mv rfl 65 rfl _ rfl (.bool false) rfl ?_; simp only [zT, zA, zB]
                  refine goP_no rfl 66 rfl ?_; simp only [zT, zA, zB]
                  refine goP_no rfl 67 rfl ?_; simp only [zT, zA, zB]
                  refine goP_no rfl 68 rfl ?_; simp only [zT, zA, zB]
                  refine goP_no rfl 69 rfl ?_; simp only [zT, zA, zB]
                  refine goP_pk rfl 70 rfl _ _ _ rfl false rfl (.bool false) rfl ?_; simp only [zT, zA, zB]
                  refine goP_mv rfl 71 rfl _ rfl (.bool false) rfl ?_; simp only [zT, zA, zB]
                  refine goP_mv rfl 72 rfl _ rfl (.int .i64 i) rfl ?_; simp only [zT, zA, zB]
                  refine goP_tk rfl 73 rfl (.bool false) (by go_simp) ?_; simp only [zT, zA, zB]
                  refine goP_pk rfl 74 rfl _ _ _ rfl false rfl (.bool false) rfl ?_; simp only [zT, zA, zB]
                  refine goP_mv rfl 75 rfl _ rfl (.bool false) rfl ?_; simp only [zT, zA, zB]
                  refine goP_mv rfl 76 rfl _ rfl (.int .i64 i) rfl ?_; simp only [zT, zA, zB]
                  refine goP_tk rfl 77 rfl (.bool false) (by go_simp) ?_; simp only [zT, zA, zB]
                  refine goP_mv rfl 78 rfl _ rfl (.bool false) rfl ?_; simp only [zT, zA, zB]
                  refine goP_no rfl 79 rfl ?_; simp only [zT, zA, zB]
                  refine goP_no rfl 80 rfl ?_; simp only [zT, zA, zB]
                  refine goP_no rfl 81 rfl ?_; simp only [zT, zA, zB]
                  refine goP_no rfl 82 rfl ?_; simp only [zT, zA, zB]
                  refine goP_pk rfl 83 rfl _ _ _ rfl false rfl (.bool false) rfl ?_; simp only [zT, zA, zB]
                  refine goP_pk rfl 84 rfl _ _ _ rfl false rfl (.bool false) rfl ?_; simp only [zT, zA, zB]
                  refine goP_end ?_
                  go_wp2_with fail
                  go_meet
                  case rel => exact ⟨by rw [HKP.out, HH.out]; rfl, HWX1.out⟩
            case rest =>
              obtain ⟨rfl, hbc⟩ := hcut
              have HBC := Lib.hid (HBW.out.trans (hbc.mono HBW.out.size))
              have HOWC := Lib.hid (HOW.out.below hbc)
              clear hbc HOW HBW hc0 hp hfa hfb HKP HFDA HFDB
              cases hkp : keepP T i p with
              | true =>
                rw [hkp, if_pos rfl] at HKN
                clear hkp
                have HTL : Hid (Tl (wc.alloc (.cells #[.string p] 9)) (.slice (some ⟨wc.heap.size, 0, none⟩) 1 1) [p]) := by
                  have hb : (wc.alloc (.cells #[.string p] 9)).heap[wc.heap.size]? = some (.cells #[.string p] 9) := Array.getElem?_push_size
                  refine ⟨_, _, rfl, Nat.le_refl _, by decide, (fun h => by cases h), .inr ⟨_, _, rfl, (Array.getElem?_eq_some_iff.1 hb).1, fun k u hu => ?_⟩⟩
                  simp only [World.cell?, hb]
                  rcases k with _ | k
                  · exact hu
                  · simp [lrow] at hu
                have hba : Below wc.heap.size wc (wc.alloc (.cells #[.string p] 9)) := (Below.refl _ wc).alloc (Nat.le_refl _) _
                have HBA := Lib.hid hba
                have HROW := Lib.hid (HOWC.out.below hba)
                have HAPP : Hid (lrow (accK T i (j + 1)) = lrow (accK T i j) ++ lrow [p] ∧ (accK T i (j + 1)).length = (accK T i j).length + 1) := by
                  constructor
                  · rw [HKN.out, lrow_app]
                  · rw [HKN.out, List.length_append]; rfl
                clear hba HOWC HKN
                obtain ⟨N, hN⟩ : ∃ N, (accK T i j).length = N := ⟨_, rfl⟩
                rw [hN] at HROW HAPP hkl
                clear hN
                go_upto_region 11 with (refine wp_appG rfl _ _ _ _ rfl ES rfl (v := u11) (xv := .slice (some ⟨wc.heap.size, 0, none⟩) 1 1) (n := N) (m := 1) rfl HROW.out rfl (src_tl HTL.out) (by simp only [maxLen]; omega) (by omega) ?_; intro v9 w9 ho9 hg9 hv9)
                have HW9 : Hid (OwnG w9 9 1 v9 (accK T i (j + 1)).length (lrow (accK T i (j + 1)))) := by show OwnG _ _ _ _ _ _; rw [HAPP.out.1, HAPP.out.2]; exact ho9
                have HV9 : Hid (∀ g, v9.ownBlock = some g → W.heap.size ≤ g) := fun g hg => (hv9 g hg).elim (HOB.out g) (fun h => by have h2 := HBC.out.size; have h3 := HBA.out.size; omega)
                have HB9 : Hid (Below W.heap.size W w9) := (HBC.out.trans (HBA.out.mono HBC.out.size)).grown hg9 (Nat.le_trans HBC.out.size HBA.out.size) (fun g hg => HOB.out g hg)
                clear ho9 hg9 hv9 HROW HTL HBA HBC HOB HAPP
                go_wp2_with fail
                go_roundw
                case rel => exact ⟨j + 1, hjl, by go_num, HW9.out, HV9.out, HB9.out⟩
                case measure => simp [intOf]; omega
              | false =>
                rw [hkp, if_neg (by decide)] at HKN
                clear hkp
                have HW9 : Hid (Hid (OwnG wc 9 1 u11 (accK T i (j + 1)).length (lrow (accK T i (j + 1))))) := by show OwnG _ _ _ _ _ _; rw [HKN.out]; exact HOWC.out
                have HV9 : Hid (Hid (∀ g, u11.ownBlock = some g → W.heap.size ≤ g)) := HOB
                have HB9 : Hid (Hid (Below W.heap.size W wc)) := HBC
                clear HOWC HKN HBC HOB
                go_wp2_with fail
                go_roundw
                case rel => exact ⟨j + 1, hjl, by go_num, HW9.out, HV9.out, HB9.out⟩
                case measure => simp [intOf]; omega
          · have hjn : j = ts.length := by omega
            have c1 : decide ((j : Int) < (ts.length : Int)) = false := decide_eq_false (by omega)
            have c2 : decide (j < ts.length) = false := decide_eq_false hjl
            have HW9 : Hid (Hid (OwnG wr 9 1 u11 (accD T (i + 1)).length (lrow (accD T (i + 1))))) := by show OwnG _ _ _ _ _ _; rw [← HKA.out, ← hjn]; exact HOW.out
            have HV9 : Hid (Hid (∀ g, u11.ownBlock = some g → W.heap.size ≤ g)) := HOB
            have HB9 : Hid (Hid (Below W.heap.size W wr)) := HBW
            have HL9 : Hid (Hid ((accD T (i + 1)).length ≤ 256 * (i + 1))) := by show (accD T (i + 1)).length ≤ 256 * (i + 1); rw [← HKA.out]; have h1 := HKL.out ts.length; have h2 := HLN.out; omega
            have HCH2 : Hid (Hid (chkA T 3 = chkA T (3 - (i + 1)))) := HCS
            clear hjn HOW HOB HBW HCS
            go_wp2_with fail
            go_roundw
            case rel => exact ⟨i + 1, by omega, by go_num, HW9.out, HV9.out, HCH2.out, HL9.out, HB9.out⟩
            case measure => simp [intOf]; omega
      · rw [if_pos hck0] at HCS
        have e0 : (ck == 0) = false := beq_eq_false_iff_ne.2 hck0
        have HNE : Hid (chkA T 3 ≠ 0) := by show chkA T 3 ≠ 0; rw [HCS.out]; exact hck0
        clear hck0
        go_upto_region 8 with (go_at_call 30; refine HCK.out.mono ?_; rintro e W6 ⟨rfl, hb6⟩)
        have HB6 := Lib.hid (HBW.out.trans (hb6.mono HBW.out.size))
        rw [← HCS.out] at *
        go_wp2_with fail
        apply HRT.out
        · exact HNE.out
        · exact HB6.out
    · have hi3 : i = 3 := by omega
      have d1 : decide ((i : Int) < 3) = false := decide_eq_false (by omega)
      have d2 : decide (i < 3) = false := decide_eq_false hlt
      have HW9 : Hid (OwnG wr 9 1 u11 (accD T 3).length (lrow (accD T 3))) := by show OwnG _ _ _ _ _ _; rw [← hi3]; exact HOW.out
      have HC9 : Hid (chkA T 3 = 0) := by show _ = _; rw [HCH.out, hi3]; rfl
      have HL9 : Hid ((accD T 3).length ≤ 768) := by show (accD T 3).length ≤ 768; have h := HLN.out; rw [hi3] at h; exact h
      clear hi3 HOW HCH HLN
      go_wp2_with fail
      apply HEX.out
      · exact HC9.out
      · exact HW9.out
      · exact HL9.out
      · exact HBW.out
end Go.Proofs.YtpcipdkoncmdcaaGreatDoor
