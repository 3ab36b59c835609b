/- Texts of mine, joined: Walk of the document's merging: its last loop (what lies under another one), and the whole. | Walk of the document's merging, whole. -/
import Derived.Test.YtpcipdkoncmdcaaGreatDoorYJoinMerges34
namespace Go.Proofs.YtpcipdkoncmdcaaGreatDoor
open Go Go.RowKit
/-- The last loop's: the kind of the i-th outcome put anew. -/
theorem DQ.setk {w0 w : World} {g o n c : Nat} {l : List Ou} (h : DQ w0 w (.slice (some ⟨g, o, none⟩) n c) l) {i k : Nat} (hi : i < l.length) (hk : k ≤ 4) :
    DQ w0 (w.setCell ⟨g, o + i * 135 + 1, none⟩ (.int .i64 k)) (.slice (some ⟨g, o, none⟩) n c) (l.set i { l[i] with kind := k }) := by
  have hl := doR_len h.ok
  have hn : n = l.length := by
    obtain ⟨-, h2⟩ := h.row
    rcases h2 with ⟨e, -⟩ | ⟨_, _, _, _, e, _⟩
    · cases e
    · injection e
  subst hn
  have hj : i * 135 + 1 < (doR l).length := by rw [hl]; have := Nat.mul_le_mul_right 135 (show i + 1 ≤ l.length from hi); omega
  have hr := h.row.setAt (i * 135 + 1) hj (.int .i64 k)
  rw [← Nat.add_assoc] at hr
  have hok := h.ok _ (List.getElem_mem hi)
  have hok2 : OkOu { l[i] with kind := k } := ⟨hok.id, hok.ia, hok.ib, hok.ic, hk, hok.st, hok.pz⟩
  have hall : ∀ x ∈ l.set i { l[i] with kind := k }, OkOu x := fun x hx => by
    rcases List.mem_or_eq_of_mem_set hx with hx | rfl
    · exact h.ok x hx
    · exact hok2
  have e : (doR l).set (i * 135 + 1) (.int .i64 k) = doR (l.set i { l[i] with kind := k }) := by
    apply List.ext_getElem?
    intro m
    by_cases hm : m < l.length * 135
    · have hq : m / 135 < l.length := by omega
      have hmm : m = m / 135 * 135 + m % 135 := by omega
      have hr135 : m % 135 < 135 := Nat.mod_lt _ (by decide)
      have e1 := doR_get h.ok (m / 135) hq (m % 135) hr135
      have e2 := doR_get hall (m / 135) (by rw [List.length_set]; exact hq) (m % 135) hr135
      rw [← hmm] at e1 e2
      rw [e2, List.getElem?_set, hl]
      by_cases hc : i * 135 + 1 = m
      · have hqi : m / 135 = i := by omega
        have hri : m % 135 = 1 := by omega
        rw [if_pos hc, if_pos (by omega)]
        simp only [hqi, hri, List.getElem_set_self]; rfl
      · rw [if_neg hc, e1]
        by_cases hqi : m / 135 = i
        · have hri : m % 135 ≠ 1 := by omega
          simp only [hqi, List.getElem_set_self]
          unfold doC
          rcases hh : m % 135 with _ | _ | r
          · rfl
          · exact absurd hh hri
          · rfl
        · simp only [List.getElem_set_ne (fun e => hqi e.symm)]
    · rw [List.getElem?_eq_none (by rw [List.length_set, hl]; omega), List.getElem?_eq_none (by rw [doR_len hall, List.length_set]; omega)]
  rw [e] at hr
  have hg := grown_set w g (o + i * 135 + 1) (.int .i64 (k : Int))
  exact ⟨by rw [List.length_set]; exact hr, h.own, hall, h.below.grown hg h.below.size (fun j hj => by cases hj; exact h.own g rfl)⟩
theorem DQ.path {w0 w : World} {g o n c : Nat} {l : List Ou} (h : DQ w0 w (.slice (some ⟨g, o, none⟩) n c) l) {j : Nat} (hj : j < l.length) : w.cell? ⟨g, o + j * 135, none⟩ = some (.string l[j].path) ∧ w.cell? ⟨g, o + j * 135 + 1, none⟩ = some (.int .i64 l[j].kind) := by
  obtain ⟨a, c', e, -, -, hs⟩ := h.row.form
  injection e with e1 _ _
  subst e1
  have hl := doR_len h.ok
  rcases hs with e | ⟨b, o', e, -, hc⟩
  · rw [e] at hl; simp at hl; omega
  · injection e with e
    injection e with e1 e2 _
    subst e1 e2
    have g0 := doR_get h.ok j hj 0 (by decide)
    have g1 := doR_get h.ok j hj 1 (by decide)
    constructor
    · exact hc _ _ (by rw [Nat.add_zero] at g0; exact g0.trans rfl)
    · rw [Nat.add_assoc]; exact hc _ _ (g1.trans rfl)
theorem DQ.fz {w0 w : World} {g o n c : Nat} {l : List Ou} (h : DQ w0 w (.slice (some ⟨g, o, none⟩) n c) l) (j : Nat) : w.frozen? ⟨g, j, none⟩ = false := by
  obtain ⟨cur, hcur⟩ := h.row.tag (k := g) rfl
  simp [World.frozen?, hcur]
theorem DQ.place {w0 w : World} {ov : Value} {l : List Ou} (h : DQ w0 w ov l) (h0 : 0 < l.length) : ∃ g o c, ov = .slice (some ⟨g, o, none⟩) l.length c := by
  obtain ⟨-, h2⟩ := h.row
  rcases h2 with ⟨-, e⟩ | ⟨g, o, c, _, e, _⟩
  · omega
  · exact ⟨g, o, c, e⟩
theorem DQ.lit {w0 w : World} {ov : Value} {l : List Ou} (h : DQ w0 w ov l) : ∃ a c, ov = .slice a l.length c := by
  obtain ⟨a, c, e, -⟩ := h.row.form
  exact ⟨a, c, e⟩
theorem DQ.dr {w0 w : World} {ov : Value} {l : List Ou} (h : DQ w0 w ov l) : DR w ov l := by
  obtain ⟨a, c, e, -, -, hs⟩ := h.row.form
  exact ⟨⟨a, c, e, hs⟩, h.ok⟩

set_option maxRecDepth 100000 in
set_option maxHeartbeats 8000000 in
theorem rm_loopC {w0 W : World} {av : Option Addr} {cv : Nat} {l : List Ou} {u0 u1 u2 u3 u4 u5 u6 u7 u8 u9 u10 u11 u12 u13 u14 u15 u17 u18 u19 u20 u21 u22 u23 u24 u25 u26 u27 u28 u30 u31 u32 u33 u34 u35 u36 u37 u38 u39 u40 u41 u42 u43 u44 u45 u46 u47 u48 u49 u50 u51 u52 u53 u54 u55 u56 u57 u58 u59 u60 u61 u62 u63 u64 u65 u66 u67 u68 u69 u70 u71 u72 u73 u74 u75 u76 u77 u78 u79 u80 u81 u82 u83 u84 u85 u86 u87 u88 u89 u90 u91 u92 u93 u94 u95 u96 u97 u98 u99 u100 u101 u102 u103 u104 u105 u106 u107 u108 u109 u110 u111 u112 u113 u114 u115 u116 u117 u118 u119 u120 u121 u122 u123 u124 u125 u126 u127 u128 u129 u130 u131 u132 u133 u134 u135 u136 u137 u138 u139 u140 u141 u142 u143 u144 u145 u146 u147 u148 u149 u150 u151 u152 u153 u154 u155 u156 u157 u158 u159 u160 u161 u162 u163 u164 u165 u166 u167 u168 u169 u170 u171 u172 u173 u174 u175 u176 u177 u178 u179 u180 u181 u182 u183 u184 u185 u186 u187 u188 u189 u190 u191 u192 u193 u194 u195 u196 u197 u198 u199 u200 u201 u202 u203 u204 u205 u206 u207 u208 u209 u210 u211 u212 u213 u214 u215 u216 u217 u218 u219 u220 u221 u222 u223 u224 u225 u226 u227 u228 u229 u230 u231 u232 u233 u234 u235 u236 u237 u238 u239 u240 u241 u242 u243 u244 u245 u246 u247 u248 u249 u250 u251 u252 u253 u254 u255 u256 u257 u258 u259 : Value} {Q : Exit → Act → World → Prop}
    (hdq : DQ w0 W (.slice av l.length cv) l) (hll : l.length ≤ 768)
    (hpan : ∀ (d : Tmp) (v : Value) c a w, Q (.panic c) (a.put (some d) v) w → Q (.panic c) a w)
    (hexit : ∀ (v29 v30 v235 v236 v237 v238 v239 v240 v241 v242 v243 v244 v245 v246 v247 v248 v249 v250 v251 v252 v253 v254 v255 v256 v257 v258 : Value) (wx : World), DQ w0 wx (.slice av l.length cv) (clashed l) → Q (.exit 8) ⟨(List.toArray (u0 :: u1 :: u2 :: u3 :: u4 :: u5 :: u6 :: u7 :: u8 :: u9 :: u10 :: u11 :: u12 :: u13 :: u14 :: u15 :: .slice av l.length cv :: u17 :: u18 :: u19 :: u20 :: u21 :: u22 :: u23 :: u24 :: u25 :: u26 :: u27 :: u28 :: v29 :: v30 :: u31 :: u32 :: u33 :: u34 :: u35 :: u36 :: u37 :: u38 :: u39 :: u40 :: u41 :: u42 :: u43 :: u44 :: u45 :: u46 :: u47 :: u48 :: u49 :: u50 :: u51 :: u52 :: u53 :: u54 :: u55 :: u56 :: u57 :: u58 :: u59 :: u60 :: u61 :: u62 :: u63 :: u64 :: u65 :: u66 :: u67 :: u68 :: u69 :: u70 :: u71 :: u72 :: u73 :: u74 :: u75 :: u76 :: u77 :: u78 :: u79 :: u80 :: u81 :: u82 :: u83 :: u84 :: u85 :: u86 :: u87 :: u88 :: u89 :: u90 :: u91 :: u92 :: u93 :: u94 :: u95 :: u96 :: u97 :: u98 :: u99 :: u100 :: u101 :: u102 :: u103 :: u104 :: u105 :: u106 :: u107 :: u108 :: u109 :: u110 :: u111 :: u112 :: u113 :: u114 :: u115 :: u116 :: u117 :: u118 :: u119 :: u120 :: u121 :: u122 :: u123 :: u124 :: u125 :: u126 :: u127 :: u128 :: u129 :: u130 :: u131 :: u132 :: u133 :: u134 :: u135 :: u136 :: u137 :: u138 :: u139 :: u140 :: u141 :: u142 :: u143 :: u144 :: u145 :: u146 :: u147 :: u148 :: u149 :: u150 :: u151 :: u152 :: u153 :: u154 :: u155 :: u156 :: u157 :: u158 :: u159 :: u160 :: u161 :: u162 :: u163 :: u164 :: u165 :: u166 :: u167 :: u168 :: u169 :: u170 :: u171 :: u172 :: u173 :: u174 :: u175 :: u176 :: u177 :: u178 :: u179 :: u180 :: u181 :: u182 :: u183 :: u184 :: u185 :: u186 :: u187 :: u188 :: u189 :: u190 :: u191 :: u192 :: u193 :: u194 :: u195 :: u196 :: u197 :: u198 :: u199 :: u200 :: u201 :: u202 :: u203 :: u204 :: u205 :: u206 :: u207 :: u208 :: u209 :: u210 :: u211 :: u212 :: u213 :: u214 :: u215 :: u216 :: u217 :: u218 :: u219 :: u220 :: u221 :: u222 :: u223 :: u224 :: u225 :: u226 :: u227 :: u228 :: u229 :: u230 :: u231 :: u232 :: u233 :: u234 :: v235 :: v236 :: v237 :: v238 :: v239 :: v240 :: v241 :: v242 :: v243 :: v244 :: v245 :: v246 :: v247 :: v248 :: v249 :: v250 :: v251 :: v252 :: v253 :: v254 :: v255 :: v256 :: v257 :: v258 :: u259 :: [])), []⟩ wx) :
    Code.wp Tryz.prog (Code.loop (rmBody 2)) Q ⟨(List.toArray (u0 :: u1 :: u2 :: u3 :: u4 :: u5 :: u6 :: u7 :: u8 :: u9 :: u10 :: u11 :: u12 :: u13 :: u14 :: u15 :: .slice av l.length cv :: u17 :: u18 :: u19 :: u20 :: u21 :: u22 :: u23 :: u24 :: u25 :: u26 :: u27 :: u28 :: .int .i64 ((l.length : Int) - 1) :: u30 :: u31 :: u32 :: u33 :: u34 :: u35 :: u36 :: u37 :: u38 :: u39 :: u40 :: u41 :: u42 :: u43 :: u44 :: u45 :: u46 :: u47 :: u48 :: u49 :: u50 :: u51 :: u52 :: u53 :: u54 :: u55 :: u56 :: u57 :: u58 :: u59 :: u60 :: u61 :: u62 :: u63 :: u64 :: u65 :: u66 :: u67 :: u68 :: u69 :: u70 :: u71 :: u72 :: u73 :: u74 :: u75 :: u76 :: u77 :: u78 :: u79 :: u80 :: u81 :: u82 :: u83 :: u84 :: u85 :: u86 :: u87 :: u88 :: u89 :: u90 :: u91 :: u92 :: u93 :: u94 :: u95 :: u96 :: u97 :: u98 :: u99 :: u100 :: u101 :: u102 :: u103 :: u104 :: u105 :: u106 :: u107 :: u108 :: u109 :: u110 :: u111 :: u112 :: u113 :: u114 :: u115 :: u116 :: u117 :: u118 :: u119 :: u120 :: u121 :: u122 :: u123 :: u124 :: u125 :: u126 :: u127 :: u128 :: u129 :: u130 :: u131 :: u132 :: u133 :: u134 :: u135 :: u136 :: u137 :: u138 :: u139 :: u140 :: u141 :: u142 :: u143 :: u144 :: u145 :: u146 :: u147 :: u148 :: u149 :: u150 :: u151 :: u152 :: u153 :: u154 :: u155 :: u156 :: u157 :: u158 :: u159 :: u160 :: u161 :: u162 :: u163 :: u164 :: u165 :: u166 :: u167 :: u168 :: u169 :: u170 :: u171 :: u172 :: u173 :: u174 :: u175 :: u176 :: u177 :: u178 :: u179 :: u180 :: u181 :: u182 :: u183 :: u184 :: u185 :: u186 :: u187 :: u188 :: u189 :: u190 :: u191 :: u192 :: u193 :: u194 :: u195 :: u196 :: u197 :: u198 :: u199 :: u200 :: u201 :: u202 :: u203 :: u204 :: u205 :: u206 :: u207 :: u208 :: u209 :: u210 :: u211 :: u212 :: u213 :: u214 :: u215 :: u216 :: u217 :: u218 :: u219 :: u220 :: u221 :: u222 :: u223 :: u224 :: u225 :: u226 :: u227 :: u228 :: u229 :: u230 :: u231 :: u232 :: u233 :: u234 :: u235 :: u236 :: u237 :: u238 :: u239 :: u240 :: u241 :: u242 :: u243 :: u244 :: u245 :: u246 :: u247 :: u248 :: u249 :: u250 :: u251 :: u252 :: u253 :: u254 :: u255 :: u256 :: u257 :: u258 :: u259 :: [])), []⟩ W := by
  have HEX := Lib.hid hexit
  have HPAN := Lib.hid hpan
  have HD0 : Hid (DQ w0 W (.slice av l.length cv) (clD l l.length)) := by show DQ _ _ _ _; rw [clD_all]; exact hdq
  have hsm := hdq.ok
  have HPZ : Hid (∀ x ∈ l, x.path.size ≤ 10000000) := fun x hx => (hsm x hx).pz
  clear hdq hpan hexit hsm
  conv => arg 2; arg 1; whnf
  go_loopw [29] (fun iv wx => ∃ m : Nat, m ≤ l.length ∧ (∃ z : Int, iv = .int .i64 z ∧ Hid (z = (m : Int) - 1)) ∧ Hid (DQ w0 wx (.slice av l.length cv) (clD l m))) (fun iv _ => (intOf iv + 1).toNat)
  case atStart => exact ⟨l.length, Nat.le_refl _, ⟨_, rfl, rfl⟩, HD0.out⟩
  case round =>
    clear HD0
    obtain ⟨m, hm, ⟨z, rfl, HZM⟩, HDQ⟩ := hrel
    rcases m with _ | m
    · have hz : z = -1 := by have := HZM.out; omega
      subst hz
      have d1 : decide ((-1 : Int) ≥ 0) = false := by decide
      have HF : Hid (DQ w0 wr (.slice av l.length cv) (clashed l)) := by show DQ _ _ _ _; rw [← clD_zero]; exact HDQ.out
      clear HDQ HZM
      go_wp2_with fail
      apply HEX.out
      exact HF.out
    · have hz : z = (m : Int) := by have := HZM.out; omega
      subst hz
      have hml : m < l.length := by omega
      have d1 : decide ((m : Int) ≥ 0) = true := decide_eq_true (by omega)
      have d2 : decide ((0 : Int) ≤ (m : Int)) = true := decide_eq_true (by omega)
      have d3 : (0 : Int) ≤ (m : Int) := by omega
      have d4 : (m : Int) < (l.length : Int) := by omega
      have dw : IntKind.i64.wrap ((m : Int) - 1) = (m : Int) - 1 := IntWalk.i64_in _ (by omega)
      obtain ⟨g, o, c, e⟩ := HDQ.out.place (by rw [clD_len]; omega)
      injection e with e1 e2 e3
      clear e2 e3
      subst e1
      have HD1 : Hid (DQ w0 wr (.slice (some ⟨g, o, none⟩) l.length cv) ((clD l (m + 1)).set m (kk l[m] ((l.take 0).any fun x => PathS.under l[m].path x.path)))) := by
        show DQ _ _ _ _
        have h := HDQ.out
        rw [clD_start hml] at h; exact h
      have HNX : Hid ((clD l (m + 1)).set m (kk l[m] ((l.take m).any fun x => PathS.under l[m].path x.path)) = clD l m) := clD_step hml
      have HLM : Hid (l[m].path.size ≤ 10000000) := HPZ.out _ (List.getElem_mem hml)
      clear HDQ HZM
      go_upto_region 53 with fail
      go_loopw [30] (fun kv wx => ∃ k : Nat, k ≤ m ∧ kv = .int .i64 k ∧ Hid (DQ w0 wx (.slice (some ⟨g, o, none⟩) l.length cv) ((clD l (m + 1)).set m (kk l[m] ((l.take k).any fun x => PathS.under l[m].path x.path))))) (fun kv _ => (m - intOf kv).toNat)
      case atStart => exact ⟨0, Nat.zero_le _, rfl, HD1.out⟩
      case round =>
        clear HD1
        obtain ⟨k, hk, rfl, HDQ⟩ := hrel
        by_cases hkm : k < m
        · -- @dev{ LC
          have k1 : decide ((k : Int) < (m : Int)) = true := decide_eq_true (by omega)
          have k2 : decide (k < m) = true := decide_eq_true hkm
          have k3 : (0 : Int) ≤ (k : Int) := by omega
          have k4 : (k : Int) < (l.length : Int) := by omega
          have kw : IntKind.i64.wrap ((k : Int) + 1) = ((k + 1 : Nat) : Int) := IntWalk.i64_in _ (by omega)
          have hkl : k < l.length := by omega
          have hta := take_any hkl (fun x => PathS.under l[m].path x.path)
          have HTA := Lib.hid hta
          clear hta
          obtain ⟨b, hb⟩ : ∃ b, (l.take k).any (fun x => PathS.under l[m].path x.path) = b := ⟨_, rfl⟩
          rw [hb] at HDQ HTA
          clear hb
          obtain ⟨L, hL⟩ : ∃ L, (clD l (m + 1)).set m (kk l[m] b) = L := ⟨_, rfl⟩
          have hll2 : L.length = l.length := by rw [← hL, List.length_set, clD_len]
          have hps : L.map (·.path) = l.map (·.path) := by rw [← hL]; exact clD_path l (m + 1) m _ (fun h => by unfold kk; split <;> rfl)
          have hlm : L[m]? = some (kk l[m] b) := by rw [← hL, List.getElem?_set, if_pos rfl, if_pos (by rw [clD_len]; exact hml)]
          rw [hL] at HDQ
          have hp1 : (L[k]'(by omega)).path = l[k].path := by
            have h := congrArg (fun m : List ByteArray => m[k]?) hps
            simp only [List.getElem?_map, List.getElem?_eq_getElem hkl, List.getElem?_eq_getElem (show k < L.length by omega), Option.map_some] at h
            injection h
          have hp2 : (L[m]'(by omega)).path = l[m].path := by
            have h := congrArg (fun q : List ByteArray => q[m]?) hps
            simp only [List.getElem?_map, List.getElem?_eq_getElem hml, List.getElem?_eq_getElem (show m < L.length by omega), Option.map_some] at h
            injection h
          have hc1 := (HDQ.out.path (j := k) (by omega)).1
          have hc2 := (HDQ.out.path (j := m) (by omega)).1
          rw [hp1] at hc1
          rw [hp2] at hc2
          obtain ⟨kdm, hk1⟩ : ∃ kd : Nat, wr.cell? ⟨g, o + m * 135 + 1, none⟩ = some (.int .i64 kd) := ⟨_, (HDQ.out.path (j := m) (by omega)).2⟩
          have hf1 := HDQ.out.fz (o + m * 135 + 1)
          have HUN : Hid (∀ W, Calls Tryz.prog 34 #[.string l[m].path, .string l[k].path] W fun e w' => e = .returned (.bool (PathS.under l[m].path l[k].path)) ∧ W = w') := fun W => ref_under _ _ W (by have := HLM.out; omega) (by have := HPZ.out _ (List.getElem_mem hkl); omega)
          have hs0 : (fun W : World => W.cell? ⟨g, o + m * 135, none⟩ = some (.string l[m].path) ∧ W.cell? ⟨g, o + k * 135, none⟩ = some (.string l[k].path)) (wr.drewN 1) := ⟨hc2, hc1⟩
          have HDD : Hid (DQ w0 (wr.drewN 1) (.slice (some ⟨g, o, none⟩) l.length cv) L) := HDQ.out.step (below_dN (Below.refl _ wr) 1)
          have HL := Lib.hid hL
          have HLM2 := Lib.hid hlm
          have HL2 := Lib.hid hll2
          clear hps hp1 hp2 hc1 hc2 hL hlm hll2 HDQ
          obtain ⟨y, hy⟩ : ∃ y, PathS.under l[m].path l[k].path = y := ⟨_, rfl⟩
          rw [hy] at HUN
          have HTB : Hid ((l.take (k + 1)).any (fun x => PathS.under l[m].path x.path) = (b || y)) := by show _ = _; rw [HTA.out, hy]
          clear hy HTA
          obtain ⟨cm, hcm⟩ : ∃ cm, l[m].path = cm := ⟨_, rfl⟩
          obtain ⟨ck, hck⟩ : ∃ ck, l[k].path = ck := ⟨_, rfl⟩
          rw [hcm] at HUN
          rw [hck] at HUN
          simp only [hcm, hck] at hs0
          clear hcm hck
          go_upto_region 55 with fail
          refine wp_region_hz (fun W : World => W.cell? ⟨g, o + m * 135, none⟩ = some (.string cm) ∧ W.cell? ⟨g, o + k * 135, none⟩ = some (.string ck)) (.tk 0 (.tk 1 (.tk 2 (.tk 3 (.tk 4 (.tk 5 (.tk 6 (.tk 7 (.tk 8 (.tk 9 (.fc 10 (.nil)))))))))))) (by kernel_rfl) (by kernel_rfl) (fun d v c a w h => HPAN.out d v c a w h) ?_
          refine goZ_tk rfl rfl 244 rfl (.slice (some ⟨g, o, none⟩) l.length cv) (fun _ => rfl) ?_; simp only [zT, zA, zB]
          refine goZ_tk rfl rfl 245 rfl (.int .i64 m) (fun _ => rfl) ?_; simp only [zT, zA, zB]
          refine goZ_tk rfl rfl 246 rfl (.pointer (some ⟨g, o + m * 135, none⟩)) (fun _ => by go_simp) ?_; simp only [zT, zA, zB]
          refine goZ_tk rfl rfl 247 rfl (.pointer (some ⟨g, o + m * 135, none⟩)) (fun _ => rfl) ?_; simp only [zT, zA, zB]
          refine goZ_ld rfl rfl 248 rfl 9 _ rfl ⟨g, o + m * 135, none⟩ (.string cm) rfl (fun W hS => ld_str9 _ _ W hS.1) (hs0) ?_; simp only [zT, zA, zB]
          refine goZ_tk rfl rfl 249 rfl (.slice (some ⟨g, o, none⟩) l.length cv) (fun _ => rfl) ?_; simp only [zT, zA, zB]
          refine goZ_tk rfl rfl 250 rfl (.int .i64 k) (fun _ => rfl) ?_; simp only [zT, zA, zB]
          refine goZ_tk rfl rfl 251 rfl (.pointer (some ⟨g, o + k * 135, none⟩)) (fun _ => by go_simp) ?_; simp only [zT, zA, zB]
          refine goZ_tk rfl rfl 252 rfl (.pointer (some ⟨g, o + k * 135, none⟩)) (fun _ => rfl) ?_; simp only [zT, zA, zB]
          refine goZ_ld rfl rfl 253 rfl 9 _ rfl ⟨g, o + k * 135, none⟩ (.string ck) rfl (fun W hS => ld_str9 _ _ W hS.2) (hs0) ?_; simp only [zT, zA, zB]
          refine goZ_call (ds' := []) rfl rfl (by kernel_rfl) 254 rfl 34 _ rfl [.string cm, .string ck] rfl (enters_of Tryz.func34 (by kernel_rfl) rfl) ((HUN.out _).mono ?_)
          rintro e W8 ⟨rfl, hw8⟩
          have hw8 := hw8.symm
          subst hw8
          clear hs0
          refine ⟨(.bool y), rfl, fun h => absurd rfl h, ?_⟩; simp only [zT, zA, zB]
          refine goZ_end ?_
          cases y with
          | false =>
            have HDN : Hid (Hid (DQ w0 (wr.drewN 1) (.slice (some ⟨g, o, none⟩) l.length cv) ((clD l (m + 1)).set m (kk l[m] ((l.take (k + 1)).any fun x => PathS.under l[m].path x.path))))) := by show DQ _ _ _ _; rw [HTB.out, Bool.or_false, HL.out]; exact HDD.out
            clear HDD HTB HL HLM2 HL2 HUN hk1 hf1
            go_wp2_with fail
            go_roundw
            case rel => exact ⟨k + 1, hkm, by go_num, HDN.out⟩
            case measure => simp [intOf]; omega
          | true =>
            have hk1' : (wr.drewN 1).cell? ⟨g, o + m * 135 + 1, none⟩ = some (.int .i64 kdm) := hk1
            have hf1' : (wr.drewN 1).frozen? ⟨g, o + m * 135 + 1, none⟩ = false := hf1
            clear hk1 hf1
            have hset := HDD.out.setk (i := m) (k := 4) (by have := HL2.out; omega) (by decide)
            have hLs : L.set m { (L[m]'(by have := HL2.out; omega)) with kind := 4 } = (clD l (m + 1)).set m (kk l[m] ((l.take (k + 1)).any fun x => PathS.under l[m].path x.path)) := by
              have h1 := HLM2.out
              rw [List.getElem?_eq_getElem (by have := HL2.out; omega)] at h1
              injection h1 with h1
              rw [h1, HTB.out, Bool.or_true, ← HL.out, List.set_set]
              congr 1
              unfold kk
              split <;> rfl
            rw [hLs] at hset
            obtain ⟨W9, hW9⟩ : ∃ W9, (wr.drewN 1).setCell ⟨g, o + m * 135 + 1, none⟩ (.int .i64 ((4 : Nat) : Int)) = W9 := ⟨_, rfl⟩
            rw [hW9] at hset
            have HW9 : Hid ((wr.drewN 1).setCell ⟨g, o + m * 135 + 1, none⟩ (.int .i64 4) = W9) := hW9
            have HDN : Hid (Hid (DQ w0 W9 (.slice (some ⟨g, o, none⟩) l.length cv) ((clD l (m + 1)).set m (kk l[m] ((l.take (k + 1)).any fun x => PathS.under l[m].path x.path))))) := hset
            clear hset hLs hW9 HDD HTB HL HLM2 HUN
            go_upto_region 54 with fail
            rw [HW9.out]
            clear HW9 hk1' hf1' HL2
            go_wp2_with fail
            go_roundw
            case rel => exact ⟨k + 1, hkm, by go_num, HDN.out⟩
            case measure => simp [intOf]; omega
        · have hke : k = m := by omega
          have HDN : Hid (Hid (DQ w0 wr (.slice (some ⟨g, o, none⟩) l.length cv) (clD l m))) := by show DQ _ _ _ _; have h := HDQ.out; rw [hke] at h; rw [← HNX.out]; exact h
          have k1 : decide ((k : Int) < (m : Int)) = false := decide_eq_false (by omega)
          have k2 : decide (k < m) = false := decide_eq_false hkm
          clear hke HDQ HNX
          go_wp2_with fail
          go_roundw
          case rel => exact ⟨m, by omega, ⟨_, rfl, rfl⟩, HDN.out⟩
          case measure => simp [intOf] <;> omega
end Go.Proofs.YtpcipdkoncmdcaaGreatDoor
namespace Go.Proofs.YtpcipdkoncmdcaaGreatDoor
open Go Go.RowKit
theorem rb_dsnap (a1 : Option Addr) (n1 c1 : Nat) (a2 : Option Addr) (n2 c2 : Nat) (a3 : Option Addr) (n3 c3 : Nat) (w : World) : (Instr.build 91 #[(0, .slice a1 n1 c1), (1, .slice a2 n2 c2), (2, .slice a3 n3 c3)]).run Tryz.prog w = .ok (.agg #[.slice a1 n1 c1, .slice a2 n2 c2, .slice a3 n3 c3]) w := by kernel_rfl
theorem okT_of {T : T3 (List Fi)} (h : chkA T 3 = 0) : okT3 T := ⟨(okS_of (chkA_zero h 0 (by decide))).nodup, (okS_of (chkA_zero h 1 (by decide))).nodup, (okS_of (chkA_zero h 2 (by decide))).nodup⟩

set_option maxRecDepth 100000 in
set_option maxHeartbeats 8000000 in
theorem dmerge_c {w : World} {va vb vc sv : Value} {T : T3 (List Fi)} {bl : List Bl} (ha : FS w va T.a) (hb : FS w vb T.b) (hc : FS w vc T.c) (hs : BS w sv bl) (hz : ∀ id, (textS bl id).1.size ≤ 1000) :
    Calls Tryz.prog 14 #[va, vb, vc, sv] w fun e w' => ∃ v, e = .returned (.tuple #[v, .int .i64 (mergeS (textS bl) (upT T 3) (chkA T 3)).1]) ∧ DR w' v (mergeS (textS bl) (upT T 3) (chkA T 3)).2 ∧ Below w.heap.size w w' := by
  have HBS := Lib.hid hs
  have HZ := Lib.hid hz
  have HPZ : Hid (∀ f, f ∈ T.a ∨ f ∈ T.b ∨ f ∈ T.c → f.path.size ≤ 2000000) := fun f hf => by
    rcases hf with hf | hf | hf
    · exact (ha.ok f hf).pz
    · exact (hb.ok f hf).pz
    · exact (hc.ok f hf).pz
  obtain ⟨aa, ca, rfl⟩ := ha.lit
  obtain ⟨ab, cb, rfl⟩ := hb.lit
  obtain ⟨ac, cc, rfl⟩ := hc.lit
  obtain ⟨ba_, bc_, rfl⟩ := hs.lit
  have HFS : Hid (∀ i, i < 3 → FS w ((⟨.slice aa T.a.length ca, .slice ab T.b.length cb, .slice ac T.c.length cc⟩ : T3 Value).get i) (T.get i)) := fun i hi => by
    rcases i with _ | _ | _ | i
    · exact ha
    · exact hb
    · exact hc
    · omega
  have HONE : Hid ((#[.slice aa T.a.length ca, .slice ab T.b.length cb, .slice ac T.c.length cc] : Array Value).all (·.oneCell') = true) := by show _ = _; simp [Value.oneCell']
  have HRB := Lib.hid (rb_dsnap aa T.a.length ca ab T.b.length cb ac T.c.length cc)
  clear ha hb hc hs hz
  go_enter Tryz.func14, Tryz.ntmps14
  go_upto_region 2 with (first
    | (refine wpList_bld rfl _ rfl (by simp only [Act.put, List.setIfInBounds_toArray]; simp [Act.eval] <;> rfl) HRB.out ?_)
    | (refine wp_storeB rfl 91 _ _ rfl w.heap.size #[.slice aa T.a.length ca, .slice ab T.b.length cb, .slice ac T.c.length cc] rfl rfl (old := #[.slice none 0 0, .slice none 0 0, .slice none 0 0]) Array.getElem?_push_size rfl (by kernel_rfl) HONE.out ?_; intro W1 hb1 hg1))
  have hB1 : Below w.heap.size w W1 := ((Below.refl w.heap.size w).alloc (Nat.le_refl _) _).grown hg1 (by simp) (fun k hk => by cases hk; exact Nat.le_refl _)
  have HB1 := Lib.hid hB1
  have HK1 := Lib.hid hb1
  clear hb1 hg1 hB1 HRB HONE
  go_upto_region 4 with fail
  generalize w.heap.size = p10 at HK1 ⊢
  refine rm_loopA HFS.out HB1.out HK1.out ?_ ?_
  · intro v8 v9 v11 v12 v13 v14 v15 v35 v36 v37 v38 v39 v40 v41 v42 v43 v44 v45 v46 v47 v48 v49 v50 v51 v52 v53 v54 v55 v56 v57 v58 v59 v60 v61 v62 v63 v64 v65 v66 v67 v68 v69 v70 v71 v72 v73 v74 v75 v76 v77 v78 v79 v80 v81 v82 v83 v84 v85 v86 v87 v88 W2 hck how hal hb2
    have HT := Lib.hid (okT_of hck)
    have HB2 := Lib.hid (HB1.out.trans (hb2.mono HB1.out.size))
    have HK2 : Hid (W2.heap[p10]? = some (.cells #[.slice aa T.a.length ca, .slice ab T.b.length cb, .slice ac T.c.length cc] 91 (0, 0))) := (hb2.block p10 (Array.getElem?_eq_some_iff.1 HK1.out).1).trans HK1.out
    have HL2 : Hid (p10 < W2.heap.size) := (Array.getElem?_eq_some_iff.1 HK2.out).1
    have HNM : Hid (PathS.sortTo (accD T 3) (accD T 3).length = nmsT T) := by show _ = _; unfold nmsT; rw [← accD_upT HT.out]; rfl
    have HNL : Hid ((nmsT T).length = (accD T 3).length) := by show _ = _; rw [← HNM.out, PathS.sortTo_length]
    have HPN : Hid (∀ p ∈ nmsT T, p.size ≤ 2000000) := fun p hp => by
      rcases (mem_nms HT.out p).1 hp with h | h | h <;> obtain ⟨f, hf, rfl⟩ := List.mem_map.1 h
      · exact HPZ.out f (.inl hf)
      · exact HPZ.out f (.inr (.inl hf))
      · exact HPZ.out f (.inr (.inr hf))
    have HPA : Hid (∀ p ∈ accD T 3, p.size ≤ 10000000) := fun p hp => by
      have h1 := (mem_upT HT.out p).1 (by rw [← accD_upT HT.out]; exact hp)
      have h2 : p.size ≤ 2000000 := by
        rcases h1 with h | h | h <;> obtain ⟨f, hf, rfl⟩ := List.mem_map.1 h
        · exact HPZ.out f (.inl hf)
        · exact HPZ.out f (.inr (.inl hf))
        · exact HPZ.out f (.inr (.inr hf))
      omega
    obtain ⟨a11, c11, rfl, -, -, hs11⟩ := how.form
    have HSO := Lib.hid (ref_sorted a11 c11 (accD T 3) W2 hs11 (by omega) HPA.out)
    have HHL := Lib.hid hal
    have HCK := Lib.hid hck
    clear how hs11 hck hal hb2 HPA HB1 HK1
    go_upto_region 18 with (go_at_call 31; refine HSO.out.mono ?_; rintro e W3 ⟨v3, rfl, ho3, hb3⟩)
    have hrw : W3.ownsRow W2.heap.size 9 1 v3 (nmsT T).length (lrow (nmsT T)) := by
      rw [HNL.out, ← HNM.out]; exact ho3
    have htl := Tl.of_own hrw
    have HTL := Lib.hid htl
    obtain ⟨a3, c3, rfl, -⟩ := htl
    have HB3 := Lib.hid (HB2.out.trans (hb3.mono HB2.out.size))
    have HK3 : Hid (W3.heap[p10]? = some (.cells #[.slice aa T.a.length ca, .slice ab T.b.length cb, .slice ac T.c.length cc] 91 (0, 0))) := (hb3.block p10 HL2.out).trans HK2.out
    clear hrw ho3 hb3 HSO HNM HB2 HK2 HL2
    refine rm_loopB HT.out HFS.out HB3.out HK3.out HBS.out HZ.out HTL.out HPN.out (by have h1 := HNL.out; have h2 := HHL.out; omega) (fun _ _ _ _ _ h => h) ?_ ?_
    · intro v8 v9 v16 v17 v18 v19 v20 v21 v22 v23 v24 v25 v26 v27 v28 v91 v92 v93 v94 v95 v96 v97 v98 v99 v100 v101 v102 v103 v104 v105 v106 v107 v108 v109 v110 v111 v112 v113 v114 v115 v116 v117 v118 v119 v120 v121 v122 v123 v124 v125 v126 v127 v128 v129 v130 v131 v132 v133 v134 v135 v136 v137 v138 v139 v140 v141 v142 v143 v144 v145 v146 v147 v148 v149 v150 v151 v152 v153 v154 v155 v156 v157 v158 v159 v160 v161 v162 v163 v164 v165 v166 v167 v168 v169 v170 v171 v172 v173 v174 v175 v176 v177 v178 v179 v180 v181 v182 v183 v184 v185 v186 v187 v188 v189 v190 v191 v192 v193 v194 v195 v196 v197 v198 v199 v200 v201 v202 v203 v204 v205 v206 v207 v208 v209 v210 v211 v212 v213 v214 v215 v216 v217 v218 v219 v220 v221 v222 v223 v224 v225 v226 v227 v228 v229 v230 v231 W4 l hdec hdq hll
      have HDEC := Lib.hid hdec
      obtain ⟨a16, c16, rfl⟩ := hdq.lit
      have HDQ := Lib.hid hdq
      have wl : IntKind.i64.wrap ((l.length : Int) - 1) = (l.length : Int) - 1 := IntWalk.i64_in _ (by omega)
      have HLL := Lib.hid hll
      clear hdec hdq hll
      go_upto_region 50 with fail
      refine rm_loopC HDQ.out HLL.out (fun _ _ _ _ _ h => h) ?_
      intro v29 v30 v235 v236 v237 v238 v239 v240 v241 v242 v243 v244 v245 v246 v247 v248 v249 v250 v251 v252 v253 v254 v255 v256 v257 v258 W5 hdq5
      have HD5 := Lib.hid hdq5
      clear hdq5
      have HM : Hid (mergeS (textS bl) (upT T 3) (chkA T 3) = (0, clashed l)) := by
        show _ = _
        unfold mergeS
        rw [HCK.out, if_neg (by simp)]
        have h := HDEC.out
        unfold nmsT at h
        rw [h]
      clear wl
      go_wp2_with fail
      go_ret2
      exact ⟨_, by rw [HM.out]; rfl, by rw [HM.out]; exact HD5.out.dr, HB3.out.trans (HD5.out.below.mono HB3.out.size)⟩
    · intro v16 v17 v18 v19 v20 v21 v22 v23 v24 v25 v26 v27 v28 v91 v92 v93 v94 v95 v96 v97 v98 v99 v100 v101 v102 v103 v104 v105 v106 v107 v108 v109 v110 v111 v112 v113 v114 v115 v116 v117 v118 v119 v120 v121 v122 v123 v124 v125 v126 v127 v128 v129 v130 v131 v132 v133 v134 v135 v136 v137 v138 v139 v140 v141 v142 v143 v144 v145 v146 v147 v148 v149 v150 v151 v152 v153 v154 v155 v156 v157 v158 v159 v160 v161 v162 v163 v164 v165 v166 v167 v168 v169 v170 v171 v172 v173 v174 v175 v176 v177 v178 v179 v180 v181 v182 v183 v184 v185 v186 v187 v188 v189 v190 v191 v192 v193 v194 v195 v196 v197 v198 v199 v200 v201 v202 v203 v204 v205 v206 v207 v208 v209 v210 v211 v212 v213 v214 v215 v216 v217 v218 v219 v220 v221 v222 v223 v224 v225 v226 v227 v228 v229 v230 v231 W4 e hne hdec hb4
      have hm : mergeS (textS bl) (upT T 3) (chkA T 3) = (e, []) := by
        unfold mergeS
        rw [HCK.out, if_neg (by simp)]
        have h := hdec
        unfold nmsT at h
        rw [h]; rfl
      have HM := Lib.hid hm
      clear hm hne hdec
      go_ret2
      exact ⟨_, by rw [HM.out]; rfl, by rw [HM.out]; exact ⟨⟨none, 0, rfl, .inl rfl⟩, fun x hx => nomatch hx⟩, HB3.out.trans (hb4.mono HB3.out.size)⟩
  · intro v11 v12 v13 v14 v15 v35 v36 v37 v38 v39 v40 v41 v42 v43 v44 v45 v46 v47 v48 v49 v50 v51 v52 v53 v54 v55 v56 v57 v58 v59 v60 v61 v62 v63 v64 v65 v66 v67 v68 v69 v70 v71 v72 v73 v74 v75 v76 v77 v78 v79 v80 v81 v82 v83 v84 v85 v86 v87 v88 W2 hne hb2
    have hm : mergeS (textS bl) (upT T 3) (chkA T 3) = (chkA T 3, []) := by
      unfold mergeS
      rw [if_pos hne]
    have HM := Lib.hid hm
    clear hm hne
    go_ret2
    exact ⟨_, by rw [HM.out]; rfl, by rw [HM.out]; exact ⟨⟨none, 0, rfl, .inl rfl⟩, fun x hx => nomatch hx⟩, HB1.out.trans (hb2.mono HB1.out.size)⟩
end Go.Proofs.YtpcipdkoncmdcaaGreatDoor
