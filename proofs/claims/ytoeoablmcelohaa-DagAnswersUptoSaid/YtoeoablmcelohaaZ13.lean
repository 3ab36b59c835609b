/- Texts of mine, joined: Walks over graphs: Bases, what it tells. | Walks over graphs: Bases. -/
import Derived.Test.YtoeoablmcelohaaZ12
namespace Go.Proofs.Ytoeoablmcelohaa
open Go Go.RowKit Go.Maps Go.Sort
open DagS (Nd nm pars par ids Wf ancS ancL upto Both Max Bs)
open Classical

/-- What Bases' second function value keeps. -/
structure BsI (g : List Nd) (x y : ByteArray) (p b m bo base b3 : Nat) (W : World) (V : List Nat) (E : Nat → Prop) (v : Value) (ol : List Nat) (val : ByteArray → Int) : Prop where
  h : W.heap[b]? = some (.cells #[.map (some m)] 61 (0, 0))
  mp : MI W m (5000 + V.length * 1000) val
  out : OutI base bo W (ol.map (nm g)) v
  g3 : W.heap[b3]? = some (.cells #[.pointer (some ⟨p, 0, none⟩)] 25 (0, 0))
  bs : Bs g x y V ol (fun k => val (nm g k) = 3)
  l1 : b < base
  l2 : m < base
  l3 : b3 < base
  l4 : base ≤ bo
  ol : ol.Sublist V
  e : ∀ k, E k ↔ k = b ∨ k = m ∨ k = bo ∨ k = b3 ∨ v.ownBlock = some k

theorem anc_two {g : List Nd} {x y z : ByteArray} (hz : z = x ∨ z = y) {k : Nat} (h : ancS g [z] k) : ancS g [x, y] k := by
  obtain ⟨s, hs, j, e, hf⟩ := DagS.anc_iff.1 h
  rw [List.mem_singleton] at hs
  subst hs
  refine DagS.anc_iff.2 ⟨s, ?_, j, e, hf⟩
  rcases hz with e | e
  · rw [e]; exact .head _
  · rw [e]; exact .tail _ (.head _)

set_option maxRecDepth 100000 in
set_option maxHeartbeats 2000000 in
theorem bs_cl {K : Nat → Prop} {p : Nat} {g : List Nd} {x y : ByteArray} {b m bo base b3 : Nat} :
    Cl K p g 31 #[.pointer (some ⟨b, 0, none⟩), .pointer (some ⟨bo, 0, none⟩), .pointer (some ⟨b3, 0, none⟩)] (fun _ => true) (ids g [x, y]) (fun W V E => ∃ v ol val, BsI g x y p b m bo base b3 W V E v ol val) where
  lt := fun ⟨v, ol, val, h⟩ k hk => by
    rcases (h.e k).1 hk with e | e | e | e | e
    · rw [e]; exact (Array.getElem?_eq_some_iff.1 h.h).1
    · rw [e]; exact h.mp.lt
    · rw [e]; exact h.out.lt
    · rw [e]; exact (Array.getElem?_eq_some_iff.1 h.g3).1
    · exact (h.out.row.lt k e).2
  frame := fun ⟨v, ol, val, h⟩ hk _ => ⟨v, ol, val, { h := (hk _ ((h.e _).2 (.inl rfl))).trans h.h, mp := h.mp.block (hk _ ((h.e _).2 (.inr (.inl rfl)))), out := h.out.keep fun k e => hk k ((h.e k).2 (e.elim (fun e => .inr (.inr (.inl e))) fun e => .inr (.inr (.inr (.inr e))))), g3 := (hk _ ((h.e _).2 (.inr (.inr (.inr (.inl rfl)))))).trans h.g3, bs := h.bs, l1 := h.l1, l2 := h.l2, l3 := h.l3, l4 := h.l4, ol := h.ol, e := h.e }⟩
  call := by
    rintro W V E i ⟨v, ol, val, h⟩ hG hEK hi - hV hD
    have hVn := told_len hG.wf hD fun j hj => ((hV j).1 hj).1
    have hgl := hG.len
    have hxs := hG.sz hi
    have hnext := h.bs.next hG.wf hi (fun k hk hik => (hV k).2 ⟨anc_two (.inl rfl) hk.1, hik⟩) (fun k hk => ((hV k).1 hk).2)
    have hlk := h.mp.look hxs
    have hcb : W.cell? ⟨b, 0, none⟩ = some (.map (some m)) := by simp [World.cell?, h.h]
    have HH := Lib.hid h
    have HG := Lib.hid hG
    have hlb := (Array.getElem?_eq_some_iff.1 h.h).1
    have hlm := h.mp.lt
    have hl3 := (Array.getElem?_eq_some_iff.1 h.g3).1
    by_cases hm3 : val (nm g i) = 3
    case neg =>
      have HB := Lib.hid (h.bs.no (i := i) (fun hM => hm3 (hnext.2 hM)))
      have hd : decide (val (nm g i) = 3) = false := decide_eq_false hm3
      have hd2 : (val (nm g i) == 3) = false := by rw [beq_eq_false_iff_ne]; exact hm3
      clear h hV hD hG hnext hm3
      show Calls _ _ #[.string (nm g i), .pointer (some ⟨b, 0, none⟩), .pointer (some ⟨bo, 0, none⟩), .pointer (some ⟨b3, 0, none⟩)] _ _
      generalize val (nm g i) = z at *
      generalize hx : nm g i = xx at *
      clear hx
      go_enter Try.func31, Try.ntmps31
      go_wp2_with fail
      go_ret
      have h := HH.out
      exact ⟨rfl, ⟨E, ⟨v, ol, val, { h := h.h, mp := h.mp.congr (by rw [List.length_append, List.length_singleton]; omega) (fun _ => rfl), out := h.out, g3 := h.g3, bs := HB.out, l1 := h.l1, l2 := h.l2, l3 := h.l3, l4 := h.l4, ol := h.ol.trans (List.sublist_append_left _ _), e := h.e }⟩, fun k hk => .inl hk⟩, Only.refl _ _⟩
    case pos =>
      have HM := Lib.hid (hnext.1 hm3)
      have hd : decide (val (nm g i) = 3) = true := decide_eq_true hm3
      have hd2 : (val (nm g i) == 3) = true := by rw [beq_iff_eq]; exact hm3
      have hcell := h.out.cell
      have hfz := h.out.fz
      have hlo := h.out.lt
      have hne := h.out.ne
      have HFI := Lib.hid (hG.wf.dist.find hi)
      have HX2 : Hid ((ol ++ [i]).map (nm g) = ol.map (nm g) ++ [nm g i]) := by show _ = _; rw [List.map_append]; rfl
      have HL4 := Lib.hid h.l4
      have hol := h.ol.length_le
      have HWF := Lib.hid hG.wf
      clear h hV hD hG hnext hm3
      show Calls _ _ #[.string (nm g i), .pointer (some ⟨b, 0, none⟩), .pointer (some ⟨bo, 0, none⟩), .pointer (some ⟨b3, 0, none⟩)] _ _
      generalize hz : val (nm g i) = z at *
      generalize hx : nm g i = xx at *
      have HXX := Lib.hid hx
      have HO := Lib.hid HH.out.out
      obtain ⟨L, hL⟩ : ∃ L, ol.map (nm g) = L := ⟨_, rfl⟩
      have hlen : L.length ≤ 1000 := by rw [← hL, List.length_map]; omega
      rw [hL] at HO HX2
      have hrow := HO.out.row.alloc (.cells #[.string xx] 9)
      have hsx := sl_new W [.string xx] 9 (0, 0)
      have hbs : base ≤ (W.alloc (.cells #[.string xx] 9)).heap.size := by have := HL4.out; simp; omega
      have hll : L.length + [xx].length ≤ 20000000 := by rw [List.length_singleton]; omega
      clear hx hz hL
      go_enter Try.func31, Try.ntmps31
      go_upto_region 3 with (at_builtin; refine wp_appR rfl _ _ rfl rfl hrow hbs (l := [xx]) rfl hsx (fun e => by cases e) hll ?_; intro v5 w5 ho5 hg5 hn5; obtain ⟨ha, ho, hn⟩ := HO.out.app ho5 hg5 hn5; have hb5 : w5.heap[bo]? = W.heap[bo]? := (hg5.block bo (by simp; omega) (fun e => hne e.symm)).trans (((Below.refl _ W).alloc (Nat.le_refl _) _).block bo hlo); have hc5 : w5.cell? ⟨bo, 0, none⟩ = some v := cell_blk hcell hb5; have hf5 : w5.frozen? ⟨bo, 0, none⟩ = false := by { simp only [World.frozen?, hb5]; exact hfz }; obtain ⟨qa, qc, rfl, -, -, -⟩ := own_sl ho5)
      have hmbo : m ≠ bo := by have := HH.out.l2; have := HH.out.l4; omega
      have hmv : v.ownBlock ≠ some m := fun e => by have := (HH.out.out.row.lt m e).1; have := HH.out.l2; omega
      have hbv : v.ownBlock ≠ some b := fun e => by have := (HH.out.out.row.lt b e).1; have := HH.out.l1; omega
      have h3v : v.ownBlock ≠ some b3 := fun e => by have := (HH.out.out.row.lt b3 e).1; have := HH.out.l3; omega
      have hbbo : b ≠ bo := by have := HH.out.l1; have := HH.out.l4; omega
      have h3bo : b3 ≠ bo := by have := HH.out.l3; have := HH.out.l4; omega
      have hmb : m ≠ b := fun e => by
        obtain ⟨es, clock, hb⟩ := HH.out.mp.isMap
        rw [e, HH.out.h] at hb; cases hb
      generalize hqv : (Value.slice qa (L.length + [xx].length) qc) = v5 at *
      generalize hW2 : w5.setCell ⟨bo, 0, none⟩ v5 = W2 at *
      have kb : W2.heap[b]? = W.heap[b]? := ho.block b hlb fun e => e.elim hbbo hbv
      have km : W2.heap[m]? = W.heap[m]? := ho.block m hlm fun e => e.elim hmbo hmv
      have k3 : W2.heap[b3]? = W.heap[b3]? := ho.block b3 hl3 fun e => e.elim h3bo h3v
      have hG2 : GM K W2 p g := HG.out.keep ho.size fun k hk => ho.block k (HG.out.lt hk) fun e => hEK k ((HH.out.e k).2 (e.elim (fun e => .inr (.inr (.inl e))) fun e => .inr (.inr (.inr (.inr e))))) hk
      have hM2 := HH.out.mp.block km
      have hc3 : W2.cell? ⟨b3, 0, none⟩ = some (.pointer (some ⟨p, 0, none⟩)) := by simp [World.cell?, k3, HH.out.g3]
      have hbA : Below W2.heap.size W2 (W2.alloc (.cells #[.string xx] 9)) := (Below.refl _ W2).alloc (Nat.le_refl _) _
      have HAN := Lib.hid (ganc_c (fc := 1) (l := [xx]) (hG2.below hbA) (sl_new W2 [.string xx] 9 (0, 0)) (Nat.le_trans (Nat.le_refl 1) (by omega)) (fun s hs => by rw [List.mem_singleton] at hs; rw [hs]; exact hxs))
      have HA := Lib.hid ha
      have HOn := Lib.hid ho
      have HN := Lib.hid hn
      have HBA := Lib.hid hbA
      have HM2 := Lib.hid hM2
      have KB := Lib.hid kb
      have hlm2 := hM2.lt
      have hlb2 : b < W2.heap.size := Nat.lt_of_lt_of_le hlb ho.size
      have hc5 := ha.cell
      clear hqv hW2 ha ho hn hbA hM2 kb km k3 ho5 hg5 hn5 hb5 hf5 hcell hfz hrow hsx hG2
      go_wp2_with (go_at_call 15; refine HAN.out.mono ?_; rintro e w6 ⟨v6, rfl, hv6, hb6⟩; obtain ⟨la, lc, rfl, hlc, hls⟩ := hv6.form)
      have hb26 := HBA.out.trans (hb6.mono HBA.out.size)
      have hm6 := HM2.out.block (hb26.block m hlm2)
      have hLm : Hid (∀ z ∈ ancL g [xx], z.size ≤ 10000000) := fun z hz => by
        obtain ⟨s, -, hcz⟩ := HWF.out.mem_anc.1 hz
        obtain ⟨_, k, -, e, -⟩ := hcz
        rw [← DagS.find_nm e]
        exact HG.out.sz (DagS.find_lt e)
      have hLl : (ancL g [xx]).length ≤ 1000 := Nat.le_trans (anc_len g [xx]) hgl
      have HCM : Hid (∀ k, k < g.length → (nm g k ∈ ancL g [xx] ↔ DagS.Fr g i k)) := fun k hk => by
        rw [HWF.out.mem_anc1]
        constructor
        · rintro ⟨i', k', e1, e2, hf⟩
          rw [HFI.out] at e1; injection e1 with e1
          rw [HWF.out.dist.find hk] at e2; injection e2 with e2
          subst e1 e2; exact hf
        · exact fun hf => ⟨i, k, HFI.out, HWF.out.dist.find hk, hf⟩
      generalize ancL g [xx] = L2 at *
      have hla : ∀ z, la = some z → z.block ≠ m := fun z e => by
        obtain ⟨cur, h2⟩ := OwnG.tag hv6 (k := z.block) (by rw [e]; rfl)
        intro e2
        obtain ⟨es, clock, hb⟩ := hm6.isMap
        rw [e2, hb] at h2
        cases h2
      have HLS := Lib.hid hls
      have HM6 := Lib.hid hm6
      have HB26 := Lib.hid hb26
      have HLA := Lib.hid hla
      have hcb6 : w6.cell? ⟨b, 0, none⟩ = some (.map (some m)) := cell_blk hcb ((hb26.block b hlb2).trans KB.out)
      clear hv6 hb6 hb26 hm6 hls hla hcb HAN
      go_loopw [21] (fun iv wx => ∃ j : Nat, j ≤ L2.length ∧ iv = .int .i64 j ∧ MI wx m (5000 + V.length * 1000 + j) (fun s => if s ∈ L2.take j then 0 else val s) ∧ Only (fun k => k = m) w6 wx) (fun iv _ => (L2.length - intOf iv).toNat)
      case atStart => exact ⟨0, Nat.zero_le _, rfl, HM6.out.congr (Nat.le_refl _) (fun s => by rw [List.take_zero, if_neg (fun h => (nomatch h))]), Only.refl _ _⟩
      case round =>
        obtain ⟨j, hj, rfl, hmj, hoj⟩ := hrel
        have HMJ := Lib.hid hmj
        have HOJ := Lib.hid hoj
        have hlb6 : b < w6.heap.size := Nat.lt_of_lt_of_le hlb2 HB26.out.size
        have hcbj : wr.cell? ⟨b, 0, none⟩ = some (.map (some m)) := cell_blk hcb6 (hoj.block b hlb6 hmb.symm)
        clear hmj hoj
        by_cases hjl : j < L2.length
        · have hdj : decide ((j : Int) < (L2.length : Int)) = true := decide_eq_true (by omega)
          obtain ⟨bl, ol2, rfl, hbl, hcel⟩ := HLS.out.at (k := j) (by rw [trow_len]; exact hjl)
          have q0 := hcel j (by rw [trow_len]; exact hjl)
          rw [trow_at] at q0
          have q1 := cell_blk q0 (HOJ.out.block bl hbl (HLA.out _ rfl))
          have hys := hLm.out _ (List.getElem_mem hjl)
          have htk : L2.take (j + 1) = L2.take j ++ [L2[j]] := by rw [List.take_add_one, List.getElem?_eq_getElem hjl]; rfl
          have HTK := Lib.hid htk
          clear htk hcel q0
          generalize L2[j] = u at *
          have hw : IntKind.i64.wrap ((j : Int) + 1) = ((j + 1 : Nat) : Int) := IntWalk.i64_in _ (by omega)
          have hji : (j : Int) < L2.length := by omega
          have hj0 : (0 : Int) ≤ j := by omega
          have hNN : 5000 + V.length * 1000 + j ≤ 100000000 := by omega
          go_wp2_with (at_mapUpdate; refine wp_putM rfl _ _ _ rfl rfl HMJ.out hNN u (0 : Int) rfl rfl hys ?_; intro w7 hm7 hg7)
          go_roundw
          case rel =>
            refine ⟨j + 1, by omega, by first | rfl | go_num, hm7.congr (Nat.le_refl _) (fun s => ?_), HOJ.out.trans (Only.of_grown (K := fun k => k = m) hg7 fun k e => (Option.some.inj e).symm) fun k e => .inl e⟩
            rw [HTK.out]
            by_cases e : s = u
            · rw [if_pos e, if_pos (List.mem_append.2 (.inr (by rw [e]; exact .head _)))]
            · rw [if_neg e]
              by_cases e2 : s ∈ L2.take j
              · rw [if_pos e2, if_pos (List.mem_append.2 (.inl e2))]
              · rw [if_neg e2, if_neg fun h => (List.mem_append.1 h).elim e2 fun h => e (List.mem_singleton.1 h)]
          case measure => simp [intOf]; omega
        · obtain rfl : j = L2.length := by omega
          have hdj : decide ((L2.length : Int) < (L2.length : Int)) = false := decide_eq_false (by omega)
          go_wp2_with fail
          go_ret
          have h := HH.out
          have hmj := HMJ.out
          rw [List.take_length] at hmj
          have hkeep : ∀ k, k < W2.heap.size → k ≠ m → wr.heap[k]? = W2.heap[k]? := fun k hk hne => (HOJ.out.block k (Nat.lt_of_lt_of_le hk HB26.out.size) hne).trans (HB26.out.block k hk)
          have hWW := HOn.out.size
          have hO : Only E W wr := ((HOn.out.mono (K' := E) fun k hk _ => (h.e k).2 (hk.elim (fun e => .inr (.inr (.inl e))) fun e => .inr (.inr (.inr (.inr e))))).trans (Only.of_below (K := fun _ => False) HB26.out) fun k e => e.elim).trans HOJ.out fun k e => .inl ((h.e k).2 (.inr (.inl e)))
          have hv5m : v5.ownBlock ≠ some m := fun e => by
            rcases HN.out m e with e | e
            · exact hmv e
            · omega
          refine ⟨rfl, ⟨_, ⟨v5, ol ++ [i], _, { h := (hkeep b hlb2 hmb.symm).trans (KB.out.trans h.h), mp := hmj.congr (by rw [List.length_append, List.length_singleton]; omega) (fun _ => rfl), out := ?_, g3 := ?_, bs := ?_, l1 := h.l1, l2 := h.l2, l3 := h.l3, l4 := h.l4, ol := h.ol.append (List.Sublist.refl _), e := fun k => Iff.rfl }⟩, fun k hk => ?_⟩, hO⟩
          · rw [HX2.out]
            refine HA.out.keep fun k hk => ?_
            rcases hk with e | e
            · rw [e]; exact hkeep bo HA.out.lt hmbo.symm
            · exact hkeep k (HA.out.row.lt k e).2 (fun e2 => hv5m (by rw [← e2]; exact e))
          · have hl32 : b3 < W2.heap.size := Nat.lt_of_lt_of_le hl3 hWW
            have hm3 : b3 ≠ m := fun e => by
              obtain ⟨es, clock, hb⟩ := h.mp.isMap
              rw [← e, h.g3] at hb; cases hb
            refine (hkeep b3 hl32 hm3).trans ((HOn.out.block b3 hl3 fun e => e.elim h3bo h3v).trans h.g3)
          · refine h.bs.yes HM.out fun k hk => ?_
            rw [← HCM.out k hk]
            by_cases e : nm g k ∈ L2
            · simp [e]
            · simp [e]
          · rcases hk with e | e | e | e | e
            · exact .inl ((h.e k).2 (.inl e))
            · exact .inl ((h.e k).2 (.inr (.inl e)))
            · exact .inl ((h.e k).2 (.inr (.inr (.inl e))))
            · exact .inl ((h.e k).2 (.inr (.inr (.inr (.inl e)))))
            · exact (HN.out k e).imp (fun e => (h.e k).2 (.inr (.inr (.inr (.inr e))))) id
end Go.Proofs.Ytoeoablmcelohaa
namespace Go.Proofs.Ytoeoablmcelohaa
open Go Go.RowKit Go.Maps Go.Sort
open DagS (Nd nm pars par ids Wf ancS ancL upto Both Max Bs Srt)
open Classical

theorem mem_ancL_nm {g : List Nd} (hw : Wf g) {l : List ByteArray} {k : Nat} (hk : k < g.length) : nm g k ∈ ancL g l ↔ ancS g l k := by
  unfold ancL
  rw [List.mem_map]
  constructor
  · rintro ⟨j, hj, e⟩
    obtain ⟨h1, h2⟩ := DagS.mem_upto.1 hj
    rw [← hw.dist.inj h1 hk e]; exact h2
  · exact fun h => ⟨k, DagS.mem_upto.2 ⟨hk, h⟩, rfl⟩
theorem told_ancL {g : List Nd} (hw : Wf g) {l : List ByteArray} {V : List Nat} (hT : DagS.Told (fun _ => true) (par g) (ids g l) V 0) (s : ByteArray) : s ∈ V.map (nm g) ↔ s ∈ ancL g l := by
  unfold ancL
  rw [← hw.told_anc hT, List.map_reverse, List.mem_reverse]

/-- The marks behind the walks of the first i names. -/
noncomputable def mval (g : List Nd) (x y : ByteArray) (i : Nat) (s : ByteArray) : Int := (if 0 < i ∧ s ∈ ancL g [x] then 1 else 0) + (if 1 < i ∧ s ∈ ancL g [y] then 2 else 0)
theorem mval0 {g : List Nd} {x y s : ByteArray} : mval g x y 0 s = 0 := by unfold mval; rw [if_neg (fun h => by omega), if_neg (fun h => by omega)]; rfl
theorem mval1 {g : List Nd} {x y s : ByteArray} : mval g x y 1 s = if s ∈ ancL g [x] then 1 else 0 := by
  unfold mval
  rw [if_neg (fun (h : 1 < 1 ∧ _) => by omega)]
  by_cases h : s ∈ ancL g [x]
  · rw [if_pos ⟨by omega, h⟩, if_pos h]; rfl
  · rw [if_neg (fun hh => h hh.2), if_neg h]; rfl
theorem mval2 {g : List Nd} {x y s : ByteArray} : mval g x y 2 s = if s ∈ ancL g [y] then mval g x y 1 s + 2 else mval g x y 1 s := by
  rw [mval1]
  unfold mval
  by_cases h : s ∈ ancL g [x]
  · rw [if_pos ⟨by omega, h⟩, if_pos h]
    by_cases h2 : s ∈ ancL g [y]
    · rw [if_pos ⟨by omega, h2⟩, if_pos h2]
    · rw [if_neg (fun hh => h2 hh.2), if_neg h2]; rfl
  · rw [if_neg (fun hh => h hh.2), if_neg h]
    by_cases h2 : s ∈ ancL g [y]
    · rw [if_pos ⟨by omega, h2⟩, if_pos h2]
    · rw [if_neg (fun hh => h2 hh.2), if_neg h2]; rfl
theorem mval3 {g : List Nd} (hw : Wf g) {x y : ByteArray} {k : Nat} (hk : k < g.length) : mval g x y 2 (nm g k) = 3 ↔ Both g x y k := by
  rw [mval2, mval1]
  unfold Both
  rw [← mem_ancL_nm hw hk, ← mem_ancL_nm hw hk]
  by_cases h : nm g k ∈ ancL g [x]
  · by_cases h2 : nm g k ∈ ancL g [y]
    · simp [h, h2]
    · simp [h, h2]
  · by_cases h2 : nm g k ∈ ancL g [y]
    · simp [h, h2]
    · simp [h, h2]

theorem mval1_cases {g : List Nd} {x y s : ByteArray} : mval g x y 1 s = 0 ∨ (mval g x y 1 s = 1 ∧ 1 = 1) := by
  rw [mval1]
  by_cases h : s ∈ ancL g [x]
  · rw [if_pos h]; exact .inr ⟨rfl, rfl⟩
  · rw [if_neg h]; exact .inl rfl
theorem mval_step0 {g : List Nd} (hw : Wf g) {x y : ByteArray} {V : List Nat} (hT : DagS.Told (fun _ => true) (par g) (ids g [x]) V 0) (s : ByteArray) : (if s ∈ V.map (nm g) then mval g x y 0 s + 1 else mval g x y 0 s) = mval g x y (0 + 1) s := by
  rw [mval1, mval0]
  by_cases h : s ∈ V.map (nm g)
  · rw [if_pos h, if_pos ((told_ancL hw hT s).1 h)]; rfl
  · rw [if_neg h, if_neg (mt (told_ancL hw hT s).2 h)]
theorem mval_step1 {g : List Nd} (hw : Wf g) {x y : ByteArray} {V : List Nat} (hT : DagS.Told (fun _ => true) (par g) (ids g [y]) V 0) (s : ByteArray) : (if s ∈ V.map (nm g) then mval g x y 1 s + 2 else mval g x y 1 s) = mval g x y (1 + 1) s := by
  rw [mval2]
  by_cases h : s ∈ V.map (nm g)
  · rw [if_pos h, if_pos ((told_ancL hw hT s).1 h)]
  · rw [if_neg h, if_neg (mt (told_ancL hw hT s).2 h)]

theorem ord_srt {l : List ByteArray} (h : Ord l) (hn : l.Nodup) : Srt l := by
  refine List.pairwise_iff_getElem.2 fun i j hi hj hij => ?_
  have h1 := List.pairwise_iff_getElem.1 h i j hi hj hij
  have h2 := List.pairwise_iff_getElem.1 hn i j hi hj hij
  rcases List.le_iff_lt_or_eq.1 h1 with h3 | h3
  · exact h3
  · exact absurd (DagS.ba_eq h3) h2

set_option maxRecDepth 100000 in
set_option maxHeartbeats 2000000 in
theorem gbases_c {K : Nat → Prop} {w : World} {p : Nat} {g : List Nd} (hG : GM K w p g) {x y : ByteArray} (hx : x.size ≤ 10000000) (hy : y.size ≤ 10000000) :
    Calls Try.prog 13 #[.pointer (some ⟨p, 0, none⟩), .string x, .string y] w fun e w' => ∃ v, e = .returned v ∧ TV w' v (DagS.basesL g x y) ∧ Below w.heap.size w w' := by
  have hmm := fun (t : TypeId) (w : World) => run_makeMap (P := Try.prog) t w
  have hb1 : Below w.heap.size w (w.alloc (.cells #[.pointer (some ⟨p, 0, none⟩)] 25)) := (Below.refl _ w).alloc (Nat.le_refl _) _
  have hb2 := hb1.alloc hb1.size (.map #[] 0)
  have hb3 := hb2.alloc hb2.size (.cells #[.map (some (w.heap.size + 1))] 61)
  have h3 : (((w.alloc (.cells #[.pointer (some ⟨p, 0, none⟩)] 25)).alloc (.map #[] 0)).alloc (.cells #[.map (some (w.heap.size + 1))] 61)).heap[w.heap.size]? = some (.cells #[.pointer (some ⟨p, 0, none⟩)] 25 (0, 0)) :=
    ((Below.heap_alloc _ _ _ (by simp; omega)).trans (Below.heap_alloc _ _ _ (by simp))).trans Array.getElem?_push_size
  have hm0 : MI (((w.alloc (.cells #[.pointer (some ⟨p, 0, none⟩)] 25)).alloc (.map #[] 0)).alloc (.cells #[.map (some (w.heap.size + 1))] 61)) (w.heap.size + 1) 0 (fun _ => 0) := by
    have := (MapG.made OC (w.alloc (.cells #[.pointer (some ⟨p, 0, none⟩)] 25))).alloc (.cells #[.map (some (w.heap.size + 1))] 61)
    rw [World.size_alloc] at this
    exact ⟨_, 0, this, Nat.le_refl _, fun s => rfl⟩
  have h7 : (((w.alloc (.cells #[.pointer (some ⟨p, 0, none⟩)] 25)).alloc (.map #[] 0)).alloc (.cells #[.map (some (w.heap.size + 1))] 61)).heap[w.heap.size + 1 + 1]? = some (.cells #[.map (some (w.heap.size + 1))] 61 (0, 0)) := by
    have := Array.getElem?_push_size (xs := ((w.alloc (.cells #[.pointer (some ⟨p, 0, none⟩)] 25)).alloc (.map #[] 0)).heap) (x := .cells #[.map (some (w.heap.size + 1))] 61 (0, 0))
    rwa [World.size_alloc, World.size_alloc] at this
  have hs3 : (((w.alloc (.cells #[.pointer (some ⟨p, 0, none⟩)] 25)).alloc (.map #[] 0)).alloc (.cells #[.map (some (w.heap.size + 1))] 61)).heap.size = w.heap.size + 1 + 1 + 1 := by simp
  have HS3 := Lib.hid hs3
  have HG := Lib.hid hG
  have HB3 := Lib.hid hb3
  have H3 := Lib.hid h3
  have H7 := Lib.hid h7
  have HM0 := Lib.hid hm0
  clear hb1 hb2 hb3 h3 h7 hm0 hs3 hG
  go_enter Try.func13, Try.ntmps13
  go_upto_region 2 with fail
  generalize ((w.alloc (.cells #[.pointer (some ⟨p, 0, none⟩)] 25)).alloc (.map #[] 0)).alloc (.cells #[.map (some (w.heap.size + 1))] 61) = W0 at *
  have hbA : Below W0.heap.size W0 (W0.alloc (.cells #[.string x, .string y] 9)) := (Below.refl _ W0).alloc (Nat.le_refl _) _
  have hsl := sl_new W0 [.string x, .string y] 9 (0, 0)
  have HBA := Lib.hid hbA
  have HSL := Lib.hid hsl
  clear hbA hsl
  have HQ0 : Hid ((W0.alloc (.cells #[.string x, .string y] 9)).cell? ⟨W0.heap.size, 0, none⟩ = some (.string x)) := by
    rcases HSL.out with h | ⟨_, _, e, _, h⟩
    · cases h
    · injection e with e; injection e with e1 e2; subst e1 e2; exact h 0 _ rfl
  have HQ1 : Hid ((W0.alloc (.cells #[.string x, .string y] 9)).cell? ⟨W0.heap.size, 1, none⟩ = some (.string y)) := by
    rcases HSL.out with h | ⟨_, _, e, _, h⟩
    · cases h
    · injection e with e; injection e with e1 e2; subst e1 e2; exact h 1 _ rfl
  have HB31 := Lib.hid (HB3.out.trans (HBA.out.mono HB3.out.size))
  have HKL : Hid (∀ k, K k → k < w.heap.size) := fun k hk => HG.out.lt hk
  have hs3 := HS3.out
  have hsz1 : W0.heap.size < (W0.alloc (.cells #[.string x, .string y] 9)).heap.size := by simp
  have HK3 : Hid ((W0.alloc (.cells #[.string x, .string y] 9)).heap[w.heap.size]? = some (.cells #[.pointer (some ⟨p, 0, none⟩)] 25 (0, 0))) := (HBA.out.block _ (by omega)).trans H3.out
  have HK7 : Hid ((W0.alloc (.cells #[.string x, .string y] 9)).heap[w.heap.size + 1 + 1]? = some (.cells #[.map (some (w.heap.size + 1))] 61 (0, 0))) := (HBA.out.block _ (by omega)).trans H7.out
  have HM1 := Lib.hid (HM0.out.block (HBA.out.block _ (by omega)))
  have HSZ1 := Lib.hid hsz1
  clear hs3 hsz1
  go_wp2_with fail
  generalize W0.alloc (.cells #[.string x, .string y] 9) = W1 at *
  go_loopw [16] (fun iv wx => ∃ i : Nat, ((i = 0 ∧ iv = .int .i64 (0 : Int)) ∨ (i = 1 ∧ iv = .int .i64 (1 : Int)) ∨ (i = 2 ∧ iv = .int .i64 (2 : Int))) ∧ MI wx (w.heap.size + 1) (i * 1000) (mval g x y i) ∧ Only (fun k => k = w.heap.size + 1) W1 wx) (fun iv _ => (2 - intOf iv).toNat)
  case atStart => exact ⟨0, .inl ⟨rfl, rfl⟩, HM1.out.congr (by omega) (fun s => mval0.symm), Only.refl _ _⟩
  case round =>
    obtain ⟨i, hi, hmj, hoj⟩ := hrel
    have HMJ := Lib.hid hmj
    have HOJ := Lib.hid hoj
    have hs3 := HS3.out
    have hsz1 := HSZ1.out
    have hszr := HOJ.out.size
    have hGr : GM K wr p g := HG.out.keep (Nat.le_trans HB31.out.size HOJ.out.size) fun k hk => (HOJ.out.block k (by have := HKL.out k hk; omega) (by have := HKL.out k hk; omega)).trans (HB31.out.block k (HKL.out k hk))
    have hk3 : wr.heap[w.heap.size]? = some (.cells #[.pointer (some ⟨p, 0, none⟩)] 25 (0, 0)) := (HOJ.out.block _ (by omega) (by omega)).trans HK3.out
    have hk7 : wr.heap[w.heap.size + 1 + 1]? = some (.cells #[.map (some (w.heap.size + 1))] 61 (0, 0)) := (HOJ.out.block _ (by omega) (by omega)).trans HK7.out
    clear hmj hoj
    rcases hi with ⟨rfl, rfl⟩ | ⟨rfl, rfl⟩ | ⟨rfl, rfl⟩
    rotate_left 2
    · have HS4 : Hid (W0.heap.size = w.heap.size + 1 + 1 + 1) := hs3
      have HS5 : Hid (W1.heap.size ≤ wr.heap.size) := hszr
      have hbB : Below wr.heap.size wr (wr.alloc (.cells #[.slice none 0 0] 32)) := (Below.refl _ wr).alloc (Nat.le_refl _) _
      have hbC := hbB.alloc hbB.size (.cells #[.string x, .string y] 9)
      have hc3 : (wr.alloc (.cells #[.slice none 0 0] 32)).cell? ⟨w.heap.size, 0, none⟩ = some (.pointer (some ⟨p, 0, none⟩)) := cell_blk (by simp [World.cell?, hk3] : wr.cell? ⟨w.heap.size, 0, none⟩ = some (.pointer (some ⟨p, 0, none⟩))) (hbB.block _ (by omega))
      have hsl2 : Sl ((wr.alloc (.cells #[.slice none 0 0] 32)).alloc (.cells #[.string x, .string y] 9)) (some ⟨wr.heap.size + 1, 0, none⟩) (trow [x, y]) := by
        have := sl_new (wr.alloc (.cells #[.slice none 0 0] 32)) [.string x, .string y] 9 (0, 0)
        rwa [World.size_alloc] at this
      have hI : BsI g x y p (w.heap.size + 1 + 1) (w.heap.size + 1) wr.heap.size wr.heap.size w.heap.size ((wr.alloc (.cells #[.slice none 0 0] 32)).alloc (.cells #[.string x, .string y] 9)) [] (fun k => k = w.heap.size + 1 + 1 ∨ k = w.heap.size + 1 ∨ k = wr.heap.size ∨ k = w.heap.size ∨ (Value.slice none 0 0).ownBlock = some k) (.slice none 0 0) [] (mval g x y 2) :=
        { h := (hbC.block _ (by omega)).trans hk7, mp := (HMJ.out.block (hbC.block _ (by omega))).congr (by simp) (fun s => rfl), out := ⟨(Below.heap_alloc _ _ _ (by simp)).trans Array.getElem?_push_size, World.ownsRow_nil _ _ _ _⟩, g3 := (hbC.block _ (by omega)).trans hk3, bs := DagS.Bs.start fun i hi => mval3 HG.out.wf hi, l1 := by omega, l2 := by omega, l3 := by omega, l4 := Nat.le_refl _, ol := List.Sublist.refl _, e := fun k => Iff.rfl }
      have HWK := Lib.hid (walk_c (fc := 2) (l := [x, y]) (I := fun W V E => ∃ v ol val, BsI g x y p (w.heap.size + 1 + 1) (w.heap.size + 1) wr.heap.size wr.heap.size w.heap.size W V E v ol val) (hGr.below hbC) hsl2 (Nat.le_trans (Nat.le_refl 2) (by omega)) (fun s hs => by
        rcases List.mem_cons.1 hs with e | hs
        · rw [e]; exact hx
        · rw [List.mem_singleton] at hs; rw [hs]; exact hy) (bs_cl (K := K)) (enters_of Try.func31 (by kernel_rfl) rfl) ⟨_, _, _, hI⟩ (fun k hk hk2 => by
        have := HKL.out k hk2
        rcases hk with e | e | e | e | e
        · omega
        · omega
        · omega
        · omega
        · cases e))
      have HBC := Lib.hid hbC
      clear hI hsl2 hbB hbC hk3 hk7 hGr hs3 hsz1 hszr HMJ
      go_upto_region 9 with (go_at_call 28; refine HWK.out.mono ?_; rintro e w2 ⟨rfl, V, E', ⟨v, ol, val, h⟩, hT, ho, -⟩)
      have hs3 := HS4.out
      have hsz1 := HSZ1.out
      have hszr := HS5.out
      have hlen := told_len HG.out.wf hT.desc fun j hj => ((hT.mem j).1 hj).1
      have hVn : V.Nodup := hT.desc.imp fun {a b} h => by omega
      have hol := h.ol.length_le
      have hgn := HG.out.len
      have hVlt : ∀ j ∈ ol, j < g.length := fun j hj => HG.out.wf.anc_lt' ((hT.mem j).1 (h.ol.subset hj)).1
      have hnd : (ol.map (nm g)).Nodup := List.pairwise_map.2 ((h.ol.nodup hVn).imp_of_mem fun {a b} ha hb hab e => hab (HG.out.wf.dist.inj (hVlt a ha) (hVlt b hb) e))
      have HDN : Hid (∀ l : List ByteArray, Srt l → (∀ z, z ∈ l ↔ z ∈ ol.map (nm g)) → l = DagS.basesL g x y) := fun l h1 h2 => h.bs.done HG.out.wf (fun k hk => (hT.mem k).2 ⟨anc_two (.inl rfl) hk.1, Nat.zero_le _⟩) h1 h2
      have HB1 : Hid (Below w.heap.size w w2) := ⟨ho.os.trans (HBC.out.os.trans (HOJ.out.os.trans HB31.out.os)), ho.tape.trans (HBC.out.tape.trans (HOJ.out.tape.trans HB31.out.tape)), ho.output.trans (HBC.out.output.trans (HOJ.out.output.trans HB31.out.output)), Nat.le_trans HB31.out.size (Nat.le_trans HOJ.out.size (Nat.le_trans HBC.out.size ho.size)), fun k hk => by
        rw [ho.block k (by have := HBC.out.size; omega) (fun e => by
          rcases e with e | e | e | e | e
          · omega
          · omega
          · omega
          · omega
          · cases e), HBC.out.block k (by omega), HOJ.out.block k (by omega) (by omega), HB31.out.block k hk]⟩
      have hc := h.out.cell
      have hne := h.out.ne
      have hh := h.out.h
      have HRV := Lib.hid (gsort_c h.out.row (by rw [List.length_map]; omega))
      have HROW := Lib.hid h.out.row
      have HND := Lib.hid hnd
      have HSS : Hid (w.heap.size ≤ wr.heap.size) := by show _ ≤ _; omega
      clear hT ho h HWK hVn hVlt hnd hs3 hsz1 hszr
      go_wp2_with (go_at_call 32; refine HRV.out.mono ?_; rintro e w3 ⟨rfl, s, hp, hord, ho2, hg2⟩; have hc2 := cell_blk hc (hg2.block wr.heap.size (Array.getElem?_eq_some_iff.1 hh).1 (fun e => hne (by rw [← e]))))
      go_ret
      refine ⟨_, rfl, ?_, HB1.out.grown hg2 HB1.out.size fun k e => Nat.le_trans HSS.out (HROW.out.lt k e).1⟩
      have := OwnG.of_own ho2
      unfold TV
      rw [← HDN.out s (ord_srt hord (hp.nodup_iff.2 HND.out)) (fun z => hp.mem_iff), hp.length_eq]
      exact this
    · skip
      · skip
        have HS4 : Hid (W0.heap.size = w.heap.size + 1 + 1 + 1) := hs3
        have HS5 : Hid (W1.heap.size ≤ wr.heap.size) := hszr
        have q1 : wr.cell? ⟨W0.heap.size, 0, none⟩ = some (.string x) := cell_blk HQ0.out (HOJ.out.block _ (by have := HBA.out.size; omega) (by omega))
        have hbB : Below wr.heap.size wr (wr.alloc (.cells #[.int .i64 (0 : Int)] 3)) := (Below.refl _ wr).alloc (Nat.le_refl _) _
        have hbC := hbB.alloc hbB.size (.cells #[.string x] 9)
        have hc3 : (wr.alloc (.cells #[.int .i64 (0 : Int)] 3)).cell? ⟨w.heap.size, 0, none⟩ = some (.pointer (some ⟨p, 0, none⟩)) := cell_blk (by simp [World.cell?, hk3] : wr.cell? ⟨w.heap.size, 0, none⟩ = some (.pointer (some ⟨p, 0, none⟩))) (hbB.block _ (by omega))
        have hI : MkI g (w.heap.size + 1 + 1) (w.heap.size + 1) wr.heap.size 0 (0 * 1000) 1 (mval g x y 0) ((wr.alloc (.cells #[.int .i64 (0 : Int)] 3)).alloc (.cells #[.string x] 9)) [] (fun k => k = w.heap.size + 1 + 1 ∨ k = w.heap.size + 1 ∨ k = wr.heap.size) := by
          refine ⟨(hbC.block _ (by omega)).trans hk7, ?_, (HMJ.out.block (hbC.block _ (by omega))).congr (Nat.le_refl _) (fun s => by rw [if_neg (fun h => (nomatch h))]), fun k => Iff.rfl⟩
          exact (Below.heap_alloc _ _ _ (by simp)).trans Array.getElem?_push_size
        have hsl2 : Sl ((wr.alloc (.cells #[.int .i64 (0 : Int)] 3)).alloc (.cells #[.string x] 9)) (some ⟨wr.heap.size + 1, 0, none⟩) [.string x] := by
          have := sl_new (wr.alloc (.cells #[.int .i64 (0 : Int)] 3)) [.string x] 9 (0, 0)
          rwa [World.size_alloc] at this
        have HWK := Lib.hid (walk_c (fc := 1) (l := [x]) (hGr.below hbC) hsl2 (Nat.le_trans (Nat.le_refl 1) (by omega)) (fun s hs => by rw [List.mem_singleton] at hs; rw [hs]; first | exact hx | exact hy) (mk_cl (K := K) (p := p) (by omega) (.inl ⟨rfl, rfl⟩) (fun s => .inl mval0)) (enters_of Try.func30 (by kernel_rfl) rfl) hI (fun k hk hk2 => by have := HKL.out k hk2; omega))
        have HBC := Lib.hid hbC
        clear hI hsl2 hbB hbC hk3 hk7 hGr hs3 hsz1 hszr
        go_wp2_with (go_at_call 28; refine HWK.out.mono ?_; rintro e w2 ⟨rfl, V, E', hI2, hT, ho, -⟩)
        have hs3 := HS4.out
        have hszr := HS5.out
        have hsz1 := HSZ1.out
        have hVn := told_len HG.out.wf hT.desc fun j hj => ((hT.mem j).1 hj).1
        have hO2 : Only (fun k => k = w.heap.size + 1) W1 w2 := ⟨ho.os.trans (HBC.out.os.trans HOJ.out.os), ho.tape.trans (HBC.out.tape.trans HOJ.out.tape), ho.output.trans (HBC.out.output.trans HOJ.out.output), Nat.le_trans HOJ.out.size (Nat.le_trans HBC.out.size ho.size), fun k hk hne => by
          have hkr := Nat.lt_of_lt_of_le hk HOJ.out.size
          by_cases e7 : k = w.heap.size + 1 + 1
          · rw [e7, hI2.h]; exact (HK7.out).symm
          · rw [ho.block k (Nat.lt_of_lt_of_le hkr HBC.out.size) (fun e => by rcases e with e | e | e <;> omega), HBC.out.block k hkr, HOJ.out.block k hk hne]⟩
        have HO2 := Lib.hid hO2
        have HM2 := Lib.hid (hI2.mp.congr (N' := (0 + 1) * 1000) (val' := mval g x y (0 + 1)) (by have := HG.out.len; omega) (mval_step0 HG.out.wf hT))
        clear hI2 hT ho hO2 HWK hs3 hszr hsz1
        go_roundw
        case rel => exact ⟨0 + 1, .inr (.inl ⟨rfl, by first | rfl | go_num⟩), HM2.out, HO2.out⟩
        case measure => simp [intOf]
    · skip
      · skip
        have HS4 : Hid (W0.heap.size = w.heap.size + 1 + 1 + 1) := hs3
        have HS5 : Hid (W1.heap.size ≤ wr.heap.size) := hszr
        have q1 : wr.cell? ⟨W0.heap.size, 1, none⟩ = some (.string y) := cell_blk HQ1.out (HOJ.out.block _ (by have := HBA.out.size; omega) (by omega))
        have hbB : Below wr.heap.size wr (wr.alloc (.cells #[.int .i64 (1 : Int)] 3)) := (Below.refl _ wr).alloc (Nat.le_refl _) _
        have hbC := hbB.alloc hbB.size (.cells #[.string y] 9)
        have hc3 : (wr.alloc (.cells #[.int .i64 (1 : Int)] 3)).cell? ⟨w.heap.size, 0, none⟩ = some (.pointer (some ⟨p, 0, none⟩)) := cell_blk (by simp [World.cell?, hk3] : wr.cell? ⟨w.heap.size, 0, none⟩ = some (.pointer (some ⟨p, 0, none⟩))) (hbB.block _ (by omega))
        have hI : MkI g (w.heap.size + 1 + 1) (w.heap.size + 1) wr.heap.size 1 (1 * 1000) 2 (mval g x y 1) ((wr.alloc (.cells #[.int .i64 (1 : Int)] 3)).alloc (.cells #[.string y] 9)) [] (fun k => k = w.heap.size + 1 + 1 ∨ k = w.heap.size + 1 ∨ k = wr.heap.size) := by
          refine ⟨(hbC.block _ (by omega)).trans hk7, ?_, (HMJ.out.block (hbC.block _ (by omega))).congr (Nat.le_refl _) (fun s => by rw [if_neg (fun h => (nomatch h))]), fun k => Iff.rfl⟩
          exact (Below.heap_alloc _ _ _ (by simp)).trans Array.getElem?_push_size
        have hsl2 : Sl ((wr.alloc (.cells #[.int .i64 (1 : Int)] 3)).alloc (.cells #[.string y] 9)) (some ⟨wr.heap.size + 1, 0, none⟩) [.string y] := by
          have := sl_new (wr.alloc (.cells #[.int .i64 (1 : Int)] 3)) [.string y] 9 (0, 0)
          rwa [World.size_alloc] at this
        have HWK := Lib.hid (walk_c (fc := 1) (l := [y]) (hGr.below hbC) hsl2 (Nat.le_trans (Nat.le_refl 1) (by omega)) (fun s hs => by rw [List.mem_singleton] at hs; rw [hs]; first | exact hx | exact hy) (mk_cl (K := K) (p := p) (by omega) (.inr ⟨rfl, rfl⟩) (fun s => mval1_cases)) (enters_of Try.func30 (by kernel_rfl) rfl) hI (fun k hk hk2 => by have := HKL.out k hk2; omega))
        have HBC := Lib.hid hbC
        clear hI hsl2 hbB hbC hk3 hk7 hGr hs3 hsz1 hszr
        go_wp2_with (go_at_call 28; refine HWK.out.mono ?_; rintro e w2 ⟨rfl, V, E', hI2, hT, ho, -⟩)
        have hs3 := HS4.out
        have hszr := HS5.out
        have hsz1 := HSZ1.out
        have hVn := told_len HG.out.wf hT.desc fun j hj => ((hT.mem j).1 hj).1
        have hO2 : Only (fun k => k = w.heap.size + 1) W1 w2 := ⟨ho.os.trans (HBC.out.os.trans HOJ.out.os), ho.tape.trans (HBC.out.tape.trans HOJ.out.tape), ho.output.trans (HBC.out.output.trans HOJ.out.output), Nat.le_trans HOJ.out.size (Nat.le_trans HBC.out.size ho.size), fun k hk hne => by
          have hkr := Nat.lt_of_lt_of_le hk HOJ.out.size
          by_cases e7 : k = w.heap.size + 1 + 1
          · rw [e7, hI2.h]; exact (HK7.out).symm
          · rw [ho.block k (Nat.lt_of_lt_of_le hkr HBC.out.size) (fun e => by rcases e with e | e | e <;> omega), HBC.out.block k hkr, HOJ.out.block k hk hne]⟩
        have HO2 := Lib.hid hO2
        have HM2 := Lib.hid (hI2.mp.congr (N' := (1 + 1) * 1000) (val' := mval g x y (1 + 1)) (by have := HG.out.len; omega) (mval_step1 HG.out.wf hT))
        clear hI2 hT ho hO2 HWK hs3 hszr hsz1
        go_roundw
        case rel => exact ⟨1 + 1, .inr (.inr ⟨rfl, by first | rfl | go_num⟩), HM2.out, HO2.out⟩
        case measure => simp [intOf]
end Go.Proofs.Ytoeoablmcelohaa
