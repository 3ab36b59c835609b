/- Texts of mine, joined: Walks over graphs: Parents, Missing. | Walks over graphs: Missing. | Walks over graphs: Bases, its marks. -/
import Derived.Test.YtoeoablmcelohaaZ10
namespace Go.Proofs.Ytoeoablmcelohaa
open Go Go.RowKit Go.Maps Go.Sort
open DagS (Nd nm pars par ids Wf ancS ancL upto)
open Classical

theorem gpars_c {K : Nat → Prop} {w : World} {p : Nat} {g : List Nd} (hG : GM K w p g) {x : ByteArray} (hx : x.size ≤ 10000000) :
    Calls Try.prog 17 #[.pointer (some ⟨p, 0, none⟩), .string x] w fun e w' => ∃ v, e = .returned v ∧ TV w' v (DagS.parsL g x) ∧ Below w.heap.size w w' := by
  have hpl : (DagS.parsL g x).length ≤ 1000 := by
    unfold DagS.parsL
    cases e : DagS.find g x with
    | none => exact Nat.zero_le _
    | some i =>
      have h1 := pars_len hG.wf i
      have h2 := DagS.find_lt e
      have h3 := hG.len
      show (pars g i).length ≤ 1000
      omega
  obtain ⟨m1, m2, φ, hB, -⟩ := hG
  have c0 := hB.c0
  obtain ⟨a, c, h1, h2, -⟩ := hB.plook hx
  have HCL := Lib.hid (gclone_c a c _ w h2 (by omega))
  clear hB h2 hpl
  generalize DagS.parsL g x = L at *
  go_enter Try.func17, Try.ntmps17
  go_wp2_with (go_at_call 37; refine HCL.out.mono ?_; rintro e w1 ⟨v1, rfl, ho1, hb1⟩)
  go_ret
  exact ⟨_, rfl, OwnG.of_own ho1, hb1⟩

/-- What is known: each name that was told. -/
structure KnI (g : List Nd) (b m : Nat) (W : World) (V : List Nat) : Prop where
  h : W.heap[b]? = some (.cells #[.map (some m)] 61 (0, 0))
  mp : MapG OC W m V.length (seenF g V)
theorem KnI.ne {g : List Nd} {b m : Nat} {W : World} {V : List Nat} (h : KnI g b m W V) : m ≠ b := fun e => by
  obtain ⟨es, clock, hb⟩ := h.mp.isMap
  rw [e, h.h] at hb
  cases hb
theorem KnI.keep {g : List Nd} {b m : Nat} {W W' : World} {V : List Nat} (h : KnI g b m W V) (h1 : W'.heap[b]? = W.heap[b]?) (h2 : W'.heap[m]? = W.heap[m]?) : KnI g b m W' V := ⟨h1.trans h.h, h.mp.block h2⟩
theorem seen_snoc {g : List Nd} (V : List Nat) (i : Nat) (z : ByteArray) : (if z = nm g i then some (1 : Int) else seenF g V z) = seenF g (V ++ [i]) z := by
  unfold seenF
  rw [List.map_append, List.map_singleton]
  by_cases e : z = nm g i
  · rw [if_pos e, if_pos (List.mem_append.2 (.inr (by rw [e]; exact .head _)))]
  · rw [if_neg e]
    by_cases e2 : z ∈ V.map (nm g)
    · rw [if_pos e2, if_pos (List.mem_append.2 (.inl e2))]
    · rw [if_neg e2, if_neg fun h => (List.mem_append.1 h).elim e2 fun h => e (List.mem_singleton.1 h)]
theorem seen_get {g : List Nd} (hw : Wf g) {V : List Nat} (hV : ∀ j ∈ V, j < g.length) {i : Nat} (hi : i < g.length) : (seenF g V (nm g i)).getD 0 = if i ∈ V then 1 else 0 := by
  unfold seenF
  by_cases h : i ∈ V
  · rw [if_pos ((mem_nm hw hV hi).2 h), if_pos h]; rfl
  · rw [if_neg (mt (mem_nm hw hV hi).1 h), if_neg h]; rfl

set_option maxRecDepth 100000 in
theorem kn_cl {K : Nat → Prop} {p : Nat} {g : List Nd} {b m : Nat} {l : List ByteArray} : Cl K p g 35 #[.pointer (some ⟨b, 0, none⟩)] (fun _ => true) (ids g l) (fun W V E => KnI g b m W V ∧ ∀ k, E k ↔ k = b ∨ k = m) where
  lt := fun ⟨h, he⟩ k hk => by
    rcases (he k).1 hk with e | e
    · rw [e]; exact (Array.getElem?_eq_some_iff.1 h.h).1
    · rw [e]; exact h.mp.lt
  frame := fun ⟨h, he⟩ hk _ => ⟨h.keep (hk _ ((he _).2 (.inl rfl))) (hk _ ((he _).2 (.inr rfl))), he⟩
  call := by
    rintro W V E i ⟨h, he⟩ hG - hi - hV hD
    have hVn := told_len hG.wf hD fun j hj => ((hV j).1 hj).1
    have hgl := hG.len
    have hVi : i ∉ V := fun h => by have := ((hV i).1 h).2; omega
    have hVlt : ∀ j ∈ V, j < g.length := fun j hj => hG.wf.anc_lt' ((hV j).1 hj).1
    have hxs := hG.sz hi
    have hc : W.cell? ⟨b, 0, none⟩ = some (.map (some m)) := by simp [World.cell?, h.h]
    have hlk : (Instr.lookup 61 (.map (some m)) (.string (nm g i)) false).run Try.prog W = .ok (.int .i64 0) W := by
      have := h.mp.look (nm g i) (name_max hxs)
      rw [show (seenF g V (nm g i)).getD OC.z0 = 0 by rw [show (OC.z0 : Int) = 0 from rfl, seen_get hG.wf hVlt hi, if_neg hVi]] at this
      exact this
    have hVm : V.length < maxLen := by rw [show maxLen = 9223372036854775807 from rfl]; omega
    have HXM := Lib.hid (name_max hxs)
    have HS := Lib.hid (seen_snoc (g := g) V i)
    have HH := Lib.hid h
    have HE := Lib.hid he
    clear h he hV hD hG hVi hVlt
    show Calls _ _ #[.string (nm g i), .pointer (some ⟨b, 0, none⟩)] _ _
    generalize nm g i = x at *
    go_enter Try.func35, Try.ntmps35
    go_wp2_with (at_mapUpdate; refine wp_putG rfl _ _ _ rfl rfl HH.out.mp x (1 : Int) rfl rfl HXM.out trivial hVm ?_; intro w3 hm3 hg3)
    go_ret
    refine ⟨rfl, ⟨E, ⟨⟨(hg3.block b (Array.getElem?_eq_some_iff.1 HH.out.h).1 fun e => HH.out.ne (by injection e with e; exact e.symm)).trans HH.out.h, ?_⟩, HE.out⟩, fun k hk => .inl hk⟩, (Only.of_grown (K := fun k => k = m) hg3 fun k e => by injection e with e; exact e.symm).mono fun k hk _ => (HE.out k).2 (.inr hk)⟩
    rw [List.length_append, List.length_singleton]
    exact hm3.congr HS.out

/-- What Missing's second function value keeps. -/
structure MsI (g : List Nd) (b m : Nat) (V1 : List Nat) (base b8 : Nat) (P : Nat → Prop) (W : World) (V : List Nat) (E : Nat → Prop) (v : Value) : Prop where
  kn : KnI g b m W V1
  out : OutI base b8 W ((V.filter fun i => decide (P i)).map (nm g)) v
  bs : base ≤ W.heap.size
  e : ∀ k, E k ↔ k = b ∨ k = m ∨ k = b8 ∨ v.ownBlock = some k
  n1 : b ≠ b8
  n2 : m ≠ b8
  n3 : v.ownBlock ≠ some b
  n4 : v.ownBlock ≠ some m

set_option maxRecDepth 100000 in
set_option maxHeartbeats 1000000 in
theorem ms_cl {K : Nat → Prop} {p : Nat} {g : List Nd} {b m base b8 : Nat} {V1 : List Nat} {P : Nat → Prop} (hV1 : ∀ j ∈ V1, j < g.length) (hP : ∀ i, i < g.length → (P i ↔ i ∉ V1)) {l : List ByteArray} :
    Cl K p g 36 #[.pointer (some ⟨b, 0, none⟩), .pointer (some ⟨b8, 0, none⟩)] (fun i => decide (P i)) (ids g l) (fun W V E => ∃ v, MsI g b m V1 base b8 P W V E v) where
  lt := fun ⟨v, h⟩ k hk => by
    rcases (h.e k).1 hk with e | e | e | e
    · rw [e]; exact (Array.getElem?_eq_some_iff.1 h.kn.h).1
    · rw [e]; exact h.kn.mp.lt
    · rw [e]; exact h.out.lt
    · exact (h.out.row.lt k e).2
  frame := fun ⟨v, h⟩ hk hs => ⟨v, { kn := h.kn.keep (hk _ ((h.e _).2 (.inl rfl))) (hk _ ((h.e _).2 (.inr (.inl rfl)))), out := h.out.keep fun k e => hk k ((h.e k).2 (e.elim (fun e => .inr (.inr (.inl e))) fun e => .inr (.inr (.inr e)))), bs := Nat.le_trans h.bs hs, e := h.e, n1 := h.n1, n2 := h.n2, n3 := h.n3, n4 := h.n4 }⟩
  call := by
    rintro W V E i ⟨v, h⟩ hG - hi - hV hD
    have hVn := told_len hG.wf hD fun j hj => ((hV j).1 hj).1
    have hgl := hG.len
    have hxs := hG.sz hi
    have hc : W.cell? ⟨b, 0, none⟩ = some (.map (some m)) := by simp [World.cell?, h.kn.h]
    have hlk : (Instr.lookup 61 (.map (some m)) (.string (nm g i)) false).run Try.prog W = .ok (.int .i64 (if i ∈ V1 then 1 else 0)) W := by
      have := h.kn.mp.look (nm g i) (name_max hxs)
      rw [show (seenF g V1 (nm g i)).getD OC.z0 = if i ∈ V1 then 1 else 0 by rw [show (OC.z0 : Int) = 0 from rfl, seen_get hG.wf hV1 hi]] at this
      exact this
    have HH := Lib.hid h
    by_cases hin : i ∈ V1
    · have hp : ¬ P i := fun h => (hP i hi).1 h hin
      rw [if_pos hin] at hlk
      have HX : Hid ((V ++ [i]).filter (fun i => decide (P i)) = V.filter fun i => decide (P i)) := by
        show _ = _
        rw [List.filter_append, List.filter_cons_of_neg (by simpa using hp), List.filter_nil, List.append_nil]
      rw [decide_eq_false hp]
      clear h hV hD hG hp hin
      show Calls _ _ #[.string (nm g i), .pointer (some ⟨b, 0, none⟩), .pointer (some ⟨b8, 0, none⟩)] _ _
      generalize nm g i = x at *
      go_enter Try.func36, Try.ntmps36
      go_wp2_with fail
      go_ret
      have h := HH.out
      exact ⟨rfl, ⟨E, ⟨v, { kn := h.kn, out := by rw [HX.out]; exact h.out, bs := h.bs, e := h.e, n1 := h.n1, n2 := h.n2, n3 := h.n3, n4 := h.n4 }⟩, fun k hk => .inl hk⟩, Only.refl _ _⟩
    · have hp : P i := (hP i hi).2 hin
      rw [if_neg hin] at hlk
      have HX : Hid ((V ++ [i]).filter (fun i => decide (P i)) = (V.filter fun i => decide (P i)) ++ [i]) := by
        show _ = _
        rw [List.filter_append, List.filter_cons_of_pos (by simpa using hp), List.filter_nil]
      have hfl := List.length_filter_le (fun i => decide (P i)) V
      rw [decide_eq_true hp]
      have hc8 := h.out.cell
      have hf8 := h.out.fz
      have hlt8 := h.out.lt
      have hnb := h.out.ne
      clear h hV hD hG hp hin
      show Calls _ _ #[.string (nm g i), .pointer (some ⟨b, 0, none⟩), .pointer (some ⟨b8, 0, none⟩)] _ _
      have HX2 : Hid (((V ++ [i]).filter (fun i => decide (P i))).map (nm g) = ((V.filter fun i => decide (P i)).map (nm g)) ++ [nm g i]) := by show _ = _; rw [HX.out, List.map_append]; rfl
      clear HX
      generalize nm g i = x at *
      obtain ⟨L, hL⟩ : ∃ L, (V.filter fun i => decide (P i)).map (nm g) = L := ⟨_, rfl⟩
      have hlen : L.length ≤ 1000 := by rw [← hL, List.length_map]; omega
      have hO := HH.out.out
      rw [hL] at hO HX2
      have HO := Lib.hid hO
      have hrow := hO.row.alloc (.cells #[.string x] 9)
      have hsx := sl_new W [.string x] 9 (0, 0)
      have hbs : base ≤ (W.alloc (.cells #[.string x] 9)).heap.size := by have := HH.out.bs; simp; omega
      have hll : L.length + [x].length ≤ 20000000 := by rw [List.length_singleton]; omega
      clear hL hO
      go_enter Try.func36, Try.ntmps36
      go_wp2_with (at_builtin; refine wp_appR rfl _ _ rfl rfl hrow hbs (l := [x]) rfl hsx (fun e => by cases e) hll ?_; intro v5 w5 ho5 hg5 hn5; obtain ⟨ha, ho, hn⟩ := HO.out.app ho5 hg5 hn5; have hb5 : w5.heap[b8]? = W.heap[b8]? := (hg5.block b8 (by simp; omega) (fun e => hnb e.symm)).trans (((Below.refl _ W).alloc (Nat.le_refl _) _).block b8 hlt8); have hc5 : w5.cell? ⟨b8, 0, none⟩ = some v := cell_blk hc8 hb5; have hf5 : w5.frozen? ⟨b8, 0, none⟩ = false := by { simp only [World.frozen?, hb5]; exact hf8 }; obtain ⟨qa, qc, rfl, -, -, -⟩ := own_sl ho5)
      go_ret
      have h := HH.out
      have hlb := (Array.getElem?_eq_some_iff.1 h.kn.h).1
      have hlm := h.kn.mp.lt
      refine ⟨rfl, ⟨_, ⟨_, { kn := h.kn.keep (ho.block b hlb fun e => e.elim h.n1 h.n3) (ho.block m hlm fun e => e.elim h.n2 h.n4), out := by rw [HX2.out]; exact ha, bs := Nat.le_trans h.bs ho.size, e := fun k => Iff.rfl, n1 := h.n1, n2 := h.n2, n3 := fun e => ?_, n4 := fun e => ?_ }⟩, fun k hk => ?_⟩, ho.mono fun k hk _ => (h.e k).2 (hk.elim (fun e => .inr (.inr (.inl e))) fun e => .inr (.inr (.inr e)))⟩
      · rcases hn b e with e | e
        · exact h.n3 e
        · omega
      · rcases hn m e with e | e
        · exact h.n4 e
        · omega
      · rcases hk with e | e | e | e
        · exact .inl ((h.e k).2 (.inl e))
        · exact .inl ((h.e k).2 (.inr (.inl e)))
        · exact .inl ((h.e k).2 (.inr (.inr (.inl e))))
        · exact (hn k e).imp (fun e => (h.e k).2 (.inr (.inr (.inr e)))) id
end Go.Proofs.Ytoeoablmcelohaa
namespace Go.Proofs.Ytoeoablmcelohaa
open Go Go.RowKit Go.Maps Go.Sort
open DagS (Nd nm pars par ids Wf ancS ancL upto)
open Classical

set_option maxRecDepth 100000 in
set_option maxHeartbeats 1000000 in
theorem gmiss_c {K : Nat → Prop} {w : World} {p : Nat} {g : List Nd} (hG : GM K w p g) {fa : Option Addr} {fc : Nat} {l : List ByteArray} (hf : Sl w fa (trow l)) (hl : l.length ≤ 9000000) (hz : ∀ s ∈ l, s.size ≤ 10000000) {ga : Option Addr} {gc : Nat} {m : List ByteArray} (hg : Sl w ga (trow m)) (hgl : m.length ≤ 9000000) (hgz : ∀ s ∈ m, s.size ≤ 10000000) :
    Calls Try.prog 16 #[.pointer (some ⟨p, 0, none⟩), .slice fa l.length fc, .slice ga m.length gc] w fun e w' => ∃ v, e = .returned v ∧ TV w' v (DagS.missL g l m) ∧ Below w.heap.size w w' := by
  have hmm := fun (t : TypeId) (w : World) => run_makeMap (P := Try.prog) t w
  have hb1 : Below w.heap.size w (w.alloc (.map #[] 0)) := (Below.refl _ w).alloc (Nat.le_refl _) _
  have hb3 := hb1.alloc hb1.size (.cells #[.map (some w.heap.size)] 61)
  have hk2 : ((w.alloc (.map #[] 0)).alloc (.cells #[.map (some w.heap.size)] 61)).heap[w.heap.size + 1]? = some (.cells #[.map (some w.heap.size)] 61 (0, 0)) := by
    have := Array.getElem?_push_size (xs := (w.alloc (.map #[] 0)).heap) (x := .cells #[.map (some w.heap.size)] 61 (0, 0))
    rwa [World.size_alloc] at this
  have hI0 : KnI g (w.heap.size + 1) w.heap.size ((w.alloc (.map #[] 0)).alloc (.cells #[.map (some w.heap.size)] 61)) [] :=
    ⟨hk2, ((MapG.made OC w).alloc _).congr fun s => by unfold seenF; rw [if_neg (fun h => (nomatch h))]⟩
  have HB3 := Lib.hid hb3
  have HI0 := Lib.hid hI0
  have HG := Lib.hid hG
  have HF := Lib.hid hf
  have HGF := Lib.hid hg
  clear hb1 hb3 hI0 hG hf hg hk2
  go_enter Try.func16, Try.ntmps16
  go_upto_region 2 with fail
  generalize (w.alloc (.map #[] 0)).alloc (.cells #[.map (some w.heap.size)] 61) = W0 at *
  have HWK := Lib.hid (walk_c (fc := gc) (I := fun W V E => KnI g (w.heap.size + 1) w.heap.size W V ∧ ∀ k, E k ↔ k = w.heap.size + 1 ∨ k = w.heap.size) (HG.out.below HB3.out) (HGF.out.below HB3.out) hgl hgz kn_cl (enters_of Try.func35 (by kernel_rfl) rfl) ⟨HI0.out, fun k => Iff.rfl⟩ (fun k hk hk2 => by have := HG.out.lt hk2; omega))
  go_upto_region 3 with (go_at_call 28; refine HWK.out.mono ?_; rintro e w1 ⟨rfl, V1, E1, ⟨hI1, he1⟩, hT1, ho1, -⟩)
  have hB1 : Below w.heap.size w w1 := HB3.out.trans ⟨ho1.os, ho1.tape, ho1.output, ho1.size, fun k hk => ho1.block k (by have := HB3.out.size; omega) fun e => by omega⟩
  have hV1 : ∀ j ∈ V1, j < g.length := fun j hj => HG.out.wf.anc_lt' ((hT1.mem j).1 hj).1
  have hP : ∀ i, i < g.length → (¬ ancS g m i ↔ i ∉ V1) := fun i _ => by rw [hT1.mem i]; exact ⟨fun h hh => h hh.1, fun h hh => h ⟨hh, Nat.zero_le _⟩⟩
  have hbA : Below w1.heap.size w1 (w1.alloc (.cells #[.slice none 0 0] 32)) := (Below.refl _ w1).alloc (Nat.le_refl _) _
  have hlb := (Array.getElem?_eq_some_iff.1 hI1.h).1
  have hlm := hI1.mp.lt
  have hI2 : MsI g (w.heap.size + 1) w.heap.size V1 w.heap.size w1.heap.size (fun i => ¬ ancS g m i) (w1.alloc (.cells #[.slice none 0 0] 32)) [] (fun k => k = w.heap.size + 1 ∨ k = w.heap.size ∨ k = w1.heap.size ∨ (Value.slice none 0 0).ownBlock = some k) (.slice none 0 0) :=
    { kn := hI1.keep (hbA.block _ hlb) (hbA.block _ hlm), out := ⟨Array.getElem?_push_size, World.ownsRow_nil _ _ _ _⟩, bs := Nat.le_trans (Nat.le_of_lt hlm) hbA.size, e := fun k => Iff.rfl, n1 := by omega, n2 := by omega, n3 := (fun e => by cases e), n4 := (fun e => by cases e) }
  have HWK2 := Lib.hid (walk_c (fc := fc) (I := fun W V E => ∃ v, MsI g (w.heap.size + 1) w.heap.size V1 w.heap.size w1.heap.size (fun i => ¬ ancS g m i) W V E v) (HG.out.below (hB1.trans (hbA.mono hB1.size))) (HF.out.below (hB1.trans (hbA.mono hB1.size))) hl hz (ms_cl hV1 hP) (enters_of Try.func36 (by kernel_rfl) rfl) ⟨_, hI2⟩ (fun k hk hk2 => by
    have := HG.out.lt hk2
    have := hB1.size
    rcases hk with e | e | e | e
    · omega
    · omega
    · omega
    · cases e))
  have HBA := Lib.hid (hB1.trans (hbA.mono hB1.size))
  have hB1s := hB1.size
  clear hI1 he1 hT1 ho1 hV1 hP hbA hI2 HWK hB1
  go_upto_region 5 with (go_at_call 28; refine HWK2.out.mono ?_; rintro e w2 ⟨rfl, V, E', ⟨v, h⟩, hT, ho, -⟩)
  have hlen := told_len HG.out.wf hT.desc fun j hj => ((hT.mem j).1 hj).1
  have hde : (fun i => @decide (¬ ancS g m i) (propDecidable _)) = fun i => decide (¬ ancS g m i) := funext fun i => decide_eq_decide.2 Iff.rfl
  have hT' : DagS.Told (fun i => decide (¬ ancS g m i)) (par g) (ids g l) V 0 := by rw [← hde]; exact hT
  have hV := HG.out.wf.told_miss hT'
  rw [← hde] at hV
  have HV := Lib.hid hV
  clear hde hT' hV
  have hc := h.out.cell
  have hne := h.out.ne
  have hh := h.out.h
  have hfl := List.length_filter_le (fun i => @decide (¬ ancS g m i) (propDecidable _)) V
  have hgn := HG.out.len
  have HB1 : Hid (Below w.heap.size w w2) := HBA.out.trans ⟨ho.os, ho.tape, ho.output, ho.size, fun k hk => ho.block k (by have := HBA.out.size; omega) fun e => by
    rcases e with e | e | e | e
    · omega
    · omega
    · omega
    · cases e⟩
  have HRV := Lib.hid (grev_c h.out.row (by rw [List.length_map]; omega))
  have HROW := Lib.hid h.out.row
  clear hT ho h HWK2
  go_wp2_with (go_at_call 34; refine HRV.out.mono ?_; rintro e w3 ⟨rfl, ho2, hg2⟩; have hc2 := cell_blk hc (hg2.block w1.heap.size (Array.getElem?_eq_some_iff.1 hh).1 (fun e => hne (by rw [← e]))))
  go_ret
  refine ⟨_, rfl, ?_, HB1.out.grown hg2 HB1.out.size fun k e => (HROW.out.lt k e).1⟩
  have := OwnG.of_own ho2
  unfold TV DagS.missL
  rw [← HV.out, List.map_reverse]
  rw [List.length_reverse]
  exact this
end Go.Proofs.Ytoeoablmcelohaa
namespace Go.Proofs.Ytoeoablmcelohaa
open Go Go.RowKit Go.Maps Go.Sort
open DagS (Nd nm pars par ids Wf ancS ancL upto)
open Classical

/-- A map of numbers, at most N entries: each name's number is val's. -/
def MI (W : World) (m N : Nat) (val : ByteArray → Int) : Prop := ∃ F n, MapG OC W m n F ∧ n ≤ N ∧ ∀ s, (F s).getD 0 = val s
section
variable {W W' : World} {m N : Nat} {val : ByteArray → Int}
theorem MI.lt (h : MI W m N val) : m < W.heap.size := by obtain ⟨F, n, h1, _⟩ := h; exact h1.lt
theorem MI.block (h : MI W m N val) (hb : W'.heap[m]? = W.heap[m]?) : MI W' m N val := by obtain ⟨F, n, h1, h2, h3⟩ := h; exact ⟨F, n, h1.block hb, h2, h3⟩
theorem MI.look (h : MI W m N val) {x : ByteArray} (hx : x.size ≤ 10000000) : (Instr.lookup 61 (.map (some m)) (.string x) false).run Try.prog W = .ok (.int .i64 (val x)) W := by
  obtain ⟨F, n, h1, h2, h3⟩ := h
  have := h1.look x (name_max hx)
  rw [show (F x).getD OC.z0 = val x from h3 x] at this
  exact this
theorem MI.isMap (h : MI W m N val) : ∃ es clock, W.heap[m]? = some (.map es clock) := by obtain ⟨F, n, h1, _⟩ := h; exact h1.isMap
theorem MI.put (h : MI W m N val) (hN : N ≤ 100000000) {x : ByteArray} (hx : x.size ≤ 10000000) (z : Int) :
    ∃ w', (Instr.mapUpdate 61 (.map (some m)) (.string x) (.int .i64 z)).run Try.prog W = .ok () w' ∧ MI w' m (N + 1) (fun s => if s = x then z else val s) ∧ W.grownBy w' (some m) := by
  obtain ⟨F, n, h1, h2, h3⟩ := h
  obtain ⟨w', r1, r2, r3⟩ := h1.put x (name_max hx) z trivial (by rw [show maxLen = 9223372036854775807 from rfl]; omega)
  refine ⟨w', r1, ⟨_, _, r2, by omega, fun s => ?_⟩, r3⟩
  by_cases e : s = x
  · simp only [if_pos e]; rfl
  · simp only [if_neg e]; exact h3 s
theorem MI.congr {val' : ByteArray → Int} {N' : Nat} (h : MI W m N val) (hN : N ≤ N') (hv : ∀ s, val s = val' s) : MI W m N' val' := by
  obtain ⟨F, n, h1, h2, h3⟩ := h
  exact ⟨F, n, h1, by omega, fun s => (h3 s).trans (hv s)⟩
end
/-- 'm[k] = v' at the operation. -/
theorem wp_putM {ops : Array Oper} {rest : List Oper} {o : Oper} {a : Act} {Q : Exit → Act → World → Prop} {w : World} (hg : o.guard = none) (m x v : Operand) (hop : o.op = Op.mapUpdate 61 m x v) {b N : Nat} {val : ByteArray → Int} (hm : a.eval m = .map (some b)) (h : MI w b N val) (hN : N ≤ 100000000) (y : ByteArray) (z : Int) (hx : a.eval x = .string y) (hv : a.eval v = .int .i64 z) (hy : y.size ≤ 10000000)
    (hK : ∀ w', MI w' b (N + 1) (fun s => if s = y then z else val s) → w.grownBy w' (some b) → wpList Try.prog ops Q rest (a.put o.dst undef) w') : wpList Try.prog ops Q (o :: rest) a w := by
  refine wpList_plain hg fun K' hK' => ?_
  obtain ⟨w', hrun, r1, r2⟩ := h.put hN hy z
  unfold Oper.wp
  simp [execOp, hop, hm, hx, hv, hrun, Result.andThen]
  exact hK' _ _ (hK w' r1 r2)

/-- What Bases' first function value keeps. -/
structure MkI (g : List Nd) (b m b8 i N0 : Nat) (c : Int) (val0 : ByteArray → Int) (W : World) (V : List Nat) (E : Nat → Prop) : Prop where
  h : W.heap[b]? = some (.cells #[.map (some m)] 61 (0, 0))
  ci : W.heap[b8]? = some (.cells #[.int .i64 (i : Int)] 3 (0, 0))
  mp : MI W m (N0 + V.length) (fun s => if s ∈ V.map (nm g) then val0 s + c else val0 s)
  e : ∀ k, E k ↔ k = b ∨ k = m ∨ k = b8

set_option maxRecDepth 100000 in
set_option maxHeartbeats 1000000 in
theorem mk_cl {K : Nat → Prop} {p : Nat} {g : List Nd} {b m b8 i N0 : Nat} {c : Int} {val0 : ByteArray → Int} {l : List ByteArray} (hN : N0 ≤ 1000000) (hi2 : (i = 0 ∧ c = 1) ∨ (i = 1 ∧ c = 2)) (h0 : ∀ s, val0 s = 0 ∨ (val0 s = 1 ∧ i = 1)) :
    Cl K p g 30 #[.pointer (some ⟨b, 0, none⟩), .pointer (some ⟨b8, 0, none⟩)] (fun _ => true) (ids g l) (MkI g b m b8 i N0 c val0) where
  lt := fun h k hk => by
    rcases (h.e k).1 hk with e | e | e
    · rw [e]; exact (Array.getElem?_eq_some_iff.1 h.h).1
    · rw [e]; exact h.mp.lt
    · rw [e]; exact (Array.getElem?_eq_some_iff.1 h.ci).1
  frame := fun h hk _ => ⟨(hk _ ((h.e _).2 (.inl rfl))).trans h.h, (hk _ ((h.e _).2 (.inr (.inr rfl)))).trans h.ci, h.mp.block (hk _ ((h.e _).2 (.inr (.inl rfl)))), h.e⟩
  call := by
    rintro W V E j h hG - hj - hV hD
    have hVn := told_len hG.wf hD fun j hj => ((hV j).1 hj).1
    have hgl := hG.len
    have hxs := hG.sz hj
    have hVlt : ∀ j ∈ V, j < g.length := fun j hj => hG.wf.anc_lt' ((hV j).1 hj).1
    have hnot : nm g j ∉ V.map (nm g) := fun h => by
      have := (mem_nm hG.wf hVlt hj).1 h
      have := ((hV j).1 this).2
      omega
    have hmb : m ≠ b := fun e => by
      obtain ⟨es, clock, hb⟩ := h.mp.isMap
      rw [e, h.h] at hb; cases hb
    have hmb8 : m ≠ b8 := fun e => by
      obtain ⟨es, clock, hb⟩ := h.mp.isMap
      rw [e, h.ci] at hb; cases hb
    have hlb := (Array.getElem?_eq_some_iff.1 h.h).1
    have hlb8 := (Array.getElem?_eq_some_iff.1 h.ci).1
    have f1 : ∀ pn, (bw W pn).cell? ⟨b, 0, none⟩ = some (.map (some m)) := fun pn => bw_cell hlb (by simp [World.cell?, h.h]) pn
    have f2 : ∀ pn, (bw W pn).cell? ⟨b8, 0, none⟩ = some (.int .i64 (i : Int)) := fun pn => bw_cell hlb8 (by simp [World.cell?, h.ci]) pn
    have f3 : ∀ pn, (Instr.lookup 61 (.map (some m)) (.string (nm g j)) false).run Try.prog (bw W pn) = .ok (.int .i64 (val0 (nm g j))) (bw W pn) := fun pn => by
      have := (h.mp.block (W' := bw W pn) ((bw_below W pn).block m h.mp.lt)).look hxs
      rw [if_neg hnot] at this
      exact this
    have HF : Hid (∀ zc, zc = val0 (nm g j) + c → ∀ s, (if s = nm g j then zc else if s ∈ V.map (nm g) then val0 s + c else val0 s) = if s ∈ (V ++ [j]).map (nm g) then val0 s + c else val0 s) := fun zc hzc s => by
      rw [List.map_append, List.map_singleton]
      by_cases e : s = nm g j
      · subst e
        rw [if_pos rfl, if_pos (List.mem_append.2 (.inr (.head _))), hzc]
      · rw [if_neg e]
        by_cases e2 : s ∈ V.map (nm g)
        · rw [if_pos e2, if_pos (List.mem_append.2 (.inl e2))]
        · rw [if_neg e2, if_neg fun h => (List.mem_append.1 h).elim e2 fun h => e (List.mem_singleton.1 h)]
    have HH := Lib.hid h
    have hz0 := h0 (nm g j)
    clear h hV hD hG hVlt hnot h0
    show Calls _ _ #[.string (nm g j), .pointer (some ⟨b, 0, none⟩), .pointer (some ⟨b8, 0, none⟩)] _ _
    generalize nm g j = x at *
    generalize hz : val0 x = z at *
    have HZ := Lib.hid hz
    have hcase : (i = 0 ∧ c = 1 ∧ z = 0) ∨ (i = 1 ∧ c = 2 ∧ z = 0) ∨ (i = 1 ∧ c = 2 ∧ z = 1) := by
      rcases hi2 with ⟨rfl, rfl⟩ | ⟨rfl, rfl⟩
      · rcases hz0 with e | e
        · exact .inl ⟨rfl, rfl, e⟩
        · exact absurd e.2 (by omega)
      · rcases hz0 with e | e
        · exact .inr (.inl ⟨rfl, rfl, e⟩)
        · exact .inr (.inr ⟨rfl, rfl, e.1⟩)
    have HMP := Lib.hid HH.out.mp
    have hvl : N0 + V.length ≤ 100000000 := by omega
    clear hz0 hi2 hz
    go_enter Try.func30, Try.ntmps30
    rcases hcase with ⟨rfl, rfl, rfl⟩ | ⟨rfl, rfl, rfl⟩ | ⟨rfl, rfl, rfl⟩
    · go_wp2_with fail
      refine wp_region_bw_tail 6 (by kernel_rfl) (by kernel_rfl) ?_
      iterate 6 quiet_step (fail)
      refine wpQuiet_nil ?_
      rintro Wn ⟨pn, hWn⟩
      have hbn : Below W.heap.size W Wn := by rw [hWn]; exact bw_below _ _
      clear hWn f1 f2 f3
      have hmn := HMP.out.block (hbn.block m HMP.out.lt)
      refine wp_putM rfl _ _ _ rfl rfl hmn hvl x (1 : Int) rfl rfl hxs ?_
      intro w5 hM5 hg5
      have hkb : ∀ k, k < W.heap.size → k ≠ m → w5.heap[k]? = W.heap[k]? := fun k hk hne => (hg5.block k (Nat.lt_of_lt_of_le hk hbn.size) (fun e => hne (Option.some.inj e))).trans (hbn.block k hk)
      have hO : Only (fun k => k = m) W w5 := (Only.of_below hbn).trans (Only.of_grown (K := fun k => k = m) hg5 fun k e => (Option.some.inj e).symm) fun k e => .inl e
      go_wp2_with fail
      go_ret
      refine ⟨rfl, ⟨E, ⟨(hkb b hlb hmb.symm).trans HH.out.h, (hkb b8 hlb8 hmb8.symm).trans HH.out.ci, ?_, HH.out.e⟩, fun k hk => .inl hk⟩, hO.mono fun k hk _ => (HH.out.e k).2 (.inr (.inl hk))⟩
      rw [List.length_append, List.length_singleton, ← Nat.add_assoc]
      exact hM5.congr (Nat.le_refl _) (HF.out (1 : Int) (by decide))
    · go_wp2_with fail
      refine wp_region_bw_tail 6 (by kernel_rfl) (by kernel_rfl) ?_
      iterate 6 quiet_step (fail)
      refine wpQuiet_nil ?_
      rintro Wn ⟨pn, hWn⟩
      have hbn : Below W.heap.size W Wn := by rw [hWn]; exact bw_below _ _
      clear hWn f1 f2 f3
      have hmn := HMP.out.block (hbn.block m HMP.out.lt)
      refine wp_putM rfl _ _ _ rfl rfl hmn hvl x (2 : Int) rfl rfl hxs ?_
      intro w5 hM5 hg5
      have hkb : ∀ k, k < W.heap.size → k ≠ m → w5.heap[k]? = W.heap[k]? := fun k hk hne => (hg5.block k (Nat.lt_of_lt_of_le hk hbn.size) (fun e => hne (Option.some.inj e))).trans (hbn.block k hk)
      have hO : Only (fun k => k = m) W w5 := (Only.of_below hbn).trans (Only.of_grown (K := fun k => k = m) hg5 fun k e => (Option.some.inj e).symm) fun k e => .inl e
      go_wp2_with fail
      go_ret
      refine ⟨rfl, ⟨E, ⟨(hkb b hlb hmb.symm).trans HH.out.h, (hkb b8 hlb8 hmb8.symm).trans HH.out.ci, ?_, HH.out.e⟩, fun k hk => .inl hk⟩, hO.mono fun k hk _ => (HH.out.e k).2 (.inr (.inl hk))⟩
      rw [List.length_append, List.length_singleton, ← Nat.add_assoc]
      exact hM5.congr (Nat.le_refl _) (HF.out (2 : Int) (by decide))
    · go_wp2_with fail
      refine wp_region_bw_tail 6 (by kernel_rfl) (by kernel_rfl) ?_
      iterate 6 quiet_step (fail)
      refine wpQuiet_nil ?_
      rintro Wn ⟨pn, hWn⟩
      have hbn : Below W.heap.size W Wn := by rw [hWn]; exact bw_below _ _
      clear hWn f1 f2 f3
      have hmn := HMP.out.block (hbn.block m HMP.out.lt)
      refine wp_putM rfl _ _ _ rfl rfl hmn hvl x (3 : Int) rfl rfl hxs ?_
      intro w5 hM5 hg5
      have hkb : ∀ k, k < W.heap.size → k ≠ m → w5.heap[k]? = W.heap[k]? := fun k hk hne => (hg5.block k (Nat.lt_of_lt_of_le hk hbn.size) (fun e => hne (Option.some.inj e))).trans (hbn.block k hk)
      have hO : Only (fun k => k = m) W w5 := (Only.of_below hbn).trans (Only.of_grown (K := fun k => k = m) hg5 fun k e => (Option.some.inj e).symm) fun k e => .inl e
      go_wp2_with fail
      go_ret
      refine ⟨rfl, ⟨E, ⟨(hkb b hlb hmb.symm).trans HH.out.h, (hkb b8 hlb8 hmb8.symm).trans HH.out.ci, ?_, HH.out.e⟩, fun k hk => .inl hk⟩, hO.mono fun k hk _ => (HH.out.e k).2 (.inr (.inl hk))⟩
      rw [List.length_append, List.length_singleton, ← Nat.add_assoc]
      exact hM5.congr (Nat.le_refl _) (HF.out (3 : Int) (by decide))
end Go.Proofs.Ytoeoablmcelohaa
