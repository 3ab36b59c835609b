/- Texts of mine, joined: Walks: a record is added to a pack. -/
import Derived.Test.YtfoamcobpfflbaaDoorZ32
namespace Go.Proofs.YtfoamcobpfflbaaDoor
open Go Go.RowKit Go.Maps
open VfsS (St)

theorem results_cell_tmp {P : Program} {w : World} {fn : Func} {t u : Tmp} {ty : TypeId} (h : fn.results = #[.cell t ty, .tmp u]) {tmps : Array Value} {b : Nat} (ht : tmps.getD t undef = .pointer (some ⟨b, 0, none⟩)) {cs : Array Value} {e : TypeId} {fr : Nat × Nat} (hb : w.heap[b]? = some (.cells cs e fr)) {d : TypeDesc}
    (hu : P.underlying ty = some d) (hd : d.isRow = true) (hi : (P.info? ty).map (·.size) = some cs.toList.length) : (results fn tmps).run P w = .ok (.tuple #[.agg cs, tmps.getD u undef]) w := by
  have hl := run_loadVar_mid (P := P) w b 0 ty cs.toList d (fun j v hj => by
    rw [Nat.zero_add]; simp only [World.cell?, hb]; rw [← Array.getElem?_toList]; exact hj) hu hd hi
  have ht' : tmps[t]?.getD undef = .pointer (some ⟨b, 0, none⟩) := by rw [← ht]; simp [Array.getD_eq_getD_getElem?]
  simp [results, h, ht', asAddr, hl, Result.andThen]

theorem SlE.keep {E : Nat → Prop} {w0 w w' : World} {a : Option Addr} {xs : List Value} (h : SlE E w0 w a xs) (h1 : Below w0.heap.size w0 w) (h2 : Below w0.heap.size w0 w') (hE : ∀ k, E k → w'.heap[k]? = w.heap[k]?) : SlE E w0 w' a xs := by
  rcases h with h | ⟨b, o, r1, r2, r3⟩
  · exact .inl h
  · refine .inr ⟨b, o, r1, r2, fun i u hu => ?_⟩
    have : w'.heap[b]? = w.heap[b]? := by
      rcases r2 with r2 | r2
      · rw [h2.block b r2, h1.block b r2]
      · exact hE b r2
    rw [World.cell?_of_block (a := ⟨b, o + i, none⟩) this]
    exact r3 i u hu
theorem SlE.sub {E E' : Nat → Prop} {w0 w : World} {a : Option Addr} {xs : List Value} (h : SlE E w0 w a xs) (he : ∀ k, E k → E' k) : SlE E' w0 w a xs := by
  rcases h with h | ⟨b, o, r1, r2, r3⟩
  · exact .inl h
  · exact .inr ⟨b, o, r1, r2.elim .inl fun e => .inr (he b e), r3⟩

section
variable {E : Nat → Prop} {w0 w w' : World} {p q N M : Nat} {S : St} {P : PackS.Pk}
theorem PW.grown {b : Nat} (h : PW E w0 w p q S P N M) (hg : w.grownBy w' (some b)) (hb : E b) : PW E w0 w' p q S P N M := by
  obtain ⟨⟨K, h1, h2, h3⟩, hbd⟩ := h
  exact ⟨⟨K, h1.block fun k hk => hg.block k (h2.lt (.inl hk)) (fun e => by injection e with e; subst e; exact h3 _ hk hb), h2.grown hg (.inr hb), h3⟩, hbd⟩
theorem PW.wf (h : PW E w0 w p q S P N M) : VfsS.Wf S := h.ve.wf
theorem PW.nm (h : PW E w0 w p q S P N M) : P.name.size ≤ 1000000 := by
  obtain ⟨K, bm, ov, hr⟩ := h.pk
  exact hr.name

theorem phas_p (h : PW E w0 w p q S P N M) {x : List Nat} (hx : OkId x) : Calls Tryd.prog 56 #[.pointer (some ⟨q, 0, none⟩), .agg (nums .u8 x)] w fun e w' => e = .returned (.bool (PackS.has P x)) ∧ PW E w0 w' p q S P N M ∧ Below w.heap.size w w' := by
  obtain ⟨K, hk⟩ := h.pk
  refine (has_c hk hx).mono ?_
  rintro e w' ⟨rfl, hb⟩
  exact ⟨rfl, (h.reads hb).1, hb⟩

theorem pget_p (h : PW E w0 w p q S P N M) {x : List Nat} (hx : OkId x) : Calls Tryd.prog 31 #[.pointer (some ⟨q, 0, none⟩), .agg (nums .u8 x)] w fun e w' => ∃ a c, e = .returned (.tuple #[.slice a (PackS.get P S x).1.length c, .int .i64 (PackS.get P S x).2]) ∧ NB w w' (.slice a (PackS.get P S x).1.length c) (PackS.get P S x).1 ∧ PW E w0 w' p q S P N M ∧ Below w.heap.size w w' := by
  obtain ⟨K, hk⟩ := h.pk
  obtain ⟨Kf, hv, -⟩ := h.ve
  refine (get_c hk h.bd hv hx).mono ?_
  rintro e w' ⟨v, rfl, hn⟩
  obtain ⟨a, c, rfl, -, -, -⟩ := hn.r.form
  exact ⟨a, c, rfl, hn, (h.reads hn.b).1, hn.b⟩
end
theorem get_lt (P : PackS.Pk) (S : St) (x : List Nat) : ∀ y ∈ (PackS.get P S x).1, y < 256 := by
  intro y hy
  unfold PackS.get at hy
  split at hy
  · cases hy
  · split at hy
    · cases hy
    · rename_i t _
      split at hy
      · split at hy
        · exact bl_lt t y (List.mem_of_mem_drop (List.mem_of_mem_take hy))
        · cases hy
      · cases hy

section
variable {E : Nat → Prop} {w0 w : World} {p q N M : Nat} {S : St} {P : PackS.Pk}
/-- What Add tells. -/
def AddP (E : Nat → Prop) (w0 w : World) (p q : Nat) (S : St) (P : PackS.Pk) (N M : Nat) (l : List Nat) (e : Ending) (w' : World) : Prop :=
  e = .returned (.tuple #[.agg (nums .u8 (PackS.add P S l).2.2.1), .int .i64 (PackS.add P S l).2.2.2]) ∧ PW E w0 w' p q (PackS.add P S l).1 (PackS.add P S l).2.1 (N + 1) (M + 2) ∧ ∀ k, E k → w'.heap[k]? = w.heap[k]?

theorem add_fin {wz wy : World} {b4 M1 N' M' : Nat} {E3 : Nat → Prop} {S1 S' : St} {P' : PackS.Pk} (hv : VE E w0 w p S1 M1) (hb4 : w.heap.size ≤ b4) (hE : ∀ k, E k → E3 k) (h4 : E3 b4) (hz : PW E3 w0 wz p q S' P' N' M') (hN1 : N' ≤ N + 1) (hN : N + 1 ≤ 100000000) (hM1 : M' ≤ M + 2) (hM : M + 2 ≤ 100000000)
    (hs : ∀ k, E k → wz.heap[k]? = w.heap[k]?) (hg : wz.grownBy wy (some b4)) : PW E w0 wy p q S' P' (N + 1) (M + 2) ∧ ∀ k, E k → wy.heap[k]? = w.heap[k]? :=
  ⟨((hz.grown hg h4).sub hE).mono hN1 hN hM1 hM, fun k hk => (hg.block k (hz.lt (hE k hk)) (fun e => by injection e with e; have := hv.lt hk; omega)).trans (hs k hk)⟩

theorem zid_nums : #[Value.int .u8 0, Value.int .u8 0, Value.int .u8 0, Value.int .u8 0, Value.int .u8 0, Value.int .u8 0, Value.int .u8 0, Value.int .u8 0, Value.int .u8 0, Value.int .u8 0, Value.int .u8 0, Value.int .u8 0, Value.int .u8 0, Value.int .u8 0, Value.int .u8 0, Value.int .u8 0, Value.int .u8 0, Value.int .u8 0, Value.int .u8 0, Value.int .u8 0, Value.int .u8 0, Value.int .u8 0, Value.int .u8 0, Value.int .u8 0, Value.int .u8 0, Value.int .u8 0, Value.int .u8 0, Value.int .u8 0, Value.int .u8 0, Value.int .u8 0, Value.int .u8 0, Value.int .u8 0] = nums .u8 PackS.zid := rfl
theorem idSz (x : List Nat) (hx : OkId x) : (Tryd.prog.info? 47).map (·.size) = some (nums .u8 x).toList.length := by rw [Array.length_toList, nums_size, hx.1]; kernel_rfl
theorem idSz' (x : List Nat) (hx : OkId x) : Tryd.prog.cellsOf 47 = (nums .u8 x).size := by rw [nums_size, hx.1]; kernel_rfl
theorem okId_z : OkId PackS.zid := ⟨rfl, by decide⟩

set_option maxRecDepth 100000 in
set_option maxHeartbeats 2000000 in
theorem padd_p (h : PW E w0 w p q S P N M) {a : Option Addr} {c : Nat} {l : List Nat} (hl : SlE E w0 w a (nb l)) (hb : ∀ x ∈ l, x < 256) (hn : l.length ≤ 9000000) (hN : N + 1 ≤ 100000000) (hM : M + 2 ≤ 100000000) :
    Calls Tryd.prog 21 #[.pointer (some ⟨q, 0, none⟩), .slice a l.length c] w (AddP E w0 w p q S P N M l) := by
  have hsl := hl.sl h.ve
  have hbA : Below w.heap.size w (w.alloc (.cells (nums .u8 PackS.zid) 47)) := (Below.refl _ w).alloc (Nat.le_refl _) _
  have hI : (w.alloc (.cells (nums .u8 PackS.zid) 47)).heap[w.heap.size]? = some (.cells (nums .u8 PackS.zid) 47 (0, 0)) := Array.getElem?_push_size
  have HS := Lib.hid (sum1_c (c := c) (hsl.below hbA) hb (by omega))
  have HH := Lib.hid h
  have HL := Lib.hid hl
  have HI := Lib.hid hI
  have HBA := Lib.hid hbA
  have HB := Lib.hid hb
  clear h hl hsl hI hbA hb
  go_enter Tryd.func21, Tryd.ntmps21
  by_cases hbig : 524288 < l.length
  · have hd : decide ((l.length : Int) > 524288) = true := decide_eq_true (by omega)
    have hd' : decide ((524288 : Int) < (l.length : Int)) = true := decide_eq_true (by omega)
    go_upto_region 2 with fail
    rw [zid_nums]
    generalize w.alloc (.cells (nums .u8 PackS.zid) 47) = w1 at *
    have hI := HI.out
    go_wp2_with (first
      | (refine wp_storeB rfl 47 _ _ rfl w.heap.size (nums .u8 PackS.zid) rfl rfl hI (idSz' _ okId_z) rfl (nums_one _ _) ?_; intro w2 h2 g2))
    refine bodyPost_ret (results_cell_tmp Tryd.results21 rfl h2 id_under rfl (idSz _ okId_z)) rfl ?_
    have hadd : PackS.add P S l = (S, P, PackS.zid, 2) := by unfold PackS.add; rw [if_pos hbig]
    unfold AddP
    rw [hadd]
    have hb1 := HBA.out
    exact ⟨rfl, add_fin HH.out.ve (Nat.le_refl _) (fun k hk => .inl hk) (.inr ⟨Nat.le_refl _, (Array.getElem?_eq_some_iff.1 hI).1⟩) (HH.out.below hb1) (by omega) hN (by omega) hM (fun k hk => hb1.block k (HH.out.lt hk)) g2⟩
  · have hd : decide ((l.length : Int) > 524288) = false := decide_eq_false (by omega)
    have hd' : decide ((524288 : Int) < (l.length : Int)) = false := decide_eq_false (by omega)
    go_upto_region 3 with fail
    rw [zid_nums]
    generalize w.alloc (.cells (nums .u8 PackS.zid) 47) = w1 at *
    go_upto_region 4 with (first
      | (go_at_call 43; refine HS.out.mono ?_; rintro e w2 ⟨rfl, hb2⟩; have hI2 : (w2.alloc (.cells #[Value.int .u8 0, Value.int .u8 0, Value.int .u8 0, Value.int .u8 0, Value.int .u8 0, Value.int .u8 0, Value.int .u8 0, Value.int .u8 0, Value.int .u8 0, Value.int .u8 0, Value.int .u8 0, Value.int .u8 0, Value.int .u8 0, Value.int .u8 0, Value.int .u8 0, Value.int .u8 0, Value.int .u8 0, Value.int .u8 0, Value.int .u8 0, Value.int .u8 0, Value.int .u8 0, Value.int .u8 0, Value.int .u8 0, Value.int .u8 0, Value.int .u8 0, Value.int .u8 0, Value.int .u8 0, Value.int .u8 0, Value.int .u8 0, Value.int .u8 0, Value.int .u8 0, Value.int .u8 0] 47)).heap[w2.heap.size]? = some (.cells #[Value.int .u8 0, Value.int .u8 0, Value.int .u8 0, Value.int .u8 0, Value.int .u8 0, Value.int .u8 0, Value.int .u8 0, Value.int .u8 0, Value.int .u8 0, Value.int .u8 0, Value.int .u8 0, Value.int .u8 0, Value.int .u8 0, Value.int .u8 0, Value.int .u8 0, Value.int .u8 0, Value.int .u8 0, Value.int .u8 0, Value.int .u8 0, Value.int .u8 0, Value.int .u8 0, Value.int .u8 0, Value.int .u8 0, Value.int .u8 0, Value.int .u8 0, Value.int .u8 0, Value.int .u8 0, Value.int .u8 0, Value.int .u8 0, Value.int .u8 0, Value.int .u8 0, Value.int .u8 0] 47 (0, 0)) := Array.getElem?_push_size)
      | (refine wp_storeB rfl 47 _ _ rfl w2.heap.size (nums .u8 (Sha.sum l)) rfl rfl hI2 (by rw [nums_size, PackS.sum_len]; kernel_rfl) (by rw [nums_size, PackS.sum_len]; kernel_rfl) (nums_one _ _) ?_; intro w3 h3 g3))
    have hB3 : Below w1.heap.size w1 w3 := ((hb2.alloc hb2.size _).grown g3 (hb2.alloc hb2.size _).size (fun k e => by injection e with e; have := hb2.size; omega))
    have h14 := (Array.getElem?_eq_some_iff.1 HI.out).1
    have h34 := (hB3.block w.heap.size h14).trans HI.out
    have hBw : Below w.heap.size w w3 := HBA.out.trans (hB3.mono HBA.out.size)
    have h4E : Kx E w.heap.size w3.heap.size w.heap.size := .inr ⟨Nat.le_refl _, Nat.lt_of_lt_of_le h14 hB3.size⟩
    have h6E : Kx E w.heap.size w3.heap.size w2.heap.size := .inr ⟨Nat.le_trans HBA.out.size hb2.size, (Array.getElem?_eq_some_iff.1 h3).1⟩
    have H3 := HH.out.below hBw
    have hb4 : w.heap.size ≤ w.heap.size := Nat.le_refl _
    have HE : Hid (∀ k, E k → w3.heap[k]? = w.heap[k]?) := fun k hk => hBw.block k (HH.out.lt hk)
    have HSL := Lib.hid ((HL.out.keep HH.out.out H3.out (fun k hk => hBw.block k (HH.out.lt hk))).sub (E' := Kx E w.heap.size w3.heap.size) (fun k hk => .inl hk))
    have hx := okId_sum l
    generalize w2.heap.size = b6 at *
    obtain ⟨x, hxs⟩ : ∃ x, Sha.sum l = x := ⟨_, rfl⟩
    have hbq := h3
    rw [hxs] at hx h3 ⊢
    obtain ⟨fl, hfl⟩ : ∃ fl, PackS.has P x = fl := ⟨_, rfl⟩
    have hhas := phas_p H3 hx
    rw [hfl] at hhas
    obtain ⟨E3, hE3⟩ : ∃ E3, Kx E w.heap.size w3.heap.size = E3 := ⟨_, rfl⟩
    have HEE : Hid (∀ k, E k → E3 k) := fun k hk => by rw [← hE3]; exact .inl hk
    rw [hE3] at h4E h6E H3 hhas HSL
    have HHAS := Lib.hid hhas
    have HSM := Lib.hid hxs
    have HFL := Lib.hid hfl
    have HX := Lib.hid hx
    have HV := Lib.hid HH.out.ve
    have HNM := Lib.hid HH.out.nm
    have HWF := Lib.hid HH.out.wf
    clear hE3 hhas hxs hfl hB3 hBw hb4 hI2 hb2 g3 hbq HBA HI HS HH HL
    simp only [Act.put]
    cases fl with
    | true =>
      go_upto_region 5 with (first
        | (refine wp_loadB rfl 47 _ rfl b6 rfl h3 _ id_under rfl (idSz _ hx) ?_)
        | (go_at_call 56; refine HHAS.out.mono ?_; rintro e w4 ⟨rfl, H4, hb4w⟩))
      have h64 := (hb4w.block b6 (Array.getElem?_eq_some_iff.1 h3).1).trans h3
      have h44 := (hb4w.block w.heap.size (Array.getElem?_eq_some_iff.1 h34).1).trans h34
      have HE4 : Hid (∀ k, E k → w4.heap[k]? = w.heap[k]?) := fun k hk => (hb4w.block k (H3.lt (HEE.out k hk))).trans (HE.out k hk)
      have HSL4 := Lib.hid (HSL.out.keep H3.out H4.out (fun k hk => hb4w.block k (H3.lt hk)))
      obtain ⟨g, ce, hg⟩ : ∃ g ce, PackS.get P S x = (g, ce) := ⟨_, _, rfl⟩
      have hgl := get_lt P S x
      have hget := pget_p H4 hx
      rw [hg] at hget hgl
      have HGET := Lib.hid hget
      have HG := Lib.hid hg
      have HGL := Lib.hid hgl
      have hadd : PackS.add P S l = if ce ≠ 0 then (S, P, PackS.zid, ce) else if g = l then (S, P, x, 0) else (S, P, PackS.zid, 150) := by
        unfold PackS.add
        rw [if_neg hbig, HSM.out, HFL.out, if_pos rfl, hg]
      have HADD := Lib.hid hadd
      clear h3 h34 hget hg hgl hadd hb4w HHAS
      go_upto_region 6 with (first
        | (refine wp_loadB rfl 47 _ rfl b6 rfl h64 _ id_under rfl (idSz _ hx) ?_)
        | (go_at_call 31; refine HGET.out.mono ?_; rintro e w5 ⟨ga, gc, rfl, hn5, H5, hb5⟩))
      have h65 := (hb5.block b6 (Array.getElem?_eq_some_iff.1 h64).1).trans h64
      have h45 := (hb5.block w.heap.size (Array.getElem?_eq_some_iff.1 h44).1).trans h44
      have HE5 : Hid (∀ k, E k → w5.heap[k]? = w.heap[k]?) := fun k hk => (hb5.block k (H4.lt (HEE.out k hk))).trans (HE4.out k hk)
      have HSL5 := Lib.hid (HSL4.out.keep H4.out H5.out (fun k hk => hb5.block k (H4.lt hk)))
      clear h64 h44 HGET hb5
      by_cases hce : ce = 0
      · subst hce
        have hadd := HADD.out
        rw [if_neg (by simp)] at hadd
        have HADD := Lib.hid hadd
        clear hadd
        obtain ⟨a5, c5, e5, -, -, hs5⟩ := hn5.r.form
        injection e5 with e5 _ e6
        subst e5 e6
        have hc1 := run_str_of (P := Tryd.prog) Tryd.underlying43 Tryd.underlying5 Tryd.underlying9 (b := ofL g) (by rw [byteCells_ofL HGL.out]; exact hs5) gc
        have hc2 := run_str_of (P := Tryd.prog) Tryd.underlying43 Tryd.underlying5 Tryd.underlying9 (b := ofL l) (by rw [byteCells_ofL HB.out]; exact HSL5.out.sl H5.ve) c
        rw [ofL_size] at hc1 hc2
        have hcmp : ((ofL g).toList == (ofL l).toList) = decide (g = l) := by rw [tl_eq, ofL_eq HGL.out HB.out]
        clear hs5 hn5
        by_cases hgl : g = l
        · have hadd := HADD.out
          rw [if_pos hgl] at hadd
          rw [decide_eq_true hgl] at hcmp
          clear hgl
          go_wp2_with (first
            | (refine wp_loadB rfl 47 _ rfl b6 rfl h65 _ id_under rfl (idSz _ hx) ?_)
            | (refine wp_storeB rfl 47 _ _ rfl w.heap.size (nums .u8 x) rfl rfl h45 (by rw [nums_size, nums_size, hx.1]; rfl) (by rw [nums_size, hx.1]; kernel_rfl) (nums_one _ _) ?_; intro w6 h6 g6))
          refine bodyPost_ret (results_cell_tmp Tryd.results21 rfl h6 id_under rfl (idSz _ hx)) rfl ?_
          unfold AddP
          rw [hadd]
          exact ⟨rfl, add_fin HV.out (Nat.le_refl _) HEE.out h4E H5 (by omega) hN (by omega) hM HE5.out g6⟩
        · have hadd := HADD.out
          rw [if_neg hgl] at hadd
          rw [decide_eq_false hgl] at hcmp
          clear hgl
          go_wp2_with (first
            | (refine wp_storeB rfl 47 _ _ rfl w.heap.size (nums .u8 PackS.zid) rfl rfl h45 (idSz' _ okId_z) rfl (nums_one _ _) ?_; intro w6 h6 g6))
          refine bodyPost_ret (results_cell_tmp Tryd.results21 rfl h6 id_under rfl (idSz _ okId_z)) rfl ?_
          unfold AddP
          rw [hadd]
          exact ⟨rfl, add_fin HV.out (Nat.le_refl _) HEE.out h4E H5 (by omega) hN (by omega) hM HE5.out g6⟩
      · have hadd := HADD.out
        rw [if_pos hce] at hadd
        have hne : (ce == 0) = false := by simpa using hce
        have hdd : decide (ce = 0) = false := decide_eq_false hce
        go_wp2_with (first
          | (refine wp_storeB rfl 47 _ _ rfl w.heap.size (nums .u8 PackS.zid) rfl rfl h45 (idSz' _ okId_z) rfl (nums_one _ _) ?_; intro w6 h6 g6))
        refine bodyPost_ret (results_cell_tmp Tryd.results21 rfl h6 id_under rfl (idSz _ okId_z)) rfl ?_
        unfold AddP
        rw [hadd]
        exact ⟨rfl, add_fin HV.out (Nat.le_refl _) HEE.out h4E H5 (by omega) hN (by omega) hM HE5.out g6⟩
    | false =>
      go_upto_region 11 with (first
        | (refine wp_loadB rfl 47 _ rfl b6 rfl h3 _ id_under rfl (idSz _ hx) ?_)
        | (go_at_call 56; refine HHAS.out.mono ?_; rintro e w4 ⟨rfl, H4, hb4w⟩))
      have h64 := (hb4w.block b6 (Array.getElem?_eq_some_iff.1 h3).1).trans h3
      have h44 := (hb4w.block w.heap.size (Array.getElem?_eq_some_iff.1 h34).1).trans h34
      have HE4 : Hid (∀ k, E k → w4.heap[k]? = w.heap[k]?) := fun k hk => (hb4w.block k (H3.lt (HEE.out k hk))).trans (HE.out k hk)
      have HSL4 := Lib.hid (HSL.out.keep H3.out H4.out (fun k hk => hb4w.block k (H3.lt hk)))
      obtain ⟨S6, ce, hap⟩ : ∃ S6 ce, VfsS.appendS S P.name (ofL (PackS.frame l)) = (S6, ce) := ⟨_, _, rfl⟩
      have hadd : PackS.add P S l = if ce ≠ 0 then (S6, P, PackS.zid, ce) else (S6, PackS.note P l, x, 0) := by
        unfold PackS.add
        rw [if_neg hbig, HSM.out, HFL.out, if_neg (by simp), hap]
      have HADD := Lib.hid hadd
      have hfl := PackS.frame_len l
      have hfb := PackS.frame_lt HB.out
      have HF := Lib.hid (frame_c (w := w4.drewN 1) (c := c) (HSL4.out.sl H4.ve) HB.out (by omega))
      have HAP : Hid (∀ wF v, NB (w4.drewN 1) wF v (PackS.frame l) → ∃ fa fc, v = .slice fa (PackS.frame l).length fc ∧
          wF.cell? ⟨q, 0, none⟩ = some (.pointer (some ⟨p, 0, none⟩)) ∧ wF.cell? ⟨q, 1, none⟩ = some (.string P.name) ∧
          Calls Tryd.prog 27 #[.pointer (some ⟨p, 0, none⟩), .string P.name, .slice fa (PackS.frame l).length fc] wF fun e w6 => e = .returned (.int .i64 ce) ∧ PW E3 w0 w6 p q S6 P N (M + 2) ∧ (∀ k, E3 k → w6.heap[k]? = w4.heap[k]?) ∧ w6.cell? ⟨q, 0, none⟩ = some (.pointer (some ⟨p, 0, none⟩)) ∧ w6.cell? ⟨q, 1, none⟩ = some (.string P.name)) := by
        intro wF v hNB
        have hb4F : Below w4.heap.size w4 wF := (below_dN (Below.refl _ w4) 1).trans hNB.b
        obtain ⟨⟨K, hk, hv, hdj⟩, hbd⟩ := H4
        obtain ⟨bm, ov, hr⟩ := id hk
        obtain ⟨fa, fc, rfl, -, -, hsF⟩ := hNB.r.form
        have hkq := hr.kq
        have hql := (Array.getElem?_eq_some_iff.1 hr.blk).1
        have hvF := hv.below hb4F
        have c0 : wF.cell? ⟨q, 0, none⟩ = some (.pointer (some ⟨p, 0, none⟩)) := by rw [hb4F.cell (p := ⟨q, 0, none⟩) hql, cell_of hr.blk]; rfl
        have c1 : wF.cell? ⟨q, 1, none⟩ = some (.string P.name) := by rw [hb4F.cell (p := ⟨q, 1, none⟩) hql, cell_of hr.blk]; rfl
        have hslF : SlE (Kx (fun k => K k ∨ E3 k) w4.heap.size wF.heap.size) w0 wF fa (byteCells (ofL (PackS.frame l))) := by
          rw [byteCells_ofL hfb]
          rcases hsF with e | ⟨b, o, e1, e2, e3⟩
          · exact .inl e
          · subst e1
            exact .inr ⟨b, o, rfl, .inr (.inr ⟨hNB.new b rfl, e2⟩), e3⟩
        have hA := append_e hvF P.name (ofL (PackS.frame l)) fa fc (by have := hr.name; omega) (by rw [ofL_size]; omega) hslF hM
        rw [ofL_size, hap] at hA
        refine ⟨fa, fc, rfl, c0, c1, hA.mono ?_⟩
        rintro e w6 ⟨rfl, hv6, hs6⟩
        have hs : ∀ k, (K k ∨ E3 k) → w6.heap[k]? = w4.heap[k]? := fun k hk => (hs6 k (.inl hk)).trans (hb4F.block k (hv.lt hk))
        obtain ⟨r1, r2⟩ := PW.fs (w := w4) hk hdj hbd (hv6.sub fun k hk => .inl hk) hs
        have hq6 := (hs6 q (.inl (.inl hkq)))
        exact ⟨rfl, r1, r2, by rw [World.cell?_of_block (a := ⟨q, 0, none⟩) hq6]; exact c0, by rw [World.cell?_of_block (a := ⟨q, 1, none⟩) hq6]; exact c1⟩
      have hc01 : w4.cell? ⟨q, 0, none⟩ = some (.pointer (some ⟨p, 0, none⟩)) ∧ w4.cell? ⟨q, 1, none⟩ = some (.string P.name) := by
        obtain ⟨K, bm, ov, hr⟩ := H4.pk
        exact ⟨by rw [cell_of hr.blk]; rfl, by rw [cell_of hr.blk]; rfl⟩
      obtain ⟨c0, c1⟩ := hc01
      clear h3 h34 hb4w HHAS hap hadd hfl hfb
      go_cut [9] from 10 (fun v9 wx => v9 = .int .i64 ce ∧ PW E3 w0 wx p q S6 P N (M + 2) ∧ ∀ k, E3 k → wx.heap[k]? = w4.heap[k]?)
      case first =>
        go_region_held3 (fun W => W.cell? ⟨q, 0, none⟩ = some (.pointer (some ⟨p, 0, none⟩)) ∧ W.cell? ⟨q, 1, none⟩ = some (.string P.name))
          (first | exact ⟨c0, c1⟩ | exact ⟨d0, d1⟩ | exact ⟨f0, f1⟩ | go_keep)
          (first
            | (go_at_call 65; refine HF.out.mono ?_; rintro e wF ⟨v, rfl, hNB⟩; obtain ⟨fa, fc, rfl, d0, d1, hcA⟩ := HAP.out wF v hNB; have HCA := Lib.hid hcA; clear hcA hNB)
            | (go_at_call 27; refine HCA.out.mono ?_; rintro e w6 ⟨rfl, H6, hs6, f0, f1⟩))
        all_goals
          go_wp2_with fail
          go_meet
          case rel => exact ⟨rfl, H6, hs6⟩
      case rest =>
        obtain ⟨rfl, H6, hs6⟩ := hcut
        have h6 := (hs6 b6 h6E).trans h64
        have h46 := (hs6 w.heap.size h4E).trans h44
        have HE6 : Hid (∀ k, E k → wc.heap[k]? = w.heap[k]?) := fun k hk => (hs6 k (HEE.out k hk)).trans (HE4.out k hk)
        have hsl6 := HSL4.out.keep H4.out H6.out hs6
        clear c0 c1 h64 h44 hs6
        by_cases hce : ce = 0
        · subst hce
          have hadd := HADD.out
          rw [if_neg (by simp)] at hadd
          have hsl7 := hsl6.sl H6.ve
          obtain ⟨⟨K, hk, hv, hdj⟩, hbd⟩ := H6
          have HNT := Lib.hid (note_c (c := c) hk hsl7 HB.out (by omega) hN)
          have HV6 := Lib.hid hv
          have HDJ := Lib.hid hdj
          have HBD := Lib.hid hbd
          clear hk hv hdj hbd hsl7 hsl6
          go_upto_region 15 with (go_at_call 66; refine HNT.out.mono ?_; rintro e w7 ⟨rfl, hk7, ho7⟩)
          obtain ⟨r1, r2⟩ := PW.own HV6.out HDJ.out (HBD.out.note l) hk7 ho7
          have h67 := (r2 b6 h6E).trans h6
          have h47 := (r2 w.heap.size h4E).trans h46
          have HE7 : Hid (∀ k, E k → w7.heap[k]? = w.heap[k]?) := fun k hk => (r2 k (HEE.out k hk)).trans (HE6.out k hk)
          clear h6 h46 hk7 ho7 r2
          go_wp2_with (first
            | (refine wp_loadB rfl 47 _ rfl b6 rfl h67 _ id_under rfl (idSz _ hx) ?_)
            | (refine wp_storeB rfl 47 _ _ rfl w.heap.size (nums .u8 x) rfl rfl h47 (by rw [nums_size, nums_size, hx.1]; rfl) (by rw [nums_size, hx.1]; kernel_rfl) (nums_one _ _) ?_; intro w8 h8 g8))
          refine bodyPost_ret (results_cell_tmp Tryd.results21 rfl h8 id_under rfl (idSz _ hx)) rfl ?_
          unfold AddP
          rw [hadd]
          exact ⟨rfl, add_fin HV.out (Nat.le_refl _) HEE.out h4E r1 (Nat.le_refl _) hN (Nat.le_refl _) hM HE7.out g8⟩
        · have hadd := HADD.out
          rw [if_pos hce] at hadd
          have hne : (ce == 0) = false := by simpa using hce
          have hdd : decide (ce = 0) = false := decide_eq_false hce
          go_wp2_with (first
            | (refine wp_storeB rfl 47 _ _ rfl w.heap.size (nums .u8 PackS.zid) rfl rfl h46 (idSz' _ okId_z) rfl (nums_one _ _) ?_; intro w7 h7 g7))
          refine bodyPost_ret (results_cell_tmp Tryd.results21 rfl h7 id_under rfl (idSz _ okId_z)) rfl ?_
          unfold AddP
          rw [hadd]
          exact ⟨rfl, add_fin HV.out (Nat.le_refl _) HEE.out h4E H6 (by omega) hN (Nat.le_refl _) hM HE6.out g7⟩
end
end Go.Proofs.YtfoamcobpfflbaaDoor
