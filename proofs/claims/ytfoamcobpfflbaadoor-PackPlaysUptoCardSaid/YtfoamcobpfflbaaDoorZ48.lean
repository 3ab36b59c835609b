/- Texts of mine, joined: Walks: the document's Add. -/
import Derived.Test.YtfoamcobpfflbaaDoorZ47
namespace Go.Proofs.YtfoamcobpfflbaaDoor
open Go Go.RowKit Go.Maps
open VfsS (St)

theorem results_ctct {P : Program} {w : World} {fn : Func} {t u v z : Tmp} {ty ty2 : TypeId} (h : fn.results = #[.cell t ty, .tmp u, .cell v ty2, .tmp z]) {tmps : Array Value} {b b2 : Nat} (ht : tmps.getD t undef = .pointer (some ⟨b, 0, none⟩)) (hv : tmps.getD v undef = .pointer (some ⟨b2, 0, none⟩)) {cs cs2 : Array Value} {e e2 : TypeId} {fr fr2 : Nat × Nat} (hb : w.heap[b]? = some (.cells cs e fr)) (hb2 : w.heap[b2]? = some (.cells cs2 e2 fr2)) {d d2 : TypeDesc}
    (hu : P.underlying ty = some d) (hd : d.isRow = true) (hi : (P.info? ty).map (·.size) = some cs.toList.length) (hu2 : P.underlying ty2 = some d2) (hd2 : d2.isRow = true) (hi2 : (P.info? ty2).map (·.size) = some cs2.toList.length) : (results fn tmps).run P w = .ok (.tuple #[.agg cs, tmps.getD u undef, .agg cs2, tmps.getD z undef]) w := by
  have hl := run_loadVar_mid (P := P) w b 0 ty cs.toList d (fun j v hj => by
    rw [Nat.zero_add]; simp only [World.cell?, hb]; rw [← Array.getElem?_toList]; exact hj) hu hd hi
  have hl2 := run_loadVar_mid (P := P) w b2 0 ty2 cs2.toList d2 (fun j v hj => by
    rw [Nat.zero_add]; simp only [World.cell?, hb2]; rw [← Array.getElem?_toList]; exact hj) hu2 hd2 hi2
  have ht' : tmps[t]?.getD undef = .pointer (some ⟨b, 0, none⟩) := by rw [← ht]; simp [Array.getD_eq_getD_getElem?]
  have hv' : tmps[v]?.getD undef = .pointer (some ⟨b2, 0, none⟩) := by rw [← hv]; simp [Array.getD_eq_getD_getElem?]
  simp [results, h, ht', hv', asAddr, hl, hl2, Result.andThen]

/-- The call's own blocks: the two structs, the id that goes out. -/
structure AB (w W : World) (cs u : Array Value) (x : List Nat) : Prop where
  t : TB w W w.heap.size (w.heap.size + 1) cs u
  i : W.heap[w.heap.size + 2]? = some (.cells (nums .u8 x) 47 (0, 0))
section
variable {w W W' : World} {cs u cs' u' : Array Value} {x x' : List Nat}
theorem AB.to (h : AB w W cs u x) (hb : Below W.heap.size W W') : AB w W' cs u x := ⟨h.t.to hb, (hb.block _ (Array.getElem?_eq_some_iff.1 h.i).1).trans h.i⟩
theorem AB.st0 (h : AB w W cs u x) (ht : TB w W' w.heap.size (w.heap.size + 1) cs' u) (hg : W.grownBy W' (some w.heap.size)) : AB w W' cs' u x := ⟨ht, (hg.block _ (Array.getElem?_eq_some_iff.1 h.i).1 (fun e => by injection e with e; omega)).trans h.i⟩
theorem AB.st1 (h : AB w W cs u x) (ht : TB w W' w.heap.size (w.heap.size + 1) cs u') (hg : W.grownBy W' (some (w.heap.size + 1))) : AB w W' cs u' x := ⟨ht, (hg.block _ (Array.getElem?_eq_some_iff.1 h.i).1 (fun e => by injection e with e; omega)).trans h.i⟩
theorem AB.sti (h : AB w W cs u x) (hi : W'.heap[w.heap.size + 2]? = some (.cells (nums .u8 x') 47 (0, 0))) (hg : W.grownBy W' (some (w.heap.size + 2))) : AB w W' cs u x' :=
  ⟨⟨(hg.block _ h.t.l0 (fun e => by injection e with e; omega)).trans h.t.h0, (hg.block _ h.t.l1 (fun e => by injection e with e; omega)).trans h.t.h1, h.t.below.grown hg h.t.below.size (fun k e => by injection e with e; omega), h.t.lo, h.t.lt⟩, hi⟩
end

theorem AB.grown {w W W' : World} {cs u : Array Value} {x : List Nat} {row : Option Nat} (h : AB w W cs u x) (hg : W.grownBy W' row) (hne : ∀ k, row = some k → w.heap.size + 3 ≤ k) : AB w W' cs u x :=
  ⟨⟨(hg.block _ h.t.l0 (fun e => by have := hne _ e.symm; omega)).trans h.t.h0, (hg.block _ h.t.l1 (fun e => by have := hne _ e.symm; omega)).trans h.t.h1, h.t.below.grown hg h.t.below.size (fun k e => by have := hne k e; omega), h.t.lo, h.t.lt⟩, (hg.block _ (Array.getElem?_eq_some_iff.1 h.i).1 (fun e => by have := hne _ e.symm; omega)).trans h.i⟩
theorem RR.row {E : Nat → Prop} {W W' : World} {cs : Array Value} {S : St} {N : Nat} {v : Value} {n : Nat} {xs : List Value} (h : RR E W cs S N) (ho : OwnG W 9 1 v n xs) (hg : W.grownBy W' v.ownBlock) : RR E W' cs S N := by
  cases hk : v.ownBlock with
  | none =>
    rw [hk] at hg
    exact h.below ((Below.refl _ W).grown hg (Nat.le_refl _) (fun k e => by cases e))
  | some k =>
    obtain ⟨cur, ht⟩ := ho.tag hk
    rw [hk] at hg
    exact h.other ht (by decide) hg

section
variable {E : Nat → Prop} {w : World} {cs : Array Value} {S : St} {N : Nat}
/-- What the document's Add tells. -/
def RAddP (E : Nat → Prop) (w : World) (S : St) (N : Nat) (name : ByteArray) (L : List (List Nat)) (v0 : Value) (d : List Nat) (e : Ending) (w' : World) : Prop :=
  ∃ cs' v, e = .returned (.tuple #[.agg cs', v, .agg (nums .u8 (PackS.radd S name L d).2.2.1), .int .i64 (PackS.radd S name L d).2.2.2]) ∧ RR (Ku E w.heap.size) w' cs' (PackS.radd S name L d).1 (N + 1) ∧
    OwnG w' 9 1 v (PackS.radd S name L d).2.1.length (srow (PackS.radd S name L d).2.1) ∧ (∀ k, v.ownBlock = some k → v0.ownBlock = some k ∨ w.heap.size ≤ k) ∧ Below w.heap.size w w'

set_option maxRecDepth 100000 in
set_option maxHeartbeats 2000000 in
theorem radd_c (h : RR E w cs S N) (name s : ByteArray) {a : Option Addr} {c : Nat} {L : List (List Nat)} (hr : OwnG w 9 1 (.slice a L.length c) L.length (srow L)) (hL : ∀ d ∈ L, d.length ≤ 524288 ∧ ∀ x ∈ d, x < 256) (hl : L.length ≤ 400000) (hs : s.size ≤ 9000000) (hN : N + 1 ≤ 40000000) :
    Calls Tryd.prog 22 #[.agg cs, .string name, .slice a L.length c, .string s] w (RAddP E w S N name L (.slice a L.length c) (bl s)) := by
  have hsz := h.size
  have hone := h.one
  have hA : AB w (((w.alloc (.cells cs 36)).alloc (.cells #[.slice none 0 0, .slice none 0 0, .slice none 0 0, .slice none 0 0, .int .i64 0, .int .i64 0, .int .i64 0] 36)).alloc (.cells (nums .u8 PackS.zid) 47)) cs fs0 PackS.zid := ⟨(TB.start w cs fs0).to (below_alloc _ _), push_at (by simp)⟩
  have hrW := h.below hA.t.below
  have hrow := hr.below hA.t.below
  have HH := Lib.hid h
  have HR := Lib.hid hr
  clear h hr
  go_enter Tryd.func22, Tryd.ntmps22
  go_upto_region 1 with fail
  rw [zid_nums]
  generalize ((w.alloc (.cells cs 36)).alloc (.cells #[.slice none 0 0, .slice none 0 0, .slice none 0 0, .slice none 0 0, .int .i64 0, .int .i64 0, .int .i64 0] 36)).alloc (.cells (nums .u8 PackS.zid) 47) = W at *
  by_cases hbig : 524288 < (bl s).length
  · have hb := bl_len s
    have hd : decide ((s.size : Int) > 524288) = true := decide_eq_true (by omega)
    have hd' : decide (524288 < s.size) = true := decide_eq_true (by omega)
    have hd'' : decide ((524288 : Int) < (s.size : Int)) = true := decide_eq_true (by omega)
    have hop : PackS.radd S name L (bl s) = (S, L, PackS.zid, 2) := by unfold PackS.radd; rw [if_pos hbig]
    have hT := hA.t
    have hI := hA.i
    go_wp2_with (first
      | (refine wp_load0 hT rfl _ rfl rfl hsz ?_)
      | (refine wp_store1 hT rfl _ _ rfl rfl rfl rfl hsz hone ?_; intro w2 hT2 g2; have hA2 := hA.st1 hT2 g2; have hI2 := hA2.i)
      | (refine wp_storeB rfl 47 _ _ rfl (w.heap.size + 2) (nums .u8 PackS.zid) rfl rfl hI2 rfl (by rw [nums_size]; kernel_rfl) (nums_one _ _) ?_; intro w3 h3 g3))
    have hA3 := hA2.sti h3 g3
    refine bodyPost_ret (results_ctct Tryd.results22 rfl rfl hA3.t.h1 hA3.i Tryd.underlying36 rfl (by rw [Array.length_toList, hsz]; kernel_rfl) id_under rfl (idSz _ okId_z)) rfl ?_
    unfold RAddP
    rw [hop]
    exact ⟨cs, _, rfl, ((((hrW.in1 hT g2).other hI2 (by decide) g3).up _).mono (by omega) hN), own_other (own_other hrow hT.h1 (by decide) g2) hI2 (by decide) g3, fun k hk => .inl hk, hA3.t.below⟩
  · have hb := bl_len s
    have hd : decide ((s.size : Int) > 524288) = false := decide_eq_false (by omega)
    have hd' : decide (524288 < s.size) = false := decide_eq_false (by omega)
    have hd'' : decide ((524288 : Int) < (s.size : Int)) = false := decide_eq_false (by omega)
    have hsum := fun W' => refsum_c (w := W') s (by omega)
    have hx := okId_sum (bl s)
    have hro : PackS.radd S name L (bl s) = match PackS.rhas L (Sha.sum (bl s)) with
      | some o => if o = bl s then (S, L, Sha.sum (bl s), 0) else (S, L, PackS.zid, 150)
      | none => if (VfsS.appendS S name (ofL (PackS.frame (bl s)))).2 ≠ 0 then ((VfsS.appendS S name (ofL (PackS.frame (bl s)))).1, L, PackS.zid, (VfsS.appendS S name (ofL (PackS.frame (bl s)))).2)
        else ((VfsS.appendS S name (ofL (PackS.frame (bl s)))).1, L ++ [bl s], Sha.sum (bl s), 0) := by unfold PackS.radd; rw [if_neg hbig]; cases PackS.rhas L (Sha.sum (bl s)) <;> rfl
    generalize Sha.sum (bl s) = x at *
    have HSUM := Lib.hid hsum
    have HRO := Lib.hid hro
    have HA := Lib.hid hA
    clear hsum hro hb
    go_upto_region 4 with (first
      | (go_at_call 32; refine (HSUM.out _).mono ?_; rintro e w2 ⟨rfl, hb2⟩; have hI2 : (w2.alloc (.cells #[Value.int .u8 0, Value.int .u8 0, Value.int .u8 0, Value.int .u8 0, Value.int .u8 0, Value.int .u8 0, Value.int .u8 0, Value.int .u8 0, Value.int .u8 0, Value.int .u8 0, Value.int .u8 0, Value.int .u8 0, Value.int .u8 0, Value.int .u8 0, Value.int .u8 0, Value.int .u8 0, Value.int .u8 0, Value.int .u8 0, Value.int .u8 0, Value.int .u8 0, Value.int .u8 0, Value.int .u8 0, Value.int .u8 0, Value.int .u8 0, Value.int .u8 0, Value.int .u8 0, Value.int .u8 0, Value.int .u8 0, Value.int .u8 0, Value.int .u8 0, Value.int .u8 0, Value.int .u8 0] 47)).heap[w2.heap.size]? = some (.cells #[Value.int .u8 0, Value.int .u8 0, Value.int .u8 0, Value.int .u8 0, Value.int .u8 0, Value.int .u8 0, Value.int .u8 0, Value.int .u8 0, Value.int .u8 0, Value.int .u8 0, Value.int .u8 0, Value.int .u8 0, Value.int .u8 0, Value.int .u8 0, Value.int .u8 0, Value.int .u8 0, Value.int .u8 0, Value.int .u8 0, Value.int .u8 0, Value.int .u8 0, Value.int .u8 0, Value.int .u8 0, Value.int .u8 0, Value.int .u8 0, Value.int .u8 0, Value.int .u8 0, Value.int .u8 0, Value.int .u8 0, Value.int .u8 0, Value.int .u8 0, Value.int .u8 0, Value.int .u8 0] 47 (0, 0)) := Array.getElem?_push_size)
      | (refine wp_storeB rfl 47 _ _ rfl w2.heap.size (nums .u8 x) rfl rfl hI2 (by rw [nums_size, hx.1]; rfl) (by rw [nums_size, hx.1]; kernel_rfl) (nums_one _ _) ?_; intro w3 h3 g3))
    have hB3 : Below W.heap.size W w3 := ((hb2.alloc hb2.size _).grown g3 (hb2.alloc hb2.size _).size (fun k e => by injection e with e; have := hb2.size; omega))
    have hA3 := HA.out.to hB3
    have hr3 := hrW.below hB3
    have hrow3 := hrow.below hB3
    have hWb : W.heap.size ≤ w2.heap.size := hb2.size
    obtain ⟨_, hb12⟩ : w.heap.size + 2 < W.heap.size ∧ w.heap.size + 2 < w2.heap.size := by
      have := (Array.getElem?_eq_some_iff.1 HA.out.i).1
      exact ⟨this, by omega⟩
    generalize w2.heap.size = b12 at *
    obtain ⟨a5, c5, e5, -, -, hsl3⟩ := hrow3.form
    injection e5 with e5 _ e6
    subst e5 e6
    have hhas := rhas_c (c := c) hsl3 hL (by omega) hx
    obtain ⟨rh, hrh⟩ : ∃ rh, PackS.rhas L x = rh := ⟨_, rfl⟩
    rw [hrh] at hhas
    have HHAS := Lib.hid hhas
    have HRH := Lib.hid hrh
    clear hhas hrh hb2 hI2 g3 hB3 hrW hrow hsl3 hA HSUM
    go_upto_region 5 with (first
      | (refine wp_loadB rfl 47 _ rfl b12 rfl h3 _ id_under rfl (idSz _ hx) ?_)
      | (go_at_call 33; refine HHAS.out.mono ?_; rintro e w4 ⟨rfl, hb4⟩))
    have hA4 := hA3.to hb4
    have hr4 := hr3.below hb4
    have hrow4 := hrow3.below hb4
    have h34 := (hb4.block b12 (Array.getElem?_eq_some_iff.1 h3).1).trans h3
    have HRR := Lib.hid hr4
    have HRW := Lib.hid hrow4
    have HA4 := Lib.hid hA4
    clear hA3 hr3 hrow3 h3 hb4 HHAS hr4 hrow4
    cases rh with
    | some o =>
      have hob : ∀ y ∈ o, y < 256 := fun y hy => (hL o (PackS.rhas_sum HRH.out).2).2 y hy
      have hro := HRO.out
      rw [HRH.out] at hro
      simp only at hro
      have hcmp : ((ofL o).toList == s.toList) = decide (o = bl s) := by
        rw [tl_eq]
        by_cases e : o = bl s
        · rw [decide_eq_true e, decide_eq_true (by rw [e, ofL_bl])]
        · rw [decide_eq_false e, decide_eq_false (fun h => e (by rw [← h, bl_ofL hob]))]
      simp only [Option.getD_some, Option.isSome_some]
      by_cases he : o = bl s
      · rw [if_pos he] at hro
        rw [decide_eq_true he] at hcmp
        have HOP := Lib.hid hro
        clear hro he hob hA4
        go_upto_region 8 with fail
        have hT := HA4.out.t
        have hl12 := (Array.getElem?_eq_some_iff.1 h34).1
        refine wp_region_hld (fun W' => W'.heap[w.heap.size]? = some (.cells cs 36 (0, 0)) ∧ W'.heap[b12]? = some (.cells (nums .u8 x) 47 (0, 0))) [0, 1, 2] [3, 4, 5, 6] (by kernel_rfl) (by kernel_rfl) (fun _ _ _ _ _ h => h) ⟨hT.h0, h34⟩ ?_
        refine ⟨_, rfl, .agg cs, yields_loadB rfl 36 _ rfl w.heap.size rfl (fun W' hW => hW.1) _ Tryd.underlying36 rfl (by rw [Array.length_toList, hsz]; kernel_rfl), ?_⟩
        refine ⟨_, rfl, .slice a L.length c, .inl ⟨rfl, fun _ _ => rfl⟩, ?_⟩
        refine ⟨_, rfl, .agg (nums .u8 x), yields_loadB rfl 47 _ rfl b12 rfl (fun W' hW => hW.2) _ id_under rfl (idSz _ hx), ?_⟩
        refine goHF_step rfl fun K' hK' => ?_
        refine wp_store1 (hT.drewN 1) rfl _ _ rfl rfl rfl rfl hsz hone ?_
        intro w5 hT5 g5
        have hA5 := (HA4.out.to (below_dN (Below.refl _ w4) 1)).st1 hT5 g5
        have hI5 := hA5.i
        have h125 : w5.heap[b12]? = some (.cells (nums .u8 x) 47 (0, 0)) := (g5.block b12 hl12 (fun e => by injection e with e; omega)).trans h34
        refine hK' _ _ ⟨⟨hA5.t.h0, h125⟩, ?_⟩
        clear hK'
        refine goHF_val rfl rfl (v := .slice a L.length c) rfl ⟨hA5.t.h0, h125⟩ ?_
        refine goHF_step rfl fun K' hK' => ?_
        refine wp_storeB rfl 47 _ _ rfl (w.heap.size + 2) (nums .u8 x) rfl rfl hI5 (by rw [nums_size, nums_size, hx.1]; rfl) (by rw [nums_size, hx.1]; kernel_rfl) (nums_one _ _) ?_
        intro w6 h6 g6
        have hA6 := hA5.sti h6 g6
        have h126 : w6.heap[b12]? = some (.cells (nums .u8 x) 47 (0, 0)) := (g6.block b12 (Array.getElem?_eq_some_iff.1 h125).1 (fun e => by injection e with e; omega)).trans h125
        refine hK' _ _ ⟨⟨hA6.t.h0, h126⟩, ?_⟩
        clear hK'
        refine goHF_val rfl rfl (v := .int .i64 0) rfl ⟨hA6.t.h0, h126⟩ ?_
        show Exit.then _ _ .normal _ _
        go_wp2_with fail
        refine bodyPost_ret (results_ctct Tryd.results22 rfl rfl hA6.t.h1 hA6.i Tryd.underlying36 rfl (by rw [Array.length_toList, hsz]; kernel_rfl) id_under rfl (idSz _ hx)) rfl ?_
        unfold RAddP
        rw [HOP.out]
        have hb1 : Below w4.heap.size w4 (w4.drewN 1) := below_dN (Below.refl _ w4) 1
        exact ⟨cs, _, rfl, (((((HRR.out.below hb1).in1 (hT.drewN 1) g5).other hI5 (by decide) g6).up _).mono (by omega) hN), own_other (own_other (HRW.out.below hb1) (hT.drewN 1).h1 (by decide) g5) hI5 (by decide) g6, fun k hk => .inl hk, hA6.t.below⟩
      · rw [if_neg he] at hro
        rw [decide_eq_false he] at hcmp
        have HOP := Lib.hid hro
        have hT := hA4.t
        clear hro he hob hA4
        go_wp2_with (first
          | (refine wp_load0 hT rfl _ rfl rfl hsz ?_)
          | (refine wp_store1 hT rfl _ _ rfl rfl rfl rfl hsz hone ?_; intro w5 hT5 g5; have hA5 := HA4.out.st1 hT5 g5; have hI5 := hA5.i)
          | (refine wp_storeB rfl 47 _ _ rfl (w.heap.size + 2) (nums .u8 PackS.zid) rfl rfl hI5 rfl (by rw [nums_size]; kernel_rfl) (nums_one _ _) ?_; intro w6 h6 g6))
        have hA6 := hA5.sti h6 g6
        refine bodyPost_ret (results_ctct Tryd.results22 rfl rfl hA6.t.h1 hA6.i Tryd.underlying36 rfl (by rw [Array.length_toList, hsz]; kernel_rfl) id_under rfl (idSz _ okId_z)) rfl ?_
        unfold RAddP
        rw [HOP.out]
        exact ⟨cs, _, rfl, ((((HRR.out.in1 hT g5).other hI5 (by decide) g6).up _).mono (by omega) hN), own_other (own_other HRW.out hT.h1 (by decide) g5) hI5 (by decide) g6, fun k hk => .inl hk, hA6.t.below⟩
    | none =>
      have hro := HRO.out
      rw [HRH.out] at hro
      simp only at hro
      have HOP := Lib.hid hro
      simp only [Option.getD_none, Option.isSome_none]
      clear hro
      go_upto_region 9 with fail
      have hT := HA4.out.t
      have hfz : (ofL (PackS.frame (bl s))).size ≤ 10000000 := by rw [ofL_size, PackS.frame_len, bl_len]; omega
      have HFR : Hid (∀ p', Calls Tryd.prog 67 #[.string s] (bw w4 p') fun e w'' => e = .returned (.string (ofL (PackS.frame (bl s)))) ∧ ∃ q : BW, w'' = bw w4 q) := fun p' => calls_bw (rframe_c (w := bw w4 p') s (by omega))
      generalize ofL (PackS.frame (bl s)) = f at *
      obtain ⟨S6, ce, hap⟩ : ∃ S6 ce, VfsS.appendS S name f = (S6, ce) := ⟨_, _, rfl⟩
      have hro := HOP.out
      rw [hap] at hro
      have HOP := Lib.hid hro
      clear hro
      have hap2 := fun (W' : World) (hW : Below w4.heap.size w4 W') => rappend_r (HRR.out.below hW) name f hfz hN
      simp only [hap] at hap2
      have HAP := Lib.hid hap2
      clear hap hap2
      refine wp_region_cb [.blk [0, 1, 2, 3], .frc [4, 5], .take 7, .frc [6, 8, 9]] (by kernel_rfl) (by kernel_rfl) (fun _ _ _ _ _ h => h) ?_
      refine goS_cb ?_
      simp only [opsAt, List.filterMap_cons, List.filterMap_nil, List.getElem?_toArray, List.getElem?_cons_zero, List.getElem?_cons_succ]
      refine wpQuiet_loadB rfl 36 _ rfl w.heap.size rfl (fun W' hW => by obtain ⟨p, rfl⟩ := hW; exact ((bw_below w4 p).block _ hT.l0).trans hT.h0) _ Tryd.underlying36 rfl (by rw [Array.length_toList, hsz]; kernel_rfl) ?_
      iterate 2 quiet_step (fail)
      quiet_step (exact HFR.out _)
      refine wpQuiet_nil ?_
      rintro Wn ⟨pn, hWn⟩
      have hbn : Below w4.heap.size w4 Wn := by rw [hWn]; exact bw_below _ _
      clear hWn
      refine goS_frc ?_
      simp only [opsAt, List.filterMap_cons, List.filterMap_nil, List.getElem?_toArray, List.getElem?_cons_zero, List.getElem?_cons_succ]
      go_wp2_with (go_at_call 28; refine (HAP.out _ hbn).mono ?_; rintro e w5 ⟨cs5, rfl, hr5, hb5⟩)
      have hb45 : Below w4.heap.size w4 w5 := hbn.trans (hb5.mono hbn.size)
      have hA5 := HA4.out.to hb45
      have hrow5 := HRW.out.below hb45
      have h125 := (hb45.block b12 (Array.getElem?_eq_some_iff.1 h34).1).trans h34
      have hsz5 := hr5.size
      have hone5 := hr5.one
      have hw4n : w.heap.size ≤ Wn.heap.size := Nat.le_trans HA4.out.t.below.size hbn.size
      have hT5 := hA5.t
      clear hb5 hbn HFR HAP hT hA4
      refine goS_take (v := .int .i64 ce) rfl rfl (fun _ => rfl) ?_
      refine goS_last ?_
      simp only [opsAt, List.filterMap_cons, List.filterMap_nil, List.getElem?_toArray, List.getElem?_cons_zero, List.getElem?_cons_succ]
      go_upto_region 10 with (first
        | (refine wp_store0 hT5 rfl _ _ rfl rfl rfl hsz hsz5 hone5 ?_; intro w6 hT6 g6))
      have hA6 := hA5.st0 hT6 g6
      have hr6 := hr5.in0 hT5 g6
      have hrow6 := own_other hrow5 hT5.h0 (by decide) g6
      have h126 := (g6.block b12 (Array.getElem?_eq_some_iff.1 h125).1 (fun e => by injection e with e; omega)).trans h125
      have hRS : ∀ W', RR (Ku E Wn.heap.size) W' cs5 S6 (N + 1) → RR (Ku E w.heap.size) W' cs5 S6 (N + 1) := fun W' h => h.sub fun k hk _ => hk.elim .inl fun h => .inr (Nat.le_trans hw4n h)
      have HA6 := Lib.hid hA6
      clear hA5 hr5 hrow5 h125 g6 hT5
      by_cases hce : ce = 0
      · subst hce
        have hro := HOP.out
        rw [if_neg (by simp)] at hro
        have HOP := Lib.hid hro
        have hEm := OwnG.new0 w6 9 1
        have hsrc := src_ownG (P := Tryd.prog) (tx := 42) Tryd.underlying42 (hrow6.below (below_alloc w6 (.cells #[] 9))) (srow_one _)
        have h63 : 0 + L.length ≤ maxLen := by simp [maxLen]; omega
        have h47 : (0 + L.length) * 16 ≤ 140737488355328 := by omega
        clear hro
        go_upto_region 13 with (at_builtin; refine wp_appG rfl _ _ _ _ rfl strElem rfl rfl hEm rfl hsrc h63 h47 ?_; intro v7 w7 ho7 hg7 hv7)
        simp only [Nat.zero_add, List.nil_append] at ho7
        have hb67 : Below w6.heap.size w6 w7 := (((Below.refl _ w6).alloc (Nat.le_refl _) _).grown hg7 (by simp) (fun x e => by have e : some w6.heap.size = some x := e; injection e with e; omega))
        have hnew7 : ∀ k, v7.ownBlock = some k → w6.heap.size ≤ k := fun k hk => (hv7 k hk).elim (fun e => by have e : some w6.heap.size = some k := e; injection e with e; omega) (fun e => by simp at e; omega)
        have hA7 := HA6.out.to hb67
        have h127 := (hb67.block b12 (Array.getElem?_eq_some_iff.1 h126).1).trans h126
        have hr7 := hr6.below hb67
        have hT7 := hA7.t
        have hw6 : w.heap.size ≤ w6.heap.size := HA6.out.t.below.size
        have HA7 := Lib.hid hA7
        have HO7 := Lib.hid ho7
        have hl127 := (Array.getElem?_eq_some_iff.1 h127).1
        have hl126 : b12 < w6.heap.size := (Array.getElem?_eq_some_iff.1 h126).1
        clear hA7 ho7 hg7 hv7 hb67 hEm hsrc h63 h47 hr6 h126 hA6 hrow6
        refine wp_region_hld (fun W' => W'.heap[w.heap.size]? = some (.cells cs5 36 (0, 0)) ∧ W'.heap[b12]? = some (.cells (nums .u8 x) 47 (0, 0))) [0, 1, 2, 5] [3, 4, 6, 7, 8, 9] (by kernel_rfl) (by kernel_rfl) (fun _ _ _ _ _ h => h) ⟨hT7.h0, h127⟩ ?_
        refine ⟨_, rfl, .agg cs5, yields_loadB rfl 36 _ rfl w.heap.size rfl (fun W' hW => hW.1) _ Tryd.underlying36 rfl (by rw [Array.length_toList, hsz5]; kernel_rfl), ?_⟩
        refine ⟨_, rfl, v7, .inl ⟨rfl, fun _ _ => rfl⟩, ?_⟩
        refine ⟨_, rfl, .string s, .inl ⟨rfl, fun _ _ => rfl⟩, ?_⟩
        refine ⟨_, rfl, .agg (nums .u8 x), yields_loadB rfl 47 _ rfl b12 rfl (fun W' hW => hW.2) _ id_under rfl (idSz _ hx), ?_⟩
        refine goHF_step rfl fun K' hK' => ?_
        simp only [Act.put, List.setIfInBounds_toArray]
        go_wp2_with fail
        have hb8 : Below w7.heap.size w7 ((w7.drewN 1).alloc (.cells #[.string s] 9)) := (below_dN (Below.refl _ w7) 1).alloc (by simp) _
        have hA8 := HA7.out.to hb8
        have h128 := (hb8.block b12 hl127).trans h127
        have hO8 := HO7.out.below hb8
        have hr8 := hr7.below hb8
        have hsr : Src Tryd.prog 1 42 (.slice (some ⟨(w7.drewN 1).heap.size, 0, none⟩) 1 1) 1 (srow [bl s]) ((w7.drewN 1).alloc (.cells #[.string s] 9)) := by
          have h9 := Src.ofNew (P := Tryd.prog) (w := w7.drewN 1) (e := 9) (news := srow [bl s]) (size := 1) Tryd.underlying42 rfl (srow_one _)
          have h8 : srow [bl s] = [Value.string s] := by unfold srow; rw [List.map_singleton, ofL_bl]
          rw [h8] at h9 ⊢
          exact h9
        have h63 : L.length + 1 ≤ maxLen := by simp [maxLen]; omega
        have h47 : (L.length + 1) * 16 ≤ 140737488355328 := by omega
        refine ⟨⟨hA8.t.h0, h128⟩, ?_⟩
        refine goHF_step rfl fun K' hK' => ?_
        refine wp_appG (v := v7) (xv := .slice (some ⟨(w7.drewN 1).heap.size, 0, none⟩) 1 1) rfl _ _ _ _ rfl strElem rfl rfl hO8 rfl hsr h63 h47 ?_
        intro v9 w9 ho9 hg9 hv9
        have hown : ∀ k, v7.ownBlock = some k → w.heap.size + 3 ≤ k := fun k hk => by
          have h1 := hnew7 k hk
          have h2 : w.heap.size + 2 < w6.heap.size := (Array.getElem?_eq_some_iff.1 HA6.out.i).1
          omega
        have hA9 := hA8.grown hg9 hown
        have h129 := (hg9.block b12 (Array.getElem?_eq_some_iff.1 h128).1 (fun e => by have := hnew7 _ e.symm; omega)).trans h128
        have hr9 := hr8.row hO8 hg9
        refine hK' _ _ ⟨⟨hA9.t.h0, h129⟩, ?_⟩
        clear hK'
        refine goHF_step rfl fun K' hK' => ?_
        refine wp_store1 hA9.t rfl _ _ rfl rfl rfl rfl hsz5 hone5 ?_
        intro wA hTA gA
        have hAA := hA9.st1 hTA gA
        have h12A := (gA.block b12 (Array.getElem?_eq_some_iff.1 h129).1 (fun e => by injection e with e; omega)).trans h129
        refine hK' _ _ ⟨⟨hAA.t.h0, h12A⟩, ?_⟩
        clear hK'
        refine goHF_val rfl rfl (v := v9) rfl ⟨hAA.t.h0, h12A⟩ ?_
        refine goHF_step rfl fun K' hK' => ?_
        refine wp_storeB rfl 47 _ _ rfl (w.heap.size + 2) (nums .u8 x) rfl rfl hAA.i (by rw [nums_size, nums_size, hx.1]; rfl) (by rw [nums_size, hx.1]; kernel_rfl) (nums_one _ _) ?_
        intro wB hB gB
        have hAB := hAA.sti hB gB
        have h12B := (gB.block b12 (Array.getElem?_eq_some_iff.1 h12A).1 (fun e => by injection e with e; omega)).trans h12A
        refine hK' _ _ ⟨⟨hAB.t.h0, h12B⟩, ?_⟩
        clear hK'
        refine goHF_val rfl rfl (v := .int .i64 0) rfl ⟨hAB.t.h0, h12B⟩ ?_
        show Exit.then _ _ .normal _ _
        have hoB := own_other (own_other ho9 hA9.t.h1 (by decide) gA) hAA.i (by decide) gB
        have hrB := (hr9.in1 hA9.t gA).other hAA.i (by decide) gB
        go_wp2_with fail
        refine bodyPost_ret (results_ctct Tryd.results22 rfl rfl hAB.t.h1 hAB.i Tryd.underlying36 rfl (by rw [Array.length_toList, hsz5]; kernel_rfl) id_under rfl (idSz _ hx)) rfl ?_
        unfold RAddP
        rw [HOP.out]
        refine ⟨cs5, v9, rfl, hRS _ hrB, ?_, fun k hk => .inr ?_, hAB.t.below⟩
        · show OwnG _ _ 1 v9 (L ++ [bl s]).length (srow (L ++ [bl s]))
          rw [List.length_append]
          have : srow (L ++ [bl s]) = srow L ++ srow [bl s] := by unfold srow; rw [List.map_append]
          rw [this]
          exact hoB
        · rcases hv9 k hk with h | h
          · have := hnew7 k h; omega
          · have := hb8.size
            have h2 := HA7.out.t.below.size
            omega
      · have hro := HOP.out
        rw [if_pos hce] at hro
        have hne : (ce == 0) = false := by simpa using hce
        have hdd : decide (ce = 0) = false := decide_eq_false hce
        have hT6' := hA6.t
        go_wp2_with (first
          | (refine wp_load0 hT6' rfl _ rfl rfl hsz5 ?_)
          | (refine wp_store1 hT6' rfl _ _ rfl rfl rfl rfl hsz5 hone5 ?_; intro w7 hT7 g7; have hA7 := HA6.out.st1 hT7 g7; have hI7 := hA7.i)
          | (refine wp_storeB rfl 47 _ _ rfl (w.heap.size + 2) (nums .u8 PackS.zid) rfl rfl hI7 rfl (by rw [nums_size]; kernel_rfl) (nums_one _ _) ?_; intro w8 h8 g8))
        have hA8 := hA7.sti h8 g8
        refine bodyPost_ret (results_ctct Tryd.results22 rfl rfl hA8.t.h1 hA8.i Tryd.underlying36 rfl (by rw [Array.length_toList, hsz5]; kernel_rfl) id_under rfl (idSz _ okId_z)) rfl ?_
        unfold RAddP
        rw [hro]
        exact ⟨cs5, _, rfl, hRS _ ((hr6.in1 hT6' g7).other hI7 (by decide) g8), own_other (own_other hrow6 hT6'.h1 (by decide) g7) hI7 (by decide) g8, fun k hk => .inl hk, hA8.t.below⟩
end
end Go.Proofs.YtfoamcobpfflbaaDoor
