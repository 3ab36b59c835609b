/- Texts of mine, joined: Walks: the document's Open. -/
import Derived.Test.YtfoamcobpfflbaaDoorZ43
namespace Go.Proofs.YtfoamcobpfflbaaDoor
open Go Go.RowKit Go.Maps
open VfsS (St)

theorem results_cell_tmp2 {P : Program} {w : World} {fn : Func} {t u v : Tmp} {ty : TypeId} (h : fn.results = #[.cell t ty, .tmp u, .tmp v]) {tmps : Array Value} {b : Nat} (ht : tmps.getD t undef = .pointer (some ⟨b, 0, none⟩)) {cs : Array Value} {e : TypeId} {fr : Nat × Nat} (hb : w.heap[b]? = some (.cells cs e fr)) {d : TypeDesc}
    (hu : P.underlying ty = some d) (hd : d.isRow = true) (hi : (P.info? ty).map (·.size) = some cs.toList.length) : (results fn tmps).run P w = .ok (.tuple #[.agg cs, tmps.getD u undef, tmps.getD v undef]) w := by
  have hl := run_loadVar_mid (P := P) w b 0 ty cs.toList d (fun j v hj => by
    rw [Nat.zero_add]; simp only [World.cell?, hb]; rw [← Array.getElem?_toList]; exact hj) hu hd hi
  have ht' : tmps[t]?.getD undef = .pointer (some ⟨b, 0, none⟩) := by rw [← ht]; simp [Array.getD_eq_getD_getElem?]
  simp [results, h, ht', asAddr, hl, Result.andThen]

/-- A row of texts, the call's own. -/
structure TR (w w' : World) (v : Value) (L : List (List Nat)) : Prop where
  r : OwnG w' 9 1 v L.length (srow L)
  new : ∀ k, v.ownBlock = some k → w.heap.size ≤ k
theorem TR.nil (w w' : World) : TR w w' (.slice none 0 0) [] := ⟨OwnG.nil _ _ _, fun k h => by cases h⟩

section
variable {E : Nat → Prop} {w : World} {cs : Array Value} {S : St} {N : Nat}
/-- What the document's Open tells. -/
def ROpenP (E : Nat → Prop) (w : World) (S : St) (N : Nat) (s : ByteArray) (e : Ending) (w' : World) : Prop :=
  ∃ cs' v, e = .returned (.tuple #[.agg cs', v, .int .i64 (PackS.ropened S s).2.2]) ∧ RR (Ku E w.heap.size) w' cs' (PackS.ropened S s).1 (N + 1) ∧ TR w w' v (PackS.ropened S s).2.1 ∧ Below w.heap.size w w'

set_option maxRecDepth 100000 in
set_option maxHeartbeats 1000000 in
theorem ropen_c (h : RR E w cs S N) (s : ByteArray) (hN : N + 1 ≤ 40000000) :
    Calls Tryd.prog 29 #[.agg cs, .string s] w (ROpenP E w S N s) := by
  have hsz := h.size
  have hone := h.one
  have hT : TB w ((w.alloc (.cells cs 36)).alloc (.cells #[.slice none 0 0, .slice none 0 0, .slice none 0 0, .slice none 0 0, .int .i64 0, .int .i64 0, .int .i64 0] 36)) w.heap.size (w.heap.size + 1) cs fs0 := TB.start w _ _
  have hrW := h.below hT.below
  have hwf := h.wf
  have HH := Lib.hid h
  clear h
  go_enter Tryd.func29, Tryd.ntmps29
  go_upto_region 1 with fail
  generalize (w.alloc (.cells cs 36)).alloc (.cells #[.slice none 0 0, .slice none 0 0, .slice none 0 0, .slice none 0 0, .int .i64 0, .int .i64 0, .int .i64 0] 36) = W at *
  have hrd := rread_r hrW s
  have HWF := Lib.hid hwf
  cases hr : VfsS.readS S s with
  | none =>
    have hop : PackS.ropened S s = (S, [], 4) := by unfold PackS.ropened; rw [hr]
    rw [hr] at hrd
    have hrd : Calls Tryd.prog 35 #[.agg cs, .string s] W fun e w' => e = .returned (.tuple #[.string ByteArray.empty, .int .i64 4]) ∧ Below W.heap.size W w' := hrd
    have HRD := Lib.hid hrd
    clear hrd hr hwf
    go_wp2_with (first
      | (refine wp_load0 hT rfl _ rfl rfl hsz ?_)
      | (go_at_call 35; refine HRD.out.mono ?_; rintro e w1 ⟨rfl, hb1⟩; have hT1 := hT.to hb1)
      | (refine wp_load0 hT1 rfl _ rfl rfl hsz ?_)
      | (refine wp_store1 hT1 rfl _ _ rfl rfl rfl rfl hsz hone ?_; intro w2 hT2 g2))
    refine bodyPost_ret (results_cell_tmp2 Tryd.results29 rfl hT2.h1 Tryd.underlying36 rfl (by rw [Array.length_toList, hsz]; kernel_rfl)) rfl ?_
    unfold ROpenP
    rw [hop]
    exact ⟨cs, _, rfl, ((((hrW.below hb1).in1 hT1 g2).up _).mono (by omega) hN), TR.nil _ _, hT2.below⟩
  | some t =>
    have htz : (bl t).length ≤ 4194304 := by rw [bl_len]; exact read_size hwf hr
    have hop : PackS.ropened S s = if (PackS.scan (bl t)).2 < (bl t).length then
      (if (VfsS.cutS S s (PackS.scan (bl t)).2).2 ≠ 0 then ((VfsS.cutS S s (PackS.scan (bl t)).2).1, [], (VfsS.cutS S s (PackS.scan (bl t)).2).2)
       else ((VfsS.cutS S s (PackS.scan (bl t)).2).1, (PackS.scan (bl t)).1, 0))
    else (S, (PackS.scan (bl t)).1, 0) := by unfold PackS.ropened; rw [hr, bl_len]
    rw [hr] at hrd
    have hrd : Calls Tryd.prog 35 #[.agg cs, .string s] W fun e w' => e = .returned (.tuple #[.string t, .int .i64 0]) ∧ Below W.heap.size W w' := hrd
    have HRD := Lib.hid hrd
    have HSC := fun W' => rscan_c (w := W') t (by rw [← bl_len]; omega)
    have HSC := Lib.hid HSC
    have hts : (t.size : Int) = ((bl t).length : Int) := by rw [bl_len]
    obtain ⟨n3, hn3⟩ : ∃ n3, (PackS.scan (bl t)).2 = n3 := ⟨_, rfl⟩
    obtain ⟨L3, hL3⟩ : ∃ L3, (PackS.scan (bl t)).1 = L3 := ⟨_, rfl⟩
    rw [hn3, hL3] at hop
    have HOP := Lib.hid hop
    have HN3 := Lib.hid hn3
    have HL3 := Lib.hid hL3
    have HTS := Lib.hid (bl_len t)
    clear hrd hr hwf hop hn3 hL3 hts
    go_upto_region 5 with (first
      | (refine wp_load0 hT rfl _ rfl rfl hsz ?_)
      | (go_at_call 35; refine HRD.out.mono ?_; rintro e w1 ⟨rfl, hb1⟩; have hT1 := hT.to hb1)
      | (go_at_call 39; refine (HSC.out _).mono ?_; rintro e w2 ⟨v2, rfl, hR2⟩))
    rw [HN3.out]
    rw [HL3.out] at hR2
    have hT2 := hT1.to hR2.b
    have hr2 := (hrW.below hb1).below hR2.b
    have hv2 : TR w w2 v2 L3 := ⟨hR2.r, fun k hk => Nat.le_trans (Nat.le_trans hT.below.size hb1.size) (hR2.new k hk)⟩
    have HV2 := Lib.hid hv2
    clear hT hT1 hrW HRD HSC hR2 hv2 hb1
    by_cases hlt : n3 < (bl t).length
    · have hop := HOP.out
      rw [if_pos hlt] at hop
      have hd : decide ((n3 : Int) < (t.size : Int)) = true := decide_eq_true (by have := HTS.out; omega)
      have hd' : decide (n3 < t.size) = true := decide_eq_true (by have := HTS.out; omega)
      have hct := rcut_r hr2 s n3 hN
      obtain ⟨S4, ce, hce⟩ : ∃ S4 ce, VfsS.cutS S s n3 = (S4, ce) := ⟨_, _, rfl⟩
      rw [hce] at hct hop
      have HCT := Lib.hid hct
      have HOP := Lib.hid hop
      clear hct hop hce
      go_upto_region 7 with (first
        | (refine wp_load0 hT2 rfl _ rfl rfl hsz ?_)
        | (go_at_call 71; refine HCT.out.mono ?_; rintro e w3 ⟨cs3, rfl, hr3, hb3⟩; have hT3 := hT2.to hb3; have hsz3 := hr3.size; have hone3 := hr3.one)
        | (refine wp_store0 hT3 rfl _ _ rfl rfl rfl hsz hsz3 hone3 ?_; intro w4 hT4 g4))
      have hr4 := hr3.in0 hT3 g4
      have HV4 : Hid (TR w w4 v2 L3) := ⟨own_other (HV2.out.r.below hb3) hT3.h0 (by decide) g4, HV2.out.new⟩
      have hw2 : w.heap.size ≤ w2.heap.size := hT2.below.size
      clear hT3 g4 hr3 hb3 HCT
      by_cases hce : ce = 0
      · subst hce
        have hop := HOP.out
        rw [if_neg (by simp)] at hop
        go_wp2_with (first
          | (refine wp_load0 hT4 rfl _ rfl rfl hsz3 ?_)
          | (refine wp_store1 hT4 rfl _ _ rfl rfl rfl rfl hsz3 hone3 ?_; intro w5 hT5 g5))
        refine bodyPost_ret (results_cell_tmp2 Tryd.results29 rfl hT5.h1 Tryd.underlying36 rfl (by rw [Array.length_toList, hsz3]; kernel_rfl)) rfl ?_
        unfold ROpenP
        rw [hop]
        exact ⟨cs3, v2, rfl, (hr4.in1 hT4 g5).sub (fun k hk _ => hk.elim .inl fun h => .inr (Nat.le_trans hw2 h)), ⟨own_other HV4.out.r hT4.h1 (by decide) g5, HV4.out.new⟩, hT5.below⟩
      · have hop := HOP.out
        rw [if_pos hce] at hop
        have hne : (ce == 0) = false := by simpa using hce
        have hdd : decide (ce = 0) = false := decide_eq_false hce
        go_wp2_with (first
          | (refine wp_load0 hT4 rfl _ rfl rfl hsz3 ?_)
          | (refine wp_store1 hT4 rfl _ _ rfl rfl rfl rfl hsz3 hone3 ?_; intro w5 hT5 g5))
        refine bodyPost_ret (results_cell_tmp2 Tryd.results29 rfl hT5.h1 Tryd.underlying36 rfl (by rw [Array.length_toList, hsz3]; kernel_rfl)) rfl ?_
        unfold ROpenP
        rw [hop]
        exact ⟨cs3, _, rfl, (hr4.in1 hT4 g5).sub (fun k hk _ => hk.elim .inl fun h => .inr (Nat.le_trans hw2 h)), TR.nil _ _, hT5.below⟩
    · have hop := HOP.out
      rw [if_neg hlt] at hop
      have hd : decide ((n3 : Int) < (t.size : Int)) = false := decide_eq_false (by have := HTS.out; omega)
      have hd' : decide (n3 < t.size) = false := decide_eq_false (by have := HTS.out; omega)
      go_wp2_with (first
        | (refine wp_load0 hT2 rfl _ rfl rfl hsz ?_)
        | (refine wp_store1 hT2 rfl _ _ rfl rfl rfl rfl hsz hone ?_; intro w3 hT3 g3))
      refine bodyPost_ret (results_cell_tmp2 Tryd.results29 rfl hT3.h1 Tryd.underlying36 rfl (by rw [Array.length_toList, hsz]; kernel_rfl)) rfl ?_
      unfold ROpenP
      rw [hop]
      exact ⟨cs, v2, rfl, (((hr2.in1 hT2 g3).up _).mono (by omega) hN), ⟨own_other HV2.out.r hT2.h1 (by decide) g3, HV2.out.new⟩, hT3.below⟩
end
end Go.Proofs.YtfoamcobpfflbaaDoor
