/- Texts of mine, joined: Walk: slices.BinarySearchFunc over files. -/
import Derived.Test.YtpcipdkoncmdcaaGreatDoorYJoinApart21
namespace Go.Proofs.YtpcipdkoncmdcaaGreatDoor
open Go Go.RowKit
set_option maxRecDepth 100000 in
set_option maxHeartbeats 2000000 in
theorem fcmpf_c {w : World} {f : Fi} (hf : OkFi f) {p : ByteArray} (hp : p.size ≤ 2000000) (hg : Gl w) : Calls Tryz.prog 44 #[.agg (fiC f).toArray, .string p] w fun e w' => e = .returned (.int .i64 (PathS.cmp f.path p)) ∧ Below w.heap.size w w' := by
  obtain ⟨W1, hW1⟩ : ∃ W1, w.alloc (.cells (fiC f).toArray 56 (0, 0)) = W1 := ⟨_, rfl⟩
  have hB1 : Below w.heap.size w W1 := by rw [← hW1]; exact (Below.refl _ w).alloc (Nat.le_refl _) _
  have hk : W1.cell? ⟨w.heap.size, 0, none⟩ = some (.string f.path) := by
    have : W1.heap[w.heap.size]? = some (.cells (fiC f).toArray 56 (0, 0)) := by rw [← hW1]; exact Array.getElem?_push_size
    simp only [World.cell?, this]; rfl
  have hz := hf.pz
  have HC := Lib.hid (cmp_c f.path p W1 (hg.below hB1 (Nat.le_refl _)) (by omega) (by omega))
  have HB1 := Lib.hid hB1
  have HW1 := Lib.hid hW1
  clear hB1 hW1 hg
  go_enter Tryz.func44, Tryz.ntmps44
  go_upto_region 1 with fail
  rw [HW1.out]
  go_wp2_with (go_at_call 27; refine HC.out.mono ?_; rintro e w2 ⟨rfl, hb2⟩)
  go_ret
  exact ⟨rfl, HB1.out.trans (hb2.mono HB1.out.size)⟩

theorem bsF_done {p : ByteArray} {l : List Fi} {m i j : Nat} (h : ¬ i < j) : bsF p l m i j = i := by
  cases m with
  | zero => rfl
  | succ m => unfold bsF; rw [if_neg h]
theorem bsF_step {p : ByteArray} {l : List Fi} {m i j : Nat} (h : i < j) (hj : j ≤ l.length) : bsF p l (m + 1) i j = if PathS.cmp (l[(i + j) / 2]'(by omega)).path p < 0 then bsF p l m ((i + j) / 2 + 1) j else bsF p l m i ((i + j) / 2) := by
  show (if i < j then _ else _) = _
  rw [if_pos h, List.getD_eq_getElem?_getD, List.getElem?_eq_getElem (by omega)]; rfl
theorem u64_small {s : Nat} (h : s ≤ 30000000) : IntKind.u64.wrap (s : Int) = (s : Int) := by rw [IntKind.wrap_u64]; omega
set_option maxRecDepth 100000 in
set_option maxHeartbeats 4000000 in
theorem fbs_c {w : World} {v : Value} {l : List Fi} (h : FS w v l) {p : ByteArray} (hp : p.size ≤ 2000000) (hg : Gl w) :
    Calls Tryz.prog 43 #[v, .string p, .func (.func 44) #[] #[]] w fun e w' => e = .returned (.tuple #[.int .i64 (bsI p l), .bool (bsB p l)]) ∧ Below w.heap.size w w' := by
  have HF := Lib.hid h
  have HG := Lib.hid hg
  have hn := h.n
  have eg : ∀ args w, (callFunc 44 args).run Tryz.prog w = .ok (.enter 44 args) w := enters_of Tryz.func44 (by kernel_rfl) rfl
  obtain ⟨a, c, rfl⟩ := h.lit
  have H0 : Hid (bsI p l = bsF p l l.length 0 l.length) := rfl
  clear h hg
  go_enter Tryz.func43, Tryz.ntmps43
  go_upto_region 3 with fail
  go_loopw [9, 10] (fun iv jv wx => ∃ i j : Nat, iv = .int .i64 i ∧ jv = .int .i64 j ∧ i ≤ j ∧ j ≤ l.length ∧ (∃ m, j - i ≤ m ∧ Hid (bsI p l = bsF p l m i j)) ∧ Hid (Below w.heap.size w wx)) (fun iv jv _ => (intOf jv - intOf iv).toNat)
  case atStart => exact ⟨0, l.length, rfl, rfl, Nat.zero_le _, Nat.le_refl _, ⟨l.length, by omega, H0.out⟩, Below.refl _ _⟩
  case round =>
    clear H0
    obtain ⟨i, j, rfl, rfl, hij, hjn, ⟨m, hm, HBI⟩, HB⟩ := hrel
    by_cases hlt : i < j
    · have d1 : decide ((i : Int) < (j : Int)) = true := decide_eq_true (by omega)
      have d2 : decide (i < j) = true := decide_eq_true hlt
      obtain ⟨m', hm'⟩ : ∃ m', m = m' + 1 := ⟨m - 1, by omega⟩
      subst hm'
      have hst := bsF_step (p := p) (m := m') hlt hjn
      rw [← HBI.out] at hst
      obtain ⟨q, hq⟩ : ∃ q, (i + j) / 2 = q := ⟨_, rfl⟩
      have hql : q < l.length := by omega
      have hq1 : i ≤ q := by omega
      have hq2 : q < j := by omega
      simp only [hq] at hst
      have s1 : IntKind.i64.wrap ((i : Int) + (j : Int)) = ((i + j : Nat) : Int) := IntWalk.i64_in _ (by omega)
      obtain ⟨s, hs⟩ : ∃ s, i + j = s := ⟨_, rfl⟩
      rw [hs] at s1 hq
      have s2 := u64_small (s := s) (by omega)
      have s3 : (s : Int) / 2 = (q : Int) := by omega
      have s4 : IntKind.i64.wrap (q : Int) = (q : Int) := IntWalk.i64_in _ (by omega)
      have q0 : (0 : Int) ≤ (q : Int) := by omega
      have q1 : (q : Int) < (l.length : Int) := by omega
      have qw : IntKind.i64.wrap ((q : Int) + 1) = ((q + 1 : Nat) : Int) := IntWalk.i64_in _ (by omega)
      obtain ⟨b, o, c', e, hbl, hr⟩ := (HF.out.below HB.out).at hql
      injection e with e1 e2 e3
      clear e2 e3
      subst e1
      have HR : Hid (wr.rangeAt b (o + q * 34) (fiC l[q])) := hr q hql
      have HOK : Hid (OkFi l[q]) := HF.out.ok _ (List.getElem_mem hql)
      have HCL : Hid ((Tryz.prog.info? 56).map (·.size) = some (fiC l[q]).length) := by show _ = _; rw [fiC_len HOK.out]; exact fiInfo
      have HC := Lib.hid (fun W hg => fcmpf_c (w := W) HOK.out hp hg)
      have HST := Lib.hid hst
      clear hst hr hbl hq hs HBI
      generalize l[q] = x at *
      obtain ⟨z, hz⟩ : ∃ z, PathS.cmp x.path p = z := ⟨_, rfl⟩
      rw [hz] at HC HST
      have HGR : Hid (Gl wr) := HG.out.below HB.out (Nat.le_refl _)
      clear hz
      by_cases h0 : z < 0
      · have e0 : decide (z < 0) = true := decide_eq_true h0
        have HN : Hid (Hid (bsI p l = bsF p l m' (q + 1) j)) := by show _ = _; rw [HST.out, if_pos h0]
        clear HST h0
        go_wp2_with (first
          | (refine wpList_load_mid rfl 56 _ rfl b (o + q * 34) rfl (fiC x) _ HR.out Tryz.underlying56 rfl HCL.out ?_)
          | (go_at_fn 44; refine (HC.out wr HGR.out).mono ?_; rintro e w2 ⟨rfl, hb2⟩))
        go_roundw
        case rel => exact ⟨q + 1, j, by go_num, rfl, hq2, hjn, ⟨m', by omega, HN.out⟩, HB.out.trans (hb2.mono HB.out.size)⟩
        case measure => simp [intOf]; omega
      · have e0 : decide (z < 0) = false := decide_eq_false h0
        have HN : Hid (Hid (bsI p l = bsF p l m' i q)) := by show _ = _; rw [HST.out, if_neg h0]
        clear HST h0
        go_wp2_with (first
          | (refine wpList_load_mid rfl 56 _ rfl b (o + q * 34) rfl (fiC x) _ HR.out Tryz.underlying56 rfl HCL.out ?_)
          | (go_at_fn 44; refine (HC.out wr HGR.out).mono ?_; rintro e w2 ⟨rfl, hb2⟩))
        go_roundw
        case rel => exact ⟨i, q, rfl, rfl, hq1, by omega, ⟨m', by omega, HN.out⟩, HB.out.trans (hb2.mono HB.out.size)⟩
        case measure => simp [intOf]; omega
    · have d1 : decide ((i : Int) < (j : Int)) = false := decide_eq_false (by omega)
      have d2 : decide (i < j) = false := decide_eq_false hlt
      have HI : Hid (bsI p l = i) := by show _ = _; rw [HBI.out, bsF_done hlt]
      have i0 : (0 : Int) ≤ (i : Int) := by omega
      clear HBI
      by_cases hil : i < l.length
      · have i1 : (i : Int) < (l.length : Int) := by omega
        have e1 : decide ((i : Int) < (l.length : Int)) = true := decide_eq_true i1
        have e2 : decide (i < l.length) = true := decide_eq_true hil
        obtain ⟨b, o, c', e, hbl, hr⟩ := (HF.out.below HB.out).at hil
        injection e with f1 f2 f3
        clear f2 f3
        subst f1
        have HR : Hid (wr.rangeAt b (o + i * 34) (fiC l[i])) := hr i hil
        have HOK : Hid (OkFi l[i]) := HF.out.ok _ (List.getElem_mem hil)
        have HCL : Hid ((Tryz.prog.info? 56).map (·.size) = some (fiC l[i]).length) := by show _ = _; rw [fiC_len HOK.out]; exact fiInfo
        have HC := Lib.hid (fun W hg => fcmpf_c (w := W) HOK.out hp hg)
        have HGR : Hid (Gl wr) := HG.out.below HB.out (Nat.le_refl _)
        have HBB : Hid (bsB p l = decide (PathS.cmp l[i].path p = 0)) := by show _ = _; unfold bsB; rw [HI.out, List.getElem?_eq_getElem hil]
        clear hr hbl
        generalize l[i] = x at *
        obtain ⟨z, hz⟩ : ∃ z, PathS.cmp x.path p = z := ⟨_, rfl⟩
        rw [hz] at HC HBB
        clear hz
        obtain ⟨y, hy⟩ : ∃ y, decide (z = 0) = y := ⟨_, rfl⟩
        have hy2 : (z == 0) = y := by rw [← hy]; by_cases h : z = 0 <;> simp [h]
        rw [hy] at HBB
        clear hy
        go_upto_region 8 with fail
        refine goP_start ?_
        refine goP_mv rfl 35 rfl _ rfl (.int .i64 i) rfl ?_; simp only [zT, zA, zB]
        refine goP_mv rfl 36 rfl _ rfl (.int .i64 i) rfl ?_; simp only [zT, zA, zB]
        refine goP_mv rfl 37 rfl _ rfl (.int .i64 l.length) rfl ?_; simp only [zT, zA, zB]
        refine goP_tk rfl 38 rfl (.bool true) (by go_simp) ?_; simp only [zT, zA, zB]
        refine goP_mv rfl 39 rfl _ rfl (.bool true) rfl ?_; simp only [zT, zA, zB]
        refine goP_mv rfl 40 rfl _ rfl (.func (.func 44) #[] #[]) rfl ?_; simp only [zT, zA, zB]
        refine goP_mv rfl 41 rfl _ rfl (.slice (some ⟨b, o, none⟩) l.length c) rfl ?_; simp only [zT, zA, zB]
        refine goP_mv rfl 42 rfl _ rfl (.int .i64 i) rfl ?_; simp only [zT, zA, zB]
        refine goP_tk rfl 43 rfl (.pointer (some ⟨b, o + i * 34, none⟩)) (by go_simp) ?_; simp only [zT, zA, zB]
        refine goP_ld rfl 44 rfl 56 _ rfl ⟨b, o + i * 34, none⟩ (.agg (fiC x).toArray) rfl ((run_loadAt_mid (P := Tryz.prog) wr b (o + i * 34) 56 (fiC x) _ HR.out Tryz.underlying56 rfl HCL.out)) ?_; simp only [zT, zA, zB]
        refine goP_mv rfl 45 rfl _ rfl (.string p) rfl ?_; simp only [zT, zA, zB]
        refine goP_out ?_
        go_wp2_with (go_at_fn 44; refine (HC.out wr HGR.out).mono ?_; rintro e w2 ⟨rfl, hb2⟩)
        go_ret2
        exact ⟨by rw [HI.out, HBB.out]; rfl, HB.out.trans (hb2.mono HB.out.size)⟩
      · have e1 : decide ((i : Int) < (l.length : Int)) = false := decide_eq_false (by omega)
        have e2 : decide (i < l.length) = false := decide_eq_false hil
        have HBB : Hid (bsB p l = false) := by show _ = _; unfold bsB; rw [HI.out, List.getElem?_eq_none (by omega)]
        go_wp2_with fail
        go_ret2
        exact ⟨by rw [HI.out, HBB.out]; rfl, HB.out⟩
end Go.Proofs.YtpcipdkoncmdcaaGreatDoor
