/- Texts of mine, joined: Walk of the document's weaving: lines closed. | Walk of the document's weaving: parts told as lines. | The document's parts, place by place, are the parts: plain. -/
import Derived.Test.YtpcipdkoncmdcaaGreatDoorYJoinMerges30
namespace Go.Proofs.YtpcipdkoncmdcaaGreatDoor
open Go Go.RowKit
theorem suf_empty {x : ByteArray} (h : x.size = 0) : Lib.hasSuffix x.data.toList [10] = false := by
  have : x.data.toList = [] := List.eq_nil_of_length_eq_zero (by rw [← Lib.size_eq]; exact h)
  rw [this]; rfl
theorem suf_last {x : ByteArray} {m : Nat} (h : x.size = m + 1) : Lib.hasSuffix x.data.toList [10] = decide ((x[m]'(by omega)) = 10) := by
  have hl : x.data.toList.length = m + 1 := by rw [← Lib.size_eq]; exact h
  have hd : x.data.toList.drop m = [x[m]'(by omega)] := by
    rw [List.drop_eq_getElem_cons (by omega), List.drop_of_length_le (by omega)]; rfl
  rw [← Lib.hasSuffix_of_drop]
  rw [show x.data.toList.length - [(10 : UInt8)].length = m by rw [hl]; rfl, hd]
  rw [Bool.eq_iff_iff]
  simp [hl]

set_option maxRecDepth 100000 in
set_option maxHeartbeats 4000000 in
theorem rclosed_c {w : World} {v : Value} {l : List ByteArray} (h : Tl w v l) (hl : l.length ≤ 10000000) (hz : ∀ s ∈ l, s.size ≤ 100000000) : Calls Tryz.prog 97 #[v] w fun e w' => ∃ v', e = .returned v' ∧ OwnG w' 9 1 v' (JoinS.closed l).length (lrow (JoinS.closed l)) ∧ (∀ b, v'.ownBlock = some b → w.heap.size ≤ b) ∧ Below w.heap.size w w' := by
  obtain ⟨a, c, rfl, hc1, hc2, hc3, hs⟩ := h
  have hBE : Below w.heap.size w (w.alloc (.cells #[] 9)) := (Below.refl _ w).alloc (Nat.le_refl _) _
  rcases hk : l.length with _ | k
  · have e0 : l = [] := List.eq_nil_of_length_eq_zero hk
    subst e0
    have hsrc : Src Tryz.prog 1 82 (.slice a 0 c) 0 [] (w.alloc (.cells #[] 9)) := by
      cases a with
      | none => exact Src.ofNil _ Tryz.underlying82 c
      | some ad => exact Src.ofSlice _ Tryz.underlying82 _ 0 c [] rfl (fun j u hu => nomatch hu) (fun u hu => nomatch hu)
    have HSRC := Lib.hid hsrc
    have HBE := Lib.hid hBE
    have HOW : Hid (OwnG (w.alloc (.cells #[] 9)) 9 1 (.slice (some ⟨w.heap.size, 0, none⟩) 0 0) 0 []) := ⟨rfl, .inr ⟨w.heap.size, 0, 0, #[], rfl, Array.getElem?_push_size, Nat.le_refl _, Nat.zero_le _, Nat.zero_le _, fun j u hu => nomatch hu⟩⟩
    clear hs hc1 hc2 hc3 hsrc hBE hz hl hk
    have d1 : decide ((0 : Int) > 0) = false := by decide
    go_enter Tryz.func97, Tryz.ntmps97
    go_upto_region 2 with (refine wp_app0 rfl _ _ _ _ rfl ES rfl rfl HSRC.out ?_)
    go_upto_region 3 with fail
    refine wp_region_hz (fun _ => True) (.tk 0 (.tk 1 (.tk 2 (.tk 3 (.tk 4 (.tk 5 (.tk 6 (.tk 7 (.tk 8 (.tk 9 (.tk 10 (.tk 11 (.tk 12 (.tk 13 (.tk 14 (.tk 15 (.tk 16 (.tk 17 (.tk 18 (.tk 19 (.tk 20 (.tk 21 (.tk 22 (.tk 23 (.tk 24 (.tk 25 (.nil))))))))))))))))))))))))))) (by kernel_rfl) (by kernel_rfl) (fun _ _ _ _ _ h => h) ?_
    refine goZ_tk rfl rfl 10 rfl (.int .i64 0) (fun _ => rfl) ?_; simp only [zT, zA, zB]
    refine goZ_tk rfl rfl 11 rfl (.bool false) (fun _ => by go_simp) ?_; simp only [zT, zA, zB]
    refine goZ_tk rfl rfl 12 rfl (.bool false) (fun _ => rfl) ?_; simp only [zT, zA, zB]
    refine goZ_no rfl rfl 13 rfl ?_; simp only [zT, zA, zB]
    refine goZ_no rfl rfl 14 rfl ?_; simp only [zT, zA, zB]
    refine goZ_no rfl rfl 15 rfl ?_; simp only [zT, zA, zB]
    refine goZ_no rfl rfl 16 rfl ?_; simp only [zT, zA, zB]
    refine goZ_no rfl rfl 17 rfl ?_; simp only [zT, zA, zB]
    refine goZ_no rfl rfl 18 rfl ?_; simp only [zT, zA, zB]
    refine goZ_no rfl rfl 19 rfl ?_; simp only [zT, zA, zB]
    refine goZ_no rfl rfl 20 rfl ?_; simp only [zT, zA, zB]
    refine goZ_no rfl rfl 21 rfl ?_; simp only [zT, zA, zB]
    refine goZ_no rfl rfl 22 rfl ?_; simp only [zT, zA, zB]
    refine goZ_no rfl rfl 23 rfl ?_; simp only [zT, zA, zB]
    refine goZ_no rfl rfl 24 rfl ?_; simp only [zT, zA, zB]
    refine goZ_no rfl rfl 25 rfl ?_; simp only [zT, zA, zB]
    refine goZ_no rfl rfl 26 rfl ?_; simp only [zT, zA, zB]
    refine goZ_no rfl rfl 27 rfl ?_; simp only [zT, zA, zB]
    refine goZ_no rfl rfl 28 rfl ?_; simp only [zT, zA, zB]
    refine goZ_no rfl rfl 29 rfl ?_; simp only [zT, zA, zB]
    refine goZ_no rfl rfl 30 rfl ?_; simp only [zT, zA, zB]
    refine goZ_no rfl rfl 31 rfl ?_; simp only [zT, zA, zB]
    refine goZ_no rfl rfl 32 rfl ?_; simp only [zT, zA, zB]
    refine goZ_no rfl rfl 33 rfl ?_; simp only [zT, zA, zB]
    refine goZ_no rfl rfl 34 rfl ?_; simp only [zT, zA, zB]
    refine goZ_tk rfl rfl 35 rfl (.bool false) (fun _ => rfl) ?_; simp only [zT, zA, zB]
    refine goZ_end ?_
    go_wp2_with fail
    go_ret
    exact ⟨_, rfl, HOW.out, (fun b hb => by cases hb; exact Nat.le_refl _), HBE.out.trans (below_dN (Below.refl w.heap.size _) 1)⟩
  · have hsrc : Src Tryz.prog 1 82 (.slice a (k + 1) c) (k + 1) (lrow l) (w.alloc (.cells #[] 9)) := by
      obtain ⟨b, o, e, hlt, hc⟩ := (hs.below hBE).resolve_left (fun e => by have h1 := congrArg List.length e; unfold lrow at h1; rw [List.length_map] at h1; simp at h1; rw [h1] at hk; simp at hk)
      subst e
      refine Src.ofSlice _ Tryz.underlying82 _ (k + 1) c _ (by unfold lrow; rw [List.length_map, hk]; omega) (fun j u hu => by rw [Addr.add_lit]; exact hc j u hu) (fun u hu => ?_)
      obtain ⟨x, -, rfl⟩ := List.mem_map.1 hu; rfl
    have HSRC := Lib.hid hsrc
    have HBE := Lib.hid hBE
    have hkb : k < 10000000 := by omega
    have hsz := hz _ (List.getElem_mem (by omega : k < l.length))
    have HCD : Hid (JoinS.closed l = if Lib.hasSuffix (l[k]'(by omega)).data.toList [10] then l else l.set k ((l[k]'(by omega)) ++ ⟨#[10]⟩)) := by
      show _ = _
      unfold JoinS.closed
      rw [last_get hk, set_last hk]; rfl
    have HLK : Hid ((lrow l)[k]? = some (.string (l[k]'(by omega)))) := by show _ = _; unfold lrow; rw [List.getElem?_map, List.getElem?_eq_getElem (by omega)]; rfl
    have HK := Lib.hid hk
    have d1 : decide ((k : Int) + 1 > 0) = true := decide_eq_true (by omega)
    have d2 : decide (0 < k + 1) = true := decide_eq_true (by omega)
    have d3 : IntKind.i64.wrap ((k : Int) + 1 - 1) = (k : Int) := by rw [show (k : Int) + 1 - 1 = (k : Int) by omega]; exact IntWalk.i64_in _ (by omega)
    have d4 : IntKind.i64.wrap (k : Int) = (k : Int) := IntWalk.i64_in _ (by omega)
    have hk0 : (0 : Int) ≤ (k : Int) := by omega
    have hk1 : (k : Int) < (k : Int) + 1 := by omega
    clear hs hc1 hc2 hc3 hsrc hBE hz hl
    generalize l[k]'(by omega) = x at *
    clear hk
    go_enter Tryz.func97, Tryz.ntmps97
    go_upto_region 2 with (refine wp_appNew rfl _ _ _ _ rfl ES rfl rfl rfl HSRC.out (by omega) (by simp [maxLen]; omega) (by omega) ?_; intro cv w5 hcv ho2 hb2)
    rw [show (w.alloc (.cells #[] 9)).heap.size = w.heap.size + 1 by simp] at ho2
    have HO := Lib.hid ho2
    have HB5 := Lib.hid (HBE.out.trans (hb2.mono HBE.out.size))
    have HG : Hid (w.heap.size ≤ w.heap.size + 1) := Nat.le_succ _
    clear ho2 hb2 hcv HSRC HBE
    generalize w.heap.size + 1 = g at *
    have hfin : ∀ W, Below w.heap.size w W → W.heap[g]? = w5.heap[g]? → OwnG W 9 1 (.slice (some ⟨g, 0, none⟩) (k + 1) cv) (k + 1) (lrow l) := fun W _ hb => HO.out.block (fun j hj => by cases hj; exact hb)
    have hcell : w5.cell? ⟨g, k, none⟩ = some (.string x) := HO.out.cell HLK.out
    go_upto_region 3 with fail
    have hs0 : (w5.drewN 1).cell? ⟨g, k, none⟩ = some (.string x) := hcell
    have HOd : Hid (OwnG (w5.drewN 1) 9 1 (.slice (some ⟨g, 0, none⟩) (k + 1) cv) (k + 1) (lrow l)) := HO.out.drewN 1
    have HBd : Hid (Below w.heap.size w (w5.drewN 1)) := below_dN HB5.out 1
    have hfz5 : w5.frozen? ⟨g, k, none⟩ = false := by
      obtain ⟨cur, hcur⟩ := HO.out.tag (k := g) rfl
      simp [World.frozen?, hcur]
    have hfz : (w5.drewN 1).frozen? ⟨g, k, none⟩ = false := hfz5
    have HSET : Hid (OwnG ((w5.drewN 1).setCell ⟨g, k, none⟩ (.string (x ++ ⟨#[10]⟩))) 9 1 (.slice (some ⟨g, 0, none⟩) (k + 1) cv) (k + 1) ((lrow l).set k (.string (x ++ ⟨#[10]⟩)))) := by
      have h := HOd.out.setAt k (by unfold lrow; rw [List.length_map, HK.out]; omega) (.string (x ++ ⟨#[10]⟩))
      rw [Nat.zero_add] at h; exact h
    have HLS : Hid (lrow (l.set k (x ++ ⟨#[10]⟩)) = (lrow l).set k (.string (x ++ ⟨#[10]⟩))) := by show _ = _; unfold lrow; rw [List.map_set]
    have HGS := Lib.hid (grown_set (w5.drewN 1) g k (.string (x ++ ⟨#[10]⟩)))
    have HFIN : Hid (Lib.hasSuffix x.data.toList [10] = false → OwnG ((w5.drewN 1).setCell ⟨g, k, none⟩ (.string (x ++ ⟨#[10]⟩))) 9 1 (.slice (some ⟨g, 0, none⟩) (k + 1) cv) (JoinS.closed l).length (lrow (JoinS.closed l)) ∧ Below w.heap.size w ((w5.drewN 1).setCell ⟨g, k, none⟩ (.string (x ++ ⟨#[10]⟩)))) := by
      intro hsf
      rw [HCD.out, hsf, if_neg (by simp), HLS.out, List.length_set, HK.out]
      exact ⟨HSET.out, HBd.out.grown HGS.out HBd.out.size (fun j hj => by cases hj; exact HG.out)⟩
    clear hcell hfin hfz5 HO HB5 HSET HLS HGS
    by_cases h0 : x.size = 0
    · have hem : x.toList.isEmpty = true := by rw [isEmpty_iff]; simpa using h0
      have HSF := Lib.hid (suf_empty h0)
      clear h0
      refine wp_region_hz (fun W => W.cell? ⟨g, k, none⟩ = some (.string x)) (.tk 0 (.tk 1 (.tk 2 (.tk 3 (.tk 4 (.tk 5 (.tk 6 (.tk 7 (.tk 8 (.tk 9 (.tk 10 (.tk 11 (.tk 12 (.tk 13 (.tk 14 (.tk 15 (.tk 16 (.tk 17 (.tk 18 (.tk 19 (.tk 20 (.tk 21 (.tk 22 (.tk 23 (.tk 24 (.tk 25 (.nil))))))))))))))))))))))))))) (by kernel_rfl) (by kernel_rfl) (fun _ _ _ _ _ h => h) ?_
      refine goZ_tk rfl rfl 10 rfl (.int .i64 ((k : Int) + 1)) (fun _ => rfl) ?_; simp only [zT, zA, zB]
      refine goZ_tk rfl rfl 11 rfl (.bool true) (fun _ => by go_simp) ?_; simp only [zT, zA, zB]
      refine goZ_tk rfl rfl 12 rfl (.bool true) (fun _ => rfl) ?_; simp only [zT, zA, zB]
      refine goZ_tk rfl rfl 13 rfl (.slice (some ⟨g, 0, none⟩) (k + 1) cv) (fun _ => rfl) ?_; simp only [zT, zA, zB]
      refine goZ_tk rfl rfl 14 rfl (.int .i64 ((k : Int) + 1)) (fun _ => rfl) ?_; simp only [zT, zA, zB]
      refine goZ_tk rfl rfl 15 rfl (.int .i64 k) (fun _ => by go_simp) ?_; simp only [zT, zA, zB]
      refine goZ_tk rfl rfl 16 rfl (.pointer (some ⟨g, k, none⟩)) (fun _ => by go_simp) ?_; simp only [zT, zA, zB]
      refine goZ_ld rfl rfl 17 rfl 9 _ rfl ⟨g, k, none⟩ (.string x) rfl (fun W hS => ld_str9 _ _ W hS) (hs0) ?_; simp only [zT, zA, zB]
      refine goZ_tk rfl rfl 18 rfl (.bool true) (fun _ => by go_simp) ?_; simp only [zT, zA, zB]
      refine goZ_tk rfl rfl 19 rfl (.bool true) (fun _ => rfl) ?_; simp only [zT, zA, zB]
      refine goZ_no rfl rfl 20 rfl ?_; simp only [zT, zA, zB]
      refine goZ_no rfl rfl 21 rfl ?_; simp only [zT, zA, zB]
      refine goZ_no rfl rfl 22 rfl ?_; simp only [zT, zA, zB]
      refine goZ_no rfl rfl 23 rfl ?_; simp only [zT, zA, zB]
      refine goZ_no rfl rfl 24 rfl ?_; simp only [zT, zA, zB]
      refine goZ_no rfl rfl 25 rfl ?_; simp only [zT, zA, zB]
      refine goZ_no rfl rfl 26 rfl ?_; simp only [zT, zA, zB]
      refine goZ_no rfl rfl 27 rfl ?_; simp only [zT, zA, zB]
      refine goZ_no rfl rfl 28 rfl ?_; simp only [zT, zA, zB]
      refine goZ_no rfl rfl 29 rfl ?_; simp only [zT, zA, zB]
      refine goZ_no rfl rfl 30 rfl ?_; simp only [zT, zA, zB]
      refine goZ_no rfl rfl 31 rfl ?_; simp only [zT, zA, zB]
      refine goZ_no rfl rfl 32 rfl ?_; simp only [zT, zA, zB]
      refine goZ_no rfl rfl 33 rfl ?_; simp only [zT, zA, zB]
      refine goZ_tk rfl rfl 34 rfl (.bool true) (fun _ => rfl) ?_; simp only [zT, zA, zB]
      refine goZ_tk rfl rfl 35 rfl (.bool true) (fun _ => rfl) ?_; simp only [zT, zA, zB]
      refine goZ_end ?_
      go_wp2_with fail
      go_ret
      exact ⟨_, rfl, (HFIN.out HSF.out).1, (fun b hb => by cases hb; exact HG.out), (HFIN.out HSF.out).2⟩
    · have hem : x.toList.isEmpty = false := by rw [isEmpty_iff]; simpa using h0
      obtain ⟨m, hm⟩ : ∃ m, x.size = m + 1 := ⟨x.size - 1, by omega⟩
      have hmx : m < x.size := by omega
      have d5 : IntKind.i64.wrap ((x.size : Int) - 1) = (m : Int) := by rw [show (x.size : Int) - 1 = (m : Int) by omega]; exact IntWalk.i64_in _ (by omega)
      have HSF : Hid (Lib.hasSuffix x.data.toList [10] = decide (x[m] = 10)) := suf_last hm
      clear h0 hm
      by_cases h7 : x[m] = 10
      · have h8 : ((x[m].toNat : Int) == 10) = true := by rw [h7]; rfl
        have h9 : ((x[m].toNat : Int) != 10) = false := by unfold bne; rw [h8]; rfl
        have HS1 : Hid (Lib.hasSuffix x.data.toList [10] = true) := by show _ = _; rw [HSF.out, decide_eq_true h7]
        clear h7 HSF
        refine wp_region_hz (fun W => W.cell? ⟨g, k, none⟩ = some (.string x)) (.tk 0 (.tk 1 (.tk 2 (.tk 3 (.tk 4 (.tk 5 (.tk 6 (.tk 7 (.tk 8 (.tk 9 (.tk 10 (.tk 11 (.tk 12 (.tk 13 (.tk 14 (.tk 15 (.tk 16 (.tk 17 (.tk 18 (.tk 19 (.tk 20 (.tk 21 (.tk 22 (.tk 23 (.tk 24 (.tk 25 (.nil))))))))))))))))))))))))))) (by kernel_rfl) (by kernel_rfl) (fun _ _ _ _ _ h => h) ?_
        refine goZ_tk rfl rfl 10 rfl (.int .i64 ((k : Int) + 1)) (fun _ => rfl) ?_; simp only [zT, zA, zB]
        refine goZ_tk rfl rfl 11 rfl (.bool true) (fun _ => by go_simp) ?_; simp only [zT, zA, zB]
        refine goZ_tk rfl rfl 12 rfl (.bool true) (fun _ => rfl) ?_; simp only [zT, zA, zB]
        refine goZ_tk rfl rfl 13 rfl (.slice (some ⟨g, 0, none⟩) (k + 1) cv) (fun _ => rfl) ?_; simp only [zT, zA, zB]
        refine goZ_tk rfl rfl 14 rfl (.int .i64 ((k : Int) + 1)) (fun _ => rfl) ?_; simp only [zT, zA, zB]
        refine goZ_tk rfl rfl 15 rfl (.int .i64 k) (fun _ => by go_simp) ?_; simp only [zT, zA, zB]
        refine goZ_tk rfl rfl 16 rfl (.pointer (some ⟨g, k, none⟩)) (fun _ => by go_simp) ?_; simp only [zT, zA, zB]
        refine goZ_ld rfl rfl 17 rfl 9 _ rfl ⟨g, k, none⟩ (.string x) rfl (fun W hS => ld_str9 _ _ W hS) (hs0) ?_; simp only [zT, zA, zB]
        refine goZ_tk rfl rfl 18 rfl (.bool false) (fun _ => by go_simp) ?_; simp only [zT, zA, zB]
        refine goZ_tk rfl rfl 19 rfl (.bool false) (fun _ => rfl) ?_; simp only [zT, zA, zB]
        refine goZ_tk rfl rfl 20 rfl (.slice (some ⟨g, 0, none⟩) (k + 1) cv) (fun _ => rfl) ?_; simp only [zT, zA, zB]
        refine goZ_tk rfl rfl 21 rfl (.int .i64 ((k : Int) + 1)) (fun _ => rfl) ?_; simp only [zT, zA, zB]
        refine goZ_tk rfl rfl 22 rfl (.int .i64 k) (fun _ => by go_simp) ?_; simp only [zT, zA, zB]
        refine goZ_tk rfl rfl 23 rfl (.pointer (some ⟨g, k, none⟩)) (fun _ => by go_simp) ?_; simp only [zT, zA, zB]
        refine goZ_ld rfl rfl 24 rfl 9 _ rfl ⟨g, k, none⟩ (.string x) rfl (fun W hS => ld_str9 _ _ W hS) (hs0) ?_; simp only [zT, zA, zB]
        refine goZ_tk rfl rfl 25 rfl (.slice (some ⟨g, 0, none⟩) (k + 1) cv) (fun _ => rfl) ?_; simp only [zT, zA, zB]
        refine goZ_tk rfl rfl 26 rfl (.int .i64 ((k : Int) + 1)) (fun _ => rfl) ?_; simp only [zT, zA, zB]
        refine goZ_tk rfl rfl 27 rfl (.int .i64 k) (fun _ => by go_simp) ?_; simp only [zT, zA, zB]
        refine goZ_tk rfl rfl 28 rfl (.pointer (some ⟨g, k, none⟩)) (fun _ => by go_simp) ?_; simp only [zT, zA, zB]
        refine goZ_ld rfl rfl 29 rfl 9 _ rfl ⟨g, k, none⟩ (.string x) rfl (fun W hS => ld_str9 _ _ W hS) (hs0) ?_; simp only [zT, zA, zB]
        refine goZ_tk rfl rfl 30 rfl (.int .i64 x.size) (fun _ => by go_simp) ?_; simp only [zT, zA, zB]
        refine goZ_tk rfl rfl 31 rfl (.int .i64 m) (fun _ => by go_simp) ?_; simp only [zT, zA, zB]
        refine goZ_tk rfl rfl 32 rfl (.int .u8 (x[m].toNat : Int)) (fun _ => by go_simp) ?_; simp only [zT, zA, zB]
        refine goZ_tk rfl rfl 33 rfl (.bool false) (fun _ => by go_simp) ?_; simp only [zT, zA, zB]
        refine goZ_tk rfl rfl 34 rfl (.bool false) (fun _ => rfl) ?_; simp only [zT, zA, zB]
        refine goZ_tk rfl rfl 35 rfl (.bool false) (fun _ => rfl) ?_; simp only [zT, zA, zB]
        refine goZ_end ?_
        clear h8 h9
        go_wp2_with fail
        go_ret
        exact ⟨_, rfl, by rw [HCD.out, HS1.out, if_pos rfl, HK.out]; exact HOd.out, (fun b hb => by cases hb; exact HG.out), HBd.out⟩
      · have h8 : ((x[m].toNat : Int) == 10) = false := by
          rw [beq_eq_false_iff_ne]; intro h; exact h7 (UInt8.toNat_inj.1 (by simpa using Int.ofNat.inj h))
        have h9 : ((x[m].toNat : Int) != 10) = true := by unfold bne; rw [h8]; rfl
        have HS1 : Hid (Lib.hasSuffix x.data.toList [10] = false) := by show _ = _; rw [HSF.out, decide_eq_false h7]
        clear h7 HSF
        refine wp_region_hz (fun W => W.cell? ⟨g, k, none⟩ = some (.string x)) (.tk 0 (.tk 1 (.tk 2 (.tk 3 (.tk 4 (.tk 5 (.tk 6 (.tk 7 (.tk 8 (.tk 9 (.tk 10 (.tk 11 (.tk 12 (.tk 13 (.tk 14 (.tk 15 (.tk 16 (.tk 17 (.tk 18 (.tk 19 (.tk 20 (.tk 21 (.tk 22 (.tk 23 (.tk 24 (.tk 25 (.nil))))))))))))))))))))))))))) (by kernel_rfl) (by kernel_rfl) (fun _ _ _ _ _ h => h) ?_
        refine goZ_tk rfl rfl 10 rfl (.int .i64 ((k : Int) + 1)) (fun _ => rfl) ?_; simp only [zT, zA, zB]
        refine goZ_tk rfl rfl 11 rfl (.bool true) (fun _ => by go_simp) ?_; simp only [zT, zA, zB]
        refine goZ_tk rfl rfl 12 rfl (.bool true) (fun _ => rfl) ?_; simp only [zT, zA, zB]
        refine goZ_tk rfl rfl 13 rfl (.slice (some ⟨g, 0, none⟩) (k + 1) cv) (fun _ => rfl) ?_; simp only [zT, zA, zB]
        refine goZ_tk rfl rfl 14 rfl (.int .i64 ((k : Int) + 1)) (fun _ => rfl) ?_; simp only [zT, zA, zB]
        refine goZ_tk rfl rfl 15 rfl (.int .i64 k) (fun _ => by go_simp) ?_; simp only [zT, zA, zB]
        refine goZ_tk rfl rfl 16 rfl (.pointer (some ⟨g, k, none⟩)) (fun _ => by go_simp) ?_; simp only [zT, zA, zB]
        refine goZ_ld rfl rfl 17 rfl 9 _ rfl ⟨g, k, none⟩ (.string x) rfl (fun W hS => ld_str9 _ _ W hS) (hs0) ?_; simp only [zT, zA, zB]
        refine goZ_tk rfl rfl 18 rfl (.bool false) (fun _ => by go_simp) ?_; simp only [zT, zA, zB]
        refine goZ_tk rfl rfl 19 rfl (.bool false) (fun _ => rfl) ?_; simp only [zT, zA, zB]
        refine goZ_tk rfl rfl 20 rfl (.slice (some ⟨g, 0, none⟩) (k + 1) cv) (fun _ => rfl) ?_; simp only [zT, zA, zB]
        refine goZ_tk rfl rfl 21 rfl (.int .i64 ((k : Int) + 1)) (fun _ => rfl) ?_; simp only [zT, zA, zB]
        refine goZ_tk rfl rfl 22 rfl (.int .i64 k) (fun _ => by go_simp) ?_; simp only [zT, zA, zB]
        refine goZ_tk rfl rfl 23 rfl (.pointer (some ⟨g, k, none⟩)) (fun _ => by go_simp) ?_; simp only [zT, zA, zB]
        refine goZ_ld rfl rfl 24 rfl 9 _ rfl ⟨g, k, none⟩ (.string x) rfl (fun W hS => ld_str9 _ _ W hS) (hs0) ?_; simp only [zT, zA, zB]
        refine goZ_tk rfl rfl 25 rfl (.slice (some ⟨g, 0, none⟩) (k + 1) cv) (fun _ => rfl) ?_; simp only [zT, zA, zB]
        refine goZ_tk rfl rfl 26 rfl (.int .i64 ((k : Int) + 1)) (fun _ => rfl) ?_; simp only [zT, zA, zB]
        refine goZ_tk rfl rfl 27 rfl (.int .i64 k) (fun _ => by go_simp) ?_; simp only [zT, zA, zB]
        refine goZ_tk rfl rfl 28 rfl (.pointer (some ⟨g, k, none⟩)) (fun _ => by go_simp) ?_; simp only [zT, zA, zB]
        refine goZ_ld rfl rfl 29 rfl 9 _ rfl ⟨g, k, none⟩ (.string x) rfl (fun W hS => ld_str9 _ _ W hS) (hs0) ?_; simp only [zT, zA, zB]
        refine goZ_tk rfl rfl 30 rfl (.int .i64 x.size) (fun _ => by go_simp) ?_; simp only [zT, zA, zB]
        refine goZ_tk rfl rfl 31 rfl (.int .i64 m) (fun _ => by go_simp) ?_; simp only [zT, zA, zB]
        refine goZ_tk rfl rfl 32 rfl (.int .u8 (x[m].toNat : Int)) (fun _ => by go_simp) ?_; simp only [zT, zA, zB]
        refine goZ_tk rfl rfl 33 rfl (.bool true) (fun _ => by go_simp) ?_; simp only [zT, zA, zB]
        refine goZ_tk rfl rfl 34 rfl (.bool true) (fun _ => rfl) ?_; simp only [zT, zA, zB]
        refine goZ_tk rfl rfl 35 rfl (.bool true) (fun _ => rfl) ?_; simp only [zT, zA, zB]
        refine goZ_end ?_
        clear h8 h9
        go_wp2_with fail
        go_ret
        exact ⟨_, rfl, (HFIN.out HS1.out).1, (fun b hb => by cases hb; exact HG.out), (HFIN.out HS1.out).2⟩
end Go.Proofs.YtpcipdkoncmdcaaGreatDoor
namespace Go.Proofs.YtpcipdkoncmdcaaGreatDoor
open Go Go.RowKit
open JoinS (emit tellAll clean closed kindOf)
/-- The document's parts in memory. -/
structure QR (w : World) (pv : Value) (xs : List PtV) : Prop where
  row : OwnG w 159 4 pv xs.length (pvR xs)
  rd : ∀ y ∈ xs, Tl w y.b y.p.b ∧ Tl w y.o y.p.o ∧ Tl w y.t y.p.t
  n : xs.length ≤ 30000000
theorem QR.below {w w' : World} {pv : Value} {xs : List PtV} (h : QR w pv xs) (hb : Below w.heap.size w w') : QR w' pv xs :=
  ⟨h.row.below hb, fun y hy => by obtain ⟨h1, h2, h3⟩ := h.rd y hy; exact ⟨h1.below hb, h2.below hb, h3.below hb⟩, h.n⟩

set_option maxRecDepth 100000 in
set_option maxHeartbeats 4000000 in
theorem rtell_c {w : World} {pv : Value} {xs : List PtV} (h : QR w pv xs) (u v : ByteArray) (hu : u.size ≤ 1000) (hv : v.size ≤ 1000) (hN : ∀ k, (tellAll u v ((xs.map (·.p)).take k)).length ≤ 100000000) (hx : ∀ x ∈ xs, x.p.b.length ≤ 10000000 ∧ x.p.o.length ≤ 10000000 ∧ x.p.t.length ≤ 10000000)
    (hz : ∀ x ∈ xs, (∀ s ∈ x.p.b, s.size ≤ 100000000) ∧ (∀ s ∈ x.p.o, s.size ≤ 100000000) ∧ ∀ s ∈ x.p.t, s.size ≤ 100000000) :
    Calls Tryz.prog 63 #[pv, .string u, .string v] w fun e w' => ∃ tv, e = .returned (.tuple #[tv, .bool (clean (xs.map (·.p)))]) ∧ Tl w' tv (tellAll u v (xs.map (·.p))) ∧ Below w.heap.size w w' := by
  have hn := h.n
  have HPR := Lib.hid h
  have HN := Lib.hid hN
  have HX := Lib.hid hx
  have HZ := Lib.hid hz
  obtain ⟨a, c, (e0 : pv = .slice a xs.length c), hlc, -, hsl⟩ := h.row.form
  subst e0
  have HSL := Lib.hid hsl
  clear h hN hx hz hsl
  go_enter Tryz.func63, Tryz.ntmps63
  go_wp2_with fail
  go_loopw [8, 9, 10] (fun ov cv iv wx => ∃ k : Nat, k ≤ xs.length ∧ iv = .int .i64 k ∧ (∃ z, cv = .bool z ∧ Hid (clean ((xs.map (·.p)).take k) = z)) ∧ (∃ L, Hid (tellAll u v ((xs.map (·.p)).take k) = L) ∧ OwnG wx 9 1 ov L.length (lrow L) ∧ ∀ b, ov.ownBlock = some b → w.heap.size ≤ b) ∧ Below w.heap.size w wx) (fun _ _ iv _ => (xs.length - intOf iv).toNat)
  case atStart => exact ⟨0, Nat.zero_le _, rfl, ⟨true, rfl, rfl⟩, ⟨[], rfl, OwnG.nil _ _ _, fun b hb => nomatch hb⟩, Below.refl _ _⟩
  case round =>
    obtain ⟨k, hk, rfl, ⟨z, rfl, HCL⟩, ⟨L, HL, hown, hnew⟩, hb⟩ := hrel
    by_cases hlt : k < xs.length
    · have d1 : decide ((k : Int) < (xs.length : Int)) = true := decide_eq_true (by omega)
      have d2 : decide (k < xs.length) = true := decide_eq_true hlt
      have dw : IntKind.i64.wrap ((k : Int) + 1) = ((k + 1 : Nat) : Int) := IntWalk.i64_in _ (by omega)
      obtain ⟨g, o, cap, (e1 : Value.slice a xs.length c = .slice (some ⟨g, o, none⟩) xs.length cap), -, hgl, hcs, -⟩ := (HPR.out.row.below hb).place (by omega)
      injection e1 with e1 _ e2
      subst e1 e2
      obtain ⟨t1, t2⟩ := tell_succ u v xs k hlt
      obtain ⟨x, hxe⟩ : ∃ x, xs[k] = x := ⟨_, rfl⟩
      have hxm : x ∈ xs := by rw [← hxe]; exact List.getElem_mem hlt
      rw [hxe] at t1 t2
      have hra : wr.rangeAt g (o + k * 4) (pvC x) := fun j vv hv => by
        have hj : j < 4 := (List.getElem?_eq_some_iff.1 hv).1
        rw [Nat.add_assoc]
        exact hcs _ _ (by rw [pvR_get xs k hlt j hj, hxe]; exact hv)
      obtain ⟨q1, q2, q3⟩ := (HPR.out.below hb).rd x hxm
      have fb : x.b.oneCell' = true := by obtain ⟨_, _, e, -⟩ := q1; rw [e]; rfl
      have fo : x.o.oneCell' = true := by obtain ⟨_, _, e, -⟩ := q2; rw [e]; rfl
      have ft : x.t.oneCell' = true := by obtain ⟨_, _, e, -⟩ := q3; rw [e]; rfl
      have h1c : (pvC x).toArray.all (·.oneCell') = true := by simp [pvC, fb, fo, ft]; rfl
      have HRA := Lib.hid hra
      have Hq1 := Lib.hid q1
      have Hq2 := Lib.hid q2
      have Hq3 := Lib.hid q3
      have Hown := Lib.hid hown
      have Hb := Lib.hid hb
      have H1C := Lib.hid h1c
      clear hra q1 q2 q3 hown hb h1c
      go_upto_region 7 with (first
        | (refine wpList_load_mid rfl 159 _ rfl g (o + k * 4) rfl (pvC x) _ HRA.out Tryz.underlying159 rfl (by kernel_rfl) ?_)
        | (refine wp_storeB rfl 159 _ _ rfl wr.heap.size (pvC x).toArray rfl rfl (old := #[.int .i64 0, .slice none 0 0, .slice none 0 0, .slice none 0 0]) Array.getElem?_push_size rfl (by kernel_rfl) H1C.out ?_; intro W5 hb5 hg5))
      have hba : Below wr.heap.size wr (wr.alloc (.cells #[.int .i64 0, .slice none 0 0, .slice none 0 0, .slice none 0 0] 159 (0, 0))) := (Below.refl _ wr).alloc (Nat.le_refl _) _
      have hB5 : Below wr.heap.size wr W5 := hba.grown hg5 hba.size fun k hk => by injection hk with hk; omega
      have hOT : OT w W5 wr.heap.size (pvC x).toArray 159 u8 L := ⟨Hown.out.below hB5, fun k hk => ⟨hnew k hk, by have := Hown.out.lt hk; omega⟩, Hb.out.trans (hB5.mono Hb.out.size), hb5⟩
      have c0 := hOT.cell (j := 0) (u := .int .i64 (kindOf x.p)) rfl
      have c1 := hOT.cell (j := 1) (u := x.b) rfl
      have c2 := hOT.cell (j := 2) (u := x.o) rfl
      have c3 := hOT.cell (j := 3) (u := x.t) rfl
      have HOT := Lib.hid hOT
      have hRX := (HPR.out.rd x hxm)
      have Q1 := Lib.hid hRX.1
      have Q2 := Lib.hid hRX.2.1
      have Q3 := Lib.hid hRX.2.2
      have T1 := Lib.hid t1
      have T2 := Lib.hid t2
      have hLn : L.length ≤ 100000000 := by rw [← HL.out]; exact HN.out k
      have hxl := HX.out x hxm
      have hzl := Lib.hid (HZ.out x hxm)
      clear hba hb5 hg5 hB5 t1 t2 hcs fb fo ft hOT hRX hnew Hown Hb Hq1 Hq2 Hq3 H1C HRA
      obtain ⟨kd, hkd⟩ : ∃ kd, kindOf x.p = kd := ⟨_, rfl⟩
      have hk5 := kind_le x.p
      rw [hkd] at c0 hk5
      have HKD := Lib.hid hkd
      clear hkd
      have hk1 : k + 1 ≤ xs.length := hlt
      have hcase : (kd = 0 ∨ kd = 1 ∨ kd = 3) ∨ kd = 2 ∨ kd = 4 := by omega
      rcases hcase with hc | hc | hc
      · have HE : Hid (emit u v x.p = x.p.o) := by
          show _ = _; unfold emit; rw [HKD.out, if_neg (by omega), if_neg (by omega)]
        have HC4 : Hid (decide (kindOf x.p ≠ 4) = true) := by show _ = _; rw [HKD.out]; exact decide_eq_true (by omega)
        have HEL : Hid (tellAll u v ((xs.map (·.p)).take (k + 1)) = L ++ x.p.o) := by show _ = _; rw [T1.out, HL.out, HE.out]
        have HCC : Hid (clean ((xs.map (·.p)).take (k + 1)) = z) := by show _ = _; rw [T2.out, HCL.out, HC4.out, Bool.and_true]
        clear T1 T2 HL HCL HE HC4 hk5 HKD
        rcases hc with rfl | rfl | rfl
        all_goals
          go_wp2_with (at_builtin; refine HOT.out.app rfl _ _ rfl rfl rfl (Q2.out.below HOT.out.below) (by omega) ?_; intro v' w' hot)
          go_roundw
          case rel => exact ⟨k + 1, hk1, by go_num, ⟨z, rfl, HCC⟩, ⟨_, HEL, hot.own, fun b hb => (hot.nw b hb).1⟩, hot.below⟩
          case measure => simp [intOf]; omega
      · subst hc
        have HE : Hid (emit u v x.p = x.p.t) := by
          show _ = _; unfold emit; rw [HKD.out, if_neg (by omega), if_pos rfl]
        have HC4 : Hid (decide (kindOf x.p ≠ 4) = true) := by show _ = _; rw [HKD.out]; rfl
        have HEL : Hid (tellAll u v ((xs.map (·.p)).take (k + 1)) = L ++ x.p.t) := by show _ = _; rw [T1.out, HL.out, HE.out]
        have HCC : Hid (clean ((xs.map (·.p)).take (k + 1)) = z) := by show _ = _; rw [T2.out, HCL.out, HC4.out, Bool.and_true]
        clear T1 T2 HL HCL HE HC4 hk5 HKD
        go_wp2_with (at_builtin; refine HOT.out.app rfl _ _ rfl rfl rfl (Q3.out.below HOT.out.below) (by omega) ?_; intro v' w' hot)
        go_roundw
        case rel => exact ⟨k + 1, hk1, by go_num, ⟨z, rfl, HCC⟩, ⟨_, HEL, hot.own, fun b hb => (hot.nw b hb).1⟩, hot.below⟩
        case measure => simp [intOf]; omega
      · subst hc
        have HE : Hid (emit u v x.p = [JoinS.m1 u] ++ closed x.p.o ++ [JoinS.m2] ++ closed x.p.b ++ [JoinS.m3] ++ closed x.p.t ++ [JoinS.m4 v]) := by
          show _ = _; unfold emit; rw [HKD.out, if_pos rfl]
        have HC4 : Hid (decide (kindOf x.p ≠ 4) = false) := by show _ = _; rw [HKD.out]; rfl
        have HEL : Hid (tellAll u v ((xs.map (·.p)).take (k + 1)) = L ++ ([JoinS.m1 u] ++ closed x.p.o ++ [JoinS.m2] ++ closed x.p.b ++ [JoinS.m3] ++ closed x.p.t ++ [JoinS.m4 v])) := by show _ = _; rw [T1.out, HL.out, HE.out]
        have HCC : Hid (clean ((xs.map (·.p)).take (k + 1)) = false) := by show _ = _; rw [T2.out, HCL.out, HC4.out, Bool.and_false]
        have HO : Hid (∀ W, Below w.heap.size w W → Calls Tryz.prog 97 #[x.o] W fun e w' => ∃ v', e = .returned v' ∧ OwnG w' 9 1 v' (closed x.p.o).length (lrow (closed x.p.o)) ∧ (∀ b, v'.ownBlock = some b → W.heap.size ≤ b) ∧ Below W.heap.size W w') := Lib.hid fun W hW => rclosed_c (Q2.out.below hW) hxl.2.1 hzl.out.2.1
        have HBc : Hid (∀ W, Below w.heap.size w W → Calls Tryz.prog 97 #[x.b] W fun e w' => ∃ v', e = .returned v' ∧ OwnG w' 9 1 v' (closed x.p.b).length (lrow (closed x.p.b)) ∧ (∀ b, v'.ownBlock = some b → W.heap.size ≤ b) ∧ Below W.heap.size W w') := Lib.hid fun W hW => rclosed_c (Q1.out.below hW) hxl.1 hzl.out.1
        have HTc : Hid (∀ W, Below w.heap.size w W → Calls Tryz.prog 97 #[x.t] W fun e w' => ∃ v', e = .returned v' ∧ OwnG w' 9 1 v' (closed x.p.t).length (lrow (closed x.p.t)) ∧ (∀ b, v'.ownBlock = some b → W.heap.size ≤ b) ∧ Below W.heap.size W w') := Lib.hid fun W hW => rclosed_c (Q3.out.below hW) hxl.2.2 hzl.out.2.2
        have lo := closed_len x.p.o
        have lb := closed_len x.p.b
        have lt := closed_len x.p.t
        clear T1 T2 HL HCL HE HC4 hk5 HKD Q1 Q2 Q3
        go_wp2_with (first
          | (go_at_call 97; refine (HO.out _ HOT.out.below).mono ?_; rintro e W6 ⟨cv, rfl, hc, -, hbc⟩; clear HO; have HOT := Lib.hid (HOT.out.grow hbc); have hT := tl_own hc; clear hc hbc; have c1 := HOT.out.cell (j := 1) (u := x.b) rfl; have c2 := HOT.out.cell (j := 2) (u := x.o) rfl; have c3 := HOT.out.cell (j := 3) (u := x.t) rfl)
          | (go_at_call 97; refine (HBc.out _ HOT.out.below).mono ?_; rintro e W6 ⟨cv, rfl, hc, -, hbc⟩; clear HBc; have HOT := Lib.hid (HOT.out.grow hbc); have hT := tl_own hc; clear hc hbc; have c1 := HOT.out.cell (j := 1) (u := x.b) rfl; have c2 := HOT.out.cell (j := 2) (u := x.o) rfl; have c3 := HOT.out.cell (j := 3) (u := x.t) rfl)
          | (go_at_call 97; refine (HTc.out _ HOT.out.below).mono ?_; rintro e W6 ⟨cv, rfl, hc, -, hbc⟩; clear HTc; have HOT := Lib.hid (HOT.out.grow hbc); have hT := tl_own hc; clear hc hbc; have c1 := HOT.out.cell (j := 1) (u := x.b) rfl; have c2 := HOT.out.cell (j := 2) (u := x.o) rfl; have c3 := HOT.out.cell (j := 3) (u := x.t) rfl)
          | (at_builtin; refine HOT.out.app rfl _ _ rfl rfl rfl hT (by (try simp only [List.length_append, List.length_singleton]); omega) ?_; clear hT; intro v' w' hot; have HOT := Lib.hid hot; clear hot; have c1 := HOT.out.cell (j := 1) (u := x.b) rfl; have c2 := HOT.out.cell (j := 2) (u := x.o) rfl; have c3 := HOT.out.cell (j := 3) (u := x.t) rfl)
          | (at_builtin; refine HOT.out.app1 rfl _ _ rfl rfl rfl (by (try simp only [List.length_append, List.length_singleton]); omega) ?_; intro v' w' hot; have HOT := Lib.hid hot; clear hot; have c1 := HOT.out.cell (j := 1) (u := x.b) rfl; have c2 := HOT.out.cell (j := 2) (u := x.o) rfl; have c3 := HOT.out.cell (j := 3) (u := x.t) rfl))
        go_roundw
        case rel => exact ⟨k + 1, hk1, by go_num, ⟨false, rfl, HCC⟩, ⟨_, by show _ = _; rw [HEL.out]; simp only [← List.append_assoc]; rfl, HOT.out.own, fun b hb => (HOT.out.nw b hb).1⟩, HOT.out.below⟩
        case measure => simp [intOf]; omega
    · have d1 : decide ((k : Int) < (xs.length : Int)) = false := decide_eq_false (by omega)
      have d2 : decide (k < xs.length) = false := decide_eq_false hlt
      have HB := Lib.hid hb
      have HO := Lib.hid hown
      have e3 : (xs.map (·.p)).take k = xs.map (·.p) := List.take_of_length_le (by simp; omega)
      rw [e3] at HL HCL
      have HL2 := HL
      have HCL2 := HCL
      clear hown hb
      go_wp2_with fail
      go_ret2
      have g1 := HCL2.out
      have g2 := HL2.out
      subst g1 g2
      exact ⟨_, rfl, tl_own HO.out, HB.out⟩
end Go.Proofs.YtpcipdkoncmdcaaGreatDoor
namespace Go.Proofs.YtpcipdkoncmdcaaGreatDoor
namespace JoinS
section
variable {b o t : List ByteArray} {A B : List (Nat × Nat)}
/-- A slice of lines. -/
def sl (l : List ByteArray) (i n : Nat) : List ByteArray := (l.drop i).take (n - i)
/-- What is put together from place n on; m places are left. -/
def allF (b o t : List ByteArray) (A B : List (Nat × Nat)) : Nat → Nat → Nat → Nat → Nat → List (Pt ByteArray)
  | 0, n, i, j, k => [⟨sl b i n, sl o j o.length, sl t k t.length⟩]
  | m + 1, n, i, j, k =>
    if placeP n A < 0 ∨ placeP n B < 0 then allF b o t A B m (n + 1) i j k else
    ⟨sl b i n, sl o j (placeP n A).toNat, sl t k (placeP n B).toNat⟩ :: ⟨sl b n (n + 1), sl o (placeP n A).toNat ((placeP n A).toNat + 1), sl t (placeP n B).toNat ((placeP n B).toNat + 1)⟩ ::
      allF b o t A B m (n + 1) (n + 1) ((placeP n A).toNat + 1) ((placeP n B).toNat + 1)
theorem sl_end (l : List ByteArray) (i : Nat) : sl l i l.length = l.drop i := by
  unfold sl; exact List.take_of_length_le (by rw [List.length_drop]; exact Nat.le_refl _)
theorem inc_none {m n : Nat} : ∀ {l : List (Nat × Nat)} {i j x : Nat}, Inc m n i j l → x < i → placeP x l = -1
  | [], _, _, _, _, _ => rfl
  | p :: l, i, j, x, h, hx => by
    have h1 := h.1
    show (if p.1 = x then _ else placeP x l) = _
    rw [if_neg (by omega)]
    exact inc_none h.2.2.2.2 (by omega)
/-- The pairs whose first place is n or behind. -/
def tl (n : Nat) : List (Nat × Nat) → List (Nat × Nat)
  | [] => []
  | p :: l => if p.1 < n then tl n l else p :: l
theorem inc_tl {m n : Nat} : ∀ {l : List (Nat × Nat)} {i j x : Nat}, Inc m n i j l → placeP x l = placeP x (tl x l) ∧ ∃ j', Inc m n x j' (tl x l)
  | [], _, _, _, _ => ⟨rfl, 0, trivial⟩
  | p :: l, i, j, x, h => by
    by_cases h1 : p.1 < x
    · have ih := inc_tl (x := x) h.2.2.2.2
      rw [show tl x (p :: l) = tl x l from if_pos h1, show placeP x (p :: l) = placeP x l from if_neg (by omega)]
      exact ih
    · rw [show tl x (p :: l) = p :: l from if_neg h1]
      exact ⟨rfl, p.2, by omega, Nat.le_refl _, h.2.2.1, h.2.2.2.1, h.2.2.2.2⟩
theorem tl_tl (x : Nat) : ∀ l : List (Nat × Nat), tl (x + 1) (tl x l) = tl (x + 1) l
  | [] => rfl
  | p :: l => by
    by_cases h1 : p.1 < x
    · rw [show tl x (p :: l) = tl x l from if_pos h1, show tl (x + 1) (p :: l) = tl (x + 1) l from if_pos (by omega)]
      exact tl_tl x l
    · rw [show tl x (p :: l) = p :: l from if_neg h1]
/-- At a place: the next pair is of this place, or of one behind. -/
theorem tl_cases {m n : Nat} {l : List (Nat × Nat)} {i j x : Nat} (h : Inc m n i j l) :
    (∃ y r, tl x l = (x, y) :: r ∧ placeP x l = (y : Int) ∧ tl (x + 1) l = r ∧ y < n ∧ Inc m n (x + 1) (y + 1) r) ∨ (placeP x l = -1 ∧ tl (x + 1) l = tl x l ∧ ∀ p r, tl x l = p :: r → x < p.1) := by
  obtain ⟨h1, j', h2⟩ := inc_tl (x := x) h
  have h3 := tl_tl x l
  cases e : tl x l with
  | nil =>
    rw [e] at h1 h3
    exact .inr ⟨h1, h3.symm, fun p r hp => by cases hp⟩
  | cons p r =>
    rw [e] at h1 h2 h3
    by_cases hp : p.1 = x
    · refine .inl ⟨p.2, r, by rw [← hp], by rw [h1]; exact if_pos hp, ?_, h2.2.2.2.1, by rw [← hp]; exact h2.2.2.2.2⟩
      rw [← h3, show tl (x + 1) (p :: r) = tl (x + 1) r from if_pos (by omega)]
      have h4 := h2.2.2.2.2
      cases r with
      | nil => rfl
      | cons q r => exact if_neg (by have := h4.1; omega)
    · have hx : x < p.1 := by have := h2.1; omega
      refine .inr ⟨?_, ?_, fun q s hq => by injection hq with hq _; rw [← hq]; exact hx⟩
      · rw [h1, show placeP x (p :: r) = placeP x r from if_neg hp]
        exact inc_none h2.2.2.2.2 (by omega)
      · rw [← h3]; exact if_neg (by omega)
theorem meets_skip {A' B' : List (Nat × Nat)} {x y : Nat} (h : ∀ p r, B' = p :: r → x < p.1) : meets ((x, y) :: A') B' = meets A' B' := by
  cases B' with
  | nil => rw [meets_nil_r, meets_nil_r]
  | cons p r => exact meets_lt (h p r rfl)
theorem meets_skip' {A' B' : List (Nat × Nat)} {x y : Nat} (h : ∀ p r, A' = p :: r → x < p.1) : meets A' ((x, y) :: B') = meets A' B' := by
  cases A' with
  | nil => rw [meets_nil_l, meets_nil_l]
  | cons p r => exact meets_gt (h p r rfl)
/-- The next pair's other place is not in front of j. -/
def Ge (j : Nat) (l : List (Nat × Nat)) : Prop := ∀ p r, l = p :: r → j ≤ p.2
theorem ge_inc {m n i j : Nat} {l : List (Nat × Nat)} (h : Inc m n i j l) : Ge j l := fun p r e => by rw [e] at h; exact h.2.1
theorem Ge.le {j j' : Nat} {l : List (Nat × Nat)} (h : Ge j l) (hj : j' ≤ j) : Ge j' l := fun p r e => Nat.le_trans hj (h p r e)
theorem all_raw {ja jb : Nat} (hA : Inc b.length o.length 0 ja A) (hB : Inc b.length t.length 0 jb B) : ∀ (m n i j k : Nat), n + m = b.length → i ≤ n → Ge j (tl n A) → Ge k (tl n B) → allF b o t A B m n i j k = raw (b.drop i) (o.drop j) (t.drop k) i j k (meets (tl n A) (tl n B))
  | 0, n, i, j, k, hm, _, _, _ => by
    have hn : n = b.length := by omega
    subst hn
    have hz : tl b.length A = [] := by
      obtain ⟨-, j', h2⟩ := inc_tl (x := b.length) hA
      cases e : tl b.length A with
      | nil => rfl
      | cons p r => rw [e] at h2; have := h2.1; have := h2.2.2.1; omega
    rw [hz, meets_nil_l]
    show [_] = [_]
    rw [sl_end, sl_end, sl_end]
  | m + 1, n, i, j, k, hm, hi, hj, hk => by
    rw [allF]
    rcases tl_cases (x := n) hA with ⟨y, r, a1, a2, a3, a4, a5⟩ | ⟨a1, a2, a3⟩
    · have hjy : j ≤ y := hj _ _ a1
      rcases tl_cases (x := n) hB with ⟨z, s, b1, b2, b3, b4, b5⟩ | ⟨b1, b2, b3⟩
      · have hkz : k ≤ z := hk _ _ b1
        rw [a2, b2, if_neg (by omega), Int.toNat_natCast, Int.toNat_natCast, all_raw hA hB m (n + 1) (n + 1) _ _ (by omega) (Nat.le_refl _) (by rw [a3]; exact ge_inc a5) (by rw [b3]; exact ge_inc b5), a3, b3, a1, b1]
        rw [show meets ((n, y) :: r) ((n, z) :: s) = (n, y, z) :: meets r s from meets_eq rfl, raw]
        simp only [List.drop_drop]
        unfold sl
        rw [show i + (n - i) = n by omega, show j + (y - j) = y by omega, show k + (z - k) = z by omega, show i + (n - i + 1) = n + 1 by omega, show j + (y - j + 1) = y + 1 by omega, show k + (z - k + 1) = z + 1 by omega,
          show n + 1 - n = 1 by omega, show y + 1 - y = 1 by omega, show z + 1 - z = 1 by omega]
      · rw [b1, if_pos (.inr (by decide)), all_raw hA hB m (n + 1) i j k (by omega) (by omega) (by rw [a3]; exact (ge_inc a5).le (by omega)) (by rw [b2]; exact hk), a3, a1, b2, meets_skip b3]
    · rw [a1, if_pos (.inl (by decide))]
      rcases tl_cases (x := n) hB with ⟨z, s, b1, b2, b3, b4, b5⟩ | ⟨b1, b2, b3⟩
      · have hkz : k ≤ z := hk _ _ b1
        rw [all_raw hA hB m (n + 1) i j k (by omega) (by omega) (by rw [a2]; exact hj) (by rw [b3]; exact (ge_inc b5).le (by omega)), a2, b3, b1, meets_skip' a3]
      · rw [all_raw hA hB m (n + 1) i j k (by omega) (by omega) (by rw [a2]; exact hj) (by rw [b2]; exact hk), a2, b2]
theorem tl_zero (l : List (Nat × Nat)) : tl 0 l = l := by
  cases l with
  | nil => rfl
  | cons p l => exact if_neg (by omega)
/-- The document's parts are the parts. -/
theorem all_parts (b o t : List ByteArray) : allF b o t (ScoreS.P 0 0 b o) (ScoreS.P 0 0 b t) b.length 0 0 0 0 = parts b o t := by
  have hA := P_inc 0 0 b o
  have hB := P_inc 0 0 b t
  rw [Nat.zero_add, Nat.zero_add] at hA hB
  rw [all_raw hA hB b.length 0 0 0 0 (by omega) (Nat.le_refl _) (by rw [tl_zero]; exact ge_inc hA) (by rw [tl_zero]; exact ge_inc hB), tl_zero, tl_zero]
  rfl
end
end JoinS
end Go.Proofs.YtpcipdkoncmdcaaGreatDoor
