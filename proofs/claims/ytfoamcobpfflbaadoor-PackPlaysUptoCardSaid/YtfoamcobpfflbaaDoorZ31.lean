/- Texts of mine, joined: Walks: a pack gives a record's bytes. | Walks: a pack is made, made durable, opened. -/
import Derived.BigQuiet
import Derived.Test.YtfoamcobpfflbaaDoorZ30
namespace Go.Proofs.YtfoamcobpfflbaaDoor
open Go Go.RowKit Go.Maps
open VfsS (St)

theorem get_none {P : PackS.Pk} {S : St} {x : List Nat} (h : (P.spots x).isSome = false) : PackS.get P S x = ([], 4) := by
  unfold PackS.get
  cases e : P.spots x with
  | none => rfl
  | some s => rw [e] at h; cases h
theorem get_some {P : PackS.Pk} {S : St} {x : List Nat} {s1 s2 : Nat} (h : P.spots x = some (s1, s2)) : PackS.get P S x = match VfsS.readS S P.name with
    | none => ([], 4)
    | some t => if s1 + s2 ≤ t.size then (if Sha.sum (((bl t).drop s1).take s2) = x then (((bl t).drop s1).take s2, 0) else ([], 150)) else ([], 150) := by
  unfold PackS.get
  rw [h]; rfl
theorem spots_of {P : PackS.Pk} {x : List Nat} {s1 s2 : Nat} (h : (P.spots x).isSome = true) (h1 : ((P.spots x).getD (0, 0)).1 = s1) (h2 : ((P.spots x).getD (0, 0)).2 = s2) : P.spots x = some (s1, s2) := by
  cases e : P.spots x with
  | none => rw [e] at h; cases h
  | some s => rw [e] at h1 h2; subst h1 h2; rfl

theorem read_size {S : St} (h : VfsS.Wf S) {nm t : ByteArray} (ht : VfsS.readS S nm = some t) : t.size ≤ 4194304 := by
  unfold VfsS.readS at ht
  cases hf : VfsS.find S.now nm with
  | none => rw [hf] at ht; cases ht
  | some i =>
    rw [hf] at ht
    injection ht with ht
    subst ht
    show (S.files.getD i default).text.size ≤ 4194304
    rw [List.getD_eq_getElem?_getD]
    cases he : S.files[i]? with
    | none => exact Nat.zero_le _
    | some f => exact (h.dur f (List.mem_of_getElem? he)).2

theorem nb_ba (s : ByteArray) : byteCells s = nb (bl s) := by unfold byteCells nb bl; rw [List.map_map]; rfl

set_option maxRecDepth 100000 in
/-- 'b[i:i+n]'. -/
theorem bytes_mid {w : World} {a : Option Addr} {c : Nat} {l : List Nat} (hl : Sl w a (nb l)) (hlc : l.length ≤ c) (hcm : c ≤ maxLen) {i n : Nat} (hi : i + n ≤ l.length) :
    ∃ A C, n ≤ C ∧ C ≤ maxLen ∧ Sl w A (nb ((l.drop i).take n)) ∧ ∀ W, (Instr.slice 43 (.slice a l.length c) (some (.int .i64 (i : Int))) (some (.int .i64 ((i : Int) + (n : Int)))) none).run Tryd.prog W = .ok (.slice A n C) W := by
  have hk0 : (0 : Int) ≤ (i : Int) := by omega
  have hk1 : (i : Int) ≤ (i : Int) + (n : Int) := by omega
  have hk2 : (i : Int) + (n : Int) ≤ (c : Int) := by omega
  have ht : Tryd.prog.underlying 43 = some (.slice (Tryd.prog.elem 43)) := Tryd.underlying43
  have hsz : ∀ W, (sizeOf (Tryd.prog.elem 43)).run Tryd.prog W = .ok 1 W := fun W => by simp [go_sem]
  have hn : ((i : Int) + (n : Int)).toNat - i = n := by omega
  by_cases hc : c = i
  · refine ⟨a, 0, by omega, Nat.zero_le _, ?_, fun W => ?_⟩
    · rw [List.drop_eq_nil_of_le (by omega), List.take_nil]; exact .inl rfl
    · rw [run_slice_lh W _ _ _ _ ht _ _ _ _ hk0 hk1 hk2, hsz]
      have : n = 0 := by omega
      simp [Result.andThen, sliced, hc, this]
  · refine ⟨a.map (·.add i), c - i, by omega, by omega, ?_, fun W => ?_⟩
    · rcases hl with e | ⟨g, o, rfl, hg, hc⟩
      · left
        have : l.length = 0 := by rw [← nb_len l, e]; rfl
        rw [List.drop_eq_nil_of_le (by omega), List.take_nil]; rfl
      · have := (Sl.part (.inr ⟨g, o, rfl, hg, hc⟩) i (i + n) : Sl w (some ⟨g, o + i, none⟩) _)
        rw [show ((nb l).take (i + n)).drop i = nb ((l.drop i).take n) by unfold nb; rw [← List.map_take, ← List.map_drop, List.drop_take, Nat.add_sub_cancel_left]] at this
        by_cases h0 : i = 0
        · subst h0; simpa [Addr.add] using this
        · simpa [Addr.add, h0] using this
    · rw [run_slice_lh W _ _ _ _ ht _ _ _ _ hk0 hk1 hk2, hsz]
      simp [Result.andThen, sliced, hc, hn]

set_option maxRecDepth 100000 in
set_option maxHeartbeats 2000000 in
theorem get_c {w : World} {q p N M : Nat} {P : PackS.Pk} {K Kf : Nat → Prop} {S : St} (h : PK w q p P K N) (hbd : PackS.Bd P) (hv : VRep w p S Kf M) {x : List Nat} (hx : OkId x) :
    Calls Tryd.prog 31 #[.pointer (some ⟨q, 0, none⟩), .agg (nums .u8 x)] w fun e w' => ∃ v, e = .returned (.tuple #[v, .int .i64 (PackS.get P S x).2]) ∧ NB w w' v (PackS.get P S x).1 := by
  obtain ⟨bm, ov, h⟩ := h
  go_enter Tryd.func31, Tryd.ntmps31
  go_upto_region 1 with fail
  have hbA : Below w.heap.size w (w.alloc (.cells (nums .u8 x) 47)) := (Below.refl _ w).alloc (Nat.le_refl _) _
  have hI : (w.alloc (.cells (nums .u8 x) 47)).heap[w.heap.size]? = some (.cells (nums .u8 x) 47 (0, 0)) := Array.getElem?_push_size
  generalize hbi : w.heap.size = bi at *
  generalize w.alloc (.cells (nums .u8 x) 47) = wA at *
  have hP := h.below (w' := wA) (by rw [hbi]; exact hbA)
  have hV := hv.below (w' := wA) (by rw [hbi]; exact hbA)
  obtain ⟨n, hn, hm⟩ := hP.map
  have hqlt := (Array.getElem?_eq_some_iff.1 hP.blk).1
  obtain ⟨fl, hfl⟩ : ∃ fl, (P.spots x).isSome = fl := ⟨_, rfl⟩
  have HFL := Lib.hid hfl
  obtain ⟨s1, hs1⟩ : ∃ s1, ((P.spots x).getD (0, 0)).1 = s1 := ⟨_, rfl⟩
  obtain ⟨s2, hs2⟩ : ∃ s2, ((P.spots x).getD (0, 0)).2 = s2 := ⟨_, rfl⟩
  have HS12 : Hid (fl = true → P.spots x = some (s1, s2)) := fun e => spots_of (hfl.trans e) hs1 hs2
  have hS : ∀ W, Below wA.heap.size wA W → W.cell? ⟨q, 2, none⟩ = some (.map (some bm)) ∧ W.rangeAt bi 0 (nb x) ∧ (Instr.lookup 113 (.map (some bm)) (.agg (nb x).toArray) true).run Tryd.prog W = .ok (.tuple #[.agg #[.int .i64 s1, .int .i64 s2], .bool fl]) W := fun W hb => by
    refine ⟨(hb.cell (p := ⟨q, 2, none⟩) hqlt).trans (by rw [cell_of hP.blk]; rfl), fun i u hu => ?_, ?_⟩
    · rw [hb.cell (p := ⟨bi, 0 + i, none⟩) (Array.getElem?_eq_some_iff.1 hI).1]
      simp only [World.cell?, hI, Nat.zero_add]
      unfold nums
      rw [List.getElem?_toArray]
      exact hu
    · have := (hm.below hb).look_ok x hx
      rw [hfl] at this
      rw [← hs1, ← hs2]
      exact this
  have hu47 := id_under
  have hi47 : (Tryd.prog.info? 47).map (·.size) = some (nb x).length := by rw [nb_len, hx.1]; kernel_rfl
  have HS := Lib.hid hS
  have HP := Lib.hid hP
  have HV := Lib.hid hV
  have HI := Lib.hid hI
  have HX := Lib.hid hx
  have HBD := Lib.hid hbd
  have HBI := Lib.hid hbi
  have HBA := Lib.hid hbA
  clear hfl hm hP h hI hs1 hs2 hS hV hv hx hbd hn hbi hbA
  have b1 : Below wA.heap.size wA wA.drew := below_dN (Below.refl _ wA) 1
  have HB1 := Lib.hid b1
  clear b1
  go_cut [6, 7] from 10 (fun v6 v7 wx => ∃ bs, v6 = .pointer (some ⟨bs, 0, none⟩) ∧ v7 = .bool fl ∧ Below wA.heap.size wA wx ∧ wx.heap[bs]? = some (.cells #[.int .i64 s1, .int .i64 s2] 135 (0, 0)))
  case first =>
    go_region_held3 (fun W => W.cell? ⟨q, 2, none⟩ = some (.map (some bm)) ∧ W.rangeAt bi 0 (nb x) ∧ (Instr.lookup 113 (.map (some bm)) (.agg (nb x).toArray) true).run Tryd.prog W = .ok (.tuple #[.agg #[.int .i64 s1, .int .i64 s2], .bool fl]) W)
      (first | exact HS.out _ HB1.out | exact HS.out _ (HB1.out.alloc HB1.out.size _) | exact HS.out _ ((HB1.out.alloc HB1.out.size _).grown (setCells_grown _ _ _ _) (HB1.out.alloc HB1.out.size _).size (fun k e => by injection e with e; have := HB1.out.size; omega)) | go_keep) (first | fail)
    all_goals
      go_wp2_with fail
      go_meet
      case rel => exact ⟨_, rfl, rfl, HB1.out.alloc HB1.out.size (.cells #[.int .i64 s1, .int .i64 s2] 135), Array.getElem?_push_size⟩
  case rest =>
    obtain ⟨bs, rfl, rfl, hbc, h6⟩ := hcut
    have hbw : Below w.heap.size w wc := by rw [HBI.out]; exact HBA.out.trans (hbc.mono (by have := HBA.out.size; have := HBI.out; omega))
    have HBW := Lib.hid hbw
    clear hbw
    cases fl with
    | false =>
      have hg : PackS.get P S x = ([], 4) := get_none HFL.out
      go_wp2_with fail
      go_ret2
      rw [hg]
      exact ⟨_, rfl, NB.from HBW.out (NB.nil _)⟩
    | true =>
      have hsp := HS12.out rfl
      have hg := get_some (S := S) hsp
      have hbd := HBD.out x _ hsp
      have HG := Lib.hid hg
      have hPc := HP.out.below hbc
      have hVc := HV.out.below hbc
      have c0 : wc.cell? ⟨q, 0, none⟩ = some (.pointer (some ⟨p, 0, none⟩)) := by rw [cell_of hPc.blk]; rfl
      have c1 : wc.cell? ⟨q, 1, none⟩ = some (.string P.name) := by rw [cell_of hPc.blk]; rfl
      have hsz := hPc.size
      have hbg := hPc.big
      have hnm := hPc.name
      have hql := (Array.getElem?_eq_some_iff.1 hPc.blk).1
      have hsl := (Array.getElem?_eq_some_iff.1 h6).1
      have hIc := (hbc.block bi (Array.getElem?_eq_some_iff.1 HI.out).1).trans HI.out
      have HIC := Lib.hid hIc
      have HWF := Lib.hid hVc.wf
      have H6 := Lib.hid h6
      have hrd := read_c (hVc.drewN 1) P.name (by omega)
      obtain ⟨cd, hcd⟩ : ∃ cd : Int, (if (VfsS.readS S P.name).isSome then 0 else 4) = cd := ⟨_, rfl⟩
      rw [hcd] at hrd
      have HRD := Lib.hid hrd
      have HCD := Lib.hid hcd
      have hs12 : s1 + s2 ≤ 800000000000000 := by
        have : s1 + s2 ≤ P.size := hbd
        omega
      clear hrd hcd hg hsp HS HP HV HB1 hbc hPc hVc h6 hIc hsz hbg hbd
      rename World => w1
      go_wp2_with fail
      go_cut [8, 9] from 10 (fun v8 v9 wx => v9 = .int .i64 cd ∧ OwnG wx 5 1 v8 ((VfsS.readS S P.name).getD ByteArray.empty).size (byteCells ((VfsS.readS S P.name).getD ByteArray.empty)) ∧ (∀ k, v8.ownBlock = some k → w1.heap.size ≤ k) ∧ Below w1.heap.size w1 wx)
      case first =>
        go_region_held3 (fun W => W.cell? ⟨q, 0, none⟩ = some (.pointer (some ⟨p, 0, none⟩)) ∧ W.cell? ⟨q, 1, none⟩ = some (.string P.name))
          (first | exact ⟨c0, c1⟩ | exact ⟨d0, d1⟩ | go_keep)
          (first | (go_at_call 34; refine HRD.out.mono ?_; rintro e w2 ⟨v, rfl, ho2, hn2, hb2⟩; have d0 : w2.cell? ⟨q, 0, none⟩ = some (.pointer (some ⟨p, 0, none⟩)) := (hb2.cell (p := ⟨q, 0, none⟩) hql).trans c0; have d1 : w2.cell? ⟨q, 1, none⟩ = some (.string P.name) := (hb2.cell (p := ⟨q, 1, none⟩) hql).trans c1))
        all_goals
          go_wp2_with fail
          go_meet
          case rel => exact ⟨rfl, ho2, hn2, (below_dN (Below.refl _ w1) 1).trans hb2⟩
      case rest =>
        obtain ⟨rfl, ho, hn8, hb8⟩ := hcut
        obtain ⟨a8, c8, rfl, hle8, hmx8, hsl8⟩ := ho.form
        clear HRD c0 c1
        have HB8 := Lib.hid hb8
        have hIc := (hb8.block bi (Array.getElem?_eq_some_iff.1 HIC.out).1).trans HIC.out
        have h6c := (hb8.block bs hsl).trans H6.out
        clear hb8
        cases hr : VfsS.readS S P.name with
        | none =>
          have hg := HG.out
          rw [hr] at hg
          rw [hr] at hle8 hsl8 ho
          obtain rfl : (4 : Int) = cd := by rw [← HCD.out, hr]; rfl
          go_wp2_with fail
          go_ret2
          try rw [hg]
          exact ⟨_, rfl, NB.from (HBW.out.trans (HB8.out.mono HBW.out.size)) (NB.nil _)⟩
        | some t =>
          have hg := HG.out
          rw [hr] at hg
          simp only [hr, Option.getD_some] at hle8 hsl8 ho ⊢
          obtain rfl : (0 : Int) = cd := by rw [← HCD.out, hr]; rfl
          have hg : PackS.get P S x = if s1 + s2 ≤ (bl t).length then (if Sha.sum (((bl t).drop s1).take s2) = x then (((bl t).drop s1).take s2, 0) else ([], 150)) else ([], 150) := by rw [bl_len]; exact hg
          rw [nb_ba] at hsl8
          rw [← bl_len] at hle8
          rw [← bl_len t]
          have HGG := Lib.hid hg
          have HB9 : Hid (Below w.heap.size w wc) := HBW.out.trans (HB8.out.mono HBW.out.size)
          have e0 : wc.cell? ⟨bs, 0, none⟩ = some (.int .i64 s1) := by rw [cell_of h6c]; rfl
          have e1 : wc.cell? ⟨bs, 1, none⟩ = some (.int .i64 s2) := by rw [cell_of h6c]; rfl
          have hsl9 := (Array.getElem?_eq_some_iff.1 h6c).1
          have hg' := hg
          have hw1 : IntKind.i64.wrap ((s1 : Int) + (s2 : Int)) = (s1 : Int) + (s2 : Int) := IntWalk.i64_in _ (by omega)
          clear hg ho HG
          have htz : (bl t).length ≤ 4194304 := by rw [bl_len]; exact read_size HWF.out hr
          generalize hB : bl t = B at *
          by_cases hbig : B.length < s1 + s2
          · have hd : decide ((s1 : Int) + (s2 : Int) > (B.length : Int)) = true := decide_eq_true (by omega)
            have hd' : decide ((B.length : Int) < (s1 : Int) + (s2 : Int)) = true := decide_eq_true (by omega)
            go_wp2_with fail
            have f0 := fun p => bw_cell (a := ⟨bs, 0, none⟩) hsl9 e0 p
            have f1 := fun p => bw_cell (a := ⟨bs, 1, none⟩) hsl9 e1 p
            refine wp_region_bw (by kernel_rfl) (by kernel_rfl) ?_
            iterate 9 quiet_step (fail)
            iterate 13 go_big_quiet_skip
            quiet_step (fail)
            refine wpQuiet_nil ?_
            rintro Wn ⟨pn, hWn⟩
            have hbn : Below wc.heap.size wc Wn := by rw [hWn]; exact bw_below _ _
            go_wp2_with fail
            go_ret2
            rw [HGG.out, if_neg (by omega)]
            exact ⟨_, rfl, NB.from (HB9.out.trans (hbn.mono HB9.out.size)) (NB.nil _)⟩
          · have hd : decide ((s1 : Int) + (s2 : Int) > (B.length : Int)) = false := decide_eq_false (by omega)
            have hd' : decide ((B.length : Int) < (s1 : Int) + (s2 : Int)) = false := decide_eq_false (by omega)
            obtain ⟨A, C, hC1, hC2, hsA, hrun⟩ := bytes_mid hsl8 hle8 hmx8 (i := s1) (n := s2) (by omega)
            have hDl : ((B.drop s1).take s2).length = s2 := by rw [List.length_take, List.length_drop]; omega
            have hDb : ∀ y ∈ (B.drop s1).take s2, y < 256 := fun y hy => by
              have := List.mem_of_mem_drop (List.mem_of_mem_take hy)
              rw [← hB] at this
              exact bl_lt t y this
            rw [if_pos (by omega)] at hg'
            generalize hD : (B.drop s1).take s2 = D at *
            have HSUM : Hid (∀ W, Below wc.heap.size wc W → Calls Tryd.prog 43 #[.slice (some ⟨W.heap.size, 0, none⟩) 1 1] (W.alloc (.cells #[.slice A s2 C] 43)) fun e w' => e = .returned (.agg (nums .u8 (Sha.sum D))) ∧ Below W.heap.size W w') := fun W hW => by
              have := sum1_c (c := C) (hsA.below hW) hDb (by rw [hDl]; omega)
              rw [hDl] at this
              exact this
            have hneq : ∀ W, (binOp .neq 47 (.agg (nums .u8 (Sha.sum D))) (.agg (nb x).toArray)).run Tryd.prog W = .ok (.bool (!decide (Sha.sum D = x))) W := fun W => id_neq (okId_sum D) HX.out W
            have ei : wc.rangeAt bi 0 (nb x) := fun i u hu => by
              simp only [World.cell?, hIc, Nat.zero_add]
              unfold nums
              rw [List.getElem?_toArray]
              exact hu
            obtain ⟨bad, hbad⟩ : ∃ bad, (!decide (Sha.sum D = x)) = bad := ⟨_, rfl⟩
            rw [hbad] at hneq
            have HBAD := Lib.hid hbad
            clear hbad
            rename World => w2
            have HB1 : Hid (Below w2.heap.size w2 w2.drew) := below_dN (Below.refl _ w2) 1
            have HS7 : Hid (∀ W, Below w2.heap.size w2 W → W.cell? ⟨bs, 0, none⟩ = some (.int .i64 s1) ∧ W.cell? ⟨bs, 1, none⟩ = some (.int .i64 s2) ∧ W.rangeAt bi 0 (nb x)) := fun W hb =>
              ⟨(hb.cell (p := ⟨bs, 0, none⟩) hsl9).trans e0, (hb.cell (p := ⟨bs, 1, none⟩) hsl9).trans e1, fun i u hu => (hb.cell (p := ⟨bi, 0 + i, none⟩) (Array.getElem?_eq_some_iff.1 hIc).1).trans (ei i u hu)⟩
            have HSA := Lib.hid hsA
            have HDL := Lib.hid hDl
            clear e0 e1 ei hIc h6c hsA hDl
            go_wp2_with fail
            go_cut [58] from 10 (fun v58 wx => v58 = .bool bad ∧ Below w2.heap.size w2 wx)
            case first =>
              go_region_held3 (fun W => W.cell? ⟨bs, 0, none⟩ = some (.int .i64 s1) ∧ W.cell? ⟨bs, 1, none⟩ = some (.int .i64 s2) ∧ W.rangeAt bi 0 (nb x))
                (first | exact HS7.out _ HB1.out | exact HS7.out _ (HB1.out.alloc HB1.out.size _) | exact HS7.out _ hbz | go_keep)
                (first | (go_at_call 43; refine (HSUM.out _ HB1.out).mono ?_; rintro e w3 ⟨rfl, hb3⟩; have hbz : Below w2.heap.size w2 w3 := HB1.out.trans (hb3.mono HB1.out.size)))
              all_goals
                go_wp2_with fail
                go_meet
                case rel => exact ⟨rfl, hbz⟩
            case rest =>
              obtain ⟨rfl, hbz⟩ := hcut
              have HBZ := Lib.hid hbz
              have HB3 : Hid (Below w.heap.size w wc) := HB9.out.trans (hbz.mono HB9.out.size)
              cases bad with
              | true =>
                have hne : ¬ Sha.sum D = x := by have := HBAD.out; simpa using this
                go_wp2_with fail
                go_ret2
                rw [HGG.out, if_pos (by omega), if_neg hne]
                exact ⟨_, rfl, NB.from HB3.out (NB.nil _)⟩
              | false =>
                have hne : Sha.sum D = x := by have := HBAD.out; simpa using this
                obtain ⟨e0, e1, -⟩ := HS7.out _ (hbz.alloc hbz.size (.cells #[] 5))
                have hEm := OwnG.new0 wc 5 1
                have hsrc : Src Tryd.prog 1 43 (.slice A s2 C) s2 (nb D) (wc.alloc (.cells #[] 5)) := by
                  have := src_nb (c := C) (HSA.out.below (hbz.alloc hbz.size (.cells #[] 5)))
                  rwa [HDL.out] at this
                have h63 : 0 + s2 ≤ maxLen := by simp [maxLen]; omega
                have h47 : (0 + s2) * 1 ≤ 140737488355328 := by omega
                clear hbz
                go_wp2_with (at_builtin; refine wp_appG rfl _ _ _ _ rfl byteElem rfl rfl hEm rfl hsrc h63 h47 ?_; intro v9 w9 ho9 hg9 hv9)
                simp only [Nat.zero_add, List.nil_append] at ho9
                have hbN : Below wc.heap.size wc w9 := ((Below.refl _ wc).alloc (Nat.le_refl _) _).grown hg9 (by simp) (fun x e => by have e : some wc.heap.size = some x := e; injection e with e; omega)
                go_ret2
                rw [HGG.out, if_pos (by omega), if_pos hne]
                refine ⟨v9, rfl, HB3.out.trans (hbN.mono HB3.out.size), ?_, fun k hk => ?_⟩
                · show OwnG w9 5 1 v9 D.length (nb D)
                  rw [HDL.out]; exact ho9
                · have := HB3.out.size
                  rcases hv9 k hk with h | h
                  · have h : some wc.heap.size = some k := h
                    injection h with h; omega
                  · simp at h; omega
end Go.Proofs.YtfoamcobpfflbaaDoor
namespace Go.Proofs.YtfoamcobpfflbaaDoor
open Go Go.RowKit Go.Maps
open VfsS (St)

section
variable {E : Nat → Prop} {w0 w : World} {p q N M : Nat} {S : St} {P : PackS.Pk}

set_option maxRecDepth 100000 in
theorem psync_p (h : PW E w0 w p q S P N M) (hM : M + 2 ≤ 100000000) :
    Calls Tryd.prog 23 #[.pointer (some ⟨q, 0, none⟩)] w fun e w' => e = .returned (.int .i64 (VfsS.syncS S P.name).2) ∧ PW E w0 w' p q (VfsS.syncS S P.name).1 P N (M + 2) ∧ ∀ k, E k → w'.heap[k]? = w.heap[k]? := by
  obtain ⟨⟨K, hk, hv, hd⟩, hb⟩ := h
  obtain ⟨bm, ov, hr⟩ := id hk
  have c0 : w.cell? ⟨q, 0, none⟩ = some (.pointer (some ⟨p, 0, none⟩)) := by rw [cell_of hr.blk]; rfl
  have c1 : w.cell? ⟨q, 1, none⟩ = some (.string P.name) := by rw [cell_of hr.blk]; rfl
  have hnm := hr.name
  have hkq := hr.kq
  have HS := Lib.hid (sync_e (hv.drewN 1) P.name (by omega) hM)
  have HK := Lib.hid hk
  have HB := Lib.hid hb
  have HD := Lib.hid hd
  clear hr hk hb hd hv
  go_enter Tryd.func23, Tryd.ntmps23
  go_wp2_with fail
  go_region_held3 (fun W => W.cell? ⟨q, 0, none⟩ = some (.pointer (some ⟨p, 0, none⟩)) ∧ W.cell? ⟨q, 1, none⟩ = some (.string P.name))
    (first | exact ⟨c0, c1⟩ | exact ⟨d0, d1⟩ | go_keep)
    (first | (go_at_call 46; refine HS.out.mono ?_; rintro e w2 ⟨rfl, hv2, hs2⟩; have d0 : w2.cell? ⟨q, 0, none⟩ = some (.pointer (some ⟨p, 0, none⟩)) := (by rw [World.cell?_of_block (a := ⟨q, 0, none⟩) (hs2 q (.inl hkq))]; exact c0); have d1 : w2.cell? ⟨q, 1, none⟩ = some (.string P.name) := (by rw [World.cell?_of_block (a := ⟨q, 1, none⟩) (hs2 q (.inl hkq))]; exact c1)))
  all_goals
    go_wp2_with fail
    go_ret
    obtain ⟨r1, r2⟩ := PW.fs (w := w) HK.out HD.out HB.out hv2 hs2
    exact ⟨rfl, r1, r2⟩

theorem PW.made (hv2 : VE E w0 w p S M) (s : ByteArray) (hs : s.size ≤ 1000000) : PW E w0 ((w.alloc (.map #[] 0)).alloc (.cells #[.pointer (some ⟨p, 0, none⟩), .string s, .map (some w.heap.size), .slice none 0 0, .int .i64 0] 115)) p (w.heap.size + 1) S (PackS.new s) 0 M := by
  have h1 := (hv2.alloc (.map #[] 0)).alloc (.cells #[.pointer (some ⟨p, 0, none⟩), .string s, .map (some w.heap.size), .slice none 0 0, .int .i64 0] 115)
  refine ⟨⟨fun k => k = w.heap.size ∨ k = w.heap.size + 1, ⟨w.heap.size, .slice none 0 0, ?_⟩, h1.sub fun k hk => ?_, fun k hk he => ?_⟩, PackS.Bd.new s⟩
  · refine { blk := ?_, map := ⟨0, Nat.le_refl _, (MapG.made SC w).alloc _⟩, ord := OwnG.nil _ _ _, kq := .inr rfl, km := .inl rfl, ko := (fun k h => by cases h), okid := (fun x h => by cases h), size := Nat.le_refl _, olen := Nat.le_refl _, name := hs, big := by omega }
    have : w.heap.size + 1 = (w.alloc (.map #[] 0)).heap.size := by simp
    rw [this]; exact Array.getElem?_push_size
  · rcases hk with (hk | hk) | hk
    · exact .inl (.inr hk)
    · exact .inr (by simpa using hk)
    · exact .inl (.inl hk)
  · have := hv2.lt he
    rcases hk with hk | hk <;> omega
theorem below_made (w : World) (o1 o2 : Obj) : Below w.heap.size w ((w.alloc o1).alloc o2) := ((Below.refl _ w).alloc (Nat.le_refl _) _).alloc (by simp) _

set_option maxRecDepth 100000 in
theorem pcreate_p (h : VE E w0 w p S M) (s : ByteArray) (hs : s.size ≤ 1000000) (hM : M + 3 ≤ 100000000) :
    Calls Tryd.prog 16 #[.pointer (some ⟨p, 0, none⟩), .string s] w fun e w' => (∀ k, E k → w'.heap[k]? = w.heap[k]?) ∧
      (((VfsS.createS S s).2 ≠ 0 ∧ e = .returned (.tuple #[.pointer none, .int .i64 (VfsS.createS S s).2]) ∧ VE E w0 w' p (VfsS.createS S s).1 (M + 3)) ∨
       ((VfsS.createS S s).2 = 0 ∧ ∃ q, e = .returned (.tuple #[.pointer (some ⟨q, 0, none⟩), .int .i64 0]) ∧ PW E w0 w' p q (VfsS.createS S s).1 (PackS.new s) 0 (M + 3))) := by
  have hc := create_e h s (by omega) hM
  obtain ⟨S2, cd, hr⟩ : ∃ S2 cd, VfsS.createS S s = (S2, cd) := ⟨_, _, rfl⟩
  rw [hr] at hc
  have HC := Lib.hid hc
  have HR := Lib.hid hr
  clear h hc hr
  have hmm := fun (t : TypeId) (w : World) => run_makeMap (P := Tryd.prog) t w
  go_enter Tryd.func16, Tryd.ntmps16
  go_upto_region 2 with (go_at_call 45; refine HC.out.mono ?_; rintro e w2 ⟨rfl, hv2, hs2⟩)
  by_cases hcd : cd = 0
  · subst hcd
    go_wp2_with fail
    go_ret2
    rw [HR.out]
    refine ⟨fun k hk => ?_, .inr ⟨rfl, w2.heap.size + 1, ?_, PW.made hv2 s hs⟩⟩
    · rw [← hs2 k hk]
      exact (below_made w2 _ _).block k (hv2.lt hk)
    · simp
  · have hne : (cd == 0) = false := by simpa using hcd
    have hd : decide (cd = 0) = false := decide_eq_false hcd
    go_wp2_with fail
    go_ret2
    rw [HR.out]
    exact ⟨hs2, .inl ⟨hcd, rfl, hv2⟩⟩
end
end Go.Proofs.YtfoamcobpfflbaaDoor
