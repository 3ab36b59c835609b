/- Texts of mine, joined: Walks: a pack notes a record. | A pack beside its file system, in the words of a law's walk. -/
import Derived.Test.YtfoamcobpfflbaaDoorZ29
namespace Go.Proofs.YtfoamcobpfflbaaDoor
open Go Go.RowKit Go.Maps

theorem goU_stepK {P : Program} {md : Region.Mode} {ops : Array Oper} {Q : Exit → Act → World → Prop} {S : World → Prop} {i k : Nat} {ks : List Nat} {b : Bool} (b' : Bool) {o : Oper} {a : Act} {w : World} (ho : ops[k]? = some o) (hb : (b && !Region.waitsFor md ops k i) = b')
    (h : ∀ K' : Act → World → Prop, (∀ a' w', ((b' = true → S w') ∧ goU P md ops Q S i ks b' a' w') → K' a' w') → wpList P ops (Exit.then K' Q) [o] a w) : goU P md ops Q S i (k :: ks) b a w :=
  goU_step ho hb (h _ fun _ _ h => h)

theorem only_trans {K : Nat → Prop} {w w1 w2 : World} {row : Option Nat} (h : Only K w w1) (hg : w1.grownBy w2 row) (hr : ∀ k, row = some k → K k) : Only K w w2 := h.trans' (Only.of_grown hg hr)

theorem PkR.setOrd {w w1 : World} {q p bm N : Nat} {P : PackS.Pk} {K : Nat → Prop} {ov ov' : Value} (h : PkR w q p P K bm ov N) {x : List Nat} (hx : OkId x) (ho : OwnG w1 47 32 ov' (P.order.length + 1) (irow P.order ++ nb x)) (hg : w.grownBy w1 ov.ownBlock) (hv : ∀ k, ov'.ownBlock = some k → ov.ownBlock = some k ∨ w.heap.size ≤ k) (hN : N + 1 ≤ 100000000) :
    PkR (w1.setCell ⟨q, 3, none⟩ ov') q p { P with order := P.order ++ [x] } (Kx K w.heap.size (w1.setCell ⟨q, 3, none⟩ ov').heap.size) bm ov' (N + 1) ∧ Only K w (w1.setCell ⟨q, 3, none⟩ ov') := by
  have hql := (Array.getElem?_eq_some_iff.1 h.blk).1
  have hb1 := (hg.block q hql (fun e => h.oq e.symm)).trans h.blk
  obtain ⟨s, g⟩ := set_blk hb1 3 ov'
  have hsz : w.heap.size ≤ w1.heap.size := hg.size
  have hnq : ov'.ownBlock ≠ some q := fun e => by
    rcases hv q e with e2 | e2
    · exact h.oq e2
    · omega
  refine ⟨{ blk := s, map := ?_, ord := ?_, kq := .inl h.kq, km := .inl h.km, ko := fun k hk => ?_, okid := ?_, size := ?_, olen := ?_, name := h.name, big := hN }, only_trans (Only.of_grown hg (fun k e => h.ko k e)) g (fun k e => by injection e with e; subst e; exact h.kq)⟩
  · obtain ⟨n, h1, h2⟩ := h.map
    exact ⟨n, by omega, (h2.kept hg (fun e => h.om e.symm)).kept g (fun e => by injection e with e; exact h.qm e)⟩
  · show OwnG _ _ 32 ov' (P.order ++ [x]).length (irow (P.order ++ [x]))
    rw [List.length_append, irow_app, irow_one]
    exact ho.kept g (.inr hnq)
  · rcases hv k hk with e | e
    · exact .inl (h.ko k e)
    · exact .inr ⟨e, Nat.lt_of_lt_of_le (ho.lt hk) g.size⟩
  · intro y hy
    rcases List.mem_append.1 hy with hy | hy
    · exact h.okid y hy
    · rw [List.mem_singleton] at hy; subst hy; exact hx
  · have := h.size
    show P.size ≤ 8000000 * (N + 1)
    omega
  · show (P.order ++ [x]).length ≤ N + 1
    rw [List.length_append]
    have := h.olen
    simp; omega

theorem PkR.setSpot {w w1 : World} {q p bm N n : Nat} {P : PackS.Pk} {K : Nat → Prop} {ov : Value} (h : PkR w q p P K bm ov N) {F : List Nat → Option (Nat × Nat)} (hm : MapG SC w1 bm n F) (hn : n ≤ N) (hg : w.grownBy w1 (some bm)) :
    PkR w1 q p { P with spots := F } K bm ov N ∧ Only K w w1 := by
  have hql := (Array.getElem?_eq_some_iff.1 h.blk).1
  refine ⟨{ blk := (hg.block q hql (fun e => by injection e with e; exact h.qm e.symm)).trans h.blk, map := ⟨n, hn, hm⟩, ord := h.ord.kept hg ?_, kq := h.kq, km := h.km, ko := h.ko, okid := h.okid, size := h.size, olen := h.olen, name := h.name, big := h.big }, Only.of_grown hg (fun k e => by injection e with e; subst e; exact h.km)⟩
  exact .inr h.om

theorem PkR.setSize {w : World} {q p bm N : Nat} {P : PackS.Pk} {K : Nat → Prop} {ov : Value} (h : PkR w q p P K bm ov N) (m : Nat) (hm : m ≤ 8000000 * N) :
    PkR (w.setCell ⟨q, 4, none⟩ (.int .i64 m)) q p { P with size := m } K bm ov N ∧ Only K w (w.setCell ⟨q, 4, none⟩ (.int .i64 m)) := by
  obtain ⟨s, g⟩ := set_blk h.blk 4 (.int .i64 m)
  refine ⟨{ blk := s, map := ?_, ord := h.ord.kept g (.inr h.oq), kq := h.kq, km := h.km, ko := h.ko, okid := h.okid, size := hm, olen := h.olen, name := h.name, big := h.big }, Only.of_grown g (fun k e => by injection e with e; subst e; exact h.kq)⟩
  obtain ⟨n, h1, h2⟩ := h.map
  exact ⟨n, h1, h2.kept g (fun e => by injection e with e; exact h.qm e)⟩

theorem PkR.mono {w : World} {q p bm N N' : Nat} {P : PackS.Pk} {K K' : Nat → Prop} {ov : Value} (h : PkR w q p P K bm ov N) (hK : ∀ k, K k → K' k) (hN : N ≤ N') (hb : N' ≤ 100000000) : PkR w q p P K' bm ov N' :=
  { blk := h.blk, map := by obtain ⟨n, h1, h2⟩ := h.map; exact ⟨n, by omega, h2⟩, ord := h.ord, kq := hK _ h.kq, km := hK _ h.km, ko := fun k hk => hK k (h.ko k hk), okid := h.okid, size := by have := h.size; omega, olen := by have := h.olen; omega, name := h.name, big := hb }

set_option maxRecDepth 100000 in
set_option maxHeartbeats 2000000 in
theorem note_c {w : World} {q p N : Nat} {P : PackS.Pk} {K : Nat → Prop} (h : PK w q p P K N) {a : Option Addr} {c : Nat} {l : List Nat} (hl : Sl w a (nb l)) (hb : ∀ x ∈ l, x < 256) (hn : l.length ≤ 7000000) (hN : N + 1 ≤ 100000000) :
    Calls Tryd.prog 66 #[.pointer (some ⟨q, 0, none⟩), .slice a l.length c] w fun e w' => e = .returned (.tuple #[]) ∧ PK w' q p (PackS.note P l) (Kx K w.heap.size w'.heap.size) (N + 1) ∧ Only K w w' := by
  obtain ⟨bm, ov, h⟩ := h
  have HS := Lib.hid (sum1_c (c := c) hl hb (by omega))
  go_enter Tryd.func66, Tryd.ntmps66
  go_upto_region 1 with (first
    | (go_at_call 43; refine HS.out.mono ?_; rintro e w1 ⟨rfl, hb1⟩; have hI : (w1.alloc (.cells #[Value.int .u8 0, Value.int .u8 0, Value.int .u8 0, Value.int .u8 0, Value.int .u8 0, Value.int .u8 0, Value.int .u8 0, Value.int .u8 0, Value.int .u8 0, Value.int .u8 0, Value.int .u8 0, Value.int .u8 0, Value.int .u8 0, Value.int .u8 0, Value.int .u8 0, Value.int .u8 0, Value.int .u8 0, Value.int .u8 0, Value.int .u8 0, Value.int .u8 0, Value.int .u8 0, Value.int .u8 0, Value.int .u8 0, Value.int .u8 0, Value.int .u8 0, Value.int .u8 0, Value.int .u8 0, Value.int .u8 0, Value.int .u8 0, Value.int .u8 0, Value.int .u8 0, Value.int .u8 0] 47)).heap[w1.heap.size]? = some (.cells #[Value.int .u8 0, Value.int .u8 0, Value.int .u8 0, Value.int .u8 0, Value.int .u8 0, Value.int .u8 0, Value.int .u8 0, Value.int .u8 0, Value.int .u8 0, Value.int .u8 0, Value.int .u8 0, Value.int .u8 0, Value.int .u8 0, Value.int .u8 0, Value.int .u8 0, Value.int .u8 0, Value.int .u8 0, Value.int .u8 0, Value.int .u8 0, Value.int .u8 0, Value.int .u8 0, Value.int .u8 0, Value.int .u8 0, Value.int .u8 0, Value.int .u8 0, Value.int .u8 0, Value.int .u8 0, Value.int .u8 0, Value.int .u8 0, Value.int .u8 0, Value.int .u8 0, Value.int .u8 0] 47 (0, 0)) := Array.getElem?_push_size)
    | (refine wp_storeB rfl 47 _ _ rfl w1.heap.size (nums .u8 (Sha.sum l)) rfl rfl hI (by rw [nums_size, PackS.sum_len]; kernel_rfl) (by rw [nums_size, PackS.sum_len]; kernel_rfl) (nums_one _ _) ?_; intro wA h2 g2))
  have hbA : Below w.heap.size w wA := ((hb1.alloc hb1.size _).grown g2 (hb1.alloc hb1.size _).size (fun k e => by injection e with e; have := hb1.size; omega))
  have hbi : w.heap.size ≤ w1.heap.size := hb1.size
  have hP := h.below hbA
  have hov : ∀ k, ov.ownBlock = some k → k < w.heap.size := fun k e => h.ord.lt e
  have hqw : q < w.heap.size := (Array.getElem?_eq_some_iff.1 h.blk).1
  have hx := okId_sum l
  have hnote : PackS.note P l = if PackS.has P (Sha.sum l) = true then { P with size := P.size + (12 + l.length) } else { P with order := P.order ++ [Sha.sum l], spots := fun i => if i = Sha.sum l then some (P.size + 12, l.length) else P.spots i, size := P.size + (12 + l.length) } := rfl
  generalize hsm : Sha.sum l = x at *
  have HSM := Lib.hid hsm
  have HLen := Lib.hid hn
  have HNT := Lib.hid hnote
  have HOV := Lib.hid hov
  have hnl : l.length ≤ 7000000 := hn
  clear hI HS hb1 g2 hl hb hsm h hn hnote hov
  generalize w1.heap.size = bi at *
  obtain ⟨n, hn, hm⟩ := hP.map
  have hqlt := (Array.getElem?_eq_some_iff.1 hP.blk).1
  obtain ⟨fl, hfl⟩ : ∃ fl, (P.spots x).isSome = fl := ⟨_, rfl⟩
  have HFL : Hid (PackS.has P x = fl) := hfl
  obtain ⟨s1, hs1⟩ : ∃ s1, ((P.spots x).getD (0, 0)).1 = s1 := ⟨_, rfl⟩
  obtain ⟨s2, hs2⟩ : ∃ s2, ((P.spots x).getD (0, 0)).2 = s2 := ⟨_, rfl⟩
  have hS : ∀ W, Below wA.heap.size wA W → W.cell? ⟨q, 2, none⟩ = some (.map (some bm)) ∧ W.rangeAt bi 0 (nb x) ∧ (Instr.lookup 113 (.map (some bm)) (.agg (nb x).toArray) true).run Tryd.prog W = .ok (.tuple #[.agg #[.int .i64 s1, .int .i64 s2], .bool fl]) W := fun W hb => by
    refine ⟨(hb.cell (p := ⟨q, 2, none⟩) hqlt).trans (by rw [cell_of hP.blk]; rfl), fun i u hu => ?_, ?_⟩
    · rw [hb.cell (p := ⟨bi, 0 + i, none⟩) (Array.getElem?_eq_some_iff.1 h2).1]
      simp only [World.cell?, h2, Nat.zero_add]
      unfold nums
      rw [List.getElem?_toArray]
      exact hu
    · have := (hm.below hb).look_ok x hx
      rw [hfl] at this
      rw [← hs1, ← hs2]
      exact this
  have hu47 := id_under
  have hi47 : (Tryd.prog.info? 47).map (·.size) = some (nb x).length := by rw [nb_len, hx.1]; kernel_rfl
  have HS := Lib.hid hS
  have HP := Lib.hid hP
  have H2 := Lib.hid h2
  have HM := Lib.hid hm
  have HX := Lib.hid hx
  have HNn := Lib.hid hn
  clear hfl hm hP hs1 hs2 hS h2 hx hn
  have b1 : Below wA.heap.size wA wA.drew := below_dN (Below.refl _ wA) 1
  have HB1 := Lib.hid b1
  clear b1
  simp only [Act.put]
  go_cut [4, 6] from 2 (fun v4 v6 wx => v4 = .pointer (some ⟨bi, 0, none⟩) ∧ v6 = .bool fl ∧ Below wA.heap.size wA wx)
  case first =>
    go_region_held3 (fun W => W.cell? ⟨q, 2, none⟩ = some (.map (some bm)) ∧ W.rangeAt bi 0 (nb x) ∧ (Instr.lookup 113 (.map (some bm)) (.agg (nb x).toArray) true).run Tryd.prog W = .ok (.tuple #[.agg #[.int .i64 s1, .int .i64 s2], .bool fl]) W)
      (first | exact HS.out _ HB1.out | exact HS.out _ (HB1.out.alloc HB1.out.size _) | exact HS.out _ ((HB1.out.alloc HB1.out.size _).grown (setCells_grown _ _ _ _) (HB1.out.alloc HB1.out.size _).size (fun k e => by injection e with e; have := HB1.out.size; omega)) | go_keep) (first | fail)
    all_goals
      go_wp2_with fail
      go_meet
      case rel => exact ⟨rfl, rfl, HB1.out.alloc HB1.out.size (.cells #[.int .i64 s1, .int .i64 s2] 135)⟩
  case rest =>
    obtain ⟨rfl, rfl, hbc⟩ := hcut
    have hP := HP.out.below hbc
    have h2c := (hbc.block bi (Array.getElem?_eq_some_iff.1 H2.out).1).trans H2.out
    have hbil := (Array.getElem?_eq_some_iff.1 h2c).1
    have hm := HM.out.below hbc
    have hbW : Below w.heap.size w wc := hbA.trans (hbc.mono hbA.size)
    have HBW := Lib.hid hbW
    clear HS HP H2 HM HB1 hbA hbc hbW
    have HP := Lib.hid hP
    have HM := Lib.hid hm
    clear hP hm
    go_upto_if 20 with fail
    go_cut [] from 7 (fun wx => ∃ ov', PkR wx q p { PackS.note P l with size := P.size } (Kx K w.heap.size wx.heap.size) bm ov' (N + 1) ∧ Only K w wx)
    case first =>
      have hP := HP.out
      have hm := HM.out
      clear HP HM
      cases fl with
      | false =>
        go_upto_region 3 with fail
        go_cut [] from 7 (fun wx => ∃ v, PkR wx q p { P with order := P.order ++ [x] } (Kx K w.heap.size wx.heap.size) bm v (N + 1) ∧ Only K w wx ∧ wx.heap[bi]? = some (.cells (nums .u8 x) 47 (0, 0)) ∧ MapG SC wx bm n P.spots)
        case first =>
          have hql := (Array.getElem?_eq_some_iff.1 hP.blk).1
          have c3 : wc.cell? ⟨q, 3, none⟩ = some ov := by rw [cell_of hP.blk]; rfl
          refine wp_region_tku (fun W => Below wc.heap.size wc W) [0, 1, 2, 3] 4 [5, 6, 7, 8, 9, 10] (by kernel_rfl) (by kernel_rfl) (fun _ _ _ _ _ h => h) ?_
          refine ⟨_, rfl, .pointer (some ⟨q, 0, none⟩), .inl ⟨rfl, fun _ => rfl⟩, ?_⟩
          refine ⟨_, rfl, .pointer (some ⟨q, 0, none⟩), .inl ⟨rfl, fun _ => rfl⟩, ?_⟩
          refine ⟨_, rfl, .pointer (some ⟨q, 0, none⟩), .inl ⟨rfl, fun _ => rfl⟩, ?_⟩
          refine ⟨_, rfl, .pointer (some ⟨q, 3, none⟩), .inl ⟨rfl, fun _ => by simp [execOp, go_sem, Act.put, Act.eval]⟩, ?_⟩
          refine ⟨_, rfl, ov, .inl ⟨rfl, fun W hW => ?_⟩, below_dN (Below.refl _ _) 1, ?_⟩
          · have c3W := (hW.cell (p := ⟨q, 3, none⟩) hql).trans c3
            simp [execOp, go_sem, Act.put, Act.eval, c3W]
          have h2W : (wc.drewN 1).heap[bi]? = some (.cells (nums .u8 x) 47 (0, 0)) := h2c
          refine goU_step (b' := true) rfl (by kernel_rfl) ?_
          refine wp_loadB rfl 47 _ rfl bi rfl h2W _ id_under rfl (by rw [Array.length_toList, nums_size, HX.out.1]; kernel_rfl) ?_
          refine ⟨fun _ => below_dN (Below.refl _ _) 1, ?_⟩
          refine goU_step (b' := true) rfl (by kernel_rfl) ?_
          simp only [Act.put, List.setIfInBounds_toArray]
          refine wpList_ids1 rfl HX.out _ rfl ?hp ?_
          case hp => simp [Act.eval]
          refine ⟨fun _ => (below_dN (Below.refl _ _) 1).alloc (by simp) _, ?_⟩
          refine goU_step (b' := false) rfl (by kernel_rfl) ?_
          have hPx : PkR ((wc.drewN 1).alloc (.cells (nums .u8 x) 47)) q p P K bm ov N := hP.below ((below_dN (Below.refl _ wc) 1).alloc (by simp) _)
          have hol := hPx.olen
          have hob := hPx.big
          have h63 : P.order.length + 1 ≤ maxLen := by simp [maxLen]; omega
          have h47 : (P.order.length + 1) * 32 ≤ 140737488355328 := by omega
          have hsr : Src Tryd.prog 32 76 (.slice (some ⟨(wc.drewN 1).heap.size, 0, none⟩) 1 1) 1 (nb x) ((wc.drewN 1).alloc (.cells (nums .u8 x) 47)) := Src.ofNew (e := 47) (news := nb x) Tryd.underlying76 (by rw [nb_len, HX.out.1]) (nb_one _)
          have hz32 : (Value.agg (nums .u8 (List.replicate 32 0))).cells.size = 32 := by simp [Value.cells, nums]
          refine wp_appG (v := ov) (xv := .slice (some ⟨(wc.drewN 1).heap.size, 0, none⟩) 1 1) rfl _ _ _ _ rfl idElem hz32 ?hs hPx.ord ?hx hsr h63 h47 ?_
          case hs => rfl
          case hx => rfl
          intro v4 w4 ho4 hg4 hv4
          refine ⟨fun hf => (by cases hf), ?_⟩
          have hr := hPx.setOrd HX.out ho4 hg4 hv4 hN
          have HR := Lib.hid hr
          clear hr
          have hqx := (Array.getElem?_eq_some_iff.1 hPx.blk).1
          have hb4 := (hg4.block q hqx (fun e => hPx.oq e.symm)).trans hPx.blk
          have c4 : w4.cell? ⟨q, 3, none⟩ = some ov := by rw [cell_of hb4]; rfl
          have hql4 := (Array.getElem?_eq_some_iff.1 hb4).1
          have f4 : w4.frozen? ⟨q, 3, none⟩ = false := by simp [World.frozen?, hb4]
          obtain ⟨sp, sl, sc, he4⟩ : ∃ sp sl sc, v4 = .slice sp sl sc := by
            rcases ho4.2 with ⟨e, _⟩ | ⟨g, o, cap, cur, e, _⟩
            · exact ⟨_, _, _, e⟩
            · exact ⟨_, _, _, e⟩
          have hbin : ov.ownBlock ≠ some bi := fun e => by have := HOV.out bi e; omega
          have hbA9 : Below wc.heap.size wc ((wc.drewN 1).alloc (.cells (nums .u8 x) 47)) := (below_dN (Below.refl _ wc) 1).alloc (by simp) _
          have hbi4 := (hg4.block bi (Nat.lt_of_lt_of_le hbil hbA9.size) (fun e => hbin e.symm)).trans ((hbA9.block bi hbil).trans h2c)
          obtain ⟨_, gS⟩ := set_blk hb4 3 (.slice sp sl sc)
          have hbiW := (gS.block bi (Array.getElem?_eq_some_iff.1 hbi4).1 (fun e => by injection e with e; omega)).trans hbi4
          have hm4W := ((hm.below hbA9).kept hg4 (fun e => hPx.om e.symm)).kept gS (fun e => by injection e with e; exact hPx.qm e)
          clear gS hbi4 hPx ho4 hg4 hv4 hsr hz32 h63 h47
          subst he4
          refine goU_stepK false rfl (by kernel_rfl) fun K' hK' => ?_
          go_wp2_with fail
          try refine ⟨fun hf => (by cases hf), ?_⟩
          refine goU_stepK false rfl (by kernel_rfl) fun K' hK' => ?_
          go_wp2_with fail
          try refine ⟨fun hf => (by cases hf), ?_⟩
          refine goU_stepK false rfl (by kernel_rfl) fun K' hK' => ?_
          go_wp2_with fail
          try refine ⟨fun hf => (by cases hf), ?_⟩
          obtain ⟨HP3, HO3⟩ := HR.out
          have hbw3 : w.heap.size ≤ ((wc.drewN 1).alloc (.cells (nums .u8 x) 47)).heap.size := Nat.le_trans HBW.out.size hbA9.size
          have HOA : Hid (Only K w ((wc.drewN 1).alloc (.cells (nums .u8 x) 47))) := Only.of_below (HBW.out.trans (hbA9.mono HBW.out.size))
          show Exit.then _ _ .normal _ _
          go_wp2_with fail
          go_meet
          case rel => exact ⟨_, HP3.mono (fun k hk => hk.elim .inl fun hk => .inr ⟨Nat.le_trans hbw3 hk.1, hk.2⟩) (Nat.le_refl _) hN, HOA.out.trans' HO3, hbiW, hm4W⟩
        case rest =>
          obtain ⟨v, HP3, HO3, hbiW, hm9⟩ := hcut
          have hbq : bi < wc.heap.size := (Array.getElem?_eq_some_iff.1 hbiW).1
          have cW2 : wc.cell? ⟨q, 2, none⟩ = some (.map (some bm)) := by rw [cell_of HP3.blk]; rfl
          have cW4 : wc.cell? ⟨q, 4, none⟩ = some (.int .i64 P.size) := by rw [cell_of HP3.blk]; rfl
          have cWb : wc.rangeAt bi 0 (nb x) := fun i u hu => by
            simp only [World.cell?, hbiW, Nat.zero_add]
            unfold nums
            rw [List.getElem?_toArray]
            exact hu
          have hsz := HP3.size
          have hsz : P.size ≤ 8000000 * (N + 1) := hsz
          have hw12 : IntKind.i64.wrap ((P.size : Int) + 12) = ((P.size + 12 : Nat) : Int) := by rw [IntWalk.i64_in _ (by omega)]; omega
          have hqb : bm ≠ q := HP3.qm
          have hib : bm ≠ bi := fun e => by
            obtain ⟨es, cl, h1⟩ := hm9.isMap
            rw [e, hbiW] at h1
            cases h1
          have hql9 := (Array.getElem?_eq_some_iff.1 HP3.blk).1
          have hblk9 := HP3.blk
          have HP3 := Lib.hid HP3
          have HO3 := Lib.hid HO3
          have HMN : Hid (n < maxLen) := by have := HNn.out; show _ < _; simp [maxLen]; omega
          obtain ⟨w5, hrun, hm5, hg5⟩ := (hm9.drewN 1).put x HX.out (P.size + 12, l.length) trivial HMN.out
          have hrun : (Instr.mapUpdate 113 (.map (some bm)) (.agg (nb x).toArray) (.agg #[.int .i64 ((P.size : Int) + 12), .int .i64 (l.length : Int)])).run Tryd.prog wc.drew = .ok () w5 := by
            have he : SC.mkE (P.size + 12, l.length) = .agg #[.int .i64 ((P.size : Int) + 12), .int .i64 (l.length : Int)] := by
              show spV (P.size + 12, l.length) = _
              unfold spV
              rw [Int.natCast_add]; rfl
            rw [he] at hrun
            exact hrun
          have hq5 := (hg5.block q hql9 (fun e => by injection e with e; exact hqb e.symm)).trans hblk9
          have hb5 := (hg5.block bi hbq (fun e => by injection e with e; exact hib e.symm)).trans hbiW
          have c52 : w5.cell? ⟨q, 2, none⟩ = some (.map (some bm)) := by rw [cell_of hq5]; rfl
          have c54 : w5.cell? ⟨q, 4, none⟩ = some (.int .i64 P.size) := by rw [cell_of hq5]; rfl
          have c5b : w5.rangeAt bi 0 (nb x) := fun i u hu => by
            simp only [World.cell?, hb5, Nat.zero_add]
            unfold nums
            rw [List.getElem?_toArray]
            exact hu
          clear hsz hbiW hbil hbi hqlt hqw h2c hP hm HOV hq5 hb5 hblk9 hql9 hqb hib hbq
          go_wp2_with fail
          go_region_held3 (fun W => W.cell? ⟨q, 2, none⟩ = some (.map (some bm)) ∧ W.cell? ⟨q, 4, none⟩ = some (.int .i64 P.size) ∧ W.rangeAt bi 0 (nb x))
            (first | exact ⟨cW2, cW4, cWb⟩ | exact ⟨c52, c54, c5b⟩ | go_keep) (first | fail)
          all_goals
            go_wp2_with fail
            go_meet
            case rel =>
              have hno : PackS.note P l = { P with order := P.order ++ [x], spots := fun i => if i = x then some (P.size + 12, l.length) else P.spots i, size := P.size + (12 + l.length) } := by
                have := HNT.out
                rw [HFL.out, if_neg (by simp)] at this
                exact this
              rw [hno]
              have hn := HNn.out
              obtain ⟨r1, r2⟩ := (HP3.out.below (below_dN (Below.refl _ wc) 1)).setSpot hm5 (by omega) hg5
              exact ⟨_, r1.mono (fun k hk => hk.elim .inl fun hk => .inr ⟨hk.1, Nat.lt_of_lt_of_le hk.2 hg5.size⟩) (Nat.le_refl _) hN, HO3.out.trans (((Only.refl _ wc).drewN 1).trans' r2)⟩
      | true =>
        go_wp2_with fail
        go_meet
        case rel =>
          have hno : PackS.note P l = { P with size := P.size + (12 + l.length) } := by
            have := HNT.out
            rw [HFL.out, if_pos rfl] at this
            exact this
          rw [hno]
          exact ⟨ov, hP.mono (fun k hk => .inl hk) (by omega) hN, Only.of_below HBW.out⟩
    case rest =>
      obtain ⟨ov', hP', hO⟩ := hcut
      have hno : (PackS.note P l).size = P.size + (12 + l.length) := by
        have := HNT.out
        split at this <;> rw [this]
      have c4 : wc.cell? ⟨q, 4, none⟩ = some (.int .i64 P.size) := by rw [cell_of hP'.blk]; rfl
      have f4 : wc.frozen? ⟨q, 4, none⟩ = false := by simp [World.frozen?, hP'.blk]
      have hsz := hP'.size
      have hsz : P.size ≤ 8000000 * (N + 1) := hsz
      have hw1 : IntKind.i64.wrap (12 + (l.length : Int)) = 12 + (l.length : Int) := IntWalk.i64_in _ (by omega)
      have hw2 : IntKind.i64.wrap ((P.size : Int) + (12 + (l.length : Int))) = ((P.size + (12 + l.length) : Nat) : Int) := by rw [IntWalk.i64_in _ (by omega)]; omega
      have hsz0 := HP.out.size
      obtain ⟨r1, r2⟩ := hP'.setSize (P.size + (12 + l.length)) (by omega)
      have HR1 := Lib.hid r1
      have HR2 := Lib.hid r2
      have HO := Lib.hid hO
      have HNO := Lib.hid hno
      clear r1 r2 hO hno hP' hsz hsz0
      go_wp2_with fail
      go_end0
      have hfin : (PackS.note P l) = { PackS.note P l with size := P.size + (12 + l.length) } := by rw [← HNO.out]
      have r1 := HR1.out
      have r2 := HR2.out
      rw [show ({ PackS.note P l with size := P.size + (12 + l.length) } : PackS.Pk) = PackS.note P l from hfin.symm] at r1
      exact ⟨rfl, ⟨bm, ov', r1.mono (fun k hk => hk.elim .inl fun hk => .inr ⟨hk.1, Nat.lt_of_lt_of_le hk.2 r2.size⟩) (Nat.le_refl _) hN⟩, HO.out.trans r2⟩
end Go.Proofs.YtfoamcobpfflbaaDoor
namespace Go.Proofs.YtfoamcobpfflbaaDoor
open Go Go.RowKit Go.Maps
open VfsS (St)

namespace PackS
/-- Each record lies within the file. -/
def Bd (P : Pk) : Prop := ∀ i s, P.spots i = some s → s.1 + s.2 ≤ P.size
theorem Bd.new (nm : ByteArray) : Bd (new nm) := fun _ _ h => by cases h
theorem Bd.note {P : Pk} (h : Bd P) (d : List Nat) : Bd (note P d) := by
  intro i s hs
  unfold PackS.note at hs ⊢
  by_cases hh : has P (Sha.sum d) = true
  · rw [if_pos hh] at hs ⊢
    have := h i s hs
    show _ ≤ P.size + (12 + d.length)
    omega
  · rw [if_neg hh] at hs ⊢
    show _ ≤ P.size + (12 + d.length)
    by_cases e : i = Sha.sum d
    · simp only [if_pos e] at hs
      injection hs with hs
      subst hs
      show P.size + 12 + d.length ≤ _
      omega
    · simp only [if_neg e] at hs
      have := h i s hs
      omega
theorem Bd.fold : ∀ (L : List (List Nat)) {P : Pk}, Bd P → Bd (L.foldl PackS.note P)
  | [], _, h => h
  | d :: L, _, h => Bd.fold L (h.note d)
end PackS

/-- Behind q lies the pack P over the file system S behind p; both were made since w0; E's blocks are neither's. -/
structure PW (E : Nat → Prop) (w0 w : World) (p q : Nat) (S : St) (P : PackS.Pk) (N M : Nat) : Prop where
  ex : ∃ K, PK w q p P K N ∧ VE (fun k => K k ∨ E k) w0 w p S M ∧ ∀ k, K k → ¬ E k
  bd : PackS.Bd P

section
variable {E : Nat → Prop} {w0 w w' : World} {p q N M : Nat} {S : St} {P : PackS.Pk}
theorem PW.ve (h : PW E w0 w p q S P N M) : VE E w0 w p S M := by
  obtain ⟨K, h1, h2, h3⟩ := h.ex
  exact h2.sub fun k hk => .inr hk
theorem PW.pk (h : PW E w0 w p q S P N M) : ∃ K, PK w q p P K N := by
  obtain ⟨K, h1, h2, h3⟩ := h.ex
  exact ⟨K, h1⟩
theorem PW.lt (h : PW E w0 w p q S P N M) {k : Nat} (hk : E k) : k < w.heap.size := h.ve.lt hk
theorem PW.out (h : PW E w0 w p q S P N M) : Below w0.heap.size w0 w := h.ve.out
theorem PW.gl (h : PW E w0 w p q S P N M) : Gl w := h.ve.gl
/-- What only makes new blocks: they are E's then. -/
theorem PW.below (h : PW E w0 w p q S P N M) (hb : Below w.heap.size w w') : PW (Kx E w.heap.size w'.heap.size) w0 w' p q S P N M := by
  obtain ⟨K, h1, h2, h3⟩ := h.ex
  refine ⟨⟨K, h1.below hb, (h2.below hb).sub fun k hk => ?_, fun k hk he => ?_⟩, h.bd⟩
  · rcases hk with hk | hk | hk
    · exact .inl (.inl hk)
    · exact .inl (.inr hk)
    · exact .inr hk
  · rcases he with he | he
    · exact h3 k hk he
    · have := h2.lt (k := k) (.inl hk)
      omega
theorem PW.sub {E' : Nat → Prop} (h : PW E w0 w p q S P N M) (he : ∀ k, E' k → E k) : PW E' w0 w p q S P N M := by
  obtain ⟨K, h1, h2, h3⟩ := h.ex
  exact ⟨⟨K, h1, h2.sub fun k hk => hk.elim .inl fun e => .inr (he k e), fun k hk e => h3 k hk (he k e)⟩, h.bd⟩
theorem PW.reads (h : PW E w0 w p q S P N M) (hb : Below w.heap.size w w') : PW E w0 w' p q S P N M ∧ ∀ k, E k → w'.heap[k]? = w.heap[k]? :=
  ⟨(h.below hb).sub fun _ hk => .inl hk, fun k hk => hb.block k (h.lt hk)⟩
theorem PW.drewN (h : PW E w0 w p q S P N M) (n : Nat) : PW E w0 (w.drewN n) p q S P N M := (h.reads (below_dN (Below.refl _ _) n)).1
/-- What the file system's own calls make of it. -/
theorem PW.fs {S' : St} {M' : Nat} {K : Nat → Prop} (h1 : PK w q p P K N) (h3 : ∀ k, K k → ¬ E k) (hb : PackS.Bd P) (hv : VE (fun k => K k ∨ E k) w0 w' p S' M') (hs : ∀ k, (K k ∨ E k) → w'.heap[k]? = w.heap[k]?) : PW E w0 w' p q S' P N M' ∧ ∀ k, E k → w'.heap[k]? = w.heap[k]? :=
  ⟨⟨⟨K, h1.block fun k hk => hs k (.inl hk), hv, h3⟩, hb⟩, fun k hk => hs k (.inr hk)⟩
/-- What the pack's own calls make of it. -/
theorem PW.own {P' : PackS.Pk} {N' : Nat} {K : Nat → Prop} (hv : VE (fun k => K k ∨ E k) w0 w p S M) (h3 : ∀ k, K k → ¬ E k) (hb : PackS.Bd P') (h1 : PK w' q p P' (Kx K w.heap.size w'.heap.size) N') (ho : Only K w w') : PW E w0 w' p q S P' N' M ∧ ∀ k, E k → w'.heap[k]? = w.heap[k]? := by
  refine ⟨⟨⟨_, h1, (hv.foreign (w' := w') ⟨ho.os, ho.tape, ho.output, ho.size, fun k hk hn => ho.block k hk fun e => hn (.inl e)⟩).sub fun k hk => ?_, fun k hk he => ?_⟩, hb⟩, fun k hk => ho.block k (hv.lt (.inr hk)) fun e => h3 k e hk⟩
  · rcases hk with (hk | hk) | hk
    · exact .inl (.inl hk)
    · exact .inr hk
    · exact .inl (.inr hk)
  · rcases hk with hk | hk
    · exact h3 k hk he
    · have := hv.lt (k := k) (.inr he)
      omega
theorem PK.mono {K : Nat → Prop} {N' : Nat} (h : PK w q p P K N) (hN : N ≤ N') (hb : N' ≤ 100000000) : PK w q p P K N' := by
  obtain ⟨bm, ov, h⟩ := h
  exact ⟨bm, ov, h.mono (fun _ h => h) hN hb⟩
theorem PW.mono {N' M' : Nat} (h : PW E w0 w p q S P N M) (hN : N ≤ N') (hb : N' ≤ 100000000) (hM : M ≤ M') (hb' : M' ≤ 100000000) : PW E w0 w p q S P N' M' := by
  obtain ⟨K, h1, h2, h3⟩ := h.ex
  exact ⟨⟨K, h1.mono hN hb, h2.mono hM hb', h3⟩, h.bd⟩
end
end Go.Proofs.YtfoamcobpfflbaaDoor
