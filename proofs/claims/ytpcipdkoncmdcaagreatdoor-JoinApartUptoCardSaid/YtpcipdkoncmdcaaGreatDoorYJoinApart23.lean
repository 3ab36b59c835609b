/- Texts of mine, joined: Walk: slices.Insert over files, one file from another block. -/
import Derived.Test.YtpcipdkoncmdcaaGreatDoorYJoinApart22
namespace Go.Proofs.YtpcipdkoncmdcaaGreatDoor
open Go Go.RowKit
theorem fi_size (W : World) : (sizeOf (Tryz.prog.elem 22)).run Tryz.prog W = .ok 34 W := by
  obtain ⟨i, hi, g1, g2, g3⟩ := info_parts fiElem.info
  have e : Tryz.prog.elem 22 = 56 := by kernel_rfl
  rw [e]
  simp [sizeOf, typeInfo, hi, g2]
theorem fi_under : Tryz.prog.underlying 22 = some (.slice (Tryz.prog.elem 22)) := by kernel_rfl
/-- Files from the i-th on. -/
theorem fs_lo (a : Option Addr) (n c i : Nat) (hi : i ≤ n) (_hn : n ≤ c) : ∃ A C, (∀ W, (Instr.slice 22 (.slice a n c) (some (.int .i64 i)) none none).run Tryz.prog W = .ok (.slice A (n - i) C) W) ∧ (i < c → A = a.map (·.add (i * 34)) ∧ C = c - i) := by
  have i0 : (0 : Int) ≤ (i : Int) := by omega
  have i1 : (i : Int) ≤ (n : Int) := by omega
  by_cases hc : c = i
  · refine ⟨a, 0, fun W => ?_, fun h => by omega⟩
    rw [run_slice_l W _ _ _ _ fi_under _ _ i0 i1, fi_size]
    simp [Result.andThen, sliced, hc]
  · refine ⟨a.map (·.add (i * 34)), c - i, fun W => ?_, fun _ => ⟨rfl, rfl⟩⟩
    rw [run_slice_l W _ _ _ _ fi_under _ _ i0 i1, fi_size]
    simp [Result.andThen, sliced, hc]
theorem exec_lo {P : Program} {ev : Operand → Value} {o : Oper} {t : TypeId} (hu : P.underlying t = some (.slice (P.elem t))) (x lo : Operand) (ho : o.op = .slice t x (some lo) none none) {u a : Value} (hx : ev x = u) (hl : ev lo = a) {v : Value} (hr : ∀ w, (Instr.slice t u (some a) none none).run P w = .ok v w) : ∀ w, (execOp ev o).run P w = .ok (.value v) w := by
  intro w
  unfold execOp
  simp only [ho, hx, hl, Option.map_some, Option.map_none, Sem.run_bind, run_sliceAt_slice w t u (some a) none none hu, hr, Result.andThen_ok, Sem.run_pure]
/-- Files up to the k-th. -/
theorem fs_hi (g o n c k : Nat) (hk : k ≤ c) (W : World) : (Instr.slice 22 (.slice (some ⟨g, o, none⟩) n c) none (some (.int .i64 k)) none).run Tryz.prog W = .ok (.slice (some ⟨g, o, none⟩) k c) W := by
  have hk0 : (0 : Int) ≤ (k : Int) := by omega
  have hk1 : (k : Int) ≤ (c : Int) := by omega
  rw [run_slice_h W _ _ _ _ fi_under _ _ hk0 hk1, fi_size]
  by_cases hc : c = 0
  · simp [Result.andThen, sliced, hc]
  · simp [Result.andThen, sliced, hc, Addr.add_zero']
theorem exec_hi {P : Program} {ev : Operand → Value} {o : Oper} {t : TypeId} (hu : P.underlying t = some (.slice (P.elem t))) (x hi : Operand) (ho : o.op = .slice t x none (some hi) none) {u a : Value} (hx : ev x = u) (hl : ev hi = a) {v : Value} (hr : ∀ w, (Instr.slice t u none (some a) none).run P w = .ok v w) : ∀ w, (execOp ev o).run P w = .ok (.value v) w := by
  intro w
  unfold execOp
  simp only [ho, hx, hl, Option.map_some, Option.map_none, Sem.run_bind, run_sliceAt_slice w t u none (some a) none hu, hr, Result.andThen_ok, Sem.run_pure]
/-- A call of a function that stands outside, by its run equation. -/
theorem exec_out {P : Program} {T : Array Value} {D : List Deferred} {o : Oper} {f : FuncId} {l : List Operand} {ats : Array TypeId} (hop : o.op = .call { callee := .value (.func f), args := l.toArray, argTypes := ats }) {vs : List Value} (hl : l.map (Act.eval ⟨T, D⟩) = vs) {v : Value} {w w' : World}
    (hr : (callFunc f vs.toArray).run P w = .ok (.value v) w') : (execOp (Act.eval ⟨T, D⟩) o).run P w = .ok (.value v) w' := by
  obtain ⟨d', op, ty, pos, af, gd⟩ := o
  simp only at hop
  subst hop hl
  have e : (#[] ++ l.toArray.map (Act.eval ⟨T, D⟩) ++ #[] : Array Value) = (l.map (Act.eval ⟨T, D⟩)).toArray := by simp
  rw [execOp_call_go, e]; exact hr
theorem exec_un {P : Program} {ev : Operand → Value} {o : Oper} {b : UnOp} {t : TypeId} (x : Operand) (ho : o.op = .unOp b t x) {u r : Value} (hx : ev x = u) (hr : ∀ w, (Op.unary b u).run P w = .ok r w) : ∀ w, (execOp ev o).run P w = .ok (.value r) w := by
  intro w
  unfold execOp
  simp only [ho, hx, Sem.run_bind, hr, Result.andThen_ok, Sem.run_pure]
theorem add_i {P : Program} {t : TypeId} {a b c : Int} (h : IntKind.i64.wrap (a + b) = c) : ∀ w, (binOp .add t (.int .i64 a) (.int .i64 b)).run P w = .ok (.int .i64 c) w := by
  intro w; rw [← h]; rfl
theorem sub_i {P : Program} {t : TypeId} {a b c : Int} (h : IntKind.i64.wrap (a - b) = c) : ∀ w, (binOp .sub t (.int .i64 a) (.int .i64 b)).run P w = .ok (.int .i64 c) w := by
  intro w; rw [← h]; rfl
theorem not_b {P : Program} {a c : Bool} (h : (!a) = c) : ∀ w, (Op.unary .not (.bool a)).run P w = .ok (.bool c) w := by
  intro w; rw [← h]; rfl
/-- In a plain region: an operation by its run equation, the world turned. -/
theorem goP_by {P : Program} {ops : Array Oper} {Q : Exit → Act → World → Prop} {rest : List Oper} {o : Oper} {T : Array Value} {D : List Deferred} {w : World} (hg : Region.wanted o (yielded ops T) = true) (d : Nat) (hd : o.dst = some d) (v : Value) (w' : World) (hv : (execOp (Act.eval ⟨T, D⟩) o).run P w = .ok (.value v) w') (h : goP P ops Q rest ⟨T.setIfInBounds d v, D⟩ w') : goP P ops Q (o :: rest) ⟨T, D⟩ w := by
  rw [goP_eq] at h ⊢
  refine wpList_step fun K hK => ?_
  rw [if_pos hg]
  unfold Oper.wp
  rw [hv]
  exact hK _ _ (by rw [hd]; exact h)
theorem fi_size' (W : World) : (Go.sizeOf 56).run Tryz.prog W = .ok 34 W := by
  obtain ⟨i, hi, g1, g2, g3⟩ := info_parts fiElem.info
  simp [sizeOf, typeInfo, hi, g2]
/-- A block of one file. -/
def FB (w : World) (b : Nat) (x : Fi) : Prop := w.heap[b]? = some (.cells (fiC x).toArray 56 (0, 0))
theorem FB.lt {w : World} {b : Nat} {x : Fi} (h : FB w b x) : b < w.heap.size := (Array.getElem?_eq_some_iff.1 h).1
theorem FB.kept {w w' : World} {b : Nat} {x : Fi} {r : Option Nat} (h : FB w b x) (hg : w.grownBy w' r) (hne : some b ≠ r) : FB w' b x := (hg.block b h.lt hne).trans h
theorem FB.cell {w : World} {b : Nat} {x : Fi} (h : FB w b x) {j : Nat} {u : Value} (hu : (fiC x)[j]? = some u) : w.cell? ⟨b, j, none⟩ = some u := by
  have h : w.heap[b]? = _ := h
  simp only [World.cell?, h]; simpa using hu
theorem tk_app {A R : List Value} {k : Nat} (h : A.length = k) : (A ++ R).take k = A := by rw [← h]; exact List.take_left
theorem dr_app {A R : List Value} {k : Nat} (h : A.length = k) : (A ++ R).drop k = R := by rw [← h]; exact List.drop_left
/-- The slices of a row cut at i. -/
structure Cu (l : List Fi) (i : Nat) (A B : List Value) : Prop where
  e : fiR l = A ++ B
  ea : A = fiR (l.take i)
  eb : B = fiR (l.drop i)
  la : A.length = i * 34
  lb : B.length = (l.length - i) * 34
theorem Cu.of {l : List Fi} (h : ∀ f ∈ l, OkFi f) {i : Nat} (hi : i ≤ l.length) : Cu l i (fiR (l.take i)) (fiR (l.drop i)) where
  e := by rw [← fiR_app, List.take_append_drop]
  ea := rfl
  eb := rfl
  la := by rw [fiR_len (fun f hf => h f (List.mem_of_mem_take hf)), List.length_take]; congr 1; omega
  lb := by rw [fiR_len (fun f hf => h f (List.mem_of_mem_drop hf)), List.length_drop]
theorem ins_row {l : List Fi} {i : Nat} {x : Fi} : fiR (l.take i) ++ (fiC x ++ fiR (l.drop i)) = fiR (l.take i ++ x :: l.drop i) := by
  rw [fiR_app]; rfl
theorem ins_ok {l : List Fi} {i : Nat} {x : Fi} (h : ∀ f ∈ l, OkFi f) (hx : OkFi x) : ∀ f ∈ l.take i ++ x :: l.drop i, OkFi f := by
  intro f hf
  rcases List.mem_append.1 hf with hf | hf
  · exact h f (List.mem_of_mem_take hf)
  · rcases List.mem_cons.1 hf with rfl | hf
    · exact hx
    · exact h f (List.mem_of_mem_drop hf)
theorem ins_len {l : List Fi} {i : Nat} {x : Fi} (hi : i ≤ l.length) : (l.take i ++ x :: l.drop i).length = l.length + 1 := by
  rw [List.length_append, List.length_cons, List.length_take, List.length_drop]; omega
/-- A whole row. -/
theorem Rw.fr {w : World} {g o c n : Nat} {L : List Fi} (h : Rw w g o 56 (c * 34) (fiR L)) (hL : L.length = n) (hok : ∀ f ∈ L, OkFi f) (hn : n ≤ c) (hc : c ≤ maxLen) : FR w (.slice (some ⟨g, o, none⟩) n c) L := by
  have h1 := h.own (size := 34) hn hc (by rw [fiR_len hok, hL]; exact Nat.le_refl _)
  rw [List.take_of_length_le (by rw [fiR_len hok, hL]; exact Nat.le_refl _)] at h1
  exact ⟨by rw [hL]; exact h1, hok⟩

set_option maxRecDepth 100000 in
set_option maxHeartbeats 4000000 in
theorem finsert_c {w : World} {v : Value} {l : List Fi} (h : FR w v l) {i : Nat} (hi : i ≤ l.length) {x : Fi} (hx : OkFi x) {bx : Nat} (hb : FB w bx x) (hne : v.ownBlock ≠ some bx) (hn : l.length ≤ 3000000) :
    Calls Tryz.prog 45 #[v, .int .i64 i, .slice (some ⟨bx, 0, none⟩) 1 1] w fun e w' => ∃ v', e = .returned v' ∧ FR w' v' (l.take i ++ x :: l.drop i) ∧ w.grownBy w' v.ownBlock ∧ (∀ k, v'.ownBlock = some k → v.ownBlock = some k ∨ w.heap.size ≤ k) := by
  obtain ⟨a, c, rfl, hnc, hcm, -⟩ := h.row.form
  obtain ⟨A1, C1, hlo, hlo2⟩ := fs_lo a l.length c i hi hnc
  have HLO := Lib.hid hlo
  have HLO2 := Lib.hid hlo2
  have HFR := Lib.hid h
  have HFB := Lib.hid hb
  have HNE := Lib.hid hne
  have HX := Lib.hid hx
  have hi0 : (0 : Int) ≤ (i : Int) := by omega
  have hi1 : (i : Int) ≤ (l.length : Int) := by omega
  have hsrc : Src Tryz.prog 34 22 (.slice (some ⟨bx, 0, none⟩) 1 1) 1 (fiC x) w := Src.ofSlice _ Tryz.underlying22 _ 1 1 _ (by rw [fiC_len hx]) (fun j u hu => by rw [Addr.add_lit, Nat.zero_add]; exact hb.cell hu) fiC_mem1
  have HSRC := Lib.hid hsrc
  clear h hlo hlo2 hb hne hx hsrc
  go_enter Tryz.func45, Tryz.ntmps45
  by_cases hin : i = l.length
  · -- @dev{ A
    have e1 : ((i : Int) == (l.length : Int)) = true := beq_iff_eq.2 (by omega)
    have HL : Hid (l.take i ++ x :: l.drop i = l ++ [x]) := by show _ = _; rw [hin, List.take_length, List.drop_length]
    have HR : Hid (fiR (l ++ [x]) = fiR l ++ fiC x) := by show _ = _; rw [fiR_app]; simp [fiR]
    clear hin
    go_wp2_with (first
      | (refine wp_by rfl (exec_lo fi_under _ _ rfl rfl rfl HLO.out _) ?_)
      | (refine wp_appG rfl _ _ _ _ rfl fiElem fiZ (v := .slice a l.length c) (xv := .slice (some ⟨bx, 0, none⟩) 1 1) (n := l.length) (m := 1) rfl HFR.out.row rfl HSRC.out (by simp only [maxLen]; omega) (by omega) ?_; intro v5 w5 ho5 hg5 hv5))
    go_ret
    refine ⟨_, rfl, ⟨?_, ins_ok HFR.out.ok HX.out⟩, hg5, hv5⟩
    rw [HL.out, HR.out, List.length_append]; exact ho5
  · have hlt : i < l.length := by omega
    have e1 : ((i : Int) == (l.length : Int)) = false := beq_eq_false_iff_ne.2 (by omega)
    obtain ⟨g, o, c', e, -⟩ : ∃ g o c', Value.slice a l.length c = .slice (some ⟨g, o, none⟩) l.length c' ∧ True := by
      rcases HFR.out.row.2 with ⟨e, h0⟩ | ⟨g, o, cap, cur, e, -⟩
      · omega
      · exact ⟨g, o, cap, e, trivial⟩
    injection e with e2 e3 e4
    clear e3 e4
    subst e2
    obtain ⟨hrw, -, -, -⟩ := HFR.out.row.rw
    have hcu := Cu.of HFR.out.ok hi
    obtain ⟨hA1, hC1⟩ := HLO2.out (by omega)
    have hA1 : A1 = some ⟨g, o + i * 34, none⟩ := by rw [hA1, Option.map_some, Addr.add_lit]
    subst hA1 hC1
    have HRW := Lib.hid hrw
    have HCU := Lib.hid hcu
    have HGX : Hid (g ≠ bx) := fun e => HNE.out (by rw [e]; rfl)
    have hglt := hrw.lt
    have w1 : IntKind.i64.wrap ((l.length : Int) + 1) = ((l.length + 1 : Nat) : Int) := IntWalk.i64_in _ (by omega)
    have w2 : IntKind.i64.wrap ((i : Int) + 1) = ((i + 1 : Nat) : Int) := IntWalk.i64_in _ (by omega)
    clear hrw hcu hin HLO2
    have HIC : Hid (i ≤ c) := Nat.le_trans hi hnc
    have HW1 := Lib.hid w1
    have HW2 := Lib.hid w2
    by_cases hgr : c < l.length + 1
    · -- @dev{ B
      have g1 : decide (((l.length + 1 : Nat) : Int) > (c : Int)) = true := decide_eq_true (by omega)
      have g2 : decide (c < l.length + 1) = true := decide_eq_true hgr
      obtain ⟨m, hm⟩ : ∃ m, m = l.length + 1 - i := ⟨_, rfl⟩
      have w3 : IntKind.i64.wrap (((l.length + 1 : Nat) : Int) - (i : Int)) = (m : Int) := by rw [show ((l.length + 1 : Nat) : Int) - (i : Int) = (m : Int) by omega]; exact IntWalk.i64_in _ (by omega)
      have HW3 := Lib.hid w3
      obtain ⟨ti, hti, tz, ts, tb⟩ := info_parts fiElem.info
      have hold : (Builtin.firstCells ti.size i (.slice (some ⟨g, o, none⟩) i c)).run Tryz.prog w.drew = .ok (fiR (l.take i)).toArray w.drew := run_firstCells_some w.drew ti.size i _ i c _ (by rw [HCU.out.la, ts]) (fun j u hu => by
        rw [Addr.add_lit]
        show w.cell? ⟨g, o + j, none⟩ = some u
        exact HRW.out.cell (by rw [HCU.out.e, List.getElem?_append_left (List.getElem?_eq_some_iff.1 hu).1]; exact hu))
      have hrun := fun ty => run_append_zeros (P := Tryz.prog) w 22 3 ty 56 ti (.agg (fiC zF).toArray) .i64 Tryz.underlying22 Tryz.underlying3 hti tz (some ⟨g, o, none⟩) i c m (fiR (l.take i)) hold (by omega) (by rw [ts]; decide) (by rw [tb]; omega) (by omega) (by omega) (by omega) (growslice_fits (by omega) (by rw [tb]; omega))
      have hge := grownCap_ge w (i + m) c 56
      have hcm2 := grownCap_le_maxLen w (i + m) c 56 (by simp only [maxLen]; omega)
      have hzl : (Builtin.zeroCells (Value.agg (fiC zF).toArray).cells m).toList.length = m * 34 := by rw [Array.length_toList, size_zeroCells, fiZ]
      obtain ⟨Z, hZ⟩ : ∃ Z, (Builtin.zeroCells (Value.agg (fiC zF).toArray).cells m).toList = Z := ⟨_, rfl⟩
      obtain ⟨c2, hc2⟩ : ∃ c2, grownCap w (i + m) c 56 = c2 := ⟨_, rfl⟩
      rw [hZ] at hzl
      simp only [hZ, hc2] at hrun
      rw [hc2] at hge hcm2
      obtain ⟨W2, hW2⟩ : ∃ W2, w.drew.alloc (.cells ((fiR (l.take i) ++ Z).toArray ++ Builtin.zeroCells (Value.agg (fiC zF).toArray).cells (c2 - (i + m))) 56) = W2 := ⟨_, rfl⟩
      simp only [hW2] at hrun
      have hg2 : ∀ r, w.grownBy W2 r := by intro r; rw [← hW2]; exact ⟨rfl, rfl, rfl, by simp, fun k hk _ => Below.heap_alloc w.drew _ k hk⟩
      have hr2 : Rw W2 w.heap.size 0 56 (c2 * 34) (fiR (l.take i) ++ Z) := by
        refine ⟨_, by rw [← hW2]; exact heap_alloc_new w.drew _, ?_, fun j u hu => ?_⟩
        · rw [Array.size_append, List.size_toArray, List.length_append, HCU.out.la, hzl, size_zeroCells, fiZ]; omega
        · rw [Nat.zero_add, Array.getElem?_append_left (by rw [List.size_toArray]; exact (List.getElem?_eq_some_iff.1 hu).1), List.getElem?_toArray]
          exact hu
      have HRUN := Lib.hid hrun
      have HG2 := Lib.hid hg2
      have HR2 := Lib.hid hr2
      have HZL := Lib.hid hzl
      have him : i + m = l.length + 1 := by omega
      rw [him] at HRUN hge
      have HIM := Lib.hid him
      have HGE := Lib.hid hge
      clear hold hrun hti tz ts tb hZ hc2 hW2 hg2 hr2 hzl him
      go_upto_region 1 with fail
      refine goP_start ?_
      refine goP_mv rfl 10 rfl _ rfl (.slice (some ⟨g, o, none⟩) l.length c) rfl ?_; simp only [zT, zA, zB]
      refine goP_mv rfl 11 rfl _ rfl (.int .i64 i) rfl ?_; simp only [zT, zA, zB]
      refine goP_tk rfl 12 rfl (.slice (some ⟨g, o + i * 34, none⟩) (l.length - i) (c - i)) (exec_lo fi_under _ _ rfl rfl rfl HLO.out _) ?_; simp only [zT, zA, zB]
      refine goP_end ?_
      go_upto_region 9 with fail
      refine goP_start ?_
      refine goP_mv rfl 32 rfl _ rfl (.slice (some ⟨g, o, none⟩) l.length c) rfl ?_; simp only [zT, zA, zB]
      refine goP_mv rfl 33 rfl _ rfl (.int .i64 i) rfl ?_; simp only [zT, zA, zB]
      refine goP_tk rfl 34 rfl (.slice (some ⟨g, o, none⟩) i c) (exec_hi fi_under _ _ rfl rfl rfl (fs_hi g o l.length c i HIC.out) _) ?_; simp only [zT, zA, zB]
      refine goP_mv rfl 35 rfl _ rfl (.int .i64 l.length) rfl ?_; simp only [zT, zA, zB]
      refine goP_mv rfl 36 rfl _ rfl (.int .i64 1) rfl ?_; simp only [zT, zA, zB]
      refine goP_tk rfl 37 rfl (.int .i64 ((l.length + 1 : Nat) : Int)) (exec_bin _ _ rfl rfl rfl (fun _ => rfl) (add_i HW1.out) _) ?_; simp only [zT, zA, zB]
      refine goP_mv rfl 38 rfl _ rfl (.int .i64 i) rfl ?_; simp only [zT, zA, zB]
      refine goP_tk rfl 39 rfl (.int .i64 m) (exec_bin _ _ rfl rfl rfl (fun _ => rfl) (sub_i HW3.out) _) ?_; simp only [zT, zA, zB]
      refine goP_by rfl 40 rfl (.slice (some ⟨w.heap.size, 0, none⟩) (l.length + 1) c2) W2 (exec_append _ _ _ _ rfl rfl rfl HRUN.out) ?_; simp only [zT, zA, zB]
      refine goP_as rfl 9 rfl _ rfl (.slice (some ⟨w.heap.size, 0, none⟩) (l.length + 1) c2) rfl ?_; simp only [zT, zA, zB]
      refine goP_end ?_
      go_upto_region 10 with fail
      obtain ⟨A2, C2, hlo2, hlo2b⟩ := fs_lo (some ⟨w.heap.size, 0, none⟩) (l.length + 1) c2 i (by omega) HGE.out
      obtain ⟨A3, C3, hlo3, hlo3b⟩ := fs_lo (some ⟨w.heap.size, 0, none⟩) (l.length + 1) c2 (i + 1) (by omega) HGE.out
      have hge2 := HGE.out
      obtain ⟨hA2, hC2⟩ := hlo2b (by omega)
      obtain ⟨hA3, hC3⟩ := hlo3b (by omega)
      have hA2 : A2 = some ⟨w.heap.size, 0 + i * 34, none⟩ := by rw [hA2, Option.map_some, Addr.add_lit]
      have hA3 : A3 = some ⟨w.heap.size, 0 + (i + 1) * 34, none⟩ := by rw [hA3, Option.map_some, Addr.add_lit]
      subst hA2 hC2 hA3 hC3
      have hb2 : FB W2 bx x := HFB.out.kept (HG2.out none) (by simp)
      have hfl : (fiC x).length = 34 := fiC_len HX.out
      have hzl := HZL.out
      have hla := HCU.out.la
      have hlb := HCU.out.lb
      have hw3 := HR2.out.write (k := i * 34) (by rw [List.length_append, hla, hzl]; omega) (fiC x) (by rw [hfl]; omega)
      have hcp1 := fun ty => run_copy_wide (P := Tryz.prog) W2 22 22 ty 56 w.heap.size (0 + i * 34) (l.length + 1 - i) (c2 - i) ⟨bx, 0, none⟩ 1 1 34 1 (fiC x) Tryz.underlying22 fiInfo (by show min _ _ = _; omega) (by rw [hfl]) (fun j u hu => by rw [Addr.add_lit, Nat.zero_add]; exact hb2.cell hu) (by rw [hfl]; exact HR2.out.there (by omega)) fiC_mem1
      obtain ⟨W3, hW3⟩ : ∃ W3, W2.setCells w.heap.size (0 + i * 34) (fiC x) = W3 := ⟨_, rfl⟩
      have hgw3 : W2.grownBy W3 (some w.heap.size) := by rw [← hW3]; exact setCells_grown _ _ _ _
      rw [hW3] at hw3
      simp only [hW3] at hcp1
      have e3 : (fiR (l.take i) ++ Z).take (i * 34) = fiR (l.take i) := tk_app hla
      rw [e3] at hw3
      obtain ⟨Z2, hZ2⟩ : ∃ Z2, (fiR (l.take i) ++ Z).drop (i * 34 + (fiC x).length) = Z2 := ⟨_, rfl⟩
      have hz2l : Z2.length = (l.length - i) * 34 := by rw [← hZ2, List.length_drop, List.length_append, hla, hzl, hfl]; have := HIM.out; omega
      rw [hZ2] at hw3
      have hrow3 : Rw W3 g o 56 (c * 34) (fiR l) := (HRW.out.kept (HG2.out none) (by simp)).kept hgw3 (by simp; omega)
      have hw3d : Rw (W3.drewN 1) w.heap.size 0 56 (c2 * 34) (fiR (l.take i) ++ (fiC x ++ Z2)) := hw3
      have hw4 := hw3d.write (k := (i + 1) * 34) (by simp only [List.length_append, hla, hfl, hz2l]; omega) (fiR (l.drop i)) (by rw [hlb]; omega)
      have e4 : (fiR (l.take i) ++ (fiC x ++ Z2)).take ((i + 1) * 34) = fiR (l.take i) ++ fiC x := by rw [← List.append_assoc]; exact tk_app (by rw [List.length_append, hla, hfl]; omega)
      have e5 : (fiR (l.take i) ++ (fiC x ++ Z2)).drop ((i + 1) * 34 + (fiR (l.drop i)).length) = [] := List.drop_eq_nil_of_le (by simp only [List.length_append, hla, hfl, hz2l, hlb]; omega)
      rw [e4, e5, List.append_nil, List.append_assoc, ins_row] at hw4
      have hcp2 := fun ty => run_copy_wide (P := Tryz.prog) (W3.drewN 1) 22 22 ty 56 w.heap.size (0 + (i + 1) * 34) (l.length + 1 - (i + 1)) (c2 - (i + 1)) ⟨g, o + i * 34, none⟩ (l.length - i) (c - i) 34 (l.length - i) (fiR (l.drop i)) Tryz.underlying22 fiInfo (by show min _ _ = _; omega) hlb (fun j u hu => by
        rw [Addr.add_lit, Nat.add_assoc]
        show W3.cell? ⟨g, o + (i * 34 + j), none⟩ = some u
        exact hrow3.cell (by rw [HCU.out.e, List.getElem?_append_right (by rw [hla]; omega), hla, Nat.add_sub_cancel_left]; exact hu)) (by
          intro j hj
          exact hw3d.there (k := (i + 1) * 34) (m := (fiR (l.drop i)).length) (by rw [hlb]; omega) j hj) fiR_mem1
      have HR4 : Hid (Rw ((W3.drewN 1).setCells w.heap.size (0 + (i + 1) * 34) (fiR (l.drop i))) w.heap.size 0 56 (c2 * 34) (fiR (l.take i ++ x :: l.drop i))) := hw4
      have HG4 : Hid (w.grownBy ((W3.drewN 1).setCells w.heap.size (0 + (i + 1) * 34) (fiR (l.drop i))) (some g)) := by
        exact gro_new (gro_below (gro_new (HG2.out (some g)) (Nat.le_refl _) hgw3) (below_dN (Below.refl _ W3) 1)) (Nat.le_refl _) (setCells_grown _ _ _ _)
      have HLO2' := Lib.hid hlo2
      have HLO3 := Lib.hid hlo3
      have HCP1 := Lib.hid hcp1
      have HCP2 := Lib.hid hcp2
      have HCM2 := Lib.hid hcm2
      clear hlo2 hlo3 hlo2b hlo3b hb2 hfl hzl hla hlb hw3 hw3d hcp1 hW3 hgw3 e3 hZ2 hz2l hrow3 hw4 e4 e5 hcp2 HR2 HZL HRUN HG2
      refine goP_start ?_
      refine goP_mv rfl 41 rfl _ rfl (.slice (some ⟨w.heap.size, 0, none⟩) (l.length + 1) c2) rfl ?_; simp only [zT, zA, zB]
      refine goP_mv rfl 42 rfl _ rfl (.int .i64 i) rfl ?_; simp only [zT, zA, zB]
      refine goP_tk rfl 43 rfl (.slice (some ⟨w.heap.size, 0 + i * 34, none⟩) (l.length + 1 - i) (c2 - i)) (exec_lo fi_under _ _ rfl rfl rfl HLO2'.out _) ?_; simp only [zT, zA, zB]
      refine goP_mv rfl 44 rfl _ rfl (.slice (some ⟨bx, 0, none⟩) 1 1) rfl ?_; simp only [zT, zA, zB]
      refine goP_by rfl 45 rfl (.int .i64 1) W3 (exec_copy _ _ _ _ rfl rfl rfl HCP1.out) ?_; simp only [zT, zA, zB]
      refine goP_end ?_
      go_upto_region 11 with fail
      refine wp_region_hz (fun _ => True) (.tk 0 (.tk 1 (.tk 2 (.tk 3 (.tk 4 (.tk 5 (.tk 6 (.tk 7 (.fc 8 (.nil)))))))))) (by kernel_rfl) (by kernel_rfl) (fun _ _ _ _ _ h => h) ?_
      refine goZ_tk rfl rfl 46 rfl (.slice (some ⟨w.heap.size, 0, none⟩) (l.length + 1) c2) (fun _ => rfl) ?_; simp only [zT, zA, zB]
      refine goZ_tk rfl rfl 47 rfl (.int .i64 i) (fun _ => rfl) ?_; simp only [zT, zA, zB]
      refine goZ_tk rfl rfl 48 rfl (.int .i64 1) (fun _ => rfl) ?_; simp only [zT, zA, zB]
      refine goZ_tk rfl rfl 49 rfl (.int .i64 ((i + 1 : Nat) : Int)) (exec_bin _ _ rfl rfl rfl (fun _ => rfl) (add_i HW2.out)) ?_; simp only [zT, zA, zB]
      refine goZ_tk rfl rfl 50 rfl (.slice (some ⟨w.heap.size, 0 + (i + 1) * 34, none⟩) (l.length + 1 - (i + 1)) (c2 - (i + 1))) (exec_lo fi_under _ _ rfl rfl rfl (by exact HLO3.out)) ?_; simp only [zT, zA, zB]
      refine goZ_tk rfl rfl 51 rfl (.slice (some ⟨g, o, none⟩) l.length c) (fun _ => rfl) ?_; simp only [zT, zA, zB]
      refine goZ_tk rfl rfl 52 rfl (.int .i64 i) (fun _ => rfl) ?_; simp only [zT, zA, zB]
      refine goZ_tk rfl rfl 53 rfl (.slice (some ⟨g, o + i * 34, none⟩) (l.length - i) (c - i)) (exec_lo fi_under _ _ rfl rfl rfl (by exact HLO.out)) ?_; simp only [zT, zA, zB]
      refine goZ_val (ds' := []) rfl rfl (by kernel_rfl) 54 rfl (.int .i64 ((l.length - i : Nat) : Int)) (((W3.drewN 1).setCells w.heap.size (0 + (i + 1) * 34) (fiR (l.drop i)))) (exec_copy _ _ _ _ rfl rfl rfl HCP2.out) (fun h => absurd rfl h) ?_; simp only [zT, zA, zB]
      refine goZ_end ?_
      go_wp2_with fail
      go_ret
      exact ⟨_, rfl, HR4.out.fr (ins_len hi) (ins_ok HFR.out.ok HX.out) HGE.out HCM2.out, HG4.out, fun k hk => .inr (by cases hk; exact Nat.le_refl _)⟩
    · -- @dev{ C
      have g1 : decide (((l.length + 1 : Nat) : Int) > (c : Int)) = false := decide_eq_false (by omega)
      have g2 : decide (c < l.length + 1) = false := decide_eq_false hgr
      have HGR := Lib.hid hgr
      obtain ⟨A3, C3, hlo3, hlo3b⟩ := fs_lo (some ⟨g, o, none⟩) (l.length + 1) c (i + 1) (by omega) (by omega)
      obtain ⟨A4, C4, hlo4, hlo4b⟩ := fs_lo (some ⟨g, o, none⟩) (l.length + 1) c i (by omega) (by omega)
      obtain ⟨hA3, hC3⟩ := hlo3b (by omega)
      obtain ⟨hA4, hC4⟩ := hlo4b (by omega)
      have hA3 : A3 = some ⟨g, o + (i + 1) * 34, none⟩ := by rw [hA3, Option.map_some, Addr.add_lit]
      have hA4 : A4 = some ⟨g, o + i * 34, none⟩ := by rw [hA4, Option.map_some, Addr.add_lit]
      subst hA3 hC3 hA4 hC4
      have hfl : (fiC x).length = 34 := fiC_len HX.out
      have hla := HCU.out.la
      have hlb := HCU.out.lb
      have hlr : (fiR l).length = l.length * 34 := fiR_len HFR.out.ok
      have hov : (callFunc 69 #[.slice (some ⟨bx, 0, none⟩) 1 1, .slice (some ⟨g, o + (i + 1) * 34, none⟩) (l.length + 1 - (i + 1)) (c - (i + 1))]).run Tryz.prog w = .ok (.value (.bool false)) w := by
        obtain ⟨cur, hcur, hsz, -⟩ := HRW.out
        have hsb : w.heap[bx]? = _ := HFB.out
        rw [run_callFunc_extern (e := Extern.SlicesOverlaps.overlaps #[22, 22] #[4]) Tryz.func69 (by kernel_rfl) (by kernel_rfl) (by kernel_rfl) (by kernel_rfl),
          Lib.run_overlaps_apart w 22 4 56 Tryz.underlying22 34 fi_size' ⟨bx, 0, none⟩ ⟨g, o + (i + 1) * 34, none⟩ 1 1 (l.length + 1 - (i + 1)) (c - (i + 1)) (fun e => HGX.out e.symm) 56 56 (fiC x).toArray.size cur.size (by simp only [World.shape?, hsb]) (by simp only [World.shape?, hcur]) (by omega) (by simp [World.frozen?, hsb]) (by simp [World.frozen?, hsb])]
        rfl
      have hwr : Rw (w.drewN 1) g o 56 (c * 34) (fiR l) := HRW.out
      have hcp1 := fun ty => run_copy_wide (P := Tryz.prog) (w.drewN 1) 22 22 ty 56 g (o + (i + 1) * 34) (l.length + 1 - (i + 1)) (c - (i + 1)) ⟨g, o + i * 34, none⟩ (l.length + 1 - i) (c - i) 34 (l.length - i) (fiR (l.drop i)) Tryz.underlying22 fiInfo (by show min _ _ = _; omega) hlb (fun j u hu => by
        rw [Addr.add_lit, Nat.add_assoc]
        exact hwr.cell (by rw [HCU.out.e, List.getElem?_append_right (by rw [hla]; omega), hla, Nat.add_sub_cancel_left]; exact hu)) (hwr.there (k := (i + 1) * 34) (m := (fiR (l.drop i)).length) (by rw [hlb]; omega)) fiR_mem1
      have hw3 := hwr.write (k := (i + 1) * 34) (by rw [hlr]; omega) (fiR (l.drop i)) (by rw [hlb]; omega)
      obtain ⟨W3, hW3⟩ : ∃ W3, (w.drewN 1).setCells g (o + (i + 1) * 34) (fiR (l.drop i)) = W3 := ⟨_, rfl⟩
      have hb0 : Below w.heap.size w (w.drewN 1) := below_dN (Below.refl _ w) 1
      have hgw3 : w.grownBy W3 (some g) := (show w.grownBy (w.drewN 1) (some g) from ⟨hb0.os, hb0.tape, hb0.output, hb0.size, fun k hk _ => hb0.block k hk⟩).trans (by rw [← hW3]; exact setCells_grown _ _ _ _)
      rw [hW3] at hw3
      simp only [hW3] at hcp1
      have e3 : (fiR l).drop ((i + 1) * 34 + (fiR (l.drop i)).length) = [] := List.drop_eq_nil_of_le (by rw [hlr, hlb]; omega)
      rw [e3, List.append_nil] at hw3
      have ht1 : ((fiR l).take ((i + 1) * 34)).length = (i + 1) * 34 := by rw [List.length_take, hlr]; omega
      have hb3 : FB W3 bx x := HFB.out.kept hgw3 (by simpa using fun e => HGX.out e.symm)
      have hcp2 := fun ty => run_copy_wide (P := Tryz.prog) W3 22 22 ty 56 g (o + i * 34) (l.length + 1 - i) (c - i) ⟨bx, 0, none⟩ 1 1 34 1 (fiC x) Tryz.underlying22 fiInfo (by show min _ _ = _; omega) (by rw [hfl]) (fun j u hu => by rw [Addr.add_lit, Nat.zero_add]; exact hb3.cell hu) (hw3.there (k := i * 34) (m := (fiC x).length) (by rw [hfl]; omega)) fiC_mem1
      have hw4 := hw3.write (k := i * 34) (by rw [List.length_append, ht1]; omega) (fiC x) (by rw [hfl]; omega)
      have e4 : ((fiR l).take ((i + 1) * 34) ++ fiR (l.drop i)).take (i * 34) = fiR (l.take i) := by
        rw [List.take_append_of_le_length (by rw [ht1]; omega), List.take_take, Nat.min_eq_left (by omega), HCU.out.e]; exact tk_app hla
      have e5 : ((fiR l).take ((i + 1) * 34) ++ fiR (l.drop i)).drop (i * 34 + (fiC x).length) = fiR (l.drop i) := dr_app (by rw [ht1, hfl]; omega)
      rw [e4, e5, ins_row] at hw4
      have HR4 : Hid (Rw (W3.setCells g (o + i * 34) (fiC x)) g o 56 (c * 34) (fiR (l.take i ++ x :: l.drop i))) := hw4
      have HG4 : Hid (w.grownBy (W3.setCells g (o + i * 34) (fiC x)) (some g)) := by
        show _
        exact hgw3.trans (setCells_grown _ _ _ _)
      have HLO3 := Lib.hid hlo3
      have HLO4 := Lib.hid hlo4
      have HCP1 := Lib.hid hcp1
      have HCP2 := Lib.hid hcp2
      have HOV := Lib.hid hov
      clear hb0 hlo3 hlo4 hlo3b hlo4b hfl hla hlb hlr hov hwr hcp1 hw3 hW3 hgw3 e3 ht1 hb3 hcp2 hw4 e4 e5
      go_upto_region 1 with fail
      refine goP_start ?_
      refine goP_mv rfl 10 rfl _ rfl (.slice (some ⟨g, o, none⟩) l.length c) rfl ?_; simp only [zT, zA, zB]
      refine goP_mv rfl 11 rfl _ rfl (.int .i64 i) rfl ?_; simp only [zT, zA, zB]
      refine goP_tk rfl 12 rfl (.slice (some ⟨g, o + i * 34, none⟩) (l.length - i) (c - i)) (exec_lo fi_under _ _ rfl rfl rfl HLO.out _) ?_; simp only [zT, zA, zB]
      refine goP_end ?_
      go_upto_region 13 with fail
      refine goP_start ?_
      refine goP_mv rfl 56 rfl _ rfl (.slice (some ⟨g, o, none⟩) l.length c) rfl ?_; simp only [zT, zA, zB]
      refine goP_mv rfl 57 rfl _ rfl (.int .i64 l.length) rfl ?_; simp only [zT, zA, zB]
      refine goP_mv rfl 58 rfl _ rfl (.int .i64 1) rfl ?_; simp only [zT, zA, zB]
      refine goP_tk rfl 59 rfl (.int .i64 ((l.length + 1 : Nat) : Int)) (exec_bin _ _ rfl rfl rfl (fun _ => rfl) (add_i HW1.out) _) ?_; simp only [zT, zA, zB]
      refine goP_tk rfl 60 rfl (.slice (some ⟨g, o, none⟩) (l.length + 1) c) (exec_hi fi_under _ _ rfl rfl rfl (fs_hi g o l.length c (l.length + 1) (Nat.le_of_not_lt HGR.out)) _) ?_; simp only [zT, zA, zB]
      refine goP_as rfl 0 rfl _ rfl (.slice (some ⟨g, o, none⟩) (l.length + 1) c) rfl ?_
      simp only [List.setIfInBounds_toArray, List.set_cons_zero]
      refine goP_end ?_
      go_upto_region 14 with fail
      refine goP_start ?_
      refine goP_mv rfl 61 rfl _ rfl (.slice (some ⟨bx, 0, none⟩) 1 1) rfl ?_; simp only [zT, zA, zB]
      refine goP_mv rfl 62 rfl _ rfl (.slice (some ⟨g, o, none⟩) (l.length + 1) c) rfl ?_; simp only [zT, zA, zB]
      refine goP_mv rfl 63 rfl _ rfl (.int .i64 i) rfl ?_; simp only [zT, zA, zB]
      refine goP_mv rfl 64 rfl _ rfl (.int .i64 1) rfl ?_; simp only [zT, zA, zB]
      refine goP_tk rfl 65 rfl (.int .i64 ((i + 1 : Nat) : Int)) (exec_bin _ _ rfl rfl rfl (fun _ => rfl) (add_i HW2.out) _) ?_; simp only [zT, zA, zB]
      refine goP_tk rfl 66 rfl (.slice (some ⟨g, o + (i + 1) * 34, none⟩) (l.length + 1 - (i + 1)) (c - (i + 1))) (exec_lo fi_under _ _ rfl rfl rfl HLO3.out _) ?_; simp only [zT, zA, zB]
      refine goP_tk rfl 67 rfl (.bool false) (exec_out (l := [_, _]) rfl rfl HOV.out) ?_; simp only [zT, zA, zB]
      refine goP_tk rfl 68 rfl (.bool true) (exec_un _ rfl rfl (not_b rfl) _) ?_; simp only [zT, zA, zB]
      refine goP_end ?_
      go_upto_region 15 with fail
      refine wp_region_hz (fun _ => True) (.tk 0 (.tk 1 (.tk 2 (.tk 3 (.tk 4 (.tk 5 (.tk 6 (.tk 7 (.fc 8 (.nil)))))))))) (by kernel_rfl) (by kernel_rfl) (fun _ _ _ _ _ h => h) ?_
      refine goZ_tk rfl rfl 69 rfl (.slice (some ⟨g, o, none⟩) (l.length + 1) c) (fun _ => rfl) ?_; simp only [zT, zA, zB]
      refine goZ_tk rfl rfl 70 rfl (.int .i64 i) (fun _ => rfl) ?_; simp only [zT, zA, zB]
      refine goZ_tk rfl rfl 71 rfl (.int .i64 1) (fun _ => rfl) ?_; simp only [zT, zA, zB]
      refine goZ_tk rfl rfl 72 rfl (.int .i64 ((i + 1 : Nat) : Int)) (exec_bin _ _ rfl rfl rfl (fun _ => rfl) (add_i HW2.out)) ?_; simp only [zT, zA, zB]
      refine goZ_tk rfl rfl 73 rfl (.slice (some ⟨g, o + (i + 1) * 34, none⟩) (l.length + 1 - (i + 1)) (c - (i + 1))) (exec_lo fi_under _ _ rfl rfl rfl (by exact HLO3.out)) ?_; simp only [zT, zA, zB]
      refine goZ_tk rfl rfl 74 rfl (.slice (some ⟨g, o, none⟩) (l.length + 1) c) (fun _ => rfl) ?_; simp only [zT, zA, zB]
      refine goZ_tk rfl rfl 75 rfl (.int .i64 i) (fun _ => rfl) ?_; simp only [zT, zA, zB]
      refine goZ_tk rfl rfl 76 rfl (.slice (some ⟨g, o + i * 34, none⟩) (l.length + 1 - i) (c - i)) (exec_lo fi_under _ _ rfl rfl rfl (by exact HLO4.out)) ?_; simp only [zT, zA, zB]
      refine goZ_val (ds' := []) rfl rfl (by kernel_rfl) 77 rfl (.int .i64 ((l.length - i : Nat) : Int)) (W3) (exec_copy _ _ _ _ rfl rfl rfl HCP1.out) (fun h => absurd rfl h) ?_; simp only [zT, zA, zB]
      refine goZ_end ?_
      go_upto_region 16 with fail
      refine goP_start ?_
      refine goP_mv rfl 78 rfl _ rfl (.slice (some ⟨g, o, none⟩) (l.length + 1) c) rfl ?_; simp only [zT, zA, zB]
      refine goP_mv rfl 79 rfl _ rfl (.int .i64 i) rfl ?_; simp only [zT, zA, zB]
      refine goP_tk rfl 80 rfl (.slice (some ⟨g, o + i * 34, none⟩) (l.length + 1 - i) (c - i)) (exec_lo fi_under _ _ rfl rfl rfl HLO4.out _) ?_; simp only [zT, zA, zB]
      refine goP_mv rfl 81 rfl _ rfl (.slice (some ⟨bx, 0, none⟩) 1 1) rfl ?_; simp only [zT, zA, zB]
      refine goP_by rfl 82 rfl (.int .i64 1) (W3.setCells g (o + i * 34) (fiC x)) (exec_copy _ _ _ _ rfl rfl rfl HCP2.out) ?_; simp only [zT, zA, zB]
      refine goP_end ?_
      go_wp2_with fail
      go_ret
      exact ⟨_, rfl, HR4.out.fr (ins_len hi) (ins_ok HFR.out.ok HX.out) (by omega) hcm, HG4.out, fun k hk => .inl hk⟩
end Go.Proofs.YtpcipdkoncmdcaaGreatDoor
