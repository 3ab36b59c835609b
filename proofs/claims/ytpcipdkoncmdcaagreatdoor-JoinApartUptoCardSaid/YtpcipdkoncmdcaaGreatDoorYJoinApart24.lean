/- Texts of mine, joined: Walk: slices.Delete over files, one file. | Changes in memory, and what tree.Apply comes to (plain). -/
import Derived.Test.YtpcipdkoncmdcaaGreatDoorYJoinApart23
namespace Go.Proofs.YtpcipdkoncmdcaaGreatDoor
open Go Go.RowKit
theorem Rw.pre {w : World} {g o N : Nat} {e : TypeId} {xs ys : List Value} (h : Rw w g o e N (xs ++ ys)) : Rw w g o e N xs := by
  obtain ⟨cur, h1, h2, h3⟩ := h
  exact ⟨cur, h1, h2, fun j u hu => h3 j u (by rw [List.getElem?_append_left (List.getElem?_eq_some_iff.1 hu).1]; exact hu)⟩
/-- Files of a row from the k-th on, the place told. -/
theorem fs_at (g o n c k : Nat) (hk : k ≤ n) : ∃ off C, (∀ W, (Instr.slice 22 (.slice (some ⟨g, o, none⟩) n c) (some (.int .i64 k)) none none).run Tryz.prog W = .ok (.slice (some ⟨g, off, none⟩) (n - k) C) W) ∧ (k < c → off = o + k * 34) := by
  have i0 : (0 : Int) ≤ (k : Int) := by omega
  have i1 : (k : Int) ≤ (n : Int) := by omega
  by_cases hc : c = k
  · refine ⟨o, 0, fun W => ?_, fun h => by omega⟩
    rw [run_slice_l W _ _ _ _ fi_under _ _ i0 i1, fi_size]
    simp [Result.andThen, sliced, hc]
  · refine ⟨o + k * 34, c - k, fun W => ?_, fun _ => rfl⟩
    rw [run_slice_l W _ _ _ _ fi_under _ _ i0 i1, fi_size]
    simp [Result.andThen, sliced, hc, Addr.add_lit]
theorem fs_mid (g o n c k h : Nat) (hk : k < h) (hh : h ≤ c) (W : World) : (Instr.slice 22 (.slice (some ⟨g, o, none⟩) n c) (some (.int .i64 k)) (some (.int .i64 h)) none).run Tryz.prog W = .ok (.slice (some ⟨g, o + k * 34, none⟩) (h - k) (c - k)) W := by
  have i0 : (0 : Int) ≤ (k : Int) := by omega
  have i1 : (k : Int) ≤ (h : Int) := by omega
  have i2 : (h : Int) ≤ (c : Int) := by omega
  have hc : ¬ c = k := by omega
  rw [run_slice_lh W _ _ _ _ fi_under _ _ _ _ i0 i1 i2, fi_size]
  simp [Result.andThen, sliced, hc, Addr.add_lit]
theorem fs_three (a : Option Addr) (n c k h m : Nat) (hk : k ≤ h) (hh : h ≤ m) (hm : m ≤ c) : ∃ v, ∀ W, (Instr.slice 22 (.slice a n c) (some (.int .i64 k)) (some (.int .i64 h)) (some (.int .i64 m))).run Tryz.prog W = .ok v W := by
  have i0 : (0 : Int) ≤ (k : Int) := by omega
  have i1 : (k : Int) ≤ (h : Int) := by omega
  have i2 : (h : Int) ≤ (m : Int) := by omega
  have i3 : (m : Int) ≤ (c : Int) := by omega
  exact ⟨_, fun W => by rw [run_slice_lhm W _ _ _ _ fi_under _ _ _ _ _ _ i0 i1 i2 i3, fi_size]; rfl⟩
theorem exec_mid {P : Program} {ev : Operand → Value} {o : Oper} {t : TypeId} (hu : P.underlying t = some (.slice (P.elem t))) (x lo hi : Operand) (ho : o.op = .slice t x (some lo) (some hi) none) {u a b : Value} (hx : ev x = u) (hl : ev lo = a) (hh : ev hi = b) {v : Value} (hr : ∀ w, (Instr.slice t u (some a) (some b) none).run P w = .ok v w) : ∀ w, (execOp ev o).run P w = .ok (.value v) w := by
  intro w
  unfold execOp
  simp only [ho, hx, hl, hh, Option.map_some, Option.map_none, Sem.run_bind, run_sliceAt_slice w t u (some a) (some b) none hu, hr, Result.andThen_ok, Sem.run_pure]
theorem exec_three {P : Program} {ev : Operand → Value} {o : Oper} {t : TypeId} (hu : P.underlying t = some (.slice (P.elem t))) (x lo hi mx : Operand) (ho : o.op = .slice t x (some lo) (some hi) (some mx)) {u a b m : Value} (hx : ev x = u) (hl : ev lo = a) (hh : ev hi = b) (hm : ev mx = m) {v : Value} (hr : ∀ w, (Instr.slice t u (some a) (some b) (some m)).run P w = .ok v w) : ∀ w, (execOp ev o).run P w = .ok (.value v) w := by
  intro w
  unfold execOp
  simp only [ho, hx, hl, hh, hm, Option.map_some, Sem.run_bind, run_sliceAt_slice w t u (some a) (some b) (some m) hu, hr, Result.andThen_ok, Sem.run_pure]
/-- In a plain region: an operation whose value nothing takes. -/
theorem goP_by0 {P : Program} {ops : Array Oper} {Q : Exit → Act → World → Prop} {rest : List Oper} {o : Oper} {T : Array Value} {D : List Deferred} {w : World} (hg : Region.wanted o (yielded ops T) = true) (hd : o.dst = none) (v : Value) (w' : World) (hv : (execOp (Act.eval ⟨T, D⟩) o).run P w = .ok (.value v) w') (h : goP P ops Q rest ⟨T, D⟩ w') : goP P ops Q (o :: rest) ⟨T, D⟩ w := by
  rw [goP_eq] at h ⊢
  refine wpList_step fun K hK => ?_
  rw [if_pos hg]
  unfold Oper.wp
  rw [hv]
  exact hK _ _ (by rw [hd]; exact h)
theorem fi_zero (W : World) : (zeroValue 56).run Tryz.prog W = .ok (.agg (fiC zF).toArray) W := by
  obtain ⟨i, hi, g1, g2, g3⟩ := info_parts fiElem.info
  simp [zeroValue, typeInfo, hi, g1]
theorem zF_ok : OkFi zF := ⟨⟨by decide, by decide⟩, by decide, by decide⟩
theorem exec_len {P : Program} {ev : Operand → Value} {o : Oper} {t : TypeId} (hu : P.underlying t = some (.slice (P.elem t))) (x : Operand) (ho : o.op = .call { callee := .builtin .len, args := #[x], argTypes := #[t] }) {a : Option Addr} {n c : Nat} (hx : ev x = .slice a n c) : ∀ w, (execOp ev o).run P w = .ok (.value (.int .i64 (n : Nat))) w := by
  intro w
  unfold execOp
  simp only [ho, resolve, invoke, builtin, Sem.run_bind, Sem.run_pure, Result.andThen_ok, List.map_toArray, List.map_cons, List.map_nil, hx, run_len_slice w t _ a n c hu]
  rfl

set_option maxRecDepth 100000 in
set_option maxHeartbeats 4000000 in
theorem fdelete_c {w : World} {v : Value} {l : List Fi} (h : FR w v l) {i : Nat} (hi : i < l.length) :
    Calls Tryz.prog 46 #[v, .int .i64 i, .int .i64 ((i + 1 : Nat) : Int)] w fun e w' => ∃ v', e = .returned v' ∧ FR w' v' (l.take i ++ l.drop (i + 1)) ∧ w.grownBy w' v.ownBlock ∧ v'.ownBlock = v.ownBlock := by
  have hok := h.ok
  obtain ⟨g, o, c, rfl⟩ : ∃ g o c, v = .slice (some ⟨g, o, none⟩) l.length c := by
    rcases h.row.2 with ⟨e, h0⟩ | ⟨g, o, cap, cur, e, -⟩
    · omega
    · exact ⟨g, o, cap, e⟩
  obtain ⟨hrw, hnc, hcm, -⟩ := h.row.rw
  obtain ⟨m, hm⟩ : ∃ m, m = l.length - (i + 1) := ⟨_, rfl⟩
  have hlm : l.length = i + 1 + m := by omega
  obtain ⟨V3, hv3⟩ := fs_three (some ⟨g, o, none⟩) l.length c i (i + 1) l.length (by omega) (by omega) hnc
  obtain ⟨off, C2, hlo, hlo2⟩ := fs_at g o l.length c (i + 1) (by omega)
  rw [← hm] at hlo
  have hlr : (fiR l).length = l.length * 34 := fiR_len hok
  have hld : (fiR (l.drop (i + 1))).length = m * 34 := by rw [fiR_len (fun f hf => hok f (List.mem_of_mem_drop hf)), List.length_drop, hm]
  have hL : (l.take i ++ l.drop (i + 1)).length = i + m := by rw [List.length_append, List.length_take, List.length_drop]; omega
  have hLo : ∀ f ∈ l.take i ++ l.drop (i + 1), OkFi f := fun f hf => by
    rcases List.mem_append.1 hf with hf | hf
    · exact hok f (List.mem_of_mem_take hf)
    · exact hok f (List.mem_of_mem_drop hf)
  have hLl : (fiR (l.take i ++ l.drop (i + 1))).length = (i + m) * 34 := by rw [fiR_len hLo, hL]
  obtain ⟨ti, hti, tz, ts, tb⟩ := info_parts fiElem.info
  have hwr : Rw (w.drewN 1) g o 56 (c * 34) (fiR l) := hrw
  have hsrc : Src Tryz.prog ti.size 22 (.slice (some ⟨g, off, none⟩) m C2) m (fiR (l.drop (i + 1))) (w.drewN 1) := by
    rw [ts]
    refine Src.ofSlice _ Tryz.underlying22 _ m C2 _ hld (fun j u hu => ?_) fiR_mem1
    have hj := (List.getElem?_eq_some_iff.1 hu).1
    have he := hlo2 (by omega)
    rw [Addr.add_lit, he, Nat.add_assoc]
    refine hwr.cell ?_
    rw [← fiR_drop hok (by omega), List.getElem?_drop] at hu
    exact hu
  have hth := hwr.there (k := i * 34) (m := (fiR (l.drop (i + 1))).length) (by rw [hld]; omega)
  have hrun := fun ty => run_append_room_src (P := Tryz.prog) (w.drewN 1) 22 22 ty 56 ti Tryz.underlying22 hti g o i c _ m _ hsrc (by omega) (by rw [ts]; exact fun j hj => (hth j hj).1) (by rw [ts]; exact fun j hj => (hth j hj).2)
  rw [ts] at hrun
  have hw3 := hwr.write (k := i * 34) (by rw [hlr]; omega) (fiR (l.drop (i + 1))) (by rw [hld]; omega)
  rw [fiR_take hok (by omega), ← List.append_assoc, ← fiR_app] at hw3
  have hw3 := hw3.pre
  obtain ⟨W2, hW2⟩ : ∃ W2, (w.drewN 1).setCells g (o + i * 34) (fiR (l.drop (i + 1))) = W2 := ⟨_, rfl⟩
  have hb0 : Below w.heap.size w (w.drewN 1) := below_dN (Below.refl _ w) 1
  have hg2 : w.grownBy W2 (some g) := (show w.grownBy (w.drewN 1) (some g) from ⟨hb0.os, hb0.tape, hb0.output, hb0.size, fun k hk _ => hb0.block k hk⟩).trans (by rw [← hW2]; exact setCells_grown _ _ _ _)
  rw [hW2] at hw3
  simp only [hW2] at hrun
  have hzl : (fiC zF).length = 34 := fiC_len zF_ok
  have hcl := fun ty => run_clear_wide (P := Tryz.prog) W2 22 ty 56 (fiC zF) (.agg (fiC zF).toArray) Tryz.underlying22 fi_zero g (o + (i + m) * 34) 1 (c - (i + m)) (by decide) (by kernel_rfl) (hw3.there (k := (i + m) * 34) (m := (fiC zF).length) (by rw [hzl]; omega)) fiC_mem1
  have hw4 := hw3.write (k := (i + m) * 34) (by rw [hLl]; exact Nat.le_refl _) (fiC zF) (by rw [hzl]; omega)
  rw [List.take_of_length_le (by rw [hLl]; exact Nat.le_refl _)] at hw4
  have HR4 : Hid (Rw (W2.setCells g (o + (i + m) * 34) (fiC zF)) g o 56 (c * 34) (fiR (l.take i ++ l.drop (i + 1)))) := hw4.pre
  have HG4 : Hid (w.grownBy (W2.setCells g (o + (i + m) * 34) (fiC zF)) (some g)) := hg2.trans (setCells_grown _ _ _ _)
  have HL := Lib.hid hL
  have HLO' := Lib.hid hLo
  have HV3 := Lib.hid hv3
  have HLO := Lib.hid hlo
  have HRUN := Lib.hid hrun
  have HCL := Lib.hid hcl
  have e1 : ((i : Int) == ((i + 1 : Nat) : Int)) = false := beq_eq_false_iff_ne.2 (by omega)
  have e1' : ((i : Int) == (i : Int) + 1) = false := beq_eq_false_iff_ne.2 (by omega)
  have HLN := Lib.hid hlm
  have HMID : Hid (∀ W, (Instr.slice 22 (.slice (some ⟨g, o, none⟩) (i + m) c) (some (.int .i64 ((i + m : Nat) : Int))) (some (.int .i64 l.length)) none).run Tryz.prog W = .ok (.slice (some ⟨g, o + (i + m) * 34, none⟩) 1 (c - (i + m))) W) := fun W => by
    have h := fs_mid g o (i + m) c (i + m) l.length (by omega) hnc W
    rw [show l.length - (i + m) = 1 by omega] at h
    exact h
  have HNC := Lib.hid hnc
  clear h hok hrw hlo hlo2 hm hlm hlr hld hL hLo hLl hti tz ts tb hwr hsrc hth hrun hw3 hW2 hb0 hg2 hzl hcl hw4 hv3
  go_enter Tryz.func46, Tryz.ntmps46
  go_upto_region 1 with fail
  refine goP_start ?_
  refine goP_mv rfl 8 rfl _ rfl (.slice (some ⟨g, o, none⟩) l.length c) rfl ?_; simp only [zT, zA, zB]
  refine goP_mv rfl 9 rfl _ rfl (.int .i64 i) rfl ?_; simp only [zT, zA, zB]
  refine goP_mv rfl 10 rfl _ rfl (.int .i64 ((i + 1 : Nat) : Int)) rfl ?_; simp only [zT, zA, zB]
  refine goP_mv rfl 11 rfl _ rfl (.slice (some ⟨g, o, none⟩) l.length c) rfl ?_; simp only [zT, zA, zB]
  refine goP_tk rfl 12 rfl (.int .i64 l.length) (exec_len fi_under _ rfl rfl _) ?_; simp only [zT, zA, zB]
  refine goP_tk rfl 13 rfl V3 (exec_three fi_under _ _ _ _ rfl rfl rfl rfl rfl HV3.out _) ?_; simp only [zT, zA, zB]
  refine goP_end ?_
  go_upto_region 5 with fail
  refine wp_region_hz (fun _ => True) (.tk 0 (.tk 1 (.tk 2 (.tk 3 (.tk 4 (.tk 5 (.fc 6 (.tk 7 (.nil))))))))) (by kernel_rfl) (by kernel_rfl) (fun _ _ _ _ _ h => h) ?_
  refine goZ_tk rfl rfl 20 rfl (.slice (some ⟨g, o, none⟩) l.length c) (fun _ => rfl) ?_; simp only [zT, zA, zB]
  refine goZ_tk rfl rfl 21 rfl (.int .i64 i) (fun _ => rfl) ?_; simp only [zT, zA, zB]
  refine goZ_tk rfl rfl 22 rfl (.slice (some ⟨g, o, none⟩) i c) (exec_hi fi_under _ _ rfl rfl rfl (by exact fs_hi g o l.length c i (by have := HLN.out; have := HNC.out; omega))) ?_; simp only [zT, zA, zB]
  refine goZ_tk rfl rfl 23 rfl (.slice (some ⟨g, o, none⟩) l.length c) (fun _ => rfl) ?_; simp only [zT, zA, zB]
  refine goZ_tk rfl rfl 24 rfl (.int .i64 ((i + 1 : Nat) : Int)) (fun _ => rfl) ?_; simp only [zT, zA, zB]
  refine goZ_tk rfl rfl 25 rfl (.slice (some ⟨g, off, none⟩) m C2) (exec_lo fi_under _ _ rfl rfl rfl (by exact HLO.out)) ?_; simp only [zT, zA, zB]
  refine goZ_val (ds' := []) rfl rfl (by kernel_rfl) 26 rfl (.slice (some ⟨g, o, none⟩) (i + m) c) (W2) (exec_append _ _ _ _ rfl rfl rfl HRUN.out) (fun h => absurd rfl h) ?_; simp only [zT, zA, zB]
  refine goZ_tk rfl rfl 0 rfl (.slice (some ⟨g, o, none⟩) (i + m) c) (fun _ => rfl) ?_
  simp only [List.setIfInBounds_toArray, List.set_cons_zero]
  refine goZ_end ?_
  go_upto_region 6 with fail
  refine goP_start ?_
  refine goP_mv rfl 27 rfl _ rfl (.slice (some ⟨g, o, none⟩) (i + m) c) rfl ?_; simp only [zT, zA, zB]
  refine goP_mv rfl 28 rfl _ rfl (.slice (some ⟨g, o, none⟩) (i + m) c) rfl ?_; simp only [zT, zA, zB]
  refine goP_tk rfl 29 rfl (.int .i64 ((i + m : Nat) : Int)) (exec_len fi_under _ rfl rfl _) ?_; simp only [zT, zA, zB]
  refine goP_mv rfl 30 rfl _ rfl (.int .i64 l.length) rfl ?_; simp only [zT, zA, zB]
  refine goP_tk rfl 31 rfl (.slice (some ⟨g, o + (i + m) * 34, none⟩) 1 (c - (i + m))) (exec_mid fi_under _ _ _ rfl rfl rfl rfl HMID.out _) ?_; simp only [zT, zA, zB]
  refine goP_by0 rfl rfl _ (W2.setCells g (o + (i + m) * 34) (fiC zF)) (exec_clear _ _ rfl rfl HCL.out) ?_
  refine goP_end ?_
  go_wp2_with fail
  go_ret
  exact ⟨_, rfl, HR4.out.fr HL.out HLO'.out (by have := HLN.out; have := HNC.out; omega) hcm, HG4.out, rfl⟩
end Go.Proofs.YtpcipdkoncmdcaaGreatDoor
namespace Go.Proofs.YtpcipdkoncmdcaaGreatDoor
open Go Go.RowKit
structure Ch where
  kind : Int
  old : Fi
  new : Fi
def chC (c : Ch) : List Value := .int .i64 c.kind :: (fiC c.old ++ fiC c.new)
def chR (l : List Ch) : List Value := l.flatMap chC
structure OkCh (c : Ch) : Prop where
  old : OkFi c.old
  new : OkFi c.new
theorem chC_len {c : Ch} (h : OkCh c) : (chC c).length = 69 := by simp [chC, fiC_len h.old, fiC_len h.new]
theorem chC_mem1 {c : Ch} : ∀ u ∈ chC c, u.oneCell' = true := by
  intro u hu
  rcases List.mem_cons.1 hu with rfl | hu
  · rfl
  · rcases List.mem_append.1 hu with hu | hu
    · exact fiC_mem1 u hu
    · exact fiC_mem1 u hu
theorem chC_one {c : Ch} : (chC c).toArray.all (·.oneCell') = true := by rw [List.all_toArray, List.all_eq_true]; exact chC_mem1
theorem chR_app (l m : List Ch) : chR (l ++ m) = chR l ++ chR m := by simp [chR]
theorem chR_len : ∀ {l : List Ch}, (∀ b ∈ l, OkCh b) → (chR l).length = l.length * 69
  | [], _ => rfl
  | b :: l, h => by
    show (chC b ++ chR l).length = _
    rw [List.length_append, chC_len (h b (by simp)), chR_len (fun x hx => h x (by simp [hx])), List.length_cons]; omega
theorem chR_get : ∀ {l : List Ch}, (∀ b ∈ l, OkCh b) → ∀ (k : Nat) (hk : k < l.length) (j : Nat), j < 69 → (chR l)[k * 69 + j]? = (chC l[k])[j]?
  | b :: l, h, 0, _, j, hj => by
    show (chC b ++ chR l)[0 * 69 + j]? = _
    rw [Nat.zero_mul, Nat.zero_add, List.getElem?_append_left (by rw [chC_len (h b (by simp))]; exact hj)]; rfl
  | b :: l, h, k + 1, hk, j, hj => by
    show (chC b ++ chR l)[(k + 1) * 69 + j]? = _
    have hl := chC_len (h b (by simp))
    rw [List.getElem?_append_right (by rw [hl]; omega), hl, show (k + 1) * 69 + j - 69 = k * 69 + j by omega]
    exact chR_get (fun x hx => h x (by simp [hx])) k (by simpa using hk) j hj
/-- Changes in memory. -/
structure CS (w : World) (v : Value) (l : List Ch) : Prop where
  sl : ∃ a c, v = .slice a l.length c ∧ Sl w a (chR l)
  ok : ∀ f ∈ l, OkCh f
  n : l.length ≤ 10000000
theorem CS.below {w w' : World} {v : Value} {l : List Ch} (h : CS w v l) (hb : Below w.heap.size w w') : CS w' v l := by
  obtain ⟨a, c, h1, h2⟩ := h.sl
  exact ⟨⟨a, c, h1, h2.below hb⟩, h.ok, h.n⟩
theorem CS.at {w : World} {v : Value} {l : List Ch} (h : CS w v l) {k : Nat} (hk : k < l.length) : ∃ b o c, v = .slice (some ⟨b, o, none⟩) l.length c ∧ b < w.heap.size ∧ ∀ j (hj : j < l.length), w.rangeAt b (o + j * 69) (chC l[j]) := by
  obtain ⟨a, c, rfl, hs⟩ := h.sl
  rcases hs with e | ⟨b, o, rfl, hl, hc⟩
  · have := chR_len h.ok; rw [e] at this; simp at this; omega
  · refine ⟨b, o, c, rfl, hl, fun j hj i u hu => ?_⟩
    have hok := h.ok _ (List.getElem_mem hj)
    have hi := (List.getElem?_eq_some_iff.1 hu).1
    rw [chC_len hok] at hi
    rw [Nat.add_assoc]
    refine hc _ _ ?_
    rw [chR_get h.ok j hj i hi]; exact hu
theorem CS.lit {w : World} {v : Value} {l : List Ch} (h : CS w v l) : ∃ a c, v = .slice a l.length c := by obtain ⟨a, c, e, _⟩ := h.sl; exact ⟨a, c, e⟩
/-- A block of one change. -/
def ChB (w : World) (b : Nat) (x : Ch) : Prop := w.heap[b]? = some (.cells (chC x).toArray 75 (0, 0))
theorem ChB.lt {w : World} {b : Nat} {x : Ch} (h : ChB w b x) : b < w.heap.size := (Array.getElem?_eq_some_iff.1 h).1
theorem ChB.below {w w' : World} {b : Nat} {x : Ch} (h : ChB w b x) (hb : Below w.heap.size w w') : ChB w' b x := (hb.block b h.lt).trans h
theorem ChB.cell {w : World} {b : Nat} {x : Ch} (h : ChB w b x) {j : Nat} {u : Value} (hu : (chC x)[j]? = some u) : w.cell? ⟨b, j, none⟩ = some u := by
  have h : w.heap[b]? = _ := h
  simp only [World.cell?, h]; simpa using hu
theorem ChB.kind {w : World} {b : Nat} {x : Ch} (h : ChB w b x) : w.cell? ⟨b, 0, none⟩ = some (.int .i64 x.kind) := h.cell rfl
theorem ChB.opath {w : World} {b : Nat} {x : Ch} (h : ChB w b x) : w.cell? ⟨b, 1, none⟩ = some (.string x.old.path) := h.cell rfl
theorem chC_new {x : Ch} (hx : OkCh x) (j : Nat) : (chC x)[35 + j]? = (fiC x.new)[j]? := by
  have hl := fiC_len hx.old
  show (Value.int .i64 x.kind :: (fiC x.old ++ fiC x.new))[35 + j]? = _
  rw [show 35 + j = (34 + j) + 1 by omega, List.getElem?_cons_succ, List.getElem?_append_right (by omega), hl, Nat.add_sub_cancel_left]
theorem ChB.npath {w : World} {b : Nat} {x : Ch} (h : ChB w b x) (hx : OkCh x) : w.cell? ⟨b, 35, none⟩ = some (.string x.new.path) := h.cell (chC_new hx 0)
theorem ChB.new {w : World} {b : Nat} {x : Ch} (h : ChB w b x) (hx : OkCh x) : w.rangeAt b 35 (fiC x.new) := fun j u hu => h.cell (by rw [chC_new hx]; exact hu)
theorem fiC_id {f : Fi} (hf : OkFi f) {j : Nat} {u : Value} (hu : (nb f.id)[j]? = some u) : (fiC f)[1 + j]? = some u := by
  have hl := (List.getElem?_eq_some_iff.1 hu).1
  show (Value.string f.path :: (nb f.id ++ [Value.float .f64 f.stamp]))[1 + j]? = _
  rw [Nat.add_comm, List.getElem?_cons_succ, List.getElem?_append_left hl]; exact hu
theorem ChB.oid {w : World} {b : Nat} {x : Ch} (h : ChB w b x) (hx : OkCh x) : w.rangeAt b 2 (nb x.old.id) := fun j u hu => h.cell (by
  have h1 := fiC_id hx.old hu
  have hl := (List.getElem?_eq_some_iff.1 h1).1
  show (Value.int .i64 x.kind :: (fiC x.old ++ fiC x.new))[2 + j]? = _
  rw [show 2 + j = (1 + j) + 1 by omega, List.getElem?_cons_succ, List.getElem?_append_left hl]; exact h1)

/-- One change applied. -/
def appP (c : Ch) : ByteArray := if c.kind = 1 then c.new.path else c.old.path
def app1 (l : List Fi) (c : Ch) : Option (List Fi) :=
  if bsB (appP c) l ≠ decide (c.kind ≠ 1) ∨ c.kind < 1 ∨ c.kind > 4 then none else
  if c.kind = 1 then some (l.take (bsI (appP c) l) ++ c.new :: l.drop (bsI (appP c) l)) else
  match l[bsI (appP c) l]? with
  | none => none
  | some f =>
    if f.id ≠ c.old.id ∨ c.kind ≠ 2 ∧ c.new.path ≠ appP c then none else
    if c.kind = 2 then some (l.take (bsI (appP c) l) ++ l.drop (bsI (appP c) l + 1)) else
    some (l.take (bsI (appP c) l) ++ c.new :: l.drop (bsI (appP c) l + 1))
def applyS : List Fi → List Ch → Option (List Fi)
  | l, [] => some l
  | l, c :: cs => (app1 l c).bind (applyS · cs)
theorem bsF_le {p : ByteArray} {l : List Fi} : ∀ {n i j : Nat}, i ≤ j → bsF p l n i j ≤ j
  | 0, _, _, h => h
  | n + 1, i, j, h => by
    unfold bsF
    split
    · split
      · exact bsF_le (by omega)
      · exact Nat.le_trans (bsF_le (by omega)) (by omega)
    · exact h
theorem bsI_le (p : ByteArray) (l : List Fi) : bsI p l ≤ l.length := bsF_le (Nat.zero_le _)
theorem bsB_lt {p : ByteArray} {l : List Fi} (h : bsB p l = true) : bsI p l < l.length := by
  unfold bsB at h
  split at h
  · cases h
  · rename_i he; exact (List.getElem?_eq_some_iff.1 he).1
theorem app1_len {l L : List Fi} {c : Ch} (h : app1 l c = some L) : L.length ≤ l.length + 1 := by
  unfold app1 at h
  have hb := bsI_le (appP c) l
  split at h
  · cases h
  · split at h
    · injection h with h; subst h; simp only [List.length_append, List.length_cons, List.length_take, List.length_drop]; omega
    · split at h
      · cases h
      · rename_i he
        have := (List.getElem?_eq_some_iff.1 he).1
        split at h
        · cases h
        · split at h
          · injection h with h; subst h; simp only [List.length_append, List.length_take, List.length_drop]; omega
          · injection h with h; subst h; simp only [List.length_append, List.length_cons, List.length_take, List.length_drop]; omega
theorem applyS_step {l : List Fi} {cs : List Ch} {k : Nat} (hk : k < cs.length) : applyS l (cs.drop k) = (app1 l cs[k]).bind (applyS · (cs.drop (k + 1))) := by
  rw [List.drop_eq_getElem_cons hk]; rfl
end Go.Proofs.YtpcipdkoncmdcaaGreatDoor
