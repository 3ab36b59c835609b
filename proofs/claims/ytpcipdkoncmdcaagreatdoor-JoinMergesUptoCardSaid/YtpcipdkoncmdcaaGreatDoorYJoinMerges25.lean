/- Texts of mine, joined: A plain region (its order is the text's), walked step by step over a frame that is written out. Of every program. | Flags and ids of the three, so far, in two blocks. | Arrays of flags and of ids held against themselves. -/
import Derived.Test.YtpcipdkoncmdcaaGreatDoorYJoinMerges24
namespace Go.Proofs.YtpcipdkoncmdcaaGreatDoor
open Go Go.RowKit
section
variable {P : Program} {ops : Array Oper} {Q : Exit → Act → World → Prop} {rest : List Oper} {o : Oper} {T : Array Value} {D : List Deferred} {w : World}
/-- An operation that yields a value. -/
theorem goW_tk (hg : Region.wanted o (yielded ops T) = true) (d : Nat) (hd : o.dst = some d) (v : Value) (hv : (execOp (Act.eval ⟨T, D⟩) o).run P w = .ok (.value v) w) (h : wpList P ops Q rest ⟨T.setIfInBounds d v, D⟩ w) : wpList P ops Q (o :: rest) ⟨T, D⟩ w :=
  wpList_step fun K hK => by
    rw [if_pos hg]
    unfold Oper.wp
    rw [hv]
    exact hK _ _ (by rw [hd]; exact h)
/-- A load. -/
theorem goW_ld (hg : Region.wanted o (yielded ops T) = true) (d : Nat) (hd : o.dst = some d) (ty : TypeId) (x : Operand) (hop : o.op = .load ty x) (ad : Addr) (v : Value) (hx : Act.eval ⟨T, D⟩ x = .pointer (some ad))
    (hrun : (Instr.loadAt ty (.pointer (some ad))).run P w = .ok v w) (h : wpList P ops Q rest ⟨T.setIfInBounds d v, D⟩ w) : wpList P ops Q (o :: rest) ⟨T, D⟩ w :=
  goW_tk hg d hd v (by unfold execOp; simp only [hop, hx, Sem.run_bind, hrun, Result.andThen_ok, Sem.run_pure]) h
/-- One that isn't wanted. -/
theorem goW_no (hg : Region.wanted o (yielded ops T) = false) (d : Nat) (hd : o.dst = some d) (h : wpList P ops Q rest ⟨T.setIfInBounds d undef, D⟩ w) : wpList P ops Q (o :: rest) ⟨T, D⟩ w :=
  wpList_step fun K hK => by
    rw [if_neg (by rw [hg]; decide)]
    exact hK _ _ (by rw [hd]; exact h)
/-- A move, an assign, a pick. -/
theorem goW_mv (hg : Region.wanted o (yielded ops T) = true) (d : Nat) (hd : o.dst = some d) (x : Operand) (hop : o.op = .move x) (v : Value) (hx : Act.eval ⟨T, D⟩ x = v) (h : wpList P ops Q rest ⟨T.setIfInBounds d v, D⟩ w) : wpList P ops Q (o :: rest) ⟨T, D⟩ w :=
  goW_tk hg d hd v (by unfold execOp; rw [hop, ← hx]; rfl) h
theorem goW_as (hg : Region.wanted o (yielded ops T) = true) (d : Nat) (hd : o.dst = some d) (x : Operand) (hop : o.op = .assign x) (v : Value) (hx : Act.eval ⟨T, D⟩ x = v) (h : wpList P ops Q rest ⟨T.setIfInBounds d v, D⟩ w) : wpList P ops Q (o :: rest) ⟨T, D⟩ w :=
  goW_tk hg d hd v (by unfold execOp; rw [hop, ← hx]; rfl) h
theorem goW_pk (hg : Region.wanted o (yielded ops T) = true) (d : Nat) (hd : o.dst = some d) (c x y : Operand) (hop : o.op = .pick c x y) (b : Bool) (hc : Act.eval ⟨T, D⟩ c = .bool b) (v : Value) (hv : (if b = true then Act.eval ⟨T, D⟩ x else Act.eval ⟨T, D⟩ y) = v) (h : wpList P ops Q rest ⟨T.setIfInBounds d v, D⟩ w) : wpList P ops Q (o :: rest) ⟨T, D⟩ w :=
  goW_tk hg d hd v (by unfold execOp; simp only [hop, hc]; rw [← hv]; rfl) h
/-- A call. -/
theorem goW_call (hg : Region.wanted o (yielded ops T) = true) (d : Nat) (hd : o.dst = some d) (f : FuncId) (l : List Operand) {ats : Array TypeId} (hop : o.op = .call { callee := .value (.func f), args := l.toArray, argTypes := ats })
    (vs : List Value) (hl : l.map (Act.eval ⟨T, D⟩) = vs) (hen : ∀ args w, (callFunc f args).run P w = .ok (.enter f args) w)
    (h : Calls P f vs.toArray w fun e w' => ∃ u, e = .returned u ∧ wpList P ops Q rest ⟨T.setIfInBounds d u, D⟩ w') : wpList P ops Q (o :: rest) ⟨T, D⟩ w := by
  refine wpList_step fun K hK => ?_
  rw [if_pos hg]
  unfold Oper.wp
  have hrun : (execOp (Act.eval ⟨T, D⟩) o).run P w = .ok (.enter f vs.toArray) w := by
    obtain ⟨d', op, ty, pos, af, gd⟩ := o
    simp only at hop
    subst hop
    rw [execOp_call_go]
    have e : (#[] ++ l.toArray.map (Act.eval ⟨T, D⟩) ++ #[] : Array Value) = vs.toArray := by rw [← hl]; simp
    rw [e]
    exact hen _ _
  rw [hrun]
  exact h.mono fun _ _ ⟨u, h1, h2⟩ => by subst h1; exact hK _ _ (by rw [hd]; exact h2)
/-- The same, not to be unfolded (whnf of a list of operations that aren't wanted doesn't come back). -/
@[irreducible] def goP (P : Program) (ops : Array Oper) (Q : Exit → Act → World → Prop) (l : List Oper) (a : Act) (w : World) : Prop := wpList P ops Q l a w
theorem goP_eq {l : List Oper} {a : Act} : goP P ops Q l a w = wpList P ops Q l a w := by unfold goP; rfl
theorem goP_start {id : Nat} {l : List Oper} {a : Act} (h : goP P l.toArray Q l a w) : (Code.region id l.toArray false).wp P Q a w := wp_region_lit (by rw [goP_eq] at h; exact h)
theorem goP_end {a : Act} (h : Q .normal a w) : goP P ops Q [] a w := by rw [goP_eq]; exact wpList_nil h
theorem goP_out {l : List Oper} {a : Act} (h : wpList P ops Q l a w) : goP P ops Q l a w := by rw [goP_eq]; exact h
theorem goP_tk (hg : Region.wanted o (yielded ops T) = true) (d : Nat) (hd : o.dst = some d) (v : Value) (hv : (execOp (Act.eval ⟨T, D⟩) o).run P w = .ok (.value v) w) (h : goP P ops Q rest ⟨T.setIfInBounds d v, D⟩ w) : goP P ops Q (o :: rest) ⟨T, D⟩ w := by
  rw [goP_eq] at h ⊢
  exact goW_tk hg d hd v hv h
theorem goP_ld (hg : Region.wanted o (yielded ops T) = true) (d : Nat) (hd : o.dst = some d) (ty : TypeId) (x : Operand) (hop : o.op = .load ty x) (ad : Addr) (v : Value) (hx : Act.eval ⟨T, D⟩ x = .pointer (some ad))
    (hrun : (Instr.loadAt ty (.pointer (some ad))).run P w = .ok v w) (h : goP P ops Q rest ⟨T.setIfInBounds d v, D⟩ w) : goP P ops Q (o :: rest) ⟨T, D⟩ w := by
  rw [goP_eq] at h ⊢
  exact goW_ld hg d hd ty x hop ad v hx hrun h
theorem goP_no (hg : Region.wanted o (yielded ops T) = false) (d : Nat) (hd : o.dst = some d) (h : goP P ops Q rest ⟨T.setIfInBounds d undef, D⟩ w) : goP P ops Q (o :: rest) ⟨T, D⟩ w := by
  rw [goP_eq] at h ⊢
  exact goW_no hg d hd h
theorem goP_mv (hg : Region.wanted o (yielded ops T) = true) (d : Nat) (hd : o.dst = some d) (x : Operand) (hop : o.op = .move x) (v : Value) (hx : Act.eval ⟨T, D⟩ x = v) (h : goP P ops Q rest ⟨T.setIfInBounds d v, D⟩ w) : goP P ops Q (o :: rest) ⟨T, D⟩ w := by
  rw [goP_eq] at h ⊢
  exact goW_mv hg d hd x hop v hx h
theorem goP_as (hg : Region.wanted o (yielded ops T) = true) (d : Nat) (hd : o.dst = some d) (x : Operand) (hop : o.op = .assign x) (v : Value) (hx : Act.eval ⟨T, D⟩ x = v) (h : goP P ops Q rest ⟨T.setIfInBounds d v, D⟩ w) : goP P ops Q (o :: rest) ⟨T, D⟩ w := by
  rw [goP_eq] at h ⊢
  exact goW_as hg d hd x hop v hx h
theorem goP_pk (hg : Region.wanted o (yielded ops T) = true) (d : Nat) (hd : o.dst = some d) (c x y : Operand) (hop : o.op = .pick c x y) (b : Bool) (hc : Act.eval ⟨T, D⟩ c = .bool b) (v : Value) (hv : (if b = true then Act.eval ⟨T, D⟩ x else Act.eval ⟨T, D⟩ y) = v) (h : goP P ops Q rest ⟨T.setIfInBounds d v, D⟩ w) : goP P ops Q (o :: rest) ⟨T, D⟩ w := by
  rw [goP_eq] at h ⊢
  exact goW_pk hg d hd c x y hop b hc v hv h
theorem goP_call (hg : Region.wanted o (yielded ops T) = true) (d : Nat) (hd : o.dst = some d) (f : FuncId) (l : List Operand) {ats : Array TypeId} (hop : o.op = .call { callee := .value (.func f), args := l.toArray, argTypes := ats })
    (vs : List Value) (hl : l.map (Act.eval ⟨T, D⟩) = vs) (hen : ∀ args w, (callFunc f args).run P w = .ok (.enter f args) w)
    (h : Calls P f vs.toArray w fun e w' => ∃ u, e = .returned u ∧ goP P ops Q rest ⟨T.setIfInBounds d u, D⟩ w') : goP P ops Q (o :: rest) ⟨T, D⟩ w := by
  rw [goP_eq]
  exact goW_call hg d hd f l hop vs hl hen (h.mono fun e w' ⟨u, h1, h2⟩ => ⟨u, h1, by rw [goP_eq] at h2; exact h2⟩)
/-- A conversion, by its run equation. -/
theorem exec_conv {P : Program} {ev : Operand → Value} {o : Oper} {s d : TypeId} (x : Operand) (ho : o.op = .convert s d x) {u : Value} (hx : ev x = u) {v : Value} {w : World} (hr : (convert s d u).run P w = .ok v w) : (execOp ev o).run P w = .ok (.value v) w := by
  unfold execOp
  simp only [ho, hx, Sem.run_bind, hr, Result.andThen_ok, Sem.run_pure]
end
end Go.Proofs.YtpcipdkoncmdcaaGreatDoor
namespace Go.Proofs.YtpcipdkoncmdcaaGreatDoor
open Go Go.RowKit
structure HI (w : World) (ph pi : Nat) (h : T3 Bool) (d : T3 (List Nat)) : Prop where
  bh : Bk w ph 45 [.bool h.a, .bool h.b, .bool h.c]
  bi : Bk w pi 46 (nb d.a ++ (nb d.b ++ nb d.c))
  ia : OkId d.a
  ib : OkId d.b
  ic : OkId d.c
section
variable {w w' : World} {ph pi : Nat} {h : T3 Bool} {d : T3 (List Nat)}
theorem HI.below (x : HI w ph pi h d) (hb : Below w.heap.size w w') : HI w' ph pi h d :=
  ⟨(hb.block _ x.bh.lt).trans x.bh, (hb.block _ x.bi.lt).trans x.bi, x.ia, x.ib, x.ic⟩
theorem HI.st (x : HI w ph pi h d) {i : Nat} (hi : i < 3) {y : List Nat} (hy : OkId y) : (Instr.storeAt 43 (.pointer (some ⟨pi, i * 32, none⟩)) (.agg (nums .u8 y))).run Tryz.prog w = .ok () (w.setCells pi (i * 32) (nb y)) :=
  run_storeAt_mid (P := Tryz.prog) w pi (i * 32) 43 (nums .u8 y) (x.bi.there _ _ (by rw [nums_size, hy.1]; simp [nb_len, x.ia.1, x.ib.1, x.ic.1]; omega)) (by rw [nums_size, hy.1]; kernel_rfl) (nums_one _ _)
end
def hasU (T : T3 (List Fi)) (p : ByteArray) (m : Nat) : T3 Bool := ⟨decide (0 < m) && (fiAt T.a p).isSome, decide (1 < m) && (fiAt T.b p).isSome, decide (2 < m) && (fiAt T.c p).isSome⟩
def idsU (T : T3 (List Fi)) (p : ByteArray) (m : Nat) : T3 (List Nat) := ⟨if 0 < m then idF (fiAt T.a p) else zId, if 1 < m then idF (fiAt T.b p) else zId, if 2 < m then idF (fiAt T.c p) else zId⟩
section
variable {T : T3 (List Fi)} {p : ByteArray}
end
theorem HI.start {w : World} (T : T3 (List Fi)) (p : ByteArray) : HI ((w.alloc (.cells #[.bool false, .bool false, .bool false] 45 (0, 0))).alloc (.cells (nb zId ++ (nb zId ++ nb zId)).toArray 46 (0, 0))) w.heap.size (w.heap.size + 1) (hasU T p 0) (idsU T p 0) := by
  refine ⟨?_, ?_, zId_ok, zId_ok, zId_ok⟩
  · have hb1 : Below (w.alloc (.cells #[.bool false, .bool false, .bool false] 45 (0, 0))).heap.size (w.alloc (.cells #[.bool false, .bool false, .bool false] 45 (0, 0))) ((w.alloc (.cells #[.bool false, .bool false, .bool false] 45 (0, 0))).alloc (.cells (nb zId ++ (nb zId ++ nb zId)).toArray 46 (0, 0))) := (Below.refl _ _).alloc (Nat.le_refl _) _
    exact (hb1.block _ (by simp)).trans Array.getElem?_push_size
  · have hz : (w.alloc (.cells #[.bool false, .bool false, .bool false] 45 (0, 0))).heap.size = w.heap.size + 1 := by simp
    show ((w.alloc (.cells #[.bool false, .bool false, .bool false] 45 (0, 0))).alloc _).heap[w.heap.size + 1]? = _
    rw [← hz]; exact Array.getElem?_push_size
theorem ld_files (ad : Addr) (a : Option Addr) (n c : Nat) (W : World) (h : W.cell? ad = some (.slice a n c)) : (Instr.loadAt 22 (.pointer (some ad))).run Tryz.prog W = .ok (.slice a n c) W := by go_simp
theorem ld_u8s (ad : Addr) (v : Value) (W : World) (h : W.cell? ad = some v) : (Instr.loadAt 52 (.pointer (some ad))).run Tryz.prog W = .ok v W := by go_simp
theorem rb_shelf (a : Option Addr) (n c : Nat) (w : World) : (Instr.build 34 #[(0, .slice a n c)]).run Tryz.prog w = .ok (.agg #[.slice a n c]) w := by kernel_rfl
theorem bs_size {l : List LB} (h : sumB l ≤ 600) (id : List Nat) : (textS (l.map toBl) id).1.size ≤ 1000 := by
  refine textS_size (fun b hb => ?_) id
  obtain ⟨x, hx, rfl⟩ := List.mem_map.1 hb
  have : x.text.size ≤ sumB l := by
    clear h hb
    induction l with
    | nil => cases hx
    | cons y l ih =>
      have e : sumB (y :: l) = y.text.size + sumB l := rfl
      rcases List.mem_cons.1 hx with rfl | hx
      · omega
      · have := ih hx; omega
  show x.text.size ≤ 1000
  omega
end Go.Proofs.YtpcipdkoncmdcaaGreatDoor
namespace Go.Proofs.YtpcipdkoncmdcaaGreatDoor
open Go Go.RowKit
theorem b3_under : Tryz.prog.underlying 45 = some (.array 3 4) := by kernel_rfl
theorem ids3_under : Tryz.prog.underlying 46 = some (.array 3 43) := by kernel_rfl
theorem b3_same (x y z : Bool) (w : World) : (binOp .neq 45 (.agg #[.bool x, .bool y, .bool z]) (.agg #[.bool x, .bool y, .bool z])).run Tryz.prog w = .ok (.bool false) w := by
  cases x <;> cases y <;> cases z <;> kernel_rfl
theorem ids3_cells : Tryz.prog.cellsOf 46 = 96 := by kernel_rfl
theorem ids3_deep : Tryz.prog.keyTypeAt 3 46 = true := by kernel_rfl
theorem ids3_ktype : Tryz.prog.keyType 46 = true := by kernel_rfl
set_option maxRecDepth 100000 in
theorem ids3_lits (d : Nat) {a b c : List Nat} (ha : OkId a) (hb : OkId b) (hc : OkId c) : Tryz.prog.keyLits (d + 3) 46 (nb a ++ (nb b ++ nb c)) = some (idLs a ++ (idLs b ++ idLs c)) := by
  have la := nb_len a
  have lb := nb_len b
  have lc := nb_len c
  rw [ha.1] at la
  rw [hb.1] at lb
  rw [hc.1] at lc
  have hl : (nb a ++ (nb b ++ nb c)).length = Tryz.prog.cellsOf 46 := by rw [ids3_cells, List.length_append, List.length_append, la, lb, lc]
  have hm : (List.range 3).mapM (fun i => Tryz.prog.keyLits (d + 2) 43 (((nb a ++ (nb b ++ nb c)).drop (i * Tryz.prog.cellsOf 43)).take (Tryz.prog.cellsOf 43))) = some [idLs a, idLs b, idLs c] := by
    have h := lits_map (fun i => Tryz.prog.keyLits (d + 2) 43 (((nb a ++ (nb b ++ nb c)).drop (i * Tryz.prog.cellsOf 43)).take (Tryz.prog.cellsOf 43))) (fun i => if i = 0 then idLs a else if i = 1 then idLs b else idLs c) (List.range 3) (fun i hi => by
      rw [List.mem_range] at hi
      rw [id_cells]
      rcases i with _ | _ | _ | i
      · rw [Nat.zero_mul, List.drop_zero, List.take_left' la]; exact id_lits d ha
      · rw [Nat.zero_add, Nat.one_mul, List.drop_left' la, List.take_left' lb]; exact id_lits d hb
      · rw [show (0 + 1 + 1) * 32 = (nb a ++ nb b).length by rw [List.length_append, la, lb], ← List.append_assoc, List.drop_left, List.take_of_length_le (by omega)]; exact id_lits d hc
      · omega)
    rw [h]; rfl
  unfold Program.keyLits
  simp only [ids3_under]
  rw [if_pos hl, hm]
  show some _ = some _
  congr 1
  simp
set_option maxRecDepth 100000 in
theorem ids3_key {a b c : List Nat} (ha : OkId a) (hb : OkId b) (hc : OkId c) : ∃ l, keyOf Tryz.prog 46 (.agg (nums .u8 (a ++ (b ++ c)))) = some l := by
  have hl := ids3_lits (Tryz.prog.types.size - 2) ha hb hc
  have hsz : Tryz.prog.types.size - 2 + 3 = Tryz.prog.types.size + 1 := by
    have : 1 < Tryz.prog.types.size := of_decide_eq_true (by kernel_rfl)
    omega
  rw [hsz] at hl
  have hn : (nums .u8 (a ++ (b ++ c))).toList = nb a ++ (nb b ++ nb c) := by rw [nums_nb]; simp [nb]
  have hf : (Value.agg (nums .u8 (a ++ (b ++ c)))).formed Tryz.prog 46 = true := by
    have h9 : (a ++ (b ++ c)).length = 96 := by rw [List.length_append, List.length_append, ha.1, hb.1, hc.1]
    simp only [Value.formed, ids3_under, nums_size, h9, ids3_cells]; rfl
  unfold keyOf
  simp only [ids3_under, ids3_ktype, hf]
  show ∃ l, Option.map _ (Tryz.prog.keyLits (Tryz.prog.types.size + 1) 46 (nums .u8 (a ++ (b ++ c))).toList) = _
  rw [hn, hl]; exact ⟨_, rfl⟩
theorem ids3_same {a b c : List Nat} (ha : OkId a) (hb : OkId b) (hc : OkId c) (w : World) : (binOp .neq 46 (.agg (nums .u8 (a ++ (b ++ c)))) (.agg (nums .u8 (a ++ (b ++ c))))).run Tryz.prog w = .ok (.bool false) w := by
  obtain ⟨l, hk⟩ := ids3_key ha hb hc
  obtain ⟨r, h1, h2⟩ := run_equal_deep (P := Tryz.prog) w (m := 3) (by decide) ids3_deep (by rw [ids3_under]) hk hk
  have hr : r = true := h2.2 rfl
  subst hr
  exact binop_neq h1
end Go.Proofs.YtpcipdkoncmdcaaGreatDoor
