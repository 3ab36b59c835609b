/- Texts of mine, joined: A region that draws its order, walked by a list of moves: what reads alone is taken under S; what turns the world stands in one order, and S is shown behind it. Of every program. | A region that draws its order, walked by a tree of moves: as KitMv, with branches where one of two operations may come first. Of every program. | A loom in memory: the three lists that are left, the parts that are made. -/
import Derived.BigCall
import Derived.Test.YtpcipdkoncmdcaaGreatDoorZ8
namespace Go.Proofs.YtpcipdkoncmdcaaGreatDoor
open Go Go.RowKit

/-- tk: taken under S; fc: the one that is ready. -/
inductive HM where
  | tk (i : Nat)
  | fc (i : Nat)

section
variable {P : Program} {ops : Array Oper} {md : Region.Mode} {Q : Exit → Act → World → Prop} {S : World → Prop}

def goM (P : Program) (ops : Array Oper) (Q : Exit → Act → World → Prop) (S : World → Prop) : List HM → Act → World → Prop
  | [], a, w => Q .normal a w
  | .tk k :: ms, a, w => ∃ o, ops[k]? = some o ∧ ∃ v, YieldsIf P ops S o v a ∧ goM P ops Q S ms (a.put o.dst v) w
  | .fc k :: ms, a, w => ∃ o, ops[k]? = some o ∧ wpList P ops (Exit.then (fun a' w' => S w' ∧ goM P ops Q S ms a' w') Q) [o] a w

def okM (md : Region.Mode) (ops : Array Oper) : List HM → Array Bool → Bool
  | [], up => decide (Region.ready md ops up = [])
  | .tk k :: ms, up => (Region.ready md ops up).contains k && Region.free md ops up k && okM md ops ms (up.setIfInBounds k true)
  | .fc k :: ms, up => decide (Region.ready md ops up = [k]) && okM md ops ms (up.setIfInBounds k true)

theorem goM_wp (hsel : Region.noSelect ops = true) (hQ : ∀ (d : Tmp) (v : Value) c a w, Q (.panic c) (a.put (some d) v) w → Q (.panic c) a w) :
    ∀ (ms : List HM) (up : Array Bool) (a : Act) (w : World), okM md ops ms up = true → S w → goM P ops Q S ms a w → wpAnyH P md ops Q S ms.length up a w
  | [], up, a, w, hB, _, h => ⟨of_decide_eq_true hB, h⟩
  | .tk k :: ms, up, a, w, hB, hS, h => by
    simp only [okM, Bool.and_eq_true] at hB
    obtain ⟨⟨hr, hf⟩, hB'⟩ := hB
    obtain ⟨o, ho, v, hy, h⟩ := h
    exact wpAnyH_take ho hsel hf hr (fun c a w h => by cases hd : o.dst with | none => rw [hd] at h; exact h | some t => rw [hd] at h; exact hQ t v c a w h) hy hS (goM_wp hsel hQ ms _ _ _ hB' hS h)
  | .fc k :: ms, up, a, w, hB, hS, h => by
    simp only [okM, Bool.and_eq_true, decide_eq_true_eq] at hB
    refine ⟨fun h1 => (by rw [hB.1] at h1; cases h1), fun j hj => ?_⟩
    have hik : j = k := by rw [hB.1] at hj; simpa using hj
    subst hik
    obtain ⟨o, ho, h⟩ := h
    have hw : wpOp P ops (Exit.then (fun a' w' => S w' ∧ goM P ops Q S ms a' w') Q) j (wpList P ops (Exit.then (fun a' w' => S w' ∧ goM P ops Q S ms a' w') Q) []) a w := by
      unfold wpOp; simp only [ho]; exact h
    exact wpOp_mono (fun a' w' h' => ⟨h'.1, goM_wp hsel hQ ms _ a' w' hB.2 h'.1 h'.2⟩) (wpOp_then hw)

theorem wp_region_hm {id : Nat} {a : Act} {w : World} {l : List Oper} (S : World → Prop) (ms : List HM) (hm : P.follows .mixedOrders = true)
    (hB : (Region.noSelect l.toArray && okM .any l.toArray ms (Array.replicate l.toArray.size false) && decide (ms.length = l.toArray.size)) = true)
    (hQ : ∀ (d : Tmp) (v : Value) c a w, Q (.panic c) (a.put (some d) v) w → Q (.panic c) a w) (hS : S (w.drewN 1))
    (h : goM P l.toArray Q S ms a (w.drewN 1)) : (Code.region id l.toArray true).wp P Q a w := by
  simp only [Bool.and_eq_true, decide_eq_true_eq] at hB
  obtain ⟨⟨h1, h2⟩, h3⟩ := hB
  refine wp_region_held (S := S) hm ?_
  have := goM_wp (md := .any) h1 hQ ms _ a _ h2 hS h
  rw [h3] at this
  exact this

/-- A taken one that is wanted. -/
theorem goM_tk {k : Nat} {ms : List HM} {o : Oper} {a : Act} {w : World} (ho : ops[k]? = some o) (hg : Region.wanted o (yielded ops a.tmps) = true) (v : Value) (hv : ∀ w, S w → (execOp a.eval o).run P w = .ok (.value v) w) (h : goM P ops Q S ms (a.put o.dst v) w) : goM P ops Q S (.tk k :: ms) a w :=
  ⟨o, ho, v, .inl ⟨hg, hv⟩, h⟩
/-- One that is not wanted. -/
theorem goM_no {k : Nat} {ms : List HM} {o : Oper} {a : Act} {w : World} (ho : ops[k]? = some o) (hg : Region.wanted o (yielded ops a.tmps) = false) (h : goM P ops Q S ms (a.put o.dst undef) w) : goM P ops Q S (.tk k :: ms) a w :=
  ⟨o, ho, undef, .inr ⟨hg, rfl⟩, h⟩
/-- A load of one cell. -/
theorem goM_ld {k : Nat} {ms : List HM} {o : Oper} {a : Act} {w : World} (ho : ops[k]? = some o) (hg : Region.wanted o (yielded ops a.tmps) = true) (ty : TypeId) (x : Operand) (hop : o.op = .load ty x) (ad : Addr) (v : Value) (hx : a.eval x = .pointer (some ad))
    (hc : ∀ w, S w → w.cell? ad = some v) (hrun : ∀ w, w.cell? ad = some v → (Instr.loadAt ty (.pointer (some ad))).run P w = .ok v w) (h : goM P ops Q S ms (a.put o.dst v) w) : goM P ops Q S (.tk k :: ms) a w :=
  goM_tk ho hg v (fun w hS => by unfold execOp; simp only [hop, hx, Sem.run_bind, hrun w (hc w hS), Result.andThen_ok, Sem.run_pure]) h
/-- A call of a function that returns. -/
theorem goM_enter {k : Nat} {ms : List HM} {o : Oper} {a : Act} {w : World} (ho : ops[k]? = some o) (hg : Region.wanted o (yielded ops a.tmps) = true) (f : FuncId) (args : Array Value) (hrun : (execOp a.eval o).run P w = .ok (.enter f args) w)
    (h : Calls P f args w fun e w' => ∃ u, e = .returned u ∧ S w' ∧ goM P ops Q S ms (a.put o.dst u) w') : goM P ops Q S (.fc k :: ms) a w :=
  ⟨o, ho, wpList_step fun K hK => by
    rw [if_pos hg]
    unfold Oper.wp
    rw [hrun]
    exact h.mono fun e w' ⟨u, he, hs⟩ => by subst he; exact hK _ _ hs⟩
/-- Another one. -/
theorem goM_fc {k : Nat} {ms : List HM} {o : Oper} {a : Act} {w : World} (ho : ops[k]? = some o)
    (h : ∀ K' : Act → World → Prop, (∀ a' w', (S w' ∧ goM P ops Q S ms a' w') → K' a' w') → wpList P ops (Exit.then K' Q) [o] a w) : goM P ops Q S (.fc k :: ms) a w :=
  ⟨o, ho, h _ fun _ _ h => h⟩
theorem goM_end {a : Act} {w : World} (h : Q .normal a w) : goM P ops Q S [] a w := h
/-- The same, the frame written out. -/
theorem goM_tkd {k : Nat} {ms : List HM} {o : Oper} {T : Array Value} {D : List Deferred} {w : World} (ho : ops[k]? = some o) (hg : Region.wanted o (yielded ops T) = true) (d : Nat) (hd : o.dst = some d) (v : Value) (hv : ∀ w, S w → (execOp (Act.eval ⟨T, D⟩) o).run P w = .ok (.value v) w) (h : goM P ops Q S ms ⟨T.setIfInBounds d v, D⟩ w) : goM P ops Q S (.tk k :: ms) ⟨T, D⟩ w :=
  goM_tk ho hg v hv (by rw [hd]; exact h)
theorem goM_ldd {k : Nat} {ms : List HM} {o : Oper} {T : Array Value} {D : List Deferred} {w : World} (ho : ops[k]? = some o) (hg : Region.wanted o (yielded ops T) = true) (d : Nat) (hd : o.dst = some d) (ty : TypeId) (x : Operand) (hop : o.op = .load ty x) (ad : Addr) (v : Value) (hx : Act.eval ⟨T, D⟩ x = .pointer (some ad))
    (hc : ∀ w, S w → w.cell? ad = some v) (hrun : ∀ w, w.cell? ad = some v → (Instr.loadAt ty (.pointer (some ad))).run P w = .ok v w) (h : goM P ops Q S ms ⟨T.setIfInBounds d v, D⟩ w) : goM P ops Q S (.tk k :: ms) ⟨T, D⟩ w :=
  goM_ld ho hg ty x hop ad v hx hc hrun (by rw [hd]; exact h)
theorem goM_nod {k : Nat} {ms : List HM} {o : Oper} {T : Array Value} {D : List Deferred} {w : World} (ho : ops[k]? = some o) (hg : Region.wanted o (yielded ops T) = false) (d : Nat) (hd : o.dst = some d) (h : goM P ops Q S ms ⟨T.setIfInBounds d undef, D⟩ w) : goM P ops Q S (.tk k :: ms) ⟨T, D⟩ w :=
  goM_no ho hg (by rw [hd]; exact h)
theorem goM_call {k : Nat} {ms : List HM} {o : Oper} {T : Array Value} {D : List Deferred} {w : World} (ho : ops[k]? = some o) (hg : Region.wanted o (yielded ops T) = true) (d : Nat) (hd : o.dst = some d) (f : FuncId) (l : List Operand) {ats : Array TypeId} (hop : o.op = .call { callee := .value (.func f), args := l.toArray, argTypes := ats })
    (vs : List Value) (hl : l.map (Act.eval ⟨T, D⟩) = vs) (hen : ∀ args w, (callFunc f args).run P w = .ok (.enter f args) w)
    (h : Calls P f vs.toArray w fun e w' => ∃ u, e = .returned u ∧ S w' ∧ goM P ops Q S ms ⟨T.setIfInBounds d u, D⟩ w') : goM P ops Q S (.fc k :: ms) ⟨T, D⟩ w := by
  refine goM_enter ho hg f vs.toArray ?_ (h.mono fun _ _ ⟨u, h1, h2, h3⟩ => ⟨u, h1, h2, by rw [hd]; exact h3⟩)
  obtain ⟨d', op, ty, pos, af, gd⟩ := o
  simp only at hop
  subst hop
  rw [execOp_call_go]
  have e : (#[] ++ l.toArray.map (Act.eval ⟨T, D⟩) ++ #[] : Array Value) = vs.toArray := by rw [← hl]; simp
  rw [e]
  exact hen _ _
end
end Go.Proofs.YtpcipdkoncmdcaaGreatDoor
namespace Go.Proofs.YtpcipdkoncmdcaaGreatDoor
open Go Go.RowKit

/-- tk: taken under S; fc: the one that is ready; br: one of two. -/
inductive HT where
  | nil
  | tk (i : Nat) (t : HT)
  | fc (i : Nat) (t : HT)
  | br (i : Nat) (ti : HT) (j : Nat) (tj : HT)

section
variable {P : Program} {ops : Array Oper} {md : Region.Mode} {Q : Exit → Act → World → Prop} {S : World → Prop}

def goY (P : Program) (ops : Array Oper) (Q : Exit → Act → World → Prop) (S : World → Prop) : HT → Act → World → Prop
  | .nil, a, w => Q .normal a w
  | .tk k t, a, w => ∃ o, ops[k]? = some o ∧ ∃ v, YieldsIf P ops S o v a ∧ goY P ops Q S t (a.put o.dst v) w
  | .fc k t, a, w => ∃ o, ops[k]? = some o ∧ wpList P ops (Exit.then (fun a' w' => S w' ∧ goY P ops Q S t a' w') Q) [o] a w
  | .br i ti j tj, a, w => (∃ o, ops[i]? = some o ∧ wpList P ops (Exit.then (fun a' w' => S w' ∧ goY P ops Q S ti a' w') Q) [o] a w) ∧ (∃ o, ops[j]? = some o ∧ wpList P ops (Exit.then (fun a' w' => S w' ∧ goY P ops Q S tj a' w') Q) [o] a w)

def okT (md : Region.Mode) (ops : Array Oper) : HT → Nat → Array Bool → Bool
  | .nil, n, up => decide (n = 0) && decide (Region.ready md ops up = [])
  | .tk k t, n + 1, up => (Region.ready md ops up).contains k && Region.free md ops up k && okT md ops t n (up.setIfInBounds k true)
  | .fc k t, n + 1, up => decide (Region.ready md ops up = [k]) && okT md ops t n (up.setIfInBounds k true)
  | .br i ti j tj, n + 1, up => decide (Region.ready md ops up = [i, j]) && okT md ops ti n (up.setIfInBounds i true) && okT md ops tj n (up.setIfInBounds j true)
  | _, 0, _ => false

theorem wpT_one {T : Act → World → Prop} {k : Nat} {a : Act} {w : World} (h : ∃ o, ops[k]? = some o ∧ wpList P ops (Exit.then T Q) [o] a w) : wpOp P ops Q k T a w := by
  obtain ⟨o, ho, h⟩ := h
  have hw : wpOp P ops (Exit.then T Q) k (wpList P ops (Exit.then T Q) []) a w := by unfold wpOp; simp only [ho]; exact h
  exact wpOp_mono (fun _ _ h => h) (wpOp_then hw)

theorem goY_wpH (hsel : Region.noSelect ops = true) (hQ : ∀ (d : Tmp) (v : Value) c a w, Q (.panic c) (a.put (some d) v) w → Q (.panic c) a w) :
    ∀ (t : HT) (n : Nat) (up : Array Bool) (a : Act) (w : World), okT md ops t n up = true → S w → goY P ops Q S t a w → wpAnyH P md ops Q S n up a w
  | .nil, n, up, a, w, hB, _, h => by
    simp only [okT, Bool.and_eq_true, decide_eq_true_eq] at hB
    obtain ⟨rfl, h2⟩ := hB
    exact ⟨h2, h⟩
  | .tk k t, n + 1, up, a, w, hB, hS, h => by
    simp only [okT, Bool.and_eq_true] at hB
    obtain ⟨⟨hr, hf⟩, hB'⟩ := hB
    obtain ⟨o, ho, v, hy, h⟩ := h
    exact wpAnyH_take ho hsel hf hr (fun c a w h => by cases hd : o.dst with | none => rw [hd] at h; exact h | some t => rw [hd] at h; exact hQ t v c a w h) hy hS (goY_wpH hsel hQ t n _ _ _ hB' hS h)
  | .fc k t, n + 1, up, a, w, hB, hS, h => by
    simp only [okT, Bool.and_eq_true, decide_eq_true_eq] at hB
    refine ⟨fun h1 => (by rw [hB.1] at h1; cases h1), fun j hj => ?_⟩
    have hik : j = k := by rw [hB.1] at hj; simpa using hj
    subst hik
    exact wpOp_mono (fun a' w' h' => ⟨h'.1, goY_wpH hsel hQ t n _ a' w' hB.2 h'.1 h'.2⟩) (wpT_one h)
  | .br i ti j tj, n + 1, up, a, w, hB, hS, h => by
    simp only [okT, Bool.and_eq_true, decide_eq_true_eq] at hB
    refine ⟨fun h1 => (by rw [hB.1.1] at h1; cases h1), fun m hm => ?_⟩
    have hm' : m = i ∨ m = j := by rw [hB.1.1] at hm; simpa using hm
    rcases hm' with rfl | rfl
    · exact wpOp_mono (fun a' w' h' => ⟨h'.1, goY_wpH hsel hQ ti n _ a' w' hB.1.2 h'.1 h'.2⟩) (wpT_one h.1)
    · exact wpOp_mono (fun a' w' h' => ⟨h'.1, goY_wpH hsel hQ tj n _ a' w' hB.2 h'.1 h'.2⟩) (wpT_one h.2)
  | .tk _ _, 0, _, _, _, hB, _, _ => by simp [okT] at hB
  | .fc _ _, 0, _, _, _, hB, _, _ => by simp [okT] at hB
  | .br _ _ _ _, 0, _, _, _, hB, _, _ => by simp [okT] at hB

theorem wp_region_ht {id : Nat} {a : Act} {w : World} {l : List Oper} (S : World → Prop) (t : HT) (hm : P.follows .mixedOrders = true)
    (hB : (Region.noSelect l.toArray && okT .any l.toArray t l.toArray.size (Array.replicate l.toArray.size false)) = true)
    (hQ : ∀ (d : Tmp) (v : Value) c a w, Q (.panic c) (a.put (some d) v) w → Q (.panic c) a w) (hS : S (w.drewN 1))
    (h : goY P l.toArray Q S t a (w.drewN 1)) : (Code.region id l.toArray true).wp P Q a w := by
  simp only [Bool.and_eq_true] at hB
  exact wp_region_held (S := S) hm (goY_wpH (md := .any) hB.1 hQ t _ _ a _ hB.2 hS h)

variable {k : Nat} {t : HT} {o : Oper} {T : Array Value} {D : List Deferred} {w : World}
theorem goY_end {a : Act} (h : Q .normal a w) : goY P ops Q S .nil a w := h
theorem goY_tk (ho : ops[k]? = some o) (hg : Region.wanted o (yielded ops T) = true) (d : Nat) (hd : o.dst = some d) (v : Value) (hv : ∀ w, S w → (execOp (Act.eval ⟨T, D⟩) o).run P w = .ok (.value v) w) (h : goY P ops Q S t ⟨T.setIfInBounds d v, D⟩ w) : goY P ops Q S (.tk k t) ⟨T, D⟩ w :=
  ⟨o, ho, v, .inl ⟨hg, hv⟩, by rw [hd]; exact h⟩
theorem goY_ld (ho : ops[k]? = some o) (hg : Region.wanted o (yielded ops T) = true) (d : Nat) (hd : o.dst = some d) (ty : TypeId) (x : Operand) (hop : o.op = .load ty x) (ad : Addr) (v : Value) (hx : Act.eval ⟨T, D⟩ x = .pointer (some ad))
    (hrun : ∀ w, S w → (Instr.loadAt ty (.pointer (some ad))).run P w = .ok v w) (h : goY P ops Q S t ⟨T.setIfInBounds d v, D⟩ w) : goY P ops Q S (.tk k t) ⟨T, D⟩ w :=
  goY_tk ho hg d hd v (fun w hS => by unfold execOp; simp only [hop, hx, Sem.run_bind, hrun w hS, Result.andThen_ok, Sem.run_pure]) h
theorem goY_no (ho : ops[k]? = some o) (hg : Region.wanted o (yielded ops T) = false) (d : Nat) (hd : o.dst = some d) (h : goY P ops Q S t ⟨T.setIfInBounds d undef, D⟩ w) : goY P ops Q S (.tk k t) ⟨T, D⟩ w :=
  ⟨o, ho, undef, .inr ⟨hg, rfl⟩, by rw [hd]; exact h⟩
/-- The one that comes, of Q' := what then holds. -/
theorem goY_fc (h : ∃ o, ops[k]? = some o ∧ wpList P ops (Exit.then (fun a' w' => S w' ∧ goY P ops Q S t a' w') Q) [o] ⟨T, D⟩ w) : goY P ops Q S (.fc k t) ⟨T, D⟩ w := h
theorem goY_br {i j : Nat} {ti tj : HT} (h1 : goY P ops Q S (.fc i ti) ⟨T, D⟩ w) (h2 : goY P ops Q S (.fc j tj) ⟨T, D⟩ w) : goY P ops Q S (.br i ti j tj) ⟨T, D⟩ w := ⟨h1, h2⟩

/-- A value that the world stays at, or turns to w'. -/
theorem goY_val (ho : ops[k]? = some o) (hg : Region.wanted o (yielded ops T) = true) (d : Nat) (hd : o.dst = some d) (v : Value) (w' : World) (hv : (execOp (Act.eval ⟨T, D⟩) o).run P w = .ok (.value v) w') (hS : S w') (h : goY P ops Q S t ⟨T.setIfInBounds d v, D⟩ w') : goY P ops Q S (.fc k t) ⟨T, D⟩ w :=
  ⟨o, ho, wpList_step fun K hK => by
    rw [if_pos hg]
    unfold Oper.wp
    rw [hv]
    exact hK _ _ ⟨hS, by rw [hd]; exact h⟩⟩
/-- A store. -/
theorem goY_st (ho : ops[k]? = some o) (hg : Region.wanted o (yielded ops T) = true) (hd : o.dst = none) (ty : TypeId) (x y : Operand) (hop : o.op = .store ty x y) (ad : Addr) (hx : Act.eval ⟨T, D⟩ x = .pointer (some ad)) (w' : World)
    (hrun : (Instr.storeAt ty (.pointer (some ad)) (Act.eval ⟨T, D⟩ y)).run P w = .ok () w') (hS : S w') (h : goY P ops Q S t ⟨T, D⟩ w') : goY P ops Q S (.fc k t) ⟨T, D⟩ w :=
  ⟨o, ho, wpList_step fun K hK => by
    rw [if_pos hg]
    unfold Oper.wp execOp
    simp only [hop, hx, Sem.run_bind, hrun, Result.andThen_ok, Sem.run_pure]
    exact hK _ _ ⟨hS, by rw [hd]; exact h⟩⟩
/-- A new block. -/
theorem goY_alloc (ho : ops[k]? = some o) (hg : Region.wanted o (yielded ops T) = true) (d : Nat) (hd : o.dst = some d) (ob : Obj) (hv : ∀ w : World, (execOp (Act.eval ⟨T, D⟩) o).run P w = .ok (.value (.pointer (some ⟨w.heap.size, 0, none⟩))) (w.alloc ob)) (hS : S (w.alloc ob)) (h : goY P ops Q S t ⟨T.setIfInBounds d (.pointer (some ⟨w.heap.size, 0, none⟩)), D⟩ (w.alloc ob)) : goY P ops Q S (.fc k t) ⟨T, D⟩ w :=
  goY_val ho hg d hd _ _ (hv w) hS h
theorem goY_call (ho : ops[k]? = some o) (hg : Region.wanted o (yielded ops T) = true) (d : Nat) (hd : o.dst = some d) (f : FuncId) (l : List Operand) {ats : Array TypeId} (hop : o.op = .call { callee := .value (.func f), args := l.toArray, argTypes := ats })
    (vs : List Value) (hl : l.map (Act.eval ⟨T, D⟩) = vs) (hen : ∀ args w, (callFunc f args).run P w = .ok (.enter f args) w)
    (h : Calls P f vs.toArray w fun e w' => ∃ u, e = .returned u ∧ S w' ∧ goY P ops Q S t ⟨T.setIfInBounds d u, D⟩ w') : goY P ops Q S (.fc k t) ⟨T, D⟩ w := by
  refine ⟨o, ho, wpList_step fun K hK => ?_⟩
  rw [if_pos hg]
  unfold Oper.wp
  have hrun : (execOp (Act.eval ⟨T, D⟩) o).run P w = .ok (.enter f vs.toArray) w := by
    obtain ⟨d', op, ty, pos, af, gd⟩ := o
    simp only at hop
    subst hop
    rw [execOp_call_go]
    have e : (#[] ++ l.toArray.map (Act.eval ⟨T, D⟩) ++ #[] : Array Value) = vs.toArray := by rw [← hl]; simp
    rw [e]
    exact hen _ _
  rw [hrun]
  exact h.mono fun _ _ ⟨u, h1, h2, h3⟩ => by subst h1; exact hK _ _ ⟨h2, by rw [hd]; exact h3⟩
/-- A law for a list of operations, used for one. -/
theorem goY_law (h : ∃ o, ops[k]? = some o ∧ ∀ K' : Act → World → Prop, (∀ a' w', (S w' ∧ goY P ops Q S t a' w') → K' a' w') → wpList P ops (Exit.then K' Q) [o] ⟨T, D⟩ w) : goY P ops Q S (.fc k t) ⟨T, D⟩ w := by
  obtain ⟨o, ho, h⟩ := h
  exact ⟨o, ho, h _ fun _ _ h => h⟩

theorem then_then {N R : Act → World → Prop} : Exit.then N (Exit.then R Q) = Exit.then N Q := by
  funext e a w; cases e <;> rfl
theorem wpList1_mono {T T' : Act → World → Prop} (hT : ∀ a w, T a w → T' a w) {o : Oper} {a : Act} {w : World} (h : wpList P ops (Exit.then T Q) [o] a w) : wpList P ops (Exit.then T' Q) [o] a w := by
  unfold wpList at h ⊢
  split at h
  · rename_i hw
    rw [if_pos hw]
    rcases h with h | ⟨h1, h2⟩
    · refine .inl ?_
      unfold Oper.wp at *
      generalize (execOp a.eval o).run P w = r at *
      cases r with
      | ok n w' =>
        cases n <;> simp only [Oper.upon] at h ⊢ <;> first
          | exact hT _ _ h
          | exact h.mono fun e _ he => by cases e <;> first | exact hT _ _ he | exact he
          | exact h.mono fun _ _ he => hT _ _ he
      | halt x w' => cases x <;> simp only [Oper.upon] at h ⊢ <;> exact h
    · exact .inr ⟨h1, h2⟩
  · rename_i hw
    rw [if_neg hw]
    exact hT _ _ h
/-- The branches meet at R. -/
theorem goY_meet {R : Act → World → Prop} (h2 : ∀ a w, R a w → Q .normal a w) : ∀ (t : HT) (a : Act) (w : World), goY P ops (Exit.then R Q) S t a w → goY P ops Q S t a w
  | .nil, a, w, h => h2 a w h
  | .tk k t, a, w, ⟨o, ho, v, hy, h⟩ => ⟨o, ho, v, hy, goY_meet h2 t _ _ h⟩
  | .fc k t, a, w, ⟨o, ho, h⟩ => ⟨o, ho, by rw [then_then] at h; exact wpList1_mono (fun a' w' h' => ⟨h'.1, goY_meet h2 t _ _ h'.2⟩) h⟩
  | .br i ti j tj, a, w, ⟨⟨o, ho, h⟩, ⟨o', ho', h'⟩⟩ => ⟨⟨o, ho, by rw [then_then] at h; exact wpList1_mono (fun a' w' h' => ⟨h'.1, goY_meet h2 ti _ _ h'.2⟩) h⟩, ⟨o', ho', by rw [then_then] at h'; exact wpList1_mono (fun a' w' h' => ⟨h'.1, goY_meet h2 tj _ _ h'.2⟩) h'⟩⟩
/-- The whole block is stored, as an equation. -/
theorem run_storeB {w : World} {ty e : TypeId} {b : Nat} {old new : Array Value} (hb : w.heap[b]? = some (.cells old e (0, 0))) (hsz : old.size = new.size) (hi : (P.info? ty).map (·.size) = some new.size) (h1 : new.all (·.oneCell') = true) :
    ∃ w' : World, (Instr.storeAt ty (.pointer (some ⟨b, 0, none⟩)) (.agg new)).run P w = .ok () w' ∧ w'.heap[b]? = some (.cells new e (0, 0)) ∧ w.grownBy w' (some b) := by
  refine ⟨_, run_storeAt_mid (P := P) w b 0 ty new (fun j hj => ⟨?_, ?_⟩) hi h1, ?_, setCells_grown w b 0 _⟩
  · simp only [World.cell?, hb, Nat.zero_add]
    rw [Array.getElem?_eq_getElem (by omega)]; rfl
  · simp [World.frozen?, hb]
  · obtain ⟨cur', c1, c2, c3⟩ := setCells_block b new.toList 0 w old e (0, 0) hb (by simp; omega)
    have : cur' = new := by
      apply Array.ext_getElem?
      intro i
      rw [c3]
      by_cases hi : i < new.size
      · rw [if_pos (by simp; omega), Nat.sub_zero, Array.getElem?_toList]
      · rw [if_neg (by simp; omega), Array.getElem?_eq_none (by omega), Array.getElem?_eq_none (by omega)]
    subst this
    exact c1
end
end Go.Proofs.YtpcipdkoncmdcaaGreatDoor
namespace Go.Proofs.YtpcipdkoncmdcaaGreatDoor
open Go Go.RowKit

/-- Two values do not own one block. -/
def Db (a b : Value) : Prop := a.ownBlock = none ∨ a.ownBlock ≠ b.ownBlock
theorem Db.ne {a b : Value} (h : Db a b) {k : Nat} (hb : b.ownBlock = some k) : a.ownBlock ≠ some k := by
  rcases h with h | h
  · rw [h]; simp
  · rw [← hb]; exact h

/-- A part, its lists as values. -/
structure PtV where
  p : JoinS.Pt ByteArray
  b : Value
  o : Value
  t : Value
def pvC (x : PtV) : List Value := [.int .i64 (JoinS.kindOf x.p), x.b, x.o, x.t]
def pvR (l : List PtV) : List Value := l.flatMap pvC
theorem pvR_app (l m : List PtV) : pvR (l ++ m) = pvR l ++ pvR m := by simp [pvR]
theorem pvR_len (l : List PtV) : (pvR l).length = l.length * 4 := by
  induction l with
  | nil => rfl
  | cons x l ih => show (pvC x ++ pvR l).length = _; rw [List.length_append, ih, List.length_cons]; simp [pvC]; omega
theorem pvR_at (ys : List PtV) (z : PtV) (j : Nat) (hj : j < 4) : (pvR (ys ++ [z]))[ys.length * 4 + j]? = (pvC z)[j]? := by
  rw [pvR_app, List.getElem?_append_right (by rw [pvR_len]; omega), pvR_len, Nat.add_sub_cancel_left]
  simp [pvR]

def FF (q : Nat) (pv : Value) (z : PtV) (b : Nat) : Prop := b ≠ q ∧ pv.ownBlock ≠ some b ∧ z.b.ownBlock ≠ some b ∧ z.o.ownBlock ≠ some b ∧ z.t.ownBlock ≠ some b

/-- The parts: the last one's lists can be written, nobody else looks at them. -/
structure LZ (w0 w : World) (q : Nat) (pv : Value) (ys : List PtV) (z : PtV) : Prop where
  row : OwnG w 182 4 pv (ys ++ [z]).length (pvR (ys ++ [z]))
  zb : OwnG w 9 1 z.b z.p.b.length (lrow z.p.b)
  zo : OwnG w 9 1 z.o z.p.o.length (lrow z.p.o)
  zt : OwnG w 9 1 z.t z.p.t.length (lrow z.p.t)
  nw : ∀ v, v = pv ∨ v = z.b ∨ v = z.o ∨ v = z.t → ∀ k, v.ownBlock = some k → w0.heap.size ≤ k ∧ k ≠ q
  d1 : Db pv z.b
  d2 : Db pv z.o
  d3 : Db pv z.t
  d4 : Db z.b z.o
  d5 : Db z.b z.t
  d6 : Db z.o z.t
  old : ∀ y ∈ ys, Tn w (FF q pv z) y.b y.p.b ∧ Tn w (FF q pv z) y.o y.p.o ∧ Tn w (FF q pv z) y.t y.p.t

def LP (w0 w : World) (q : Nat) (pv : Value) (xs : List PtV) : Prop := (xs = [] ∧ pv = .slice none 0 0) ∨ ∃ ys z, xs = ys ++ [z] ∧ LZ w0 w q pv ys z

theorem kept_ne {w w' : World} {v : Value} {q : Nat} {e : TypeId} {s n : Nat} {xs : List Value} (h : OwnG w e s v n xs) (hg : w.grownBy w' (some q)) (hq : ∀ k, v.ownBlock = some k → k ≠ q) : OwnG w' e s v n xs :=
  h.kept hg (by cases hv : v.ownBlock with
    | none => exact .inl rfl
    | some k => exact .inr (by have := hq k hv; simpa using this))

theorem LZ.keepq {w0 w w' : World} {q : Nat} {pv : Value} {ys : List PtV} {z : PtV} (h : LZ w0 w q pv ys z) (hg : w.grownBy w' (some q)) : LZ w0 w' q pv ys z where
  row := kept_ne h.row hg fun k hk => (h.nw _ (.inl rfl) k hk).2
  zb := kept_ne h.zb hg fun k hk => (h.nw _ (.inr (.inl rfl)) k hk).2
  zo := kept_ne h.zo hg fun k hk => (h.nw _ (.inr (.inr (.inl rfl))) k hk).2
  zt := kept_ne h.zt hg fun k hk => (h.nw _ (.inr (.inr (.inr rfl))) k hk).2
  nw := h.nw
  d1 := h.d1
  d2 := h.d2
  d3 := h.d3
  d4 := h.d4
  d5 := h.d5
  d6 := h.d6
  old y hy := by
    have hk : ∀ b, FF q pv z b → b < w.heap.size → w'.heap[b]? = w.heap[b]? ∧ FF q pv z b := fun b hF hb => ⟨hg.block b hb (by simpa using hF.1), hF⟩
    obtain ⟨h1, h2, h3⟩ := h.old y hy
    exact ⟨h1.keep hg.size hk, h2.keep hg.size hk, h3.keep hg.size hk⟩
theorem LP.keepq {w0 w w' : World} {q : Nat} {pv : Value} {xs : List PtV} (h : LP w0 w q pv xs) (hg : w.grownBy w' (some q)) : LP w0 w' q pv xs :=
  h.imp id fun ⟨ys, z, e, hz⟩ => ⟨ys, z, e, hz.keepq hg⟩

/-- The loom at block q, made since w0. -/
structure LJ (w0 w : World) (q : Nat) (bv ov tv pv : Value) (xs : List PtV) (bs os ts : List ByteArray) : Prop where
  below : Below w0.heap.size w0 w
  q0 : w0.heap.size ≤ q
  blk : w.heap[q]? = some (.cells #[bv, ov, tv, pv] 179 (0, 0))
  tb : Tn w (fun b => b < w0.heap.size) bv bs
  to_ : Tn w (fun b => b < w0.heap.size) ov os
  tt : Tn w (fun b => b < w0.heap.size) tv ts
  parts : LP w0 w q pv xs

section
variable {w0 w w' : World} {q : Nat} {bv ov tv pv : Value} {xs : List PtV} {bs os ts : List ByteArray}
theorem LJ.lt (h : LJ w0 w q bv ov tv pv xs bs os ts) : q < w.heap.size := (Array.getElem?_eq_some_iff.1 h.blk).1
theorem LJ.c0 (h : LJ w0 w q bv ov tv pv xs bs os ts) : w.cell? ⟨q, 0, none⟩ = some bv := by simp only [World.cell?, h.blk]; rfl
theorem LJ.c1 (h : LJ w0 w q bv ov tv pv xs bs os ts) : w.cell? ⟨q, 1, none⟩ = some ov := by simp only [World.cell?, h.blk]; rfl
theorem LJ.c2 (h : LJ w0 w q bv ov tv pv xs bs os ts) : w.cell? ⟨q, 2, none⟩ = some tv := by simp only [World.cell?, h.blk]; rfl
theorem LJ.c3 (h : LJ w0 w q bv ov tv pv xs bs os ts) : w.cell? ⟨q, 3, none⟩ = some pv := by simp only [World.cell?, h.blk]; rfl
theorem LJ.fz (h : LJ w0 w q bv ov tv pv xs bs os ts) (j : Nat) : w.frozen? ⟨q, j, none⟩ = false := by simp [World.frozen?, h.blk]

theorem tn_q {F : Nat → Prop} {v : Value} {l : List ByteArray} {k0 : Nat} (h : Tn w F v l) (hF : ∀ b, F b → b < k0) (hq : k0 ≤ q) (hg : w.grownBy w' (some q)) : Tn w' F v l :=
  h.keep hg.size fun b hb hl => ⟨hg.block b hl (by have := hF b hb; simp; omega), hb⟩

/-- The block is turned, the rest may have grown. -/
theorem LJ.turn {bv' ov' tv' : Value} {bs' os' ts' : List ByteArray} (h : LJ w0 w q bv ov tv pv xs bs os ts) (hg : w.grownBy w' (some q)) (hb : w'.heap[q]? = some (.cells #[bv', ov', tv', pv] 179 (0, 0)))
    (h1 : Tn w (fun b => b < w0.heap.size) bv' bs') (h2 : Tn w (fun b => b < w0.heap.size) ov' os') (h3 : Tn w (fun b => b < w0.heap.size) tv' ts') : LJ w0 w' q bv' ov' tv' pv xs bs' os' ts' where
  below := h.below.grown hg h.below.size fun k hk => by injection hk with hk; subst hk; exact h.q0
  q0 := h.q0
  blk := hb
  tb := tn_q h1 (fun _ h => h) h.q0 hg
  to_ := tn_q h2 (fun _ h => h) h.q0 hg
  tt := tn_q h3 (fun _ h => h) h.q0 hg
  parts := h.parts.keepq hg
theorem LJ.grow (h : LJ w0 w q bv ov tv pv xs bs os ts) (hb : Below w.heap.size w w') : LJ w0 w' q bv ov tv pv xs bs os ts := by
  have hg : w.grownBy w' (some q) := ⟨hb.os, hb.tape, hb.output, hb.size, fun k hk _ => hb.block k hk⟩
  exact h.turn hg ((hb.block q h.lt).trans h.blk) h.tb h.to_ h.tt

theorem grown_none (hb : Below w.heap.size w w') (r : Option Nat) : w.grownBy w' r := ⟨hb.os, hb.tape, hb.output, hb.size, fun k hk _ => hb.block k hk⟩
theorem grown_set (w : World) (q i : Nat) (v : Value) : w.grownBy (w.setCell ⟨q, i, none⟩ v) (some q) :=
  ⟨rfl, rfl, rfl, by simp [World.setCell], fun k hk hne => by
    simp only [World.setCell]
    rw [Array.getElem?_modify, if_neg (fun e1 => hne (by rw [e1]))]⟩

/-- What 'cut' leaves: a new row, the loom's list shorter. -/
def CutP (w : World) (q : Nat) (l : List ByteArray) (n : Nat) (L : World → Value → Prop) (e : Ending) (w' : World) : Prop :=
  ∃ v' u, e = .returned v' ∧ L w' u ∧ OwnG w' 9 1 v' (l.take n).length (lrow (l.take n)) ∧ (∀ k, v'.ownBlock = some k → w.heap.size ≤ k ∧ k < w'.heap.size) ∧ w.grownBy w' (some q)

theorem own_block_new {w : World} {base : Nat} {e : TypeId} {s : Nat} {v : Value} {n : Nat} {ys : List Value} (h : w.ownsRow base e s v n ys) : ∀ k, v.ownBlock = some k → base ≤ k ∧ k < w.heap.size := h.lt

theorem cut_own {w w1 : World} {q i n : Nat} {v' v2 : Value} {l : List ByteArray} (hq : q < w.heap.size) (hn : n ≤ l.length) (ho : w1.ownsRow w.heap.size 9 1 v' n (lrow (l.take n))) : OwnG (w1.setCell ⟨q, i, none⟩ v2) 9 1 v' (l.take n).length (lrow (l.take n)) := by
  have e : (l.take n).length = n := by rw [List.length_take]; omega
  rw [e]
  exact kept_ne (OwnG.of_own ho) (grown_set w1 q i v2) fun k hk => by have := (ho.lt k hk).1; omega

theorem LJ.cut0 (h : LJ w0 w q bv ov tv pv xs bs os ts) {n : Nat} (hn : n ≤ bs.length) (hl : bs.length ≤ 10000000) :
    Calls Tryz.prog 126 #[.pointer (some ⟨q, 0, none⟩), .int .i64 n] w (CutP w q bs n fun w' u => LJ w0 w' q u ov tv pv xs (bs.drop n) os ts) := by
  refine (cut_c h.c0 (h.fz 0) h.tb hn hl).mono ?_
  rintro e w' ⟨v', v2, w1, rfl, ho, ht, hb, rfl⟩
  have hg := (grown_none hb (some q)).trans (grown_set w1 q 0 v2)
  have hs := (set_blk (((hb.block q h.lt).trans h.blk)) 0 v2).1
  exact ⟨v', v2, rfl, h.turn hg hs ht h.to_ h.tt, cut_own h.lt hn ho, fun k hk => ⟨(ho.lt k hk).1, by simpa [World.setCell] using (ho.lt k hk).2⟩, hg⟩
theorem LJ.cut1 (h : LJ w0 w q bv ov tv pv xs bs os ts) {n : Nat} (hn : n ≤ os.length) (hl : os.length ≤ 10000000) :
    Calls Tryz.prog 126 #[.pointer (some ⟨q, 1, none⟩), .int .i64 n] w (CutP w q os n fun w' u => LJ w0 w' q bv u tv pv xs bs (os.drop n) ts) := by
  refine (cut_c h.c1 (h.fz 1) h.to_ hn hl).mono ?_
  rintro e w' ⟨v', v2, w1, rfl, ho, ht, hb, rfl⟩
  have hg := (grown_none hb (some q)).trans (grown_set w1 q 1 v2)
  have hs := (set_blk (((hb.block q h.lt).trans h.blk)) 1 v2).1
  exact ⟨v', v2, rfl, h.turn hg hs h.tb ht h.tt, cut_own h.lt hn ho, fun k hk => ⟨(ho.lt k hk).1, by simpa [World.setCell] using (ho.lt k hk).2⟩, hg⟩
theorem LJ.cut2 (h : LJ w0 w q bv ov tv pv xs bs os ts) {n : Nat} (hn : n ≤ ts.length) (hl : ts.length ≤ 10000000) :
    Calls Tryz.prog 126 #[.pointer (some ⟨q, 2, none⟩), .int .i64 n] w (CutP w q ts n fun w' u => LJ w0 w' q bv ov u pv xs bs os (ts.drop n)) := by
  refine (cut_c h.c2 (h.fz 2) h.tt hn hl).mono ?_
  rintro e w' ⟨v', v2, w1, rfl, ho, ht, hb, rfl⟩
  have hg := (grown_none hb (some q)).trans (grown_set w1 q 2 v2)
  have hs := (set_blk (((hb.block q h.lt).trans h.blk)) 2 v2).1
  exact ⟨v', v2, rfl, h.turn hg hs h.tb h.to_ ht, cut_own h.lt hn ho, fun k hk => ⟨(ho.lt k hk).1, by simpa [World.setCell] using (ho.lt k hk).2⟩, hg⟩
end
end Go.Proofs.YtpcipdkoncmdcaaGreatDoor
