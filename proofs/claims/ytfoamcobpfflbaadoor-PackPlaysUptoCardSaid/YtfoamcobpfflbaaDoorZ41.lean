/- Texts of mine, joined: The document's file system by value: what a call keeps of it in its own two blocks, and what the value says. | Walks over the document's answer: Remove, Rename. -/
import Derived.Test.YtfoamcobpfflbaaDoorZ40
namespace Go.Proofs.YtfoamcobpfflbaaDoor
open Go Go.RowKit
open VfsS (File Chg Nm St find doL)

theorem OwnG.sl {w : World} {e : TypeId} {size : Nat} {a : Option Addr} {n c : Nat} {xs : List Value} (h : OwnG w e size (.slice a n c) n xs) : Sl w a xs := by
  obtain ⟨a', c', e1, -, -, hs⟩ := h.form
  injection e1 with e1
  subst e1
  exact hs

theorem doL_len (l : Nm) (a : Chg) : (doL l a).length ≤ l.length + 1 := by
  unfold doL
  have h0 : (if a.src.size = 0 then l else VfsS.without l a.src).length ≤ l.length := by
    split
    · exact Nat.le_refl _
    · exact without_le _ _
  cases a.file with
  | none => simp only; omega
  | some i => simp only [ins_le]; have := without_le (if a.src.size = 0 then l else VfsS.without l a.src) a.dst; omega

/-- The call's own blocks: the struct that came in, the struct that goes out. -/
structure TB (w0 w : World) (b0 b1 : Nat) (v u : Array Value) : Prop where
  h0 : w.heap[b0]? = some (.cells v 36 (0, 0))
  h1 : w.heap[b1]? = some (.cells u 36 (0, 0))
  below : Below w0.heap.size w0 w
  lo : w0.heap.size ≤ b0
  lt : b0 < b1

/-- A struct that is nothing yet. -/
def fs0 : Array Value := #[.slice none 0 0, .slice none 0 0, .slice none 0 0, .slice none 0 0, .int .i64 0, .int .i64 0, .int .i64 0]

theorem TB.start (w : World) (v u : Array Value) : TB w ((w.alloc (.cells v 36)).alloc (.cells u 36)) w.heap.size (w.heap.size + 1) v u := by
  have s1 : (w.alloc (.cells v 36)).heap.size = w.heap.size + 1 := by simp
  have g1 : (w.alloc (.cells v 36)).heap[w.heap.size]? = some (.cells v 36 (0, 0)) := Array.getElem?_push_size
  have b1 : Below w.heap.size w (w.alloc (.cells v 36)) := (Below.refl _ w).alloc (Nat.le_refl _) _
  have b2 : Below (w.alloc (.cells v 36)).heap.size (w.alloc (.cells v 36)) ((w.alloc (.cells v 36)).alloc (.cells u 36)) := (Below.refl _ _).alloc (Nat.le_refl _) _
  exact ⟨(b2.block _ (by omega)).trans g1, by rw [← s1]; exact Array.getElem?_push_size, b1.trans (b2.mono (by omega)), Nat.le_refl _, Nat.lt_succ_self _⟩

section
variable {w0 w w' : World} {b0 b1 : Nat} {v u : Array Value}

theorem TB.l0 (h : TB w0 w b0 b1 v u) : b0 < w.heap.size := (Array.getElem?_eq_some_iff.1 h.h0).1
theorem TB.l1 (h : TB w0 w b0 b1 v u) : b1 < w.heap.size := (Array.getElem?_eq_some_iff.1 h.h1).1
theorem TB.to (h : TB w0 w b0 b1 v u) (hb : Below w.heap.size w w') : TB w0 w' b0 b1 v u :=
  ⟨(hb.block _ h.l0).trans h.h0, (hb.block _ h.l1).trans h.h1, h.below.trans (hb.mono h.below.size), h.lo, h.lt⟩
theorem TB.drewN (h : TB w0 w b0 b1 v u) (q : Nat) : TB w0 (w.drewN q) b0 b1 v u := h.to (below_dN (Below.refl _ _) q)
theorem TB.c (h : TB w0 w b0 b1 v u) (j : Nat) {x : Value} (hx : v[j]? = some x) : w.cell? ⟨b0, j, none⟩ = some x := by rw [cell_of h.h0]; exact hx
theorem TB.f (h : TB w0 w b0 b1 v u) (j : Nat) : w.frozen? ⟨b0, j, none⟩ = false := frozen_of h.h0 j
theorem TB.g (h : TB w0 w b0 b1 v u) (j : Nat) : w.frozen? ⟨b1, j, none⟩ = false := frozen_of h.h1 j
theorem TB.st0 (h : TB w0 w b0 b1 v u) {v' : Array Value} (h0 : w'.heap[b0]? = some (.cells v' 36 (0, 0))) (hg : w.grownBy w' (some b0)) : TB w0 w' b0 b1 v' u :=
  ⟨h0, (hg.block _ h.l1 (by intro e; injection e with e; have := h.lt; omega)).trans h.h1, h.below.grown hg h.below.size (fun k e => by injection e with e; have := h.lo; omega), h.lo, h.lt⟩
theorem TB.st1 (h : TB w0 w b0 b1 v u) {u' : Array Value} (h1 : w'.heap[b1]? = some (.cells u' 36 (0, 0))) (hg : w.grownBy w' (some b1)) : TB w0 w' b0 b1 v u' :=
  ⟨(hg.block _ h.l0 (by intro e; injection e with e; have := h.lt; omega)).trans h.h0, h1, h.below.grown hg h.below.size (fun k e => by injection e with e; have := h.lo; have := h.lt; omega), h.lo, h.lt⟩
/-- A field is stored. -/
theorem TB.set0 (h : TB w0 w b0 b1 v u) (j : Nat) (x : Value) : TB w0 (w.setCell ⟨b0, j, none⟩ x) b0 b1 (v.setIfInBounds j x) u ∧ w.grownBy (w.setCell ⟨b0, j, none⟩ x) (some b0) := by
  obtain ⟨s, g⟩ := set_block h.h0 j x
  exact ⟨h.st0 s g, g⟩

variable {ops : Array Oper} {rest : List Oper} {op : Oper} {a : Act} {Q : Exit → Act → World → Prop}

theorem wp_load0 (h : TB w0 w b0 b1 v u) (hgd : op.guard = none) (x : Operand) (ho : op.op = .load 36 x) (hx : a.eval x = .pointer (some ⟨b0, 0, none⟩)) (hsz : v.size = 7)
    (K : wpList Tryd.prog ops Q rest (a.put op.dst (.agg v)) w) : wpList Tryd.prog ops Q (op :: rest) a w :=
  wp_loadB hgd 36 x ho b0 hx h.h0 _ Tryd.underlying36 rfl (by rw [Array.length_toList, hsz]; kernel_rfl) K

theorem wp_store0 (h : TB w0 w b0 b1 v u) (hgd : op.guard = none) (x y : Operand) (ho : op.op = .store 36 x y) (hx : a.eval x = .pointer (some ⟨b0, 0, none⟩)) {new : Array Value} (hy : a.eval y = .agg new) (hsz : v.size = 7) (hsn : new.size = 7) (h1 : new.all (·.oneCell') = true)
    (K : ∀ w' : World, TB w0 w' b0 b1 new u → w.grownBy w' (some b0) → wpList Tryd.prog ops Q rest (a.put op.dst undef) w') : wpList Tryd.prog ops Q (op :: rest) a w :=
  wp_storeB hgd 36 x y ho b0 new hx hy h.h0 (by rw [hsz, hsn]) (by rw [hsn]; kernel_rfl) h1 fun w' h2 g => K w' (h.st0 h2 g) g

theorem wp_store1 (h : TB w0 w b0 b1 v u) (hgd : op.guard = none) (x y : Operand) (ho : op.op = .store 36 x y) (hx : a.eval x = .pointer (some ⟨b1, 0, none⟩)) {new : Array Value} (hy : a.eval y = .agg new) (hsz : u.size = 7) (hsn : new.size = 7) (h1 : new.all (·.oneCell') = true)
    (K : ∀ w' : World, TB w0 w' b0 b1 v new → w.grownBy w' (some b1) → wpList Tryd.prog ops Q rest (a.put op.dst undef) w') : wpList Tryd.prog ops Q (op :: rest) a w :=
  wp_storeB hgd 36 x y ho b1 new hx hy h.h1 (by rw [hsz, hsn]) (by rw [hsn]; kernel_rfl) h1 fun w' h2 g => K w' (h.st1 h2 g) g

theorem TB.load1 (h : TB w0 w b0 b1 v u) (hsz : u.size = 7) : (loadVar 36 ⟨b1, 0, none⟩).run Tryd.prog w = .ok (.agg u) w := by
  have := run_loadVar_mid (P := Tryd.prog) w b1 0 36 u.toList _ (fun j x hj => by rw [Nat.zero_add, cell_of h.h1, ← Array.getElem?_toList]; exact hj) Tryd.underlying36 rfl (by rw [Array.length_toList, hsz]; kernel_rfl)
  simpa using this

theorem TB.ret2 (h : TB w0 w b0 b1 v u) (hsz : u.size = 7) {fn : Func} {i j : Nat} (hr : fn.results = #[.cell i 36, .tmp j]) (tmps : Array Value) (hi : tmps.getD i undef = .pointer (some ⟨b1, 0, none⟩)) :
    (results fn tmps).run Tryd.prog w = .ok (.tuple #[.agg u, tmps.getD j undef]) w := by
  have hi' : tmps[i]?.getD undef = .pointer (some ⟨b1, 0, none⟩) := by rw [← Array.getD_eq_getD_getElem?]; exact hi
  simp [results, hr, hi', asAddr, h.load1 hsz]

theorem TB.ret1 (h : TB w0 w b0 b1 v u) (hsz : u.size = 7) {fn : Func} {i : Nat} (hr : fn.results = #[.cell i 36]) (tmps : Array Value) (hi : tmps.getD i undef = .pointer (some ⟨b1, 0, none⟩)) :
    (results fn tmps).run Tryd.prog w = .ok (.agg u) w := by
  have hi' : tmps[i]?.getD undef = .pointer (some ⟨b1, 0, none⟩) := by rw [← Array.getD_eq_getD_getElem?]; exact hi
  simp [results, hr, hi', asAddr, h.load1 hsz]
end

/-- E's blocks, and what is new since. -/
def Ku (E : Nat → Prop) (a : Nat) : Nat → Prop := fun k => E k ∨ a ≤ k

/-- The struct's seven cells say S; its rows' blocks are E's. -/
structure RX (E : Nat → Prop) (w : World) (S : St) (N : Nat) (fa na sa aa : Option Addr) (fc nc sc ac : Nat) : Prop where
  f : OwnG w 119 2 (.slice fa S.files.length fc) S.files.length (flrow S.files)
  n : OwnG w 152 2 (.slice na S.now.length nc) S.now.length (nrow S.now)
  s : OwnG w 152 2 (.slice sa S.sure.length sc) S.sure.length (nrow S.sure)
  a : OwnG w 122 3 (.slice aa S.acts.length ac) S.acts.length (chrow S.acts)
  kf : ∀ k, (Value.slice fa S.files.length fc).ownBlock = some k → E k
  kn : ∀ k, (Value.slice na S.now.length nc).ownBlock = some k → E k
  ks : ∀ k, (Value.slice sa S.sure.length sc).ownBlock = some k → E k
  ka : ∀ k, (Value.slice aa S.acts.length ac).ownBlock = some k → E k
  wf : VfsS.Wf S
  lf : S.files.length ≤ N
  ln : S.now.length ≤ N
  la : S.sure.length + S.acts.length ≤ N
  st : S.steps ≤ N
  big : N ≤ 40000000
  lim : -1 ≤ S.limit

def rcells (S : St) (fa na sa aa : Option Addr) (fc nc sc ac : Nat) : Array Value := #[.slice fa S.files.length fc, .slice na S.now.length nc, .slice sa S.sure.length sc, .slice aa S.acts.length ac, .int .i64 S.room, .int .i64 S.steps, .int .i64 S.limit]

def RR (E : Nat → Prop) (w : World) (cs : Array Value) (S : St) (N : Nat) : Prop :=
  ∃ fa na sa aa fc nc sc ac, cs = rcells S fa na sa aa fc nc sc ac ∧ RX E w S N fa na sa aa fc nc sc ac

section
variable {E E' : Nat → Prop} {w w' : World} {S : St} {N : Nat} {cs : Array Value}

theorem RX.below {fa na sa aa : Option Addr} {fc nc sc ac : Nat} (h : RX E w S N fa na sa aa fc nc sc ac) (hb : Below w.heap.size w w') : RX E w' S N fa na sa aa fc nc sc ac :=
  { h with f := h.f.below hb, n := h.n.below hb, s := h.s.below hb, a := h.a.below hb }
theorem RX.blocks {fa na sa aa : Option Addr} {fc nc sc ac : Nat} (h : RX E w S N fa na sa aa fc nc sc ac) (hb : ∀ k, E k → w'.heap[k]? = w.heap[k]?) : RX E w' S N fa na sa aa fc nc sc ac :=
  { h with f := h.f.block fun k hk => hb k (h.kf k hk), n := h.n.block fun k hk => hb k (h.kn k hk), s := h.s.block fun k hk => hb k (h.ks k hk), a := h.a.block fun k hk => hb k (h.ka k hk) }
theorem RR.below (h : RR E w cs S N) (hb : Below w.heap.size w w') : RR E w' cs S N := by
  obtain ⟨fa, na, sa, aa, fc, nc, sc, ac, e, h⟩ := h
  exact ⟨fa, na, sa, aa, fc, nc, sc, ac, e, h.below hb⟩
theorem RR.blocks (h : RR E w cs S N) (hb : ∀ k, E k → w'.heap[k]? = w.heap[k]?) : RR E w' cs S N := by
  obtain ⟨fa, na, sa, aa, fc, nc, sc, ac, e, h⟩ := h
  exact ⟨fa, na, sa, aa, fc, nc, sc, ac, e, h.blocks hb⟩
theorem RR.sub (h : RR E w cs S N) (he : ∀ k, E k → k < w.heap.size → E' k) : RR E' w cs S N := by
  obtain ⟨fa, na, sa, aa, fc, nc, sc, ac, e, h⟩ := h
  exact ⟨fa, na, sa, aa, fc, nc, sc, ac, e, { h with kf := fun k hk => he k (h.kf k hk) (h.f.lt hk), kn := fun k hk => he k (h.kn k hk) (h.n.lt hk), ks := fun k hk => he k (h.ks k hk) (h.s.lt hk), ka := fun k hk => he k (h.ka k hk) (h.a.lt hk) }⟩
theorem RR.up (h : RR E w cs S N) (a : Nat) : RR (Ku E a) w cs S N := h.sub fun _ h _ => .inl h
theorem RR.upto {a : Nat} (h : RR (Ku E a) w cs S N) : RR (Kx E a w.heap.size) w cs S N := h.sub fun _ h hl => h.elim .inl fun h => .inr ⟨h, hl⟩
theorem RR.mono (h : RR E w cs S N) {N' : Nat} (hN : N ≤ N') (hb : N' ≤ 40000000) : RR E w cs S N' := by
  obtain ⟨fa, na, sa, aa, fc, nc, sc, ac, e, h⟩ := h
  exact ⟨fa, na, sa, aa, fc, nc, sc, ac, e, { h with lf := by have := h.lf; omega, ln := by have := h.ln; omega, la := by have := h.la; omega, st := by have := h.st; omega, big := hb }⟩
theorem RR.wf (h : RR E w cs S N) : VfsS.Wf S := by obtain ⟨_, _, _, _, _, _, _, _, _, h⟩ := h; exact h.wf
theorem RR.size (h : RR E w cs S N) : cs.size = 7 := by obtain ⟨_, _, _, _, _, _, _, _, rfl, _⟩ := h; rfl
theorem RR.one (h : RR E w cs S N) : cs.all (·.oneCell') = true := by obtain ⟨_, _, _, _, _, _, _, _, rfl, _⟩ := h; simp [rcells, Value.oneCell']
/-- Whatever was put into a block outside E's. -/
theorem RR.grown (h : RR E w cs S N) {b : Nat} (hg : w.grownBy w' (some b)) (hb : ¬ E b) : RR E w' cs S N := by
  obtain ⟨fa, na, sa, aa, fc, nc, sc, ac, e, h⟩ := h
  refine ⟨fa, na, sa, aa, fc, nc, sc, ac, e, { h with f := h.f.block fun k hk => hg.block k (h.f.lt hk) ?_, n := h.n.block fun k hk => hg.block k (h.n.lt hk) ?_, s := h.s.block fun k hk => hg.block k (h.s.lt hk) ?_, a := h.a.block fun k hk => hg.block k (h.a.lt hk) ?_ }⟩
  · intro e; injection e with e; subst e; exact hb (h.kf _ hk)
  · intro e; injection e with e; subst e; exact hb (h.kn _ hk)
  · intro e; injection e with e; subst e; exact hb (h.ks _ hk)
  · intro e; injection e with e; subst e; exact hb (h.ka _ hk)
/-- .. or into a block of another make. -/
theorem RR.other (h : RR E w cs S N) {b : Nat} {C : Array Value} {e : TypeId} {fr : Nat × Nat} (hb : w.heap[b]? = some (.cells C e fr)) (he : e ≠ 119 ∧ e ≠ 152 ∧ e ≠ 122) (hg : w.grownBy w' (some b)) : RR E w' cs S N := by
  obtain ⟨fa, na, sa, aa, fc, nc, sc, ac, e1, h⟩ := h
  have key : ∀ {t : TypeId} {size : Nat} {x : Value} {n : Nat} {xs : List Value}, OwnG w t size x n xs → e ≠ t → OwnG w' t size x n xs := fun {t size x n xs} ho ht => ho.kept hg (by
    cases hk : x.ownBlock with
    | none => exact .inl rfl
    | some k =>
      right; intro e2; injection e2 with e2; subst e2
      obtain ⟨cur, hc⟩ := ho.tag hk
      rw [hb] at hc; injection hc with hc; injection hc with _ hc _; exact ht hc)
  exact ⟨fa, na, sa, aa, fc, nc, sc, ac, e1, { h with f := key h.f he.1, n := key h.n he.2.1, s := key h.s he.2.1, a := key h.a he.2.2 }⟩
theorem RR.in0 {w0 : World} {b0 b1 : Nat} {v u : Array Value} (h : RR E w cs S N) (ht : TB w0 w b0 b1 v u) (hg : w.grownBy w' (some b0)) : RR E w' cs S N := h.other ht.h0 (by decide) hg
theorem RR.in1 {w0 : World} {b0 b1 : Nat} {v u : Array Value} (h : RR E w cs S N) (ht : TB w0 w b0 b1 v u) (hg : w.grownBy w' (some b1)) : RR E w' cs S N := h.other ht.h1 (by decide) hg

theorem rstep_r (h : RR E w cs S N) (hN : N + 1 ≤ 40000000) :
    Calls Tryd.prog 60 #[.agg cs] w fun e w' => ∃ cs', e = .returned (.tuple #[.agg cs', .int .i64 (if S.limit = 0 then 190 else 0)]) ∧ RR E w' cs' (VfsS.stepS S) (N + 1) ∧ Below w.heap.size w w' := by
  obtain ⟨fa, na, sa, aa, fc, nc, sc, ac, rfl, h⟩ := h
  refine (rstep_c fa S.files.length fc na S.now.length nc sa S.sure.length sc aa S.acts.length ac S.room S.steps S.limit ⟨by omega, by have := h.st; omega⟩ ⟨h.lim, h.wf.lim.2⟩ w).mono ?_
  rintro e w' ⟨rfl, hb⟩
  have h' := h.below hb
  have hwf := h.wf.step
  have hlf := h.lf
  have hln := h.ln
  have hla := h.la
  have hst := h.st
  have hlim := h.lim
  refine ⟨_, rfl, ?_, hb⟩
  unfold VfsS.stepS at hwf ⊢
  by_cases h0 : S.limit = 0
  · rw [if_pos h0, if_neg (by omega)]
    rw [if_pos h0] at hwf ⊢
    exact ⟨fa, na, sa, aa, fc, nc, sc, ac, rfl, { h' with lf := by omega, ln := by omega, la := by omega, st := by omega, big := hN }⟩
  · rw [if_neg h0]
    rw [if_neg h0] at hwf ⊢
    refine ⟨fa, na, sa, aa, fc, nc, sc, ac, rfl, { h' with wf := hwf, lf := by simp only; omega, ln := by simp only; omega, la := by simp only; omega, st := by simp only; omega, big := hN, lim := ?_ }⟩
    simp only; split <;> omega

theorem rput_r (h : RR E w cs S N) (i : Nat) (hi : i < S.files.length) (f : File) (hf : f.dur ≤ f.text.size ∧ f.text.size ≤ 4194304) :
    Calls Tryd.prog 68 #[.agg cs, .int .i64 (i : Int), .agg #[.string f.text, .int .i64 (f.dur : Int)]] w fun e w' => ∃ cs', e = .returned (.agg cs') ∧ RR (Ku E w.heap.size) w' cs' (VfsS.putS S i f) N ∧ Below w.heap.size w w' := by
  obtain ⟨fa, na, sa, aa, fc, nc, sc, ac, rfl, h⟩ := h
  refine (rput_c (w := w) (S := S) (na := na) (sa := sa) (aa := aa) (nn := S.now.length) (nc := nc) (sn := S.sure.length) (sc := sc) (an := S.acts.length) (ac := ac) h.f (by have := h.lf; have := h.big; omega) S.room S.steps S.limit i hi f).mono ?_
  rintro e w' ⟨ga, gc, rfl, ho, hk, hb⟩
  have h' := h.below hb
  have hlen : (S.files.set i f).length = S.files.length := List.length_set
  refine ⟨_, rfl, ⟨ga, na, sa, aa, gc, nc, sc, ac, ?_, ?_⟩, hb⟩
  · unfold rcells VfsS.putS; simp only [List.length_set]
  · exact { f := by show OwnG w' _ 2 (.slice ga (S.files.set i f).length gc) (S.files.set i f).length (flrow (S.files.set i f)); rw [hlen]; exact ho, n := h'.n, s := h'.s, a := h'.a, kf := fun k hk' => .inr (hk k (by rw [← hlen]; exact hk')), kn := fun k hk => .inl (h.kn k hk), ks := fun k hk => .inl (h.ks k hk), ka := fun k hk => .inl (h.ka k hk),
            wf := h.wf.put i hf, lf := by show (S.files.set i f).length ≤ N; rw [hlen]; exact h.lf, ln := h.ln, la := h.la, st := h.st, big := h.big, lim := h.lim }

theorem rchange_r (h : RR E w cs S N) (ch : Chg) (hf : ∀ i, ch.file = some i → i < S.files.length) (h1 : ch.src.size ≤ 10000000) (h2 : ch.dst.size ≤ 10000000) (hN : N + 1 ≤ 40000000) :
    Calls Tryd.prog 61 #[.agg cs, .agg #[.string ch.src, .string ch.dst, .int .i64 (fileI ch.file)]] w fun e w' => ∃ cs', e = .returned (.agg cs') ∧ RR (Ku E w.heap.size) w' cs' (VfsS.changeS S ch) (N + 1) ∧ Below w.heap.size w w' := by
  obtain ⟨fa, na, sa, aa, fc, nc, sc, ac, rfl, h⟩ := h
  have hla := h.la
  have hlf := h.lf
  have hln := h.ln
  have hst := h.st
  refine (rchange_c (w := w) (S := S) (fa := fa) (fn := S.files.length) (fc := fc) (sa := sa) (sn := S.sure.length) (sc := sc) h.n h.a (by omega) (by omega) S.room S.steps S.limit ch (fun i hi => by have := hf i hi; omega)).mono ?_
  rintro e w' ⟨ga, gc, ba, bc, rfl, ho, hp, hk1, hk2, hb⟩
  have h' := h.below hb
  have hwf := h.wf.change hf h1 h2
  have hal : (S.acts ++ [ch]).length = S.acts.length + 1 := by simp
  have hdl := doL_len S.now ch
  refine ⟨_, rfl, ⟨fa, ga, sa, ba, fc, gc, sc, bc, ?_, ?_⟩, hb⟩
  · unfold rcells VfsS.changeS; simp only [List.length_append, List.length_singleton]
  · exact { f := h'.f, n := ho, s := h'.s, a := by show OwnG w' _ 3 (.slice ba (S.acts ++ [ch]).length bc) (S.acts ++ [ch]).length _; rw [hal]; exact hp, kf := fun k hk => .inl (h.kf k hk), kn := fun k hk => (hk1 k hk).imp (h.kn k) id, ks := fun k hk => .inl (h.ks k hk), ka := fun k hk => .inr (hk2 k (by rw [← hal]; exact hk)),
            wf := hwf, lf := by show S.files.length ≤ N + 1; omega, ln := by show (doL S.now ch).length ≤ N + 1; omega, la := by show S.sure.length + (S.acts ++ [ch]).length ≤ N + 1; omega, st := by show S.steps ≤ N + 1; omega, big := hN, lim := h.lim }
end
end Go.Proofs.YtfoamcobpfflbaaDoor
namespace Go.Proofs.YtfoamcobpfflbaaDoor
open Go Go.RowKit
open VfsS (File Chg Nm St find doL)

section
variable {E E' : Nat → Prop} {w w' : World} {S : St} {N : Nat} {cs : Array Value}

theorem limB {l : Int} (h : l = 0) : (if l = 0 then (190 : Int) else 0) = 190 := if_pos h
theorem limA {l : Int} (h : ¬ l = 0) : (if l = 0 then (190 : Int) else 0) = 0 := if_neg h

set_option maxRecDepth 100000 in
set_option maxHeartbeats 1000000 in
theorem rremove_r (h : RR E w cs S N) (s : ByteArray) (hs : s.size ≤ 10000000) (hN : N + 2 ≤ 40000000) :
    Calls Tryd.prog 83 #[.agg cs, .string s] w fun e w' => ∃ cs', e = .returned (.tuple #[.agg cs', .int .i64 (VfsS.removeS S s).2]) ∧ RR (Ku E w.heap.size) w' cs' (VfsS.removeS S s).1 (N + 2) ∧ Below w.heap.size w w' := by
  have h0 := h
  obtain ⟨fa, na, sa, aa, fc, nc, sc, ac, rfl, hx⟩ := h
  have hone := h0.one
  have hT : TB w ((w.alloc (.cells #[.slice fa S.files.length fc, .slice na S.now.length nc, .slice sa S.sure.length sc, .slice aa S.acts.length ac, .int .i64 S.room, .int .i64 S.steps, .int .i64 S.limit] 36)).alloc (.cells #[.slice none 0 0, .slice none 0 0, .slice none 0 0, .slice none 0 0, .int .i64 0, .int .i64 0, .int .i64 0] 36)) w.heap.size (w.heap.size + 1) (rcells S fa na sa aa fc nc sc ac) fs0 := TB.start w _ _
  show Calls _ _ #[.agg #[.slice fa S.files.length fc, .slice na S.now.length nc, .slice sa S.sure.length sc, .slice aa S.acts.length ac, .int .i64 S.room, .int .i64 S.steps, .int .i64 S.limit], .string s] _ _
  have HFF := rfind_c (w := (w.alloc (.cells #[.slice fa S.files.length fc, .slice na S.now.length nc, .slice sa S.sure.length sc, .slice aa S.acts.length ac, .int .i64 S.room, .int .i64 S.steps, .int .i64 S.limit] 36)).alloc (.cells #[.slice none 0 0, .slice none 0 0, .slice none 0 0, .slice none 0 0, .int .i64 0, .int .i64 0, .int .i64 0] 36)) (hx.n.below hT.below) (by have := hx.ln; omega) s
  have hx0 := hx
  go_enter Tryd.func83, Tryd.ntmps83
  go_upto_region 1 with fail
  generalize (w.alloc (.cells #[.slice fa S.files.length fc, .slice na S.now.length nc, .slice sa S.sure.length sc, .slice aa S.acts.length ac, .int .i64 S.room, .int .i64 S.steps, .int .i64 S.limit] 36)).alloc (.cells #[.slice none 0 0, .slice none 0 0, .slice none 0 0, .slice none 0 0, .int .i64 0, .int .i64 0, .int .i64 0] 36) = W at *
  have hrW := h0.below hT.below
  have c1 : W.cell? ⟨w.heap.size, 1, none⟩ = some (.slice na S.now.length nc) := hT.c 1 rfl
  have hwf := hx.wf
  clear hx
  cases hf : find S.now s with
  | none =>
    have HS : Hid (VfsS.removeS S s = (S, 4)) := by show _ = _; unfold VfsS.removeS; rw [hf]; rfl
    rw [hf] at HFF
    have HF : Calls Tryd.prog 59 #[.slice na S.now.length nc, .string s] W fun e w' => e = .returned (.int .i64 (-1)) ∧ w' = W := HFF
    clear hf HFF
    go_wp2_with (first | (go_at_call 59; refine HF.mono ?_; rintro e w' ⟨rfl, rfl⟩) | (refine wp_load0 hT2 rfl _ rfl rfl hs1 ?_) | (refine wp_load0 hT rfl _ rfl rfl rfl ?_) | (refine wp_store1 hT rfl _ _ rfl rfl rfl rfl rfl hone ?_; intro w4 hT4 hg4; have hr4 := hrW.in1 hT hg4))
    (try simp only [Exit.inBlock, Exit.then])
    refine bodyPost_ret (hT4.ret2 rfl rfl _ rfl) rfl ?_
    rw [HS.out]
    exact ⟨_, rfl, (hr4.up _).mono (by omega) hN, hT4.below⟩
  | some i =>
    rw [hf] at HFF
    have HF : Calls Tryd.prog 59 #[.slice na S.now.length nc, .string s] W fun e w' => e = .returned (.int .i64 (i : Int)) ∧ w' = W := HFF
    have hd : decide ((i : Int) < 0) = false := decide_eq_false (by omega)
    have HSTEP := rstep_r hrW (by omega)
    by_cases hl : S.limit = 0
    · have HS : Hid (VfsS.removeS S s = (S, 190)) := by show _ = _; unfold VfsS.removeS; rw [hf]; simp only [Option.isSome_some, if_true]; rw [if_pos hl]
      have HT : Hid (VfsS.stepS S = S) := by show _ = _; unfold VfsS.stepS; rw [if_pos hl]
      rw [limB hl] at HSTEP
      clear hf HFF hl
      go_wp2_with (first | (go_at_call 59; refine HF.mono ?_; rintro e w' ⟨rfl, rfl⟩) | (go_at_call 60; refine HSTEP.mono ?_; rintro e w1 ⟨cs1, rfl, hr1, hb1⟩; have hT1 := hT.to hb1; have hs1 := hr1.size; have ho1 := hr1.one) | (refine wp_store0 hT1 rfl _ _ rfl rfl rfl rfl hs1 ho1 ?_; intro w2 hT2 hg2; have hr2 := hr1.in0 hT1 hg2) | (refine wp_load0 hT2 rfl _ rfl rfl hs1 ?_) | (refine wp_load0 hT rfl _ rfl rfl rfl ?_) | (refine wp_store1 hT2 rfl _ _ rfl rfl rfl rfl hs1 ho1 ?_; intro w4 hT4 hg4; have hr4 := hr2.in1 hT2 hg4))
      (try simp only [Exit.inBlock, Exit.then])
      refine bodyPost_ret (hT4.ret2 hs1 rfl _ rfl) rfl ?_
      rw [HS.out]
      rw [HT.out] at hr4
      exact ⟨_, rfl, (hr4.up _).mono (by omega) hN, hT4.below⟩
    · have HS : Hid (VfsS.removeS S s = (VfsS.changeS (VfsS.stepS S) ⟨s, ByteArray.empty, none⟩, 0)) := by show _ = _; unfold VfsS.removeS; rw [hf]; simp only [Option.isSome_some, if_true]; rw [if_neg hl]
      rw [limA hl] at HSTEP
      clear hf HFF hl
      go_wp2_with (first | (go_at_call 59; refine HF.mono ?_; rintro e w' ⟨rfl, rfl⟩) | (go_at_call 60; refine HSTEP.mono ?_; rintro e w1 ⟨cs1, rfl, hr1, hb1⟩; have hT1 := hT.to hb1; have hs1 := hr1.size; have ho1 := hr1.one) | (refine wp_store0 hT1 rfl _ _ rfl rfl rfl rfl hs1 ho1 ?_; intro w2 hT2 hg2; have hr2 := hr1.in0 hT1 hg2) | (refine wp_load0 hT2 rfl _ rfl rfl hs1 ?_) | (refine wp_load0 hT rfl _ rfl rfl rfl ?_) | (go_at_call 61; refine (rchange_r hr2 ⟨s, ByteArray.empty, none⟩ (by intro i h; cases h) hs (show ByteArray.empty.size ≤ 10000000 by decide) (by omega)).mono ?_; rintro e w3 ⟨cs3, rfl, hr3, hb3⟩; have hT3 := hT2.to hb3; have hs3 := hr3.size; have ho3 := hr3.one) | (refine wp_store1 hT3 rfl _ _ rfl rfl rfl rfl hs3 ho3 ?_; intro w4 hT4 hg4; have hr4 := hr3.in1 hT3 hg4))
      (try simp only [Exit.inBlock, Exit.then])
      refine bodyPost_ret (hT4.ret2 hs3 rfl _ rfl) rfl ?_
      rw [HS.out]
      exact ⟨_, rfl, hr4.sub (fun k hk _ => hk.elim .inl (fun h => .inr (by have := hT2.below.size; omega))), hT4.below⟩
end
end Go.Proofs.YtfoamcobpfflbaaDoor
