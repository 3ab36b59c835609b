/- A file system that was made in the walk beside blocks E that are not its own: each call leaves them as they are. (Printed by a program of mine: /wip/mkve.py) -/
import Derived.Test.YtfoamcobpfflbaaDoorVfsA
namespace Go.Proofs.YtfoamcobpfflbaaDoor
open Go Go.RowKit Go.Maps
open VfsS (St)

/-- Behind p lies S; it was made since w0; nothing older has turned; E's blocks are new since w0, and not its own. -/
def VE (E : Nat → Prop) (w0 w : World) (p : Nat) (S : St) (N : Nat) : Prop :=
  ∃ K, VRep w p S K N ∧ Gl w0 ∧ (∀ k, K k → w0.heap.size ≤ k ∧ k < w.heap.size) ∧ (∀ k, E k → ¬ K k ∧ w0.heap.size ≤ k ∧ k < w.heap.size) ∧ Below w0.heap.size w0 w

theorem VE.toA {E : Nat → Prop} {w0 w : World} {p : Nat} {S : St} {N : Nat} (h : VE E w0 w p S N) : VA w0 w p S N := by
  obtain ⟨K, h1, hg, h3, h4, h5⟩ := h
  exact ⟨K, h1, hg, h3, h5⟩
theorem VA.toE {w0 w : World} {p : Nat} {S : St} {N : Nat} (h : VA w0 w p S N) : VE (fun _ => False) w0 w p S N := by
  obtain ⟨K, h1, hg, h3, h5⟩ := h
  exact ⟨K, h1, hg, h3, fun k h => h.elim, h5⟩

theorem VE.sub {E E' : Nat → Prop} {w0 w : World} {p : Nat} {S : St} {N : Nat} (h : VE E w0 w p S N) (he : ∀ k, E' k → E k) : VE E' w0 w p S N := by
  obtain ⟨K, h1, hg, h3, h4, h5⟩ := h
  exact ⟨K, h1, hg, h3, fun k hk => h4 k (he k hk), h5⟩

/-- What turns none but E's blocks and makes new ones, which are E's then. -/
theorem VE.foreign {E : Nat → Prop} {w0 w w' : World} {p : Nat} {S : St} {N : Nat} (h : VE E w0 w p S N) (ho : Only E w w') : VE (Kx E w.heap.size w'.heap.size) w0 w' p S N := by
  obtain ⟨K, h1, hg, h3, h4, h5⟩ := h
  refine ⟨K, h1.keep fun k hk hK => ho.block k hk (fun e => (h4 k e).1 hK), hg, fun k hk => ⟨(h3 k hk).1, Nat.lt_of_lt_of_le (h3 k hk).2 ho.size⟩, fun k hk => ?_, ?_⟩
  · rcases hk with hk | hk
    · exact ⟨(h4 k hk).1, (h4 k hk).2.1, Nat.lt_of_lt_of_le (h4 k hk).2.2 ho.size⟩
    · exact ⟨fun e => by have := (h3 k e).2; omega, by have := h5.size; omega, hk.2⟩
  · exact h5.trans ⟨ho.os, ho.tape, ho.output, ho.size, fun k hk => ho.block k (Nat.lt_of_lt_of_le hk h5.size) (fun e => by have := (h4 k e).2.1; omega)⟩

theorem VE.below {E : Nat → Prop} {w0 w w' : World} {p : Nat} {S : St} {N : Nat} (h : VE E w0 w p S N) (hb : Below w.heap.size w w') : VE (Kx E w.heap.size w'.heap.size) w0 w' p S N := h.foreign (Only.of_below hb)
theorem VE.alloc {E : Nat → Prop} {w0 w : World} {p : Nat} {S : St} {N : Nat} (h : VE E w0 w p S N) (o : Obj) : VE (fun k => E k ∨ k = w.heap.size) w0 (w.alloc o) p S N :=
  (h.below ((Below.refl _ w).alloc (Nat.le_refl _) o)).sub fun k hk => hk.elim .inl fun e => .inr ⟨by omega, by rw [e]; simp⟩
theorem VE.grown {E : Nat → Prop} {w0 w w' : World} {p : Nat} {S : St} {N : Nat} {b : Nat} (h : VE E w0 w p S N) (hg : w.grownBy w' (some b)) (hb : E b) : VE E w0 w' p S N :=
  (h.foreign (Only.of_grown hg fun k e => by injection e with e; subst e; exact hb)).sub fun k hk => .inl hk
theorem VE.drewN {E : Nat → Prop} {w0 w : World} {p : Nat} {S : St} {N : Nat} (h : VE E w0 w p S N) (q : Nat) : VE E w0 (w.drewN q) p S N := (h.below (below_dN (Below.refl _ _) q)).sub fun _ hk => .inl hk
theorem VE.out {E : Nat → Prop} {w0 w : World} {p : Nat} {S : St} {N : Nat} (h : VE E w0 w p S N) : Below w0.heap.size w0 w := h.toA.out
theorem VE.gl {E : Nat → Prop} {w0 w : World} {p : Nat} {S : St} {N : Nat} (h : VE E w0 w p S N) : Gl w := h.toA.gl
theorem VE.wf {E : Nat → Prop} {w0 w : World} {p : Nat} {S : St} {N : Nat} (h : VE E w0 w p S N) : VfsS.Wf S := h.toA.wf
theorem VE.mono {E : Nat → Prop} {w0 w : World} {p : Nat} {S : St} {N N' : Nat} (h : VE E w0 w p S N) (hN : N ≤ N') (hb : N' ≤ 100000000) : VE E w0 w p S N' := by
  obtain ⟨K, h1, h2⟩ := h
  exact ⟨K, h1.mono (fun _ h => h) hN hb, h2⟩
theorem VE.lt {E : Nat → Prop} {w0 w : World} {p : Nat} {S : St} {N : Nat} (h : VE E w0 w p S N) {k : Nat} (hk : E k) : k < w.heap.size := by
  obtain ⟨K, h1, hg, h3, h4, h5⟩ := h
  exact (h4 k hk).2.2

/-- What a call of its own makes of it. -/
theorem VE.step {E : Nat → Prop} {w0 w w' : World} {p : Nat} {S' : St} {N' : Nat} {K : Nat → Prop} (hg : Gl w0) (h3 : ∀ k, K k → w0.heap.size ≤ k ∧ k < w.heap.size) (h4 : ∀ k, E k → ¬ K k ∧ w0.heap.size ≤ k ∧ k < w.heap.size) (h5 : Below w0.heap.size w0 w)
    (h : VRep w' p S' (Kx K w.heap.size w'.heap.size) N') (ho : Only K w w') : VE E w0 w' p S' N' ∧ ∀ k, E k → w'.heap[k]? = w.heap[k]? :=
  ⟨⟨_, h, hg, fun k hk => hk.elim (fun h => ⟨(h3 k h).1, Nat.lt_of_lt_of_le (h3 k h).2 ho.size⟩) (fun h => ⟨Nat.le_trans h5.size h.1, h.2⟩),
    fun k hk => ⟨fun e => e.elim (h4 k hk).1 (fun e => by have := (h4 k hk).2.2; omega), (h4 k hk).2.1, Nat.lt_of_lt_of_le (h4 k hk).2.2 ho.size⟩,
    h5.trans ⟨ho.os, ho.tape, ho.output, ho.size, fun k hk => ho.block k (Nat.lt_of_lt_of_le hk h5.size) (fun e => by have := (h3 k e).1; omega)⟩⟩,
   fun k hk => ho.block k (h4 k hk).2.2 (h4 k hk).1⟩

section
variable {E : Nat → Prop} {w0 w : World} {p : Nat} {S : St} {N : Nat}

theorem create_e (h : VE E w0 w p S N) (s : ByteArray) (hs : s.size ≤ 10000000) (hN : N + 3 ≤ 100000000) :
    Calls Tryd.prog 45 #[.pointer (some ⟨p, 0, none⟩), .string s] w fun e w' => e = .returned (.int .i64 (VfsS.createS S s).2) ∧ VE E w0 w' p (VfsS.createS S s).1 (N + 3) ∧ ∀ k, E k → w'.heap[k]? = w.heap[k]? := by
  obtain ⟨K, h1, hg, h3, h4, h5⟩ := h
  refine (create_c h1 s hs hN (hg.below h5 (Nat.le_refl _))).mono ?_
  rintro e w' ⟨r1, r2, r3⟩
  exact ⟨r1, VE.step hg h3 h4 h5 r2 r3⟩

theorem sync_e (h : VE E w0 w p S N) (s : ByteArray) (hs : s.size ≤ 10000000) (hN : N + 2 ≤ 100000000) :
    Calls Tryd.prog 46 #[.pointer (some ⟨p, 0, none⟩), .string s] w fun e w' => e = .returned (.int .i64 (VfsS.syncS S s).2) ∧ VE E w0 w' p (VfsS.syncS S s).1 (N + 2) ∧ ∀ k, E k → w'.heap[k]? = w.heap[k]? := by
  obtain ⟨K, h1, hg, h3, h4, h5⟩ := h
  refine (sync_c h1 s hs hN).mono ?_
  rintro e w' ⟨r1, r2, r3⟩
  exact ⟨r1, VE.step hg h3 h4 h5 r2 r3⟩

theorem cut_e (h : VE E w0 w p S N) (s : ByteArray) (n : Int) (hs : s.size ≤ 10000000) (hN : N + 2 ≤ 100000000) :
    Calls Tryd.prog 49 #[.pointer (some ⟨p, 0, none⟩), .string s, .int .i64 n] w fun e w' => e = .returned (.int .i64 (VfsS.cutS S s n).2) ∧ VE E w0 w' p (VfsS.cutS S s n).1 (N + 2) ∧ ∀ k, E k → w'.heap[k]? = w.heap[k]? := by
  obtain ⟨K, h1, hg, h3, h4, h5⟩ := h
  refine (cut_c h1 s n hs hN).mono ?_
  rintro e w' ⟨r1, r2, r3⟩
  exact ⟨r1, VE.step hg h3 h4 h5 r2 r3⟩

theorem remove_e (h : VE E w0 w p S N) (s : ByteArray) (hs : s.size ≤ 10000000) (hN : N + 2 ≤ 100000000) :
    Calls Tryd.prog 51 #[.pointer (some ⟨p, 0, none⟩), .string s] w fun e w' => e = .returned (.int .i64 (VfsS.removeS S s).2) ∧ VE E w0 w' p (VfsS.removeS S s).1 (N + 2) ∧ ∀ k, E k → w'.heap[k]? = w.heap[k]? := by
  obtain ⟨K, h1, hg, h3, h4, h5⟩ := h
  refine (remove_c h1 s hs hN).mono ?_
  rintro e w' ⟨r1, r2, r3⟩
  exact ⟨r1, VE.step hg h3 h4 h5 r2 r3⟩

theorem rename_e (h : VE E w0 w p S N) (s t : ByteArray) (hs : s.size ≤ 10000000) (ht : t.size ≤ 10000000) (hN : N + 2 ≤ 100000000) :
    Calls Tryd.prog 48 #[.pointer (some ⟨p, 0, none⟩), .string s, .string t] w fun e w' => e = .returned (.int .i64 (VfsS.renameS S s t).2) ∧ VE E w0 w' p (VfsS.renameS S s t).1 (N + 2) ∧ ∀ k, E k → w'.heap[k]? = w.heap[k]? := by
  obtain ⟨K, h1, hg, h3, h4, h5⟩ := h
  refine (rename_c h1 s t hs ht hN (hg.below h5 (Nat.le_refl _))).mono ?_
  rintro e w' ⟨r1, r2, r3⟩
  exact ⟨r1, VE.step hg h3 h4 h5 r2 r3⟩

theorem flush_e (h : VE E w0 w p S N) (hN : N + 2 ≤ 100000000) :
    Calls Tryd.prog 19 #[.pointer (some ⟨p, 0, none⟩)] w fun e w' => e = .returned (.int .i64 (VfsS.flushAllS S).2) ∧ VE E w0 w' p (VfsS.flushAllS S).1 (N + 2) ∧ ∀ k, E k → w'.heap[k]? = w.heap[k]? := by
  obtain ⟨K, h1, hg, h3, h4, h5⟩ := h
  refine (flushAll_c h1 hN).mono ?_
  rintro e w' ⟨r1, r2, r3⟩
  exact ⟨r1, VE.step hg h3 h4 h5 r2 r3⟩

theorem crash_e (h : VE E w0 w p S N) (x y : Int) :
    Calls Tryd.prog 25 #[.pointer (some ⟨p, 0, none⟩), .int .i64 x, .int .i64 y] w fun e w' => e = .returned (.tuple #[]) ∧ VE E w0 w' p (VfsS.crashS S x y) N ∧ ∀ k, E k → w'.heap[k]? = w.heap[k]? := by
  obtain ⟨K, h1, hg, h3, h4, h5⟩ := h
  refine (crash_c h1 x y).mono ?_
  rintro e w' ⟨r1, r2, r3⟩
  exact ⟨r1, VE.step hg h3 h4 h5 r2 r3⟩

theorem stop_e (h : VE E w0 w p S N) (n : Int) (hn : -9223372036854775808 ≤ n ∧ n ≤ 9223372036854775807) :
    Calls Tryd.prog 47 #[.pointer (some ⟨p, 0, none⟩), .int .i64 n] w fun e w' => e = .returned (.tuple #[]) ∧ VE E w0 w' p { S with limit := n } N ∧ ∀ k, E k → w'.heap[k]? = w.heap[k]? := by
  obtain ⟨K, h1, hg, h3, h4, h5⟩ := h
  have hp : K p := by obtain ⟨_, _, _, _, _, _, _, hk, _⟩ := h1; exact hk
  refine (stop_c h1 n hn).mono ?_
  rintro e w' ⟨r1, r2, r3⟩
  refine ⟨r1, VE.step hg h3 h4 h5 (r2.mono (fun k hk => .inl hk) (Nat.le_refl _) h1.big) (Only.of_grown r3 fun k e => ?_)⟩
  injection e with e; subst e; exact hp

/-- The slice: nothing, of E's, or older than all. -/
def SlE (E : Nat → Prop) (w0 w : World) (a : Option Addr) (xs : List Value) : Prop :=
  xs = [] ∨ ∃ b o, a = some ⟨b, o, none⟩ ∧ (b < w0.heap.size ∨ E b) ∧ ∀ i u, xs[i]? = some u → w.cell? ⟨b, o + i, none⟩ = some u

theorem SlE.sl {a : Option Addr} {xs : List Value} (h : SlE E w0 w a xs) (hv : VE E w0 w p S N) : Sl w a xs := by
  rcases h with h | ⟨b, o, r1, r2, r3⟩
  · exact .inl h
  · exact .inr ⟨b, o, r1, r2.elim (fun h => Nat.lt_of_lt_of_le h hv.out.size) hv.lt, r3⟩

theorem append_e (h : VE E w0 w p S N) (s b : ByteArray) (a : Option Addr) (c : Nat) (hs : s.size ≤ 10000000) (hb : b.size ≤ 10000000) (hsl : SlE E w0 w a (byteCells b)) (hN : N + 2 ≤ 100000000) :
    Calls Tryd.prog 27 #[.pointer (some ⟨p, 0, none⟩), .string s, .slice a b.size c] w fun e w' => e = .returned (.int .i64 (VfsS.appendS S s b).2) ∧ VE E w0 w' p (VfsS.appendS S s b).1 (N + 2) ∧ ∀ k, E k → w'.heap[k]? = w.heap[k]? := by
  have h' := h
  obtain ⟨K, h1, hg, h3, h4, h5⟩ := h
  have hk : SlK K w a (byteCells b) := by
    rcases hsl with h | ⟨x, o, r1, r2, r3⟩
    · exact .inl h
    · refine .inr ⟨x, o, r1, r2.elim (fun h => Nat.lt_of_lt_of_le h h5.size) h'.lt, fun e => ?_, r3⟩
      rcases r2 with r2 | r2
      · have := (h3 x e).1; omega
      · exact (h4 x r2).1 e
  refine (append_c h1 s b a c hs hb hk hN).mono ?_
  rintro e w' ⟨r1, r2, r3⟩
  exact ⟨r1, VE.step hg h3 h4 h5 r2 r3⟩

/-- What only reads. -/
theorem VE.reads {w' : World} (h : VE E w0 w p S N) (hb : Below w.heap.size w w') : VE E w0 w' p S N ∧ ∀ k, E k → w'.heap[k]? = w.heap[k]? :=
  ⟨(h.below hb).sub fun _ hk => .inl hk, fun k hk => hb.block k (h.lt hk)⟩

theorem used_e (h : VE E w0 w p S N) : Calls Tryd.prog 42 #[.pointer (some ⟨p, 0, none⟩)] w fun e w' => e = .returned (.int .i64 (VfsS.used S : Nat)) ∧ VE E w0 w' p S N ∧ ∀ k, E k → w'.heap[k]? = w.heap[k]? := by
  have h' := h
  obtain ⟨K, h1, hg, h3, h4, h5⟩ := h
  refine (used_c h1).mono ?_
  rintro e w' ⟨r1, r2⟩
  exact ⟨r1, h'.reads r2⟩

theorem left_e (h : VE E w0 w p S N) : Calls Tryd.prog 50 #[.pointer (some ⟨p, 0, none⟩)] w fun e w' => e = .returned (.int .i64 ((S.room : Int) - VfsS.used S)) ∧ VE E w0 w' p S N ∧ ∀ k, E k → w'.heap[k]? = w.heap[k]? := by
  have h' := h
  obtain ⟨K, h1, hg, h3, h4, h5⟩ := h
  refine (left_c h1).mono ?_
  rintro e w' ⟨r1, r2⟩
  exact ⟨r1, h'.reads r2⟩
end
end Go.Proofs.YtfoamcobpfflbaaDoor
