/- A file system that was made in the walk: all its blocks are new since w0. Each call once more, in the words of a law's walk. -/
import Derived.Test.YtfoamcobpfflbaaDoorVfsOpH
import Derived.Test.YtfoamcobpfflbaaDoorVfsList
namespace Go.Proofs.YtfoamcobpfflbaaDoor
open Go Go.RowKit Go.Maps
open VfsS (St)

/-- Behind p lies S; it was made since w0; nothing older has turned. -/
def VA (w0 w : World) (p : Nat) (S : St) (N : Nat) : Prop :=
  ∃ K, VRep w p S K N ∧ Gl w0 ∧ (∀ k, K k → w0.heap.size ≤ k ∧ k < w.heap.size) ∧ Below w0.heap.size w0 w

theorem VA.below {w0 w w' : World} {p : Nat} {S : St} {N : Nat} (h : VA w0 w p S N) (hb : Below w.heap.size w w') : VA w0 w' p S N := by
  obtain ⟨K, h1, h2, h3, h4⟩ := h
  exact ⟨K, h1.below hb, h2, fun k hk => ⟨(h3 k hk).1, Nat.lt_of_lt_of_le (h3 k hk).2 hb.size⟩, h4.trans (hb.mono h4.size)⟩

theorem VA.drewN {w0 w : World} {p : Nat} {S : St} {N : Nat} (h : VA w0 w p S N) (q : Nat) : VA w0 (w.drewN q) p S N := h.below (below_dN (Below.refl _ _) q)

theorem VA.out {w0 w : World} {p : Nat} {S : St} {N : Nat} (h : VA w0 w p S N) : Below w0.heap.size w0 w := by obtain ⟨_, _, _, _, h⟩ := h; exact h
theorem VA.gl {w0 w : World} {p : Nat} {S : St} {N : Nat} (h : VA w0 w p S N) : Gl w := by obtain ⟨_, _, h2, _, h⟩ := h; exact h2.below h (Nat.le_refl _)
theorem VA.wf {w0 w : World} {p : Nat} {S : St} {N : Nat} (h : VA w0 w p S N) : VfsS.Wf S := by obtain ⟨_, h, _⟩ := h; exact h.wf
theorem VA.big {w0 w : World} {p : Nat} {S : St} {N : Nat} (h : VA w0 w p S N) : N ≤ 100000000 := by obtain ⟨_, h, _⟩ := h; exact h.big
theorem VA.mono {w0 w : World} {p : Nat} {S : St} {N N' : Nat} (h : VA w0 w p S N) (hN : N ≤ N') (hb : N' ≤ 100000000) : VA w0 w p S N' := by
  obtain ⟨K, h1, h2⟩ := h
  exact ⟨K, h1.mono (fun _ h => h) hN hb, h2⟩

/-- What a call of the file system's own makes of it. -/
theorem VA.step {w0 w w' : World} {p : Nat} {S' : St} {N' : Nat} {K : Nat → Prop} (h2 : Gl w0) (h3 : ∀ k, K k → w0.heap.size ≤ k ∧ k < w.heap.size) (h4 : Below w0.heap.size w0 w)
    (h : VRep w' p S' (Kx K w.heap.size w'.heap.size) N') (ho : Only K w w') : VA w0 w' p S' N' :=
  ⟨_, h, h2, fun k hk => hk.elim (fun h => ⟨(h3 k h).1, Nat.lt_of_lt_of_le (h3 k h).2 ho.size⟩) (fun h => ⟨Nat.le_trans h4.size h.1, h.2⟩),
    h4.trans ⟨ho.os, ho.tape, ho.output, ho.size, fun k hk => ho.block k (Nat.lt_of_lt_of_le hk h4.size) (fun e => by have := (h3 k e).1; omega)⟩⟩

/-- A slice that doesn't lie in the file system. -/
def SlA (w0 w1 w : World) (a : Option Addr) (xs : List Value) : Prop :=
  xs = [] ∨ ∃ b o, a = some ⟨b, o, none⟩ ∧ b < w.heap.size ∧ (b < w0.heap.size ∨ w1.heap.size ≤ b) ∧ ∀ i u, xs[i]? = some u → w.cell? ⟨b, o + i, none⟩ = some u

theorem new_a (room : Int) (w : World) (hg : Gl w) :
    Calls Tryd.prog 14 #[.int .i64 room] w fun e w' => ((room < 0 ∨ 4194304 < room) ∧ e = .returned (.tuple #[.pointer none, .int .i64 1]) ∧ w' = w) ∨
      ((0 ≤ room ∧ room ≤ 4194304) ∧ ∃ p, e = .returned (.tuple #[.pointer (some ⟨p, 0, none⟩), .int .i64 0]) ∧ VA w w' p (VfsS.newS room.toNat) 0) := by
  refine (new_c room w).mono ?_
  rintro e w' (h | ⟨h1, p, h2, h3, h4, h5⟩)
  · exact .inl h
  · exact .inr ⟨h1, p, h2, _, h4, hg, fun k hk => hk.elim False.elim fun h => h, h5⟩

section
variable {w0 w : World} {p : Nat} {S : St} {N : Nat}

theorem create_a (h : VA w0 w p S N) (s : ByteArray) (hs : s.size ≤ 10000000) (hN : N + 3 ≤ 100000000) :
    Calls Tryd.prog 45 #[.pointer (some ⟨p, 0, none⟩), .string s] w fun e w' => e = .returned (.int .i64 (VfsS.createS S s).2) ∧ VA w0 w' p (VfsS.createS S s).1 (N + 3) := by
  have hg := h.gl
  obtain ⟨K, h1, h2, h3, h4⟩ := h
  refine (create_c h1 s hs hN hg).mono ?_
  rintro e w' ⟨r1, r2, r3⟩
  exact ⟨r1, VA.step h2 h3 h4 r2 r3⟩

theorem append_a {w1 : World} (h : VA w0 w1 p S N) (hb : Below w1.heap.size w1 w) (s b : ByteArray) (a : Option Addr) (c : Nat) (hs : s.size ≤ 10000000) (hbs : b.size ≤ 10000000) (hsl : SlA w0 w1 w a (byteCells b)) (hN : N + 2 ≤ 100000000) :
    Calls Tryd.prog 27 #[.pointer (some ⟨p, 0, none⟩), .string s, .slice a b.size c] w fun e w' => e = .returned (.int .i64 (VfsS.appendS S s b).2) ∧ VA w0 w' p (VfsS.appendS S s b).1 (N + 2) := by
  have h' := h.below hb
  obtain ⟨K, h1, h2, h3, h4⟩ := h
  have h4' := h4.trans (hb.mono h4.size)
  have hk : SlK K w a (byteCells b) := by
    rcases hsl with h | ⟨x, o, r1, r2, r3, r4⟩
    · exact .inl h
    · exact .inr ⟨x, o, r1, r2, fun e => by have := h3 x e; omega, r4⟩
  refine (append_c (h1.below hb) s b a c hs hbs hk hN).mono ?_
  rintro e w' ⟨r1, r2, r3⟩
  exact ⟨r1, VA.step h2 (fun k hk => ⟨(h3 k hk).1, Nat.lt_of_lt_of_le (h3 k hk).2 hb.size⟩) h4' r2 r3⟩

theorem sync_a (h : VA w0 w p S N) (s : ByteArray) (hs : s.size ≤ 10000000) (hN : N + 2 ≤ 100000000) :
    Calls Tryd.prog 46 #[.pointer (some ⟨p, 0, none⟩), .string s] w fun e w' => e = .returned (.int .i64 (VfsS.syncS S s).2) ∧ VA w0 w' p (VfsS.syncS S s).1 (N + 2) := by
  obtain ⟨K, h1, h2, h3, h4⟩ := h
  refine (sync_c h1 s hs hN).mono ?_
  rintro e w' ⟨r1, r2, r3⟩
  exact ⟨r1, VA.step h2 h3 h4 r2 r3⟩

theorem cut_a (h : VA w0 w p S N) (s : ByteArray) (n : Int) (hs : s.size ≤ 10000000) (hN : N + 2 ≤ 100000000) :
    Calls Tryd.prog 49 #[.pointer (some ⟨p, 0, none⟩), .string s, .int .i64 n] w fun e w' => e = .returned (.int .i64 (VfsS.cutS S s n).2) ∧ VA w0 w' p (VfsS.cutS S s n).1 (N + 2) := by
  obtain ⟨K, h1, h2, h3, h4⟩ := h
  refine (cut_c h1 s n hs hN).mono ?_
  rintro e w' ⟨r1, r2, r3⟩
  exact ⟨r1, VA.step h2 h3 h4 r2 r3⟩

theorem remove_a (h : VA w0 w p S N) (s : ByteArray) (hs : s.size ≤ 10000000) (hN : N + 2 ≤ 100000000) :
    Calls Tryd.prog 51 #[.pointer (some ⟨p, 0, none⟩), .string s] w fun e w' => e = .returned (.int .i64 (VfsS.removeS S s).2) ∧ VA w0 w' p (VfsS.removeS S s).1 (N + 2) := by
  obtain ⟨K, h1, h2, h3, h4⟩ := h
  refine (remove_c h1 s hs hN).mono ?_
  rintro e w' ⟨r1, r2, r3⟩
  exact ⟨r1, VA.step h2 h3 h4 r2 r3⟩

theorem rename_a (h : VA w0 w p S N) (s t : ByteArray) (hs : s.size ≤ 10000000) (ht : t.size ≤ 10000000) (hN : N + 2 ≤ 100000000) :
    Calls Tryd.prog 48 #[.pointer (some ⟨p, 0, none⟩), .string s, .string t] w fun e w' => e = .returned (.int .i64 (VfsS.renameS S s t).2) ∧ VA w0 w' p (VfsS.renameS S s t).1 (N + 2) := by
  have hg := h.gl
  obtain ⟨K, h1, h2, h3, h4⟩ := h
  refine (rename_c h1 s t hs ht hN hg).mono ?_
  rintro e w' ⟨r1, r2, r3⟩
  exact ⟨r1, VA.step h2 h3 h4 r2 r3⟩

theorem flush_a (h : VA w0 w p S N) (hN : N + 2 ≤ 100000000) :
    Calls Tryd.prog 19 #[.pointer (some ⟨p, 0, none⟩)] w fun e w' => e = .returned (.int .i64 (VfsS.flushAllS S).2) ∧ VA w0 w' p (VfsS.flushAllS S).1 (N + 2) := by
  obtain ⟨K, h1, h2, h3, h4⟩ := h
  refine (flushAll_c h1 hN).mono ?_
  rintro e w' ⟨r1, r2, r3⟩
  exact ⟨r1, VA.step h2 h3 h4 r2 r3⟩

theorem crash_a (h : VA w0 w p S N) (x y : Int) :
    Calls Tryd.prog 25 #[.pointer (some ⟨p, 0, none⟩), .int .i64 x, .int .i64 y] w fun e w' => e = .returned (.tuple #[]) ∧ VA w0 w' p (VfsS.crashS S x y) N := by
  obtain ⟨K, h1, h2, h3, h4⟩ := h
  refine (crash_c h1 x y).mono ?_
  rintro e w' ⟨r1, r2, r3⟩
  exact ⟨r1, VA.step h2 h3 h4 r2 r3⟩

theorem stop_a (h : VA w0 w p S N) (n : Int) (hn : -9223372036854775808 ≤ n ∧ n ≤ 9223372036854775807) :
    Calls Tryd.prog 47 #[.pointer (some ⟨p, 0, none⟩), .int .i64 n] w fun e w' => e = .returned (.tuple #[]) ∧ VA w0 w' p { S with limit := n } N := by
  obtain ⟨K, h1, h2, h3, h4⟩ := h
  have hp : K p := by obtain ⟨_, _, _, _, _, _, _, hk, _⟩ := h1; exact hk
  refine (stop_c h1 n hn).mono ?_
  rintro e w' ⟨r1, r2, r3⟩
  refine ⟨r1, VA.step h2 h3 h4 (r2.mono (fun k hk => .inl hk) (Nat.le_refl _) h1.big) (Only.of_grown r3 fun k e => ?_)⟩
  injection e with e; subst e; exact hp

theorem read_a (h : VA w0 w p S N) (s : ByteArray) (hs : s.size ≤ 10000000) :
    Calls Tryd.prog 34 #[.pointer (some ⟨p, 0, none⟩), .string s] w fun e w' => ∃ a c, e = .returned (.tuple #[.slice a ((VfsS.readS S s).getD ByteArray.empty).size c, .int .i64 (if (VfsS.readS S s).isSome then 0 else 4)]) ∧
      SlA w0 w w' a (byteCells ((VfsS.readS S s).getD ByteArray.empty)) ∧ Below w.heap.size w w' ∧ VA w0 w' p S N := by
  have h' := h
  obtain ⟨K, h1, h2, h3, h4⟩ := h
  refine (read_c h1 s hs).mono ?_
  rintro e w' ⟨v, r1, r2, r3, r4⟩
  obtain ⟨a, c, rfl, -, -, hsl⟩ := r2.form
  refine ⟨a, c, r1, ?_, r4, h'.below r4⟩
  rcases hsl with h | ⟨x, o, e1, e2, e3⟩
  · exact .inl h
  · subst e1
    by_cases hx : byteCells ((VfsS.readS S s).getD ByteArray.empty) = []
    · exact .inl hx
    · refine .inr ⟨x, o, rfl, e2, .inr (r3 x ?_), e3⟩
      rfl

theorem used_a (h : VA w0 w p S N) : Calls Tryd.prog 42 #[.pointer (some ⟨p, 0, none⟩)] w fun e w' => e = .returned (.int .i64 (VfsS.used S : Nat)) ∧ VA w0 w' p S N := by
  have h' := h
  obtain ⟨K, h1, h2, h3, h4⟩ := h
  refine (used_c h1).mono ?_
  rintro e w' ⟨r1, r2⟩
  exact ⟨r1, h'.below r2⟩

theorem left_a (h : VA w0 w p S N) : Calls Tryd.prog 50 #[.pointer (some ⟨p, 0, none⟩)] w fun e w' => e = .returned (.int .i64 ((S.room : Int) - VfsS.used S)) ∧ VA w0 w' p S N := by
  have h' := h
  obtain ⟨K, h1, h2, h3, h4⟩ := h
  refine (left_c h1).mono ?_
  rintro e w' ⟨r1, r2⟩
  exact ⟨r1, h'.below r2⟩

theorem steps_a (h : VA w0 w p S N) : Calls Tryd.prog 54 #[.pointer (some ⟨p, 0, none⟩)] w fun e w' => e = .returned (.int .i64 S.steps) ∧ w' = w := by
  obtain ⟨K, h1, h2, h3, h4⟩ := h
  exact steps_c h1

theorem list_a (h : VA w0 w p S N) : Calls Tryd.prog 79 #[.pointer (some ⟨p, 0, none⟩)] w fun e w' => ∃ a c, e = .returned (.slice a S.now.length c) ∧ Sl w' a ((namesL S.now).map Go.Proofs.encStr) ∧ Below w.heap.size w w' ∧ VA w0 w' p S N := by
  have h' := h
  obtain ⟨K, h1, h2, h3, h4⟩ := h
  refine (list_c h1).mono ?_
  rintro e w' ⟨v, r1, r2, r3⟩
  obtain ⟨a, c, rfl, -, -, hsl⟩ := (OwnG.of_own r2).form
  exact ⟨a, c, r1, hsl, r3, h'.below r3⟩
end
end Go.Proofs.YtfoamcobpfflbaaDoor
