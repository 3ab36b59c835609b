/- Texts of mine, joined: (*vfs.FS).List: the names, sorted. | A file system that was made in the walk: all its blocks are new since w0. Each call once more, in the words of a law's walk. | A file system that was made in the walk beside blocks E that are not its own: each call leaves them as they are. (Printed by a program of mine: /wip/mkve.py) -/
import Derived.Test.YtfoamcobpfflbaaDoorIterL
import Derived.Sort.KeysCollected
import Derived.Test.YtfoamcobpfflbaaDoorZ25
namespace Go.Proofs
open Go.RowKit Go.Maps Go.Sort Go.Shelf

theorem Tryd.sorts_s (m : Nat) : AnyZ.SortsIn Tryd.prog Tryd.sorted93_ren Fence.wide m :=
  ⟨fun blk off cap ss W hH hblk hsz => callsIn_wide.2 (AnyM.slices_Sort_string Tryd.sort101 blk off cap ss W hH hblk hsz),
   fun p cap W => callsIn_wide.2 (AnyM.slices_Sort_string_none Tryd.sort101 p cap W)⟩

theorem Tryd.keys_s (mb : Option Nat) (W : World) : CallsIn Fence.wide 5 Tryd.prog 94 #[.map mb] W fun e w' => e = .returned (.func (.func 102) #[] #[.pointer (some ⟨W.heap.size, 0, none⟩)]) ∧ w' = W.alloc (.cells #[.map mb] 109) :=
  AnyZ.keys_in Tryd.keys94 Fence.wide 5 trivial rfl mb W

set_option maxHeartbeats 1000000 in
theorem Tryd.sorted_s {H : Type} (b nn : Nat) (D0 : DataW H) (R : Value → Option (DataW H × List MemPlace)) (w : World) (hown : w.ownsMap Tryd.prog 9 R b nn D0) (hmax : Maps.size D0 ≤ maxLen) (hbytes : Maps.size D0 * 16 ≤ 140737488355328) :
    CallsIn Fence.wide 5 Tryd.prog 93 #[.func (.func 102) #[] #[.pointer (some ⟨w.heap.size, 0, none⟩)]] (w.alloc (.cells #[.map (some b)] 109)) fun e w' => ∃ (v : Value) (ss : List (List UInt8)), e = .returned v ∧ ss.Perm (strKeys D0) ∧
      w'.ownsRow (w.alloc (.cells #[.map (some b)] 109)).heap.size 9 1 v ss.length ((ss.mergeSort (fun x y => decide (x ≤ y))).map encStr) ∧ (v = .slice none 0 0 ↔ ss = []) ∧ Below (w.alloc (.cells #[.map (some b)] 109)).heap.size (w.alloc (.cells #[.map (some b)] 109)) w' := by
  have hbl := hown.lt
  have hseq : SeqGives Fence.wide 2 Tryd.prog 102 #[.pointer (some ⟨w.heap.size, 0, none⟩)] encStr (fun ss => ss.Perm (strKeys D0)) (Maps.size D0) (w.alloc (.cells #[.map (some b)] 109)) :=
    AnyZ.keys_gives (ρ := Tryd.keys94_ren) { Tryd.keys94 with } Fence.wide _ trivial rfl (by omega) w.heap.size b nn D0 _ (by simp) (by simp) (by
      obtain ⟨es, clock, hb, Ft, hs, hD⟩ := hown
      exact ⟨es, clock, (Below.heap_alloc _ _ b hbl).trans hb, Ft, hs, hD⟩)
  exact AnyZ.sorted_in Tryd.sorted93 Fence.wide 5 trivial trivial trivial trivial rfl (by omega) (Tryd.sorts_s _) (enters_of Tryd.func101 (by kernel_rfl) rfl) 102 #[.pointer (some ⟨w.heap.size, 0, none⟩)] trivial (enters_of Tryd.func102 (by kernel_rfl) rfl) _ _ hmax hbytes _ hseq

namespace YtfoamcobpfflbaaDoor

/-- The names as lists of bytes, sorted. -/
def namesL (l : VfsS.Nm) : List (List UInt8) := (l.map fun p => p.1.data.toList).mergeSort leB

theorem namesL_len (l : VfsS.Nm) : (namesL l).length = l.length := by unfold namesL; rw [List.length_mergeSort, List.length_map]

theorem keys_perm {w : World} {b n : Nat} {φ : Nat → Nat} {l : VfsS.Nm} (h : MapG NC w b n (nmF φ l)) (hn : (l.map (·.1)).Nodup) :
    ∃ D, w.ownsMap Tryd.prog 9 NC.R b n D ∧ (l.map fun p => p.1.data.toList).Perm (strKeys D) ∧ Maps.size D = l.length ∧ Maps.size D ≤ n := by
  obtain ⟨D, h1, h2, h3, h4⟩ := h
  have hsz := h1.size_le
  refine ⟨D, h1, ?_⟩
  obtain ⟨es, hD, hpw⟩ := h2
  obtain ⟨es', hD', hko⟩ := h1.keysOf
  obtain rfl : es = es' := by rw [hD] at hD'; simpa using hD'
  subst hD
  have hinj : ∀ x y : ByteArray, x.data.toList = y.data.toList → x = y := fun x y e => by
    cases x; cases y; congr 1; exact Array.toList_inj.1 e
  have hnd : (l.map fun p => p.1.data.toList).Nodup := by
    have := hn
    rw [show (l.map fun p => p.1.data.toList) = (l.map (·.1)).map (fun s => s.data.toList) by rw [List.map_map]; rfl]
    exact List.Pairwise.map _ (fun x y hxy e => hxy (hinj x y e)) this
  have hp : (l.map fun p => p.1.data.toList).Perm (strKeys (DataW.map es)) := by
    refine perm_strKeys hpw (fun p hp => by obtain ⟨v, hv⟩ := hko p hp; obtain ⟨x, _, hx, _⟩ := Maps.keyOf_str Tryd.underlying9 hv; exact ⟨x, hx⟩) hnd (fun x => ?_)
    constructor
    · intro hx
      rw [List.mem_map] at hx
      obtain ⟨p, hp, rfl⟩ := hx
      have hs : (nmF φ l p.1).isSome = true := (nmF_mem φ l p.1).1 (List.mem_map.2 ⟨p, hp, rfl⟩)
      obtain ⟨a, ha⟩ := Option.isSome_iff_exists.1 hs
      have := (h3 p.1 (h4 _ _ ha).1).1
      rw [hs] at this
      exact this
    · intro hx
      rw [has_eq, List.any_eq_true] at hx
      obtain ⟨p, hp, hs⟩ := hx
      obtain ⟨v, hv⟩ := hko p hp
      obtain ⟨y, _, hy, hle⟩ := Maps.keyOf_str Tryd.underlying9 hv
      have e : y = x := by rw [hy] at hs; simpa [Lit.sameKey] using hs
      subst e
      have hok : NC.okK ⟨y.toArray⟩ := by show ByteArray.size _ ≤ maxLen; simpa [ByteArray.size] using hle
      have h5 := (h3 ⟨y.toArray⟩ hok).1
      have h6 : has (DataW.map es) (NC.lit ⟨y.toArray⟩) = true := by
        rw [has_eq, List.any_eq_true]
        exact ⟨p, hp, by rw [hy]; simp [NC, Lit.sameKey]⟩
      rw [h6] at h5
      have h7 := (nmF_mem φ l ⟨y.toArray⟩).2 h5.symm
      rw [List.mem_map] at h7 ⊢
      obtain ⟨q, hq, e⟩ := h7
      exact ⟨q, hq, by rw [e]⟩
  refine ⟨hp, ?_, hsz⟩
  have := hp.length_eq
  rw [List.length_map] at this
  rw [this]
  simp [strKeys, size]

set_option maxHeartbeats 1000000 in
/-- List. -/
theorem list_c {w : World} {p : Nat} {S : VfsS.St} {K : Nat → Prop} {N : Nat} (h : VRep w p S K N) :
    Calls Tryd.prog 79 #[.pointer (some ⟨p, 0, none⟩)] w fun e w' => ∃ v, e = .returned v ∧ w'.ownsRow w.heap.size 9 1 v S.now.length ((namesL S.now).map encStr) ∧ Below w.heap.size w w' := by
  obtain ⟨bn, bs, av, φ, ψ, hB, hp, hkp, hs⟩ := h
  obtain ⟨n1, hn1, m1⟩ := hB.now
  obtain ⟨D, hown, hperm, hsz, hle⟩ := keys_perm m1 hB.wf.dn
  have hbig := hB.big
  have hmax : Maps.size D ≤ maxLen := Nat.le_trans hle (by have : maxLen = 9223372036854775807 := rfl; omega)
  have hbytes : Maps.size D * 16 ≤ 140737488355328 := by omega
  have c0 : w.cell? ⟨p, 0, none⟩ = some (.map (some bn)) := by rw [cell_of hp]; rfl
  clear m1 hB hp
  refine (callsIn_wide (n := 6)).1 ?_
  have hfK : Fence.wide.fn 94 := trivial
  have hfS : Fence.wide.fn 93 := trivial
  refine callsIn_of_wp Tryd.func79 rfl trivial ?_ rfl
  simp only [Tryd.ntmps79, List.size_toArray, List.length_cons, List.length_nil, Nat.reduceAdd, Nat.reduceSub, Array.replicate_succ, Array.replicate_zero, List.push_toArray, List.append_toArray, List.nil_append, List.cons_append]
  gi_wp2_with (first
    | (gi_at_call 94; refine (Tryd.keys_s _ _).mono ?_; rintro e w' ⟨rfl, rfl⟩)
    | (gi_at_call 93; refine (Tryd.sorted_s bn n1 D NC.R w hown hmax hbytes).mono ?_; rintro e w' ⟨v, ss, rfl, hS, hrow, hnil, hb⟩))
  go_ret
  have e1 : ss.mergeSort (fun x y => decide (x ≤ y)) = namesL S.now := mergeSort_of_perm (hS.trans hperm.symm)
  have e2 : ss.length = S.now.length := by rw [(hS.trans hperm.symm).length_eq, List.length_map]
  rw [e1, e2] at hrow
  exact ⟨v, rfl, ownsRow_base_a hrow (by simp), ((Below.refl _ w).alloc (Nat.le_refl _) _).trans (hb.mono (by simp))⟩
end YtfoamcobpfflbaaDoor
end Go.Proofs
namespace Go.Proofs.YtfoamcobpfflbaaDoor
open Go Go.RowKit Go.Maps
open VfsS (St)

/-- Behind p lies S; it was made since w0; nothing older has turned. -/
def VA (w0 w : World) (p : Nat) (S : St) (N : Nat) : Prop :=
  ∃ K, VRep w p S K N ∧ Gl w0 ∧ (∀ k, K k → w0.heap.size ≤ k ∧ k < w.heap.size) ∧ Below w0.heap.size w0 w

theorem VA.below {w0 w w' : World} {p : Nat} {S : St} {N : Nat} (h : VA w0 w p S N) (hb : Below w.heap.size w w') : VA w0 w' p S N := by
  obtain ⟨K, h1, h2, h3, h4⟩ := h
  exact ⟨K, h1.below hb, h2, fun k hk => ⟨(h3 k hk).1, Nat.lt_of_lt_of_le (h3 k hk).2 hb.size⟩, h4.trans (hb.mono h4.size)⟩

theorem VA.drewN {w0 w : World} {p : Nat} {S : St} {N : Nat} (h : VA w0 w p S N) (q : Nat) : VA w0 (w.drewN q) p S N := h.below (below_dN (Below.refl _ _) q)

theorem VA.out {w0 w : World} {p : Nat} {S : St} {N : Nat} (h : VA w0 w p S N) : Below w0.heap.size w0 w := by obtain ⟨_, _, _, _, h⟩ := h; exact h
theorem VA.gl {w0 w : World} {p : Nat} {S : St} {N : Nat} (h : VA w0 w p S N) : Gl w := by obtain ⟨_, _, h2, _, h⟩ := h; exact h2.below h (Nat.le_refl _)
theorem VA.wf {w0 w : World} {p : Nat} {S : St} {N : Nat} (h : VA w0 w p S N) : VfsS.Wf S := by obtain ⟨_, h, _⟩ := h; exact h.wf
theorem VA.big {w0 w : World} {p : Nat} {S : St} {N : Nat} (h : VA w0 w p S N) : N ≤ 100000000 := by obtain ⟨_, h, _⟩ := h; exact h.big
theorem VA.mono {w0 w : World} {p : Nat} {S : St} {N N' : Nat} (h : VA w0 w p S N) (hN : N ≤ N') (hb : N' ≤ 100000000) : VA w0 w p S N' := by
  obtain ⟨K, h1, h2⟩ := h
  exact ⟨K, h1.mono (fun _ h => h) hN hb, h2⟩

/-- What a call of the file system's own makes of it. -/
theorem VA.step {w0 w w' : World} {p : Nat} {S' : St} {N' : Nat} {K : Nat → Prop} (h2 : Gl w0) (h3 : ∀ k, K k → w0.heap.size ≤ k ∧ k < w.heap.size) (h4 : Below w0.heap.size w0 w)
    (h : VRep w' p S' (Kx K w.heap.size w'.heap.size) N') (ho : Only K w w') : VA w0 w' p S' N' :=
  ⟨_, h, h2, fun k hk => hk.elim (fun h => ⟨(h3 k h).1, Nat.lt_of_lt_of_le (h3 k h).2 ho.size⟩) (fun h => ⟨Nat.le_trans h4.size h.1, h.2⟩),
    h4.trans ⟨ho.os, ho.tape, ho.output, ho.size, fun k hk => ho.block k (Nat.lt_of_lt_of_le hk h4.size) (fun e => by have := (h3 k e).1; omega)⟩⟩

/-- A slice that doesn't lie in the file system. -/
def SlA (w0 w1 w : World) (a : Option Addr) (xs : List Value) : Prop :=
  xs = [] ∨ ∃ b o, a = some ⟨b, o, none⟩ ∧ b < w.heap.size ∧ (b < w0.heap.size ∨ w1.heap.size ≤ b) ∧ ∀ i u, xs[i]? = some u → w.cell? ⟨b, o + i, none⟩ = some u

theorem new_a (room : Int) (w : World) (hg : Gl w) :
    Calls Tryd.prog 14 #[.int .i64 room] w fun e w' => ((room < 0 ∨ 4194304 < room) ∧ e = .returned (.tuple #[.pointer none, .int .i64 1]) ∧ w' = w) ∨
      ((0 ≤ room ∧ room ≤ 4194304) ∧ ∃ p, e = .returned (.tuple #[.pointer (some ⟨p, 0, none⟩), .int .i64 0]) ∧ VA w w' p (VfsS.newS room.toNat) 0) := by
  refine (new_c room w).mono ?_
  rintro e w' (h | ⟨h1, p, h2, h3, h4, h5⟩)
  · exact .inl h
  · exact .inr ⟨h1, p, h2, _, h4, hg, fun k hk => hk.elim False.elim fun h => h, h5⟩

section
variable {w0 w : World} {p : Nat} {S : St} {N : Nat}

theorem create_a (h : VA w0 w p S N) (s : ByteArray) (hs : s.size ≤ 10000000) (hN : N + 3 ≤ 100000000) :
    Calls Tryd.prog 45 #[.pointer (some ⟨p, 0, none⟩), .string s] w fun e w' => e = .returned (.int .i64 (VfsS.createS S s).2) ∧ VA w0 w' p (VfsS.createS S s).1 (N + 3) := by
  have hg := h.gl
  obtain ⟨K, h1, h2, h3, h4⟩ := h
  refine (create_c h1 s hs hN hg).mono ?_
  rintro e w' ⟨r1, r2, r3⟩
  exact ⟨r1, VA.step h2 h3 h4 r2 r3⟩

theorem append_a {w1 : World} (h : VA w0 w1 p S N) (hb : Below w1.heap.size w1 w) (s b : ByteArray) (a : Option Addr) (c : Nat) (hs : s.size ≤ 10000000) (hbs : b.size ≤ 10000000) (hsl : SlA w0 w1 w a (byteCells b)) (hN : N + 2 ≤ 100000000) :
    Calls Tryd.prog 27 #[.pointer (some ⟨p, 0, none⟩), .string s, .slice a b.size c] w fun e w' => e = .returned (.int .i64 (VfsS.appendS S s b).2) ∧ VA w0 w' p (VfsS.appendS S s b).1 (N + 2) := by
  have h' := h.below hb
  obtain ⟨K, h1, h2, h3, h4⟩ := h
  have h4' := h4.trans (hb.mono h4.size)
  have hk : SlK K w a (byteCells b) := by
    rcases hsl with h | ⟨x, o, r1, r2, r3, r4⟩
    · exact .inl h
    · exact .inr ⟨x, o, r1, r2, fun e => by have := h3 x e; omega, r4⟩
  refine (append_c (h1.below hb) s b a c hs hbs hk hN).mono ?_
  rintro e w' ⟨r1, r2, r3⟩
  exact ⟨r1, VA.step h2 (fun k hk => ⟨(h3 k hk).1, Nat.lt_of_lt_of_le (h3 k hk).2 hb.size⟩) h4' r2 r3⟩

theorem sync_a (h : VA w0 w p S N) (s : ByteArray) (hs : s.size ≤ 10000000) (hN : N + 2 ≤ 100000000) :
    Calls Tryd.prog 46 #[.pointer (some ⟨p, 0, none⟩), .string s] w fun e w' => e = .returned (.int .i64 (VfsS.syncS S s).2) ∧ VA w0 w' p (VfsS.syncS S s).1 (N + 2) := by
  obtain ⟨K, h1, h2, h3, h4⟩ := h
  refine (sync_c h1 s hs hN).mono ?_
  rintro e w' ⟨r1, r2, r3⟩
  exact ⟨r1, VA.step h2 h3 h4 r2 r3⟩

theorem cut_a (h : VA w0 w p S N) (s : ByteArray) (n : Int) (hs : s.size ≤ 10000000) (hN : N + 2 ≤ 100000000) :
    Calls Tryd.prog 49 #[.pointer (some ⟨p, 0, none⟩), .string s, .int .i64 n] w fun e w' => e = .returned (.int .i64 (VfsS.cutS S s n).2) ∧ VA w0 w' p (VfsS.cutS S s n).1 (N + 2) := by
  obtain ⟨K, h1, h2, h3, h4⟩ := h
  refine (cut_c h1 s n hs hN).mono ?_
  rintro e w' ⟨r1, r2, r3⟩
  exact ⟨r1, VA.step h2 h3 h4 r2 r3⟩

theorem remove_a (h : VA w0 w p S N) (s : ByteArray) (hs : s.size ≤ 10000000) (hN : N + 2 ≤ 100000000) :
    Calls Tryd.prog 51 #[.pointer (some ⟨p, 0, none⟩), .string s] w fun e w' => e = .returned (.int .i64 (VfsS.removeS S s).2) ∧ VA w0 w' p (VfsS.removeS S s).1 (N + 2) := by
  obtain ⟨K, h1, h2, h3, h4⟩ := h
  refine (remove_c h1 s hs hN).mono ?_
  rintro e w' ⟨r1, r2, r3⟩
  exact ⟨r1, VA.step h2 h3 h4 r2 r3⟩

theorem rename_a (h : VA w0 w p S N) (s t : ByteArray) (hs : s.size ≤ 10000000) (ht : t.size ≤ 10000000) (hN : N + 2 ≤ 100000000) :
    Calls Tryd.prog 48 #[.pointer (some ⟨p, 0, none⟩), .string s, .string t] w fun e w' => e = .returned (.int .i64 (VfsS.renameS S s t).2) ∧ VA w0 w' p (VfsS.renameS S s t).1 (N + 2) := by
  have hg := h.gl
  obtain ⟨K, h1, h2, h3, h4⟩ := h
  refine (rename_c h1 s t hs ht hN hg).mono ?_
  rintro e w' ⟨r1, r2, r3⟩
  exact ⟨r1, VA.step h2 h3 h4 r2 r3⟩

theorem flush_a (h : VA w0 w p S N) (hN : N + 2 ≤ 100000000) :
    Calls Tryd.prog 19 #[.pointer (some ⟨p, 0, none⟩)] w fun e w' => e = .returned (.int .i64 (VfsS.flushAllS S).2) ∧ VA w0 w' p (VfsS.flushAllS S).1 (N + 2) := by
  obtain ⟨K, h1, h2, h3, h4⟩ := h
  refine (flushAll_c h1 hN).mono ?_
  rintro e w' ⟨r1, r2, r3⟩
  exact ⟨r1, VA.step h2 h3 h4 r2 r3⟩

theorem crash_a (h : VA w0 w p S N) (x y : Int) :
    Calls Tryd.prog 25 #[.pointer (some ⟨p, 0, none⟩), .int .i64 x, .int .i64 y] w fun e w' => e = .returned (.tuple #[]) ∧ VA w0 w' p (VfsS.crashS S x y) N := by
  obtain ⟨K, h1, h2, h3, h4⟩ := h
  refine (crash_c h1 x y).mono ?_
  rintro e w' ⟨r1, r2, r3⟩
  exact ⟨r1, VA.step h2 h3 h4 r2 r3⟩

theorem stop_a (h : VA w0 w p S N) (n : Int) (hn : -9223372036854775808 ≤ n ∧ n ≤ 9223372036854775807) :
    Calls Tryd.prog 47 #[.pointer (some ⟨p, 0, none⟩), .int .i64 n] w fun e w' => e = .returned (.tuple #[]) ∧ VA w0 w' p { S with limit := n } N := by
  obtain ⟨K, h1, h2, h3, h4⟩ := h
  have hp : K p := by obtain ⟨_, _, _, _, _, _, _, hk, _⟩ := h1; exact hk
  refine (stop_c h1 n hn).mono ?_
  rintro e w' ⟨r1, r2, r3⟩
  refine ⟨r1, VA.step h2 h3 h4 (r2.mono (fun k hk => .inl hk) (Nat.le_refl _) h1.big) (Only.of_grown r3 fun k e => ?_)⟩
  injection e with e; subst e; exact hp

theorem read_a (h : VA w0 w p S N) (s : ByteArray) (hs : s.size ≤ 10000000) :
    Calls Tryd.prog 34 #[.pointer (some ⟨p, 0, none⟩), .string s] w fun e w' => ∃ a c, e = .returned (.tuple #[.slice a ((VfsS.readS S s).getD ByteArray.empty).size c, .int .i64 (if (VfsS.readS S s).isSome then 0 else 4)]) ∧
      SlA w0 w w' a (byteCells ((VfsS.readS S s).getD ByteArray.empty)) ∧ Below w.heap.size w w' ∧ VA w0 w' p S N := by
  have h' := h
  obtain ⟨K, h1, h2, h3, h4⟩ := h
  refine (read_c h1 s hs).mono ?_
  rintro e w' ⟨v, r1, r2, r3, r4⟩
  obtain ⟨a, c, rfl, -, -, hsl⟩ := r2.form
  refine ⟨a, c, r1, ?_, r4, h'.below r4⟩
  rcases hsl with h | ⟨x, o, e1, e2, e3⟩
  · exact .inl h
  · subst e1
    by_cases hx : byteCells ((VfsS.readS S s).getD ByteArray.empty) = []
    · exact .inl hx
    · refine .inr ⟨x, o, rfl, e2, .inr (r3 x ?_), e3⟩
      rfl

theorem used_a (h : VA w0 w p S N) : Calls Tryd.prog 42 #[.pointer (some ⟨p, 0, none⟩)] w fun e w' => e = .returned (.int .i64 (VfsS.used S : Nat)) ∧ VA w0 w' p S N := by
  have h' := h
  obtain ⟨K, h1, h2, h3, h4⟩ := h
  refine (used_c h1).mono ?_
  rintro e w' ⟨r1, r2⟩
  exact ⟨r1, h'.below r2⟩

theorem left_a (h : VA w0 w p S N) : Calls Tryd.prog 50 #[.pointer (some ⟨p, 0, none⟩)] w fun e w' => e = .returned (.int .i64 ((S.room : Int) - VfsS.used S)) ∧ VA w0 w' p S N := by
  have h' := h
  obtain ⟨K, h1, h2, h3, h4⟩ := h
  refine (left_c h1).mono ?_
  rintro e w' ⟨r1, r2⟩
  exact ⟨r1, h'.below r2⟩

theorem steps_a (h : VA w0 w p S N) : Calls Tryd.prog 54 #[.pointer (some ⟨p, 0, none⟩)] w fun e w' => e = .returned (.int .i64 S.steps) ∧ w' = w := by
  obtain ⟨K, h1, h2, h3, h4⟩ := h
  exact steps_c h1

theorem list_a (h : VA w0 w p S N) : Calls Tryd.prog 79 #[.pointer (some ⟨p, 0, none⟩)] w fun e w' => ∃ a c, e = .returned (.slice a S.now.length c) ∧ Sl w' a ((namesL S.now).map Go.Proofs.encStr) ∧ Below w.heap.size w w' ∧ VA w0 w' p S N := by
  have h' := h
  obtain ⟨K, h1, h2, h3, h4⟩ := h
  refine (list_c h1).mono ?_
  rintro e w' ⟨v, r1, r2, r3⟩
  obtain ⟨a, c, rfl, -, -, hsl⟩ := (OwnG.of_own r2).form
  exact ⟨a, c, r1, hsl, r3, h'.below r3⟩
end
end Go.Proofs.YtfoamcobpfflbaaDoor
namespace Go.Proofs.YtfoamcobpfflbaaDoor
open Go Go.RowKit Go.Maps
open VfsS (St)

/-- Behind p lies S; it was made since w0; nothing older has turned; E's blocks are new since w0, and not its own. -/
def VE (E : Nat → Prop) (w0 w : World) (p : Nat) (S : St) (N : Nat) : Prop :=
  ∃ K, VRep w p S K N ∧ Gl w0 ∧ (∀ k, K k → w0.heap.size ≤ k ∧ k < w.heap.size) ∧ (∀ k, E k → ¬ K k ∧ w0.heap.size ≤ k ∧ k < w.heap.size) ∧ Below w0.heap.size w0 w

theorem VE.toA {E : Nat → Prop} {w0 w : World} {p : Nat} {S : St} {N : Nat} (h : VE E w0 w p S N) : VA w0 w p S N := by
  obtain ⟨K, h1, hg, h3, h4, h5⟩ := h
  exact ⟨K, h1, hg, h3, h5⟩
theorem VA.toE {w0 w : World} {p : Nat} {S : St} {N : Nat} (h : VA w0 w p S N) : VE (fun _ => False) w0 w p S N := by
  obtain ⟨K, h1, hg, h3, h5⟩ := h
  exact ⟨K, h1, hg, h3, fun k h => h.elim, h5⟩

theorem VE.sub {E E' : Nat → Prop} {w0 w : World} {p : Nat} {S : St} {N : Nat} (h : VE E w0 w p S N) (he : ∀ k, E' k → E k) : VE E' w0 w p S N := by
  obtain ⟨K, h1, hg, h3, h4, h5⟩ := h
  exact ⟨K, h1, hg, h3, fun k hk => h4 k (he k hk), h5⟩

/-- What turns none but E's blocks and makes new ones, which are E's then. -/
theorem VE.foreign {E : Nat → Prop} {w0 w w' : World} {p : Nat} {S : St} {N : Nat} (h : VE E w0 w p S N) (ho : Only E w w') : VE (Kx E w.heap.size w'.heap.size) w0 w' p S N := by
  obtain ⟨K, h1, hg, h3, h4, h5⟩ := h
  refine ⟨K, h1.keep fun k hk hK => ho.block k hk (fun e => (h4 k e).1 hK), hg, fun k hk => ⟨(h3 k hk).1, Nat.lt_of_lt_of_le (h3 k hk).2 ho.size⟩, fun k hk => ?_, ?_⟩
  · rcases hk with hk | hk
    · exact ⟨(h4 k hk).1, (h4 k hk).2.1, Nat.lt_of_lt_of_le (h4 k hk).2.2 ho.size⟩
    · exact ⟨fun e => by have := (h3 k e).2; omega, by have := h5.size; omega, hk.2⟩
  · exact h5.trans ⟨ho.os, ho.tape, ho.output, ho.size, fun k hk => ho.block k (Nat.lt_of_lt_of_le hk h5.size) (fun e => by have := (h4 k e).2.1; omega)⟩

theorem VE.below {E : Nat → Prop} {w0 w w' : World} {p : Nat} {S : St} {N : Nat} (h : VE E w0 w p S N) (hb : Below w.heap.size w w') : VE (Kx E w.heap.size w'.heap.size) w0 w' p S N := h.foreign (Only.of_below hb)
theorem VE.alloc {E : Nat → Prop} {w0 w : World} {p : Nat} {S : St} {N : Nat} (h : VE E w0 w p S N) (o : Obj) : VE (fun k => E k ∨ k = w.heap.size) w0 (w.alloc o) p S N :=
  (h.below ((Below.refl _ w).alloc (Nat.le_refl _) o)).sub fun k hk => hk.elim .inl fun e => .inr ⟨by omega, by rw [e]; simp⟩
theorem VE.grown {E : Nat → Prop} {w0 w w' : World} {p : Nat} {S : St} {N : Nat} {b : Nat} (h : VE E w0 w p S N) (hg : w.grownBy w' (some b)) (hb : E b) : VE E w0 w' p S N :=
  (h.foreign (Only.of_grown hg fun k e => by injection e with e; subst e; exact hb)).sub fun k hk => .inl hk
theorem VE.drewN {E : Nat → Prop} {w0 w : World} {p : Nat} {S : St} {N : Nat} (h : VE E w0 w p S N) (q : Nat) : VE E w0 (w.drewN q) p S N := (h.below (below_dN (Below.refl _ _) q)).sub fun _ hk => .inl hk
theorem VE.out {E : Nat → Prop} {w0 w : World} {p : Nat} {S : St} {N : Nat} (h : VE E w0 w p S N) : Below w0.heap.size w0 w := h.toA.out
theorem VE.gl {E : Nat → Prop} {w0 w : World} {p : Nat} {S : St} {N : Nat} (h : VE E w0 w p S N) : Gl w := h.toA.gl
theorem VE.wf {E : Nat → Prop} {w0 w : World} {p : Nat} {S : St} {N : Nat} (h : VE E w0 w p S N) : VfsS.Wf S := h.toA.wf
theorem VE.mono {E : Nat → Prop} {w0 w : World} {p : Nat} {S : St} {N N' : Nat} (h : VE E w0 w p S N) (hN : N ≤ N') (hb : N' ≤ 100000000) : VE E w0 w p S N' := by
  obtain ⟨K, h1, h2⟩ := h
  exact ⟨K, h1.mono (fun _ h => h) hN hb, h2⟩
theorem VE.lt {E : Nat → Prop} {w0 w : World} {p : Nat} {S : St} {N : Nat} (h : VE E w0 w p S N) {k : Nat} (hk : E k) : k < w.heap.size := by
  obtain ⟨K, h1, hg, h3, h4, h5⟩ := h
  exact (h4 k hk).2.2

/-- What a call of its own makes of it. -/
theorem VE.step {E : Nat → Prop} {w0 w w' : World} {p : Nat} {S' : St} {N' : Nat} {K : Nat → Prop} (hg : Gl w0) (h3 : ∀ k, K k → w0.heap.size ≤ k ∧ k < w.heap.size) (h4 : ∀ k, E k → ¬ K k ∧ w0.heap.size ≤ k ∧ k < w.heap.size) (h5 : Below w0.heap.size w0 w)
    (h : VRep w' p S' (Kx K w.heap.size w'.heap.size) N') (ho : Only K w w') : VE E w0 w' p S' N' ∧ ∀ k, E k → w'.heap[k]? = w.heap[k]? :=
  ⟨⟨_, h, hg, fun k hk => hk.elim (fun h => ⟨(h3 k h).1, Nat.lt_of_lt_of_le (h3 k h).2 ho.size⟩) (fun h => ⟨Nat.le_trans h5.size h.1, h.2⟩),
    fun k hk => ⟨fun e => e.elim (h4 k hk).1 (fun e => by have := (h4 k hk).2.2; omega), (h4 k hk).2.1, Nat.lt_of_lt_of_le (h4 k hk).2.2 ho.size⟩,
    h5.trans ⟨ho.os, ho.tape, ho.output, ho.size, fun k hk => ho.block k (Nat.lt_of_lt_of_le hk h5.size) (fun e => by have := (h3 k e).1; omega)⟩⟩,
   fun k hk => ho.block k (h4 k hk).2.2 (h4 k hk).1⟩

section
variable {E : Nat → Prop} {w0 w : World} {p : Nat} {S : St} {N : Nat}

theorem create_e (h : VE E w0 w p S N) (s : ByteArray) (hs : s.size ≤ 10000000) (hN : N + 3 ≤ 100000000) :
    Calls Tryd.prog 45 #[.pointer (some ⟨p, 0, none⟩), .string s] w fun e w' => e = .returned (.int .i64 (VfsS.createS S s).2) ∧ VE E w0 w' p (VfsS.createS S s).1 (N + 3) ∧ ∀ k, E k → w'.heap[k]? = w.heap[k]? := by
  obtain ⟨K, h1, hg, h3, h4, h5⟩ := h
  refine (create_c h1 s hs hN (hg.below h5 (Nat.le_refl _))).mono ?_
  rintro e w' ⟨r1, r2, r3⟩
  exact ⟨r1, VE.step hg h3 h4 h5 r2 r3⟩

theorem sync_e (h : VE E w0 w p S N) (s : ByteArray) (hs : s.size ≤ 10000000) (hN : N + 2 ≤ 100000000) :
    Calls Tryd.prog 46 #[.pointer (some ⟨p, 0, none⟩), .string s] w fun e w' => e = .returned (.int .i64 (VfsS.syncS S s).2) ∧ VE E w0 w' p (VfsS.syncS S s).1 (N + 2) ∧ ∀ k, E k → w'.heap[k]? = w.heap[k]? := by
  obtain ⟨K, h1, hg, h3, h4, h5⟩ := h
  refine (sync_c h1 s hs hN).mono ?_
  rintro e w' ⟨r1, r2, r3⟩
  exact ⟨r1, VE.step hg h3 h4 h5 r2 r3⟩

theorem cut_e (h : VE E w0 w p S N) (s : ByteArray) (n : Int) (hs : s.size ≤ 10000000) (hN : N + 2 ≤ 100000000) :
    Calls Tryd.prog 49 #[.pointer (some ⟨p, 0, none⟩), .string s, .int .i64 n] w fun e w' => e = .returned (.int .i64 (VfsS.cutS S s n).2) ∧ VE E w0 w' p (VfsS.cutS S s n).1 (N + 2) ∧ ∀ k, E k → w'.heap[k]? = w.heap[k]? := by
  obtain ⟨K, h1, hg, h3, h4, h5⟩ := h
  refine (cut_c h1 s n hs hN).mono ?_
  rintro e w' ⟨r1, r2, r3⟩
  exact ⟨r1, VE.step hg h3 h4 h5 r2 r3⟩

theorem remove_e (h : VE E w0 w p S N) (s : ByteArray) (hs : s.size ≤ 10000000) (hN : N + 2 ≤ 100000000) :
    Calls Tryd.prog 51 #[.pointer (some ⟨p, 0, none⟩), .string s] w fun e w' => e = .returned (.int .i64 (VfsS.removeS S s).2) ∧ VE E w0 w' p (VfsS.removeS S s).1 (N + 2) ∧ ∀ k, E k → w'.heap[k]? = w.heap[k]? := by
  obtain ⟨K, h1, hg, h3, h4, h5⟩ := h
  refine (remove_c h1 s hs hN).mono ?_
  rintro e w' ⟨r1, r2, r3⟩
  exact ⟨r1, VE.step hg h3 h4 h5 r2 r3⟩

theorem rename_e (h : VE E w0 w p S N) (s t : ByteArray) (hs : s.size ≤ 10000000) (ht : t.size ≤ 10000000) (hN : N + 2 ≤ 100000000) :
    Calls Tryd.prog 48 #[.pointer (some ⟨p, 0, none⟩), .string s, .string t] w fun e w' => e = .returned (.int .i64 (VfsS.renameS S s t).2) ∧ VE E w0 w' p (VfsS.renameS S s t).1 (N + 2) ∧ ∀ k, E k → w'.heap[k]? = w.heap[k]? := by
  obtain ⟨K, h1, hg, h3, h4, h5⟩ := h
  refine (rename_c h1 s t hs ht hN (hg.below h5 (Nat.le_refl _))).mono ?_
  rintro e w' ⟨r1, r2, r3⟩
  exact ⟨r1, VE.step hg h3 h4 h5 r2 r3⟩

theorem flush_e (h : VE E w0 w p S N) (hN : N + 2 ≤ 100000000) :
    Calls Tryd.prog 19 #[.pointer (some ⟨p, 0, none⟩)] w fun e w' => e = .returned (.int .i64 (VfsS.flushAllS S).2) ∧ VE E w0 w' p (VfsS.flushAllS S).1 (N + 2) ∧ ∀ k, E k → w'.heap[k]? = w.heap[k]? := by
  obtain ⟨K, h1, hg, h3, h4, h5⟩ := h
  refine (flushAll_c h1 hN).mono ?_
  rintro e w' ⟨r1, r2, r3⟩
  exact ⟨r1, VE.step hg h3 h4 h5 r2 r3⟩

theorem crash_e (h : VE E w0 w p S N) (x y : Int) :
    Calls Tryd.prog 25 #[.pointer (some ⟨p, 0, none⟩), .int .i64 x, .int .i64 y] w fun e w' => e = .returned (.tuple #[]) ∧ VE E w0 w' p (VfsS.crashS S x y) N ∧ ∀ k, E k → w'.heap[k]? = w.heap[k]? := by
  obtain ⟨K, h1, hg, h3, h4, h5⟩ := h
  refine (crash_c h1 x y).mono ?_
  rintro e w' ⟨r1, r2, r3⟩
  exact ⟨r1, VE.step hg h3 h4 h5 r2 r3⟩

theorem stop_e (h : VE E w0 w p S N) (n : Int) (hn : -9223372036854775808 ≤ n ∧ n ≤ 9223372036854775807) :
    Calls Tryd.prog 47 #[.pointer (some ⟨p, 0, none⟩), .int .i64 n] w fun e w' => e = .returned (.tuple #[]) ∧ VE E w0 w' p { S with limit := n } N ∧ ∀ k, E k → w'.heap[k]? = w.heap[k]? := by
  obtain ⟨K, h1, hg, h3, h4, h5⟩ := h
  have hp : K p := by obtain ⟨_, _, _, _, _, _, _, hk, _⟩ := h1; exact hk
  refine (stop_c h1 n hn).mono ?_
  rintro e w' ⟨r1, r2, r3⟩
  refine ⟨r1, VE.step hg h3 h4 h5 (r2.mono (fun k hk => .inl hk) (Nat.le_refl _) h1.big) (Only.of_grown r3 fun k e => ?_)⟩
  injection e with e; subst e; exact hp

/-- The slice: nothing, of E's, or older than all. -/
def SlE (E : Nat → Prop) (w0 w : World) (a : Option Addr) (xs : List Value) : Prop :=
  xs = [] ∨ ∃ b o, a = some ⟨b, o, none⟩ ∧ (b < w0.heap.size ∨ E b) ∧ ∀ i u, xs[i]? = some u → w.cell? ⟨b, o + i, none⟩ = some u

theorem SlE.sl {a : Option Addr} {xs : List Value} (h : SlE E w0 w a xs) (hv : VE E w0 w p S N) : Sl w a xs := by
  rcases h with h | ⟨b, o, r1, r2, r3⟩
  · exact .inl h
  · exact .inr ⟨b, o, r1, r2.elim (fun h => Nat.lt_of_lt_of_le h hv.out.size) hv.lt, r3⟩

theorem append_e (h : VE E w0 w p S N) (s b : ByteArray) (a : Option Addr) (c : Nat) (hs : s.size ≤ 10000000) (hb : b.size ≤ 10000000) (hsl : SlE E w0 w a (byteCells b)) (hN : N + 2 ≤ 100000000) :
    Calls Tryd.prog 27 #[.pointer (some ⟨p, 0, none⟩), .string s, .slice a b.size c] w fun e w' => e = .returned (.int .i64 (VfsS.appendS S s b).2) ∧ VE E w0 w' p (VfsS.appendS S s b).1 (N + 2) ∧ ∀ k, E k → w'.heap[k]? = w.heap[k]? := by
  have h' := h
  obtain ⟨K, h1, hg, h3, h4, h5⟩ := h
  have hk : SlK K w a (byteCells b) := by
    rcases hsl with h | ⟨x, o, r1, r2, r3⟩
    · exact .inl h
    · refine .inr ⟨x, o, r1, r2.elim (fun h => Nat.lt_of_lt_of_le h h5.size) h'.lt, fun e => ?_, r3⟩
      rcases r2 with r2 | r2
      · have := (h3 x e).1; omega
      · exact (h4 x r2).1 e
  refine (append_c h1 s b a c hs hb hk hN).mono ?_
  rintro e w' ⟨r1, r2, r3⟩
  exact ⟨r1, VE.step hg h3 h4 h5 r2 r3⟩

/-- What only reads. -/
theorem VE.reads {w' : World} (h : VE E w0 w p S N) (hb : Below w.heap.size w w') : VE E w0 w' p S N ∧ ∀ k, E k → w'.heap[k]? = w.heap[k]? :=
  ⟨(h.below hb).sub fun _ hk => .inl hk, fun k hk => hb.block k (h.lt hk)⟩

theorem used_e (h : VE E w0 w p S N) : Calls Tryd.prog 42 #[.pointer (some ⟨p, 0, none⟩)] w fun e w' => e = .returned (.int .i64 (VfsS.used S : Nat)) ∧ VE E w0 w' p S N ∧ ∀ k, E k → w'.heap[k]? = w.heap[k]? := by
  have h' := h
  obtain ⟨K, h1, hg, h3, h4, h5⟩ := h
  refine (used_c h1).mono ?_
  rintro e w' ⟨r1, r2⟩
  exact ⟨r1, h'.reads r2⟩

theorem left_e (h : VE E w0 w p S N) : Calls Tryd.prog 50 #[.pointer (some ⟨p, 0, none⟩)] w fun e w' => e = .returned (.int .i64 ((S.room : Int) - VfsS.used S)) ∧ VE E w0 w' p S N ∧ ∀ k, E k → w'.heap[k]? = w.heap[k]? := by
  have h' := h
  obtain ⟨K, h1, hg, h3, h4, h5⟩ := h
  refine (left_c h1).mono ?_
  rintro e w' ⟨r1, r2⟩
  exact ⟨r1, h'.reads r2⟩
end
end Go.Proofs.YtfoamcobpfflbaaDoor
