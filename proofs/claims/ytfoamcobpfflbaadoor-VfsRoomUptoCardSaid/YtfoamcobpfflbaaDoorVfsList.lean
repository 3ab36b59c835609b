/- (*vfs.FS).List: the names, sorted. -/
import Derived.Test.YtfoamcobpfflbaaDoorVfsRep
import Derived.Test.YtfoamcobpfflbaaDoorIterL
import Derived.Sort.KeysCollected
namespace Go.Proofs
open Go.RowKit Go.Maps Go.Sort Go.Shelf

theorem Tryd.sorts_s (m : Nat) : AnyZ.SortsIn Tryd.prog Tryd.sorted93_ren Fence.wide m :=
  ⟨fun blk off cap ss W hH hblk hsz => callsIn_wide.2 (AnyM.slices_Sort_string Tryd.sort101 blk off cap ss W hH hblk hsz),
   fun p cap W => callsIn_wide.2 (AnyM.slices_Sort_string_none Tryd.sort101 p cap W)⟩

theorem Tryd.keys_s (mb : Option Nat) (W : World) : CallsIn Fence.wide 5 Tryd.prog 94 #[.map mb] W fun e w' => e = .returned (.func (.func 102) #[] #[.pointer (some ⟨W.heap.size, 0, none⟩)]) ∧ w' = W.alloc (.cells #[.map mb] 109) :=
  AnyZ.keys_in Tryd.keys94 Fence.wide 5 trivial rfl mb W

set_option maxHeartbeats 1000000 in
theorem Tryd.sorted_s {H : Type} (b nn : Nat) (D0 : DataW H) (R : Value → Option (DataW H × List MemPlace)) (w : World) (hown : w.ownsMap Tryd.prog 9 R b nn D0) (hmax : Maps.size D0 ≤ maxLen) (hbytes : Maps.size D0 * 16 ≤ 140737488355328) :
    CallsIn Fence.wide 5 Tryd.prog 93 #[.func (.func 102) #[] #[.pointer (some ⟨w.heap.size, 0, none⟩)]] (w.alloc (.cells #[.map (some b)] 109)) fun e w' => ∃ (v : Value) (ss : List (List UInt8)), e = .returned v ∧ ss.Perm (strKeys D0) ∧
      w'.ownsRow (w.alloc (.cells #[.map (some b)] 109)).heap.size 9 1 v ss.length ((ss.mergeSort (fun x y => decide (x ≤ y))).map encStr) ∧ (v = .slice none 0 0 ↔ ss = []) ∧ Below (w.alloc (.cells #[.map (some b)] 109)).heap.size (w.alloc (.cells #[.map (some b)] 109)) w' := by
  have hbl := hown.lt
  have hseq : SeqGives Fence.wide 2 Tryd.prog 102 #[.pointer (some ⟨w.heap.size, 0, none⟩)] encStr (fun ss => ss.Perm (strKeys D0)) (Maps.size D0) (w.alloc (.cells #[.map (some b)] 109)) :=
    AnyZ.keys_gives (ρ := Tryd.keys94_ren) { Tryd.keys94 with } Fence.wide _ trivial rfl (by omega) w.heap.size b nn D0 _ (by simp) (by simp) (by
      obtain ⟨es, clock, hb, Ft, hs, hD⟩ := hown
      exact ⟨es, clock, (Below.heap_alloc _ _ b hbl).trans hb, Ft, hs, hD⟩)
  exact AnyZ.sorted_in Tryd.sorted93 Fence.wide 5 trivial trivial trivial trivial rfl (by omega) (Tryd.sorts_s _) (enters_of Tryd.func101 (by kernel_rfl) rfl) 102 #[.pointer (some ⟨w.heap.size, 0, none⟩)] trivial (enters_of Tryd.func102 (by kernel_rfl) rfl) _ _ hmax hbytes _ hseq

namespace YtfoamcobpfflbaaDoor

/-- The names as lists of bytes, sorted. -/
def namesL (l : VfsS.Nm) : List (List UInt8) := (l.map fun p => p.1.data.toList).mergeSort leB

theorem namesL_len (l : VfsS.Nm) : (namesL l).length = l.length := by unfold namesL; rw [List.length_mergeSort, List.length_map]

theorem keys_perm {w : World} {b n : Nat} {φ : Nat → Nat} {l : VfsS.Nm} (h : MapG NC w b n (nmF φ l)) (hn : (l.map (·.1)).Nodup) :
    ∃ D, w.ownsMap Tryd.prog 9 NC.R b n D ∧ (l.map fun p => p.1.data.toList).Perm (strKeys D) ∧ Maps.size D = l.length ∧ Maps.size D ≤ n := by
  obtain ⟨D, h1, h2, h3, h4⟩ := h
  have hsz := h1.size_le
  refine ⟨D, h1, ?_⟩
  obtain ⟨es, hD, hpw⟩ := h2
  obtain ⟨es', hD', hko⟩ := h1.keysOf
  obtain rfl : es = es' := by rw [hD] at hD'; simpa using hD'
  subst hD
  have hinj : ∀ x y : ByteArray, x.data.toList = y.data.toList → x = y := fun x y e => by
    cases x; cases y; congr 1; exact Array.toList_inj.1 e
  have hnd : (l.map fun p => p.1.data.toList).Nodup := by
    have := hn
    rw [show (l.map fun p => p.1.data.toList) = (l.map (·.1)).map (fun s => s.data.toList) by rw [List.map_map]; rfl]
    exact List.Pairwise.map _ (fun x y hxy e => hxy (hinj x y e)) this
  have hp : (l.map fun p => p.1.data.toList).Perm (strKeys (DataW.map es)) := by
    refine perm_strKeys hpw (fun p hp => by obtain ⟨v, hv⟩ := hko p hp; obtain ⟨x, _, hx, _⟩ := Maps.keyOf_str Tryd.underlying9 hv; exact ⟨x, hx⟩) hnd (fun x => ?_)
    constructor
    · intro hx
      rw [List.mem_map] at hx
      obtain ⟨p, hp, rfl⟩ := hx
      have hs : (nmF φ l p.1).isSome = true := (nmF_mem φ l p.1).1 (List.mem_map.2 ⟨p, hp, rfl⟩)
      obtain ⟨a, ha⟩ := Option.isSome_iff_exists.1 hs
      have := (h3 p.1 (h4 _ _ ha).1).1
      rw [hs] at this
      exact this
    · intro hx
      rw [has_eq, List.any_eq_true] at hx
      obtain ⟨p, hp, hs⟩ := hx
      obtain ⟨v, hv⟩ := hko p hp
      obtain ⟨y, _, hy, hle⟩ := Maps.keyOf_str Tryd.underlying9 hv
      have e : y = x := by rw [hy] at hs; simpa [Lit.sameKey] using hs
      subst e
      have hok : NC.okK ⟨y.toArray⟩ := by show ByteArray.size _ ≤ maxLen; simpa [ByteArray.size] using hle
      have h5 := (h3 ⟨y.toArray⟩ hok).1
      have h6 : has (DataW.map es) (NC.lit ⟨y.toArray⟩) = true := by
        rw [has_eq, List.any_eq_true]
        exact ⟨p, hp, by rw [hy]; simp [NC, Lit.sameKey]⟩
      rw [h6] at h5
      have h7 := (nmF_mem φ l ⟨y.toArray⟩).2 h5.symm
      rw [List.mem_map] at h7 ⊢
      obtain ⟨q, hq, e⟩ := h7
      exact ⟨q, hq, by rw [e]⟩
  refine ⟨hp, ?_, hsz⟩
  have := hp.length_eq
  rw [List.length_map] at this
  rw [this]
  simp [strKeys, size]

set_option maxHeartbeats 1000000 in
/-- List. -/
theorem list_c {w : World} {p : Nat} {S : VfsS.St} {K : Nat → Prop} {N : Nat} (h : VRep w p S K N) :
    Calls Tryd.prog 79 #[.pointer (some ⟨p, 0, none⟩)] w fun e w' => ∃ v, e = .returned v ∧ w'.ownsRow w.heap.size 9 1 v S.now.length ((namesL S.now).map encStr) ∧ Below w.heap.size w w' := by
  obtain ⟨bn, bs, av, φ, ψ, hB, hp, hkp, hs⟩ := h
  obtain ⟨n1, hn1, m1⟩ := hB.now
  obtain ⟨D, hown, hperm, hsz, hle⟩ := keys_perm m1 hB.wf.dn
  have hbig := hB.big
  have hmax : Maps.size D ≤ maxLen := Nat.le_trans hle (by have : maxLen = 9223372036854775807 := rfl; omega)
  have hbytes : Maps.size D * 16 ≤ 140737488355328 := by omega
  have c0 : w.cell? ⟨p, 0, none⟩ = some (.map (some bn)) := by rw [cell_of hp]; rfl
  clear m1 hB hp
  refine (callsIn_wide (n := 6)).1 ?_
  have hfK : Fence.wide.fn 94 := trivial
  have hfS : Fence.wide.fn 93 := trivial
  refine callsIn_of_wp Tryd.func79 rfl trivial ?_ rfl
  simp only [Tryd.ntmps79, List.size_toArray, List.length_cons, List.length_nil, Nat.reduceAdd, Nat.reduceSub, Array.replicate_succ, Array.replicate_zero, List.push_toArray, List.append_toArray, List.nil_append, List.cons_append]
  gi_wp2_with (first
    | (gi_at_call 94; refine (Tryd.keys_s _ _).mono ?_; rintro e w' ⟨rfl, rfl⟩)
    | (gi_at_call 93; refine (Tryd.sorted_s bn n1 D NC.R w hown hmax hbytes).mono ?_; rintro e w' ⟨v, ss, rfl, hS, hrow, hnil, hb⟩))
  go_ret
  have e1 : ss.mergeSort (fun x y => decide (x ≤ y)) = namesL S.now := mergeSort_of_perm (hS.trans hperm.symm)
  have e2 : ss.length = S.now.length := by rw [(hS.trans hperm.symm).length_eq, List.length_map]
  rw [e1, e2] at hrow
  exact ⟨v, rfl, ownsRow_base_a hrow (by simp), ((Below.refl _ w).alloc (Nat.le_refl _) _).trans (hb.mono (by simp))⟩
end YtfoamcobpfflbaaDoor
end Go.Proofs
