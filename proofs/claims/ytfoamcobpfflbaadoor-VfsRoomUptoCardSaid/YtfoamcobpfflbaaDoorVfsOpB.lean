/- Walks of what a file system tells: how many bytes there are, how many are left, a file's bytes. -/
import Derived.Test.YtfoamcobpfflbaaDoorVfsOpA
import Derived.Test.YtfoamcobpfflbaaDoorKitS
namespace Go.Proofs.YtfoamcobpfflbaaDoor
open Go Go.RowKit Go.Maps
open VfsS (File Chg Nm St find doL)

/-- The bytes of the files that some names mean. -/
def sumN (S : St) (l : List ByteArray) : Nat := (l.map fun s => match find S.now s with | some i => (VfsS.fl S i).text.size | none => 0).sum

theorem sumN_erase (S : St) {l : List ByteArray} {x : ByteArray} (hn : l.Nodup) (h : x ∈ l) : sumN S l = sumN S [x] + sumN S (lessOne l x) := by
  have hp := (perm_lessOne hn h).map (fun s => match find S.now s with | some i => (VfsS.fl S i).text.size | none => 0)
  unfold sumN
  rw [hp.sum_nat]
  simp

theorem sumN_names {S : St} (h : VfsS.Wf S) : sumN S (S.now.map (·.1)) = VfsS.used S := by
  unfold sumN VfsS.used
  rw [List.map_map]
  congr 1
  apply List.map_congr_left
  intro p hp
  simp only [Function.comp]
  rw [VfsS.find_of_mem h.dn hp]

theorem used_le {S : St} {N : Nat} (h : VfsS.Wf S) (hl : S.now.length ≤ N) : VfsS.used S ≤ N * 4194304 := by
  have : ∀ l : Nm, (∀ p ∈ l, p ∈ S.now) → (l.map fun p => (VfsS.fl S p.2).text.size).sum ≤ l.length * 4194304 := by
    intro l
    induction l with
    | nil => intro _; simp
    | cons p l ih =>
      intro hs
      have h1 := ih (fun q hq => hs q (by simp [hq]))
      have h2 : (VfsS.fl S p.2).text.size ≤ 4194304 := by
        have hi := h.idx p.2 (.inl ⟨p.1, hs p (by simp)⟩)
        unfold VfsS.fl
        rw [List.getD_eq_getElem?_getD, List.getElem?_eq_getElem hi]
        exact (h.dur _ (List.getElem_mem hi)).2
      simp only [List.map_cons, List.sum_cons, List.length_cons]
      omega
  exact Nat.le_trans (this S.now (fun _ h => h)) (Nat.mul_le_mul_right _ hl)

theorem live_of_find {S : St} {s : ByteArray} {i : Nat} (h : find S.now s = some i) : VfsS.Live S i := .inl ⟨s, VfsS.find_mem h⟩

theorem VB.names_le {w : World} {K : Nat → Prop} {N : Nat} {S : St} {bn bs : Nat} {av : Value} {φ : Nat → Nat} {ψ : Nat → Value} (h : VB w K N S bn bs av φ ψ) : S.now.length ≤ N := by
  obtain ⟨n, hn, D, ⟨es, clock, h1, h2, h3, h4⟩, h5, h6, h7⟩ := h.now
  subst h4
  have hsz := World.ownsMap.size_le (P := Tryd.prog) (⟨es, clock, h1, h2, h3, rfl⟩ : w.ownsMap Tryd.prog 9 NC.R bn n (.map ((es.toList.map (Go.WideElems.rg Tryd.prog 9 NC.R)).foldr DataW.insert [])))
  generalize hD : (es.toList.map (Go.WideElems.rg Tryd.prog 9 NC.R)).foldr DataW.insert [] = L at *
  have hsub : ∀ p ∈ S.now, NC.lit p.1 ∈ L.map (·.1) := by
    intro p hp
    have hx := (h6 p.1 (nm_max (h.wf.zn p hp))).1
    have : (nmF φ S.now p.1).isSome = true := (nmF_mem φ S.now p.1).1 (List.mem_map.2 ⟨p, hp, rfl⟩)
    rw [this] at hx
    obtain ⟨q, hq, hk⟩ := List.any_eq_true.1 hx
    exact List.mem_map.2 ⟨q, hq, WideAt.sameKey_eq hk⟩
  have hnd : ((S.now.map (·.1)).map NC.lit).Nodup := by
    rw [List.nodup_iff_pairwise_ne, List.pairwise_map]
    refine List.Pairwise.imp (fun {x y} hne e => hne (str_lit_inj e)) (List.nodup_iff_pairwise_ne.1 h.wf.dn)
  have hsp : ((S.now.map (·.1)).map NC.lit) ⊆ L.map (·.1) := by
    intro y hy
    obtain ⟨x, hx, rfl⟩ := List.mem_map.1 hy
    obtain ⟨p, hp, rfl⟩ := List.mem_map.1 hx
    exact hsub p hp
  have := nodup_le hnd (fun y hy => hsp hy)
  simp only [List.length_map] at this
  have hz : Maps.size (DataW.map L) = L.length := rfl
  rw [hz] at hsz
  omega

set_option maxRecDepth 100000 in
theorem used_c {w : World} {p : Nat} {S : St} {K : Nat → Prop} {N : Nat} (h : VRep w p S K N) :
    Calls Tryd.prog 42 #[.pointer (some ⟨p, 0, none⟩)] w fun e w' => e = .returned (.int .i64 (VfsS.used S : Nat)) ∧ Below w.heap.size w w' := by
  obtain ⟨bn, bs, av, φ, ψ, hB, hp, hkp, hs⟩ := h
  have hnl := hB.names_le
  have hul := used_le hB.wf hnl
  have hbig := hB.big
  obtain ⟨n, hn, hm⟩ := hB.now
  have c0 : w.cell? ⟨p, 0, none⟩ = some (.map (some bn)) := by rw [cell_of hp]; rfl
  have hbl := hm.lt
  have HW := Lib.hid hB.wf
  have HU := Lib.hid (sumN_names hB.wf)
  have HF := Lib.hid (fun i (hi : VfsS.Live S i) => hB.file i hi)
  have HL := Lib.hid (fun i (hi : VfsS.Live S i) => hB.lt hi)
  have hr := fun x => nmF_mem φ S.now x
  have hnd := hB.wf.dn
  have HUL : Hid (VfsS.used S ≤ 100000000 * 4194304) := Nat.le_trans hul (Nat.mul_le_mul_right _ hbig)
  clear hB hp hs hul
  go_enter Tryd.func42, Tryd.ntmps42
  go_wp2_with (at_range; refine wp_rangeG (C := NC) rfl _ rfl rfl hm (S.now.map (·.1)) hr hnd ?_)
  intro w1 hrg hg1 hsz1 _
  have hb1 : Below w.heap.size w w1 := ⟨hg1.os, hg1.tape, hg1.output, hg1.size, fun k hk => hg1.block k hk (by simp)⟩
  clear hm hr hnd hg1 c0
  go_wp2_with fail
  go_loopw [3] (fun nv wr => ∃ (acc : Nat) (l : List ByteArray), RanG NC wr bn w.heap.size n (nmF φ S.now) l ∧ nv = .int .i64 acc ∧ Hid (acc + sumN S l = VfsS.used S) ∧ Below w.heap.size w wr) (fun _ wr => wr.rangeLeft bn w.heap.size)
  case atStart => exact ⟨0, _, hrg, rfl, by show _ = _; rw [HU.out, Nat.zero_add], hb1⟩
  case round =>
    clear hrg hb1
    obtain ⟨acc, l, hrg, rfl, HA, hb⟩ := hrel
    go_wp2_with (at_next; refine wp_nextG (C := NC) rfl _ rfl rfl hrg ?_ ?_)
    · intro hl
      have HE : Hid (acc = VfsS.used S) := by show _ = _; rw [← HA.out, hl]; rfl
      go_wp2_with fail
      go_ret
      exact ⟨ret_i64 (by rw [HE.out]), hb⟩
    · intro x c w2 hx hF _ _ hrg2 hlt hg2 _ hen
      obtain ⟨i, hi, rfl⟩ : ∃ i, find S.now x = some i ∧ c = some (φ i) := by
        unfold nmF at hF
        rw [Option.map_eq_some_iff] at hF
        obtain ⟨i, h1, h2⟩ := hF
        exact ⟨i, h1, h2.symm⟩
      have hlive := live_of_find hi
      obtain ⟨hf1, hf2⟩ := HF.out i hlive
      obtain ⟨fa, fc, hpsi, -, -, -⟩ := hf2.form
      have hen2 : (Instr.entry (.pointer (some ⟨w.heap.size, 0, none⟩))).run Tryd.prog w2 = .ok (.tuple #[.string x, .pointer (some ⟨φ i, 0, none⟩)]) w2 := hen
      have hb2 := hb.grown hg2 hb.size (by intro k hk; injection hk with hk; omega)
      have hc2 : w2.cell? ⟨φ i, 0, none⟩ = some (.slice fa (VfsS.fl S i).text.size fc) := by
        rw [cell_of ((hb2.block _ (HL.out i hlive)).trans hf1)]; rw [hpsi]; rfl
      have HN : Hid ((acc + (VfsS.fl S i).text.size) + sumN S (lessOne l x) = VfsS.used S) := by
        show _ = _
        rw [← HA.out, sumN_erase S hrg.nodup hx]
        simp [sumN, hi]; omega
      have hle : acc + (VfsS.fl S i).text.size ≤ 100000000 * 4194304 := by have := HN.out; have := HUL.out; omega
      generalize (VfsS.fl S i).text.size = z at *
      have hw : IntKind.i64.wrap ((acc : Int) + (z : Int)) = ((acc + z : Nat) : Int) := by rw [← Int.natCast_add]; exact IntWalk.i64_in _ (by omega)
      clear hen hf1 hf2 hpsi hF hlive hi HA hg2
      go_wp2_with fail
      go_roundw
      case rel => exact ⟨acc + z, lessOne l x, hrg2, by first | rfl | go_num, HN, hb2⟩
      case measure => exact hlt

set_option maxRecDepth 100000 in
theorem left_c {w : World} {p : Nat} {S : St} {K : Nat → Prop} {N : Nat} (h : VRep w p S K N) :
    Calls Tryd.prog 50 #[.pointer (some ⟨p, 0, none⟩)] w fun e w' => e = .returned (.int .i64 ((S.room : Int) - VfsS.used S)) ∧ Below w.heap.size w w' := by
  have HU := Lib.hid (fun q => used_c (h.drewN q))
  obtain ⟨bn, bs, av, φ, ψ, hB, hp, hkp, hs⟩ := h
  have hul := used_le hB.wf hB.names_le
  have hbig := hB.big
  have hroom := hB.wf.room
  have c3 : w.cell? ⟨p, 3, none⟩ = some (.int .i64 S.room) := by rw [cell_of hp]; rfl
  have hm : N * 4194304 ≤ 100000000 * 4194304 := Nat.mul_le_mul_right _ hbig
  have hw : IntKind.i64.wrap ((S.room : Int) - (VfsS.used S : Int)) = (S.room : Int) - (VfsS.used S : Int) := IntWalk.i64_in _ (by omega)
  have hplt := (Array.getElem?_eq_some_iff.1 hp).1
  clear hB hp hs hul
  generalize VfsS.used S = u at *
  go_enter Tryd.func50, Tryd.ntmps50
  go_wp2_with fail
  go_region_held3 (fun w' => w'.cell? ⟨p, 3, none⟩ = some (.int .i64 S.room)) (first | exact cell_later hb' c3 | exact c3 | go_keep)
    (first | (go_at_call 42; refine (HU.out 1).mono ?_; rintro e w' ⟨rfl, hb'⟩))
  go_wp2_with fail
  go_ret
  exact ⟨rfl, (below_dN (Below.refl _ w) 1).trans hb'⟩

theorem file_get {S : St} {i : Nat} (h : i < S.files.length) : VfsS.fl S i = S.files[i] := by
  unfold VfsS.fl; rw [List.getD_eq_getElem?_getD, List.getElem?_eq_getElem h]; rfl

theorem file_ok {S : St} (h : VfsS.Wf S) {i : Nat} (hi : VfsS.Live S i) : (VfsS.fl S i).dur ≤ (VfsS.fl S i).text.size ∧ (VfsS.fl S i).text.size ≤ 4194304 := by
  rw [file_get (h.idx i hi)]; exact h.dur _ (List.getElem_mem _)

/-- A name's look-up. -/
theorem VB.look {w : World} {K : Nat → Prop} {N : Nat} {S : St} {bn bs : Nat} {av : Value} {φ : Nat → Nat} {ψ : Nat → Value} (h : VB w K N S bn bs av φ ψ) (s : ByteArray) (hs : s.size ≤ 10000000) :
    (Instr.lookup 109 (.map (some bn)) (.string s) false).run Tryd.prog w = .ok (match find S.now s with | some i => .pointer (some ⟨φ i, 0, none⟩) | none => .pointer none) w := by
  obtain ⟨n, _, hm⟩ := h.now
  have := hm.look s (nm_max hs)
  refine Eq.trans this ?_
  unfold nmF
  cases find S.now s <;> rfl

set_option maxRecDepth 100000 in
theorem read_c {w : World} {p : Nat} {S : St} {K : Nat → Prop} {N : Nat} (h : VRep w p S K N) (s : ByteArray) (hs : s.size ≤ 10000000) :
    Calls Tryd.prog 34 #[.pointer (some ⟨p, 0, none⟩), .string s] w fun e w' => ∃ v, e = .returned (.tuple #[v, .int .i64 (if (VfsS.readS S s).isSome then 0 else 4)]) ∧
      OwnG w' 5 1 v ((VfsS.readS S s).getD ByteArray.empty).size (byteCells ((VfsS.readS S s).getD ByteArray.empty)) ∧ (∀ k, v.ownBlock = some k → w.heap.size ≤ k) ∧ Below w.heap.size w w' := by
  obtain ⟨bn, bs, av, φ, ψ, hB, hp, hkp, hst⟩ := h
  have c0 : w.cell? ⟨p, 0, none⟩ = some (.map (some bn)) := by rw [cell_of hp]; rfl
  have hlk := hB.look s hs
  cases hf : find S.now s with
  | none =>
    have HR : Hid (VfsS.readS S s = none) := by show _ = _; unfold VfsS.readS; rw [hf]; rfl
    rw [hf] at hlk
    clear hf hB hp
    rw [HR.out]
    simp only [Option.isSome_none, Option.getD_none, Bool.false_eq_true, if_false]
    go_enter Tryd.func34, Tryd.ntmps34
    go_wp2_with fail
    go_ret2
    exact ⟨_, rfl, OwnG.nil _ _ _, (fun k hk => by cases hk), Below.refl _ _⟩
  | some i =>
    have hl := live_of_find hf
    have hok := file_ok hB.wf hl
    obtain ⟨hf1, hf2⟩ := hB.file i hl
    have c1 : w.cell? ⟨φ i, 0, none⟩ = some (ψ i) := by rw [cell_of hf1]; rfl
    have HC := Lib.hid (clone_c hf2 (by omega))
    have HR : Hid (VfsS.readS S s = some (VfsS.fl S i).text) := by show _ = _; unfold VfsS.readS; rw [hf]; rfl
    rw [hf] at hlk
    simp only at hlk
    clear hf hB hp hl hok hf1 hf2
    rw [HR.out]
    simp only [Option.isSome_some, Option.getD_some, if_true]
    clear HR
    generalize (VfsS.fl S i).text = tx at *
    go_enter Tryd.func34, Tryd.ntmps34
    go_wp2_with fail
    refine HC.out.mono ?_
    rintro e w1 ⟨v1, rfl, ho, hk, hb⟩
    go_wp2_with fail
    go_ret2
    exact ⟨_, rfl, ho, hk, hb⟩

set_option maxRecDepth 100000 in
theorem stop_c {w : World} {p : Nat} {S : St} {K : Nat → Prop} {N : Nat} (h : VRep w p S K N) (n : Int) (hn : -9223372036854775808 ≤ n ∧ n ≤ 9223372036854775807) :
    Calls Tryd.prog 47 #[.pointer (some ⟨p, 0, none⟩), .int .i64 n] w fun e w' => e = .returned (.tuple #[]) ∧ VRep w' p { S with limit := n } K N ∧ w.grownBy w' (some p) := by
  obtain ⟨bn, bs, av, φ, ψ, hB, hp, hkp, hst⟩ := h
  have c5 : w.cell? ⟨p, 5, none⟩ = some (.int .i64 S.limit) := by rw [cell_of hp]; rfl
  have f5 := frozen_of hp 5
  obtain ⟨s1, g1⟩ := set_block hp 5 (.int .i64 n)
  have HB := Lib.hid (hB.other hp (by decide) g1)
  have HS := Lib.hid s1
  have HG := Lib.hid g1
  clear hB hp s1 g1
  go_enter Tryd.func47, Tryd.ntmps47
  go_wp2_with fail
  go_end0
  exact ⟨rfl, ⟨bn, bs, av, φ, ψ, { HB.out with wf := { HB.out.wf with lim := hn } }, HS.out, hkp, hst⟩, HG.out⟩

set_option maxRecDepth 100000 in
theorem steps_c {w : World} {p : Nat} {S : St} {K : Nat → Prop} {N : Nat} (h : VRep w p S K N) :
    Calls Tryd.prog 54 #[.pointer (some ⟨p, 0, none⟩)] w fun e w' => e = .returned (.int .i64 S.steps) ∧ w' = w := by
  obtain ⟨bn, bs, av, φ, ψ, hB, hp, hkp, hst⟩ := h
  have c4 : w.cell? ⟨p, 4, none⟩ = some (.int .i64 S.steps) := by rw [cell_of hp]; rfl
  clear hB hp
  go_enter Tryd.func54, Tryd.ntmps54
  go_wp2_with fail
  go_ret
  exact ⟨rfl, rfl⟩
end Go.Proofs.YtfoamcobpfflbaaDoor
