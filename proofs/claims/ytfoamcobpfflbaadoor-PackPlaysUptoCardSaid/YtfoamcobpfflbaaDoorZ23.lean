/- Texts of mine, joined: Walks: files made, renamed, removed. -/
import Derived.Test.YtfoamcobpfflbaaDoorZ22
namespace Go.Proofs.YtfoamcobpfflbaaDoor
open Go Go.RowKit Go.Maps
open VfsS (File Chg Nm St find doL)

/-- A file more, that nobody means yet. -/
def addS (S : St) : St := { S with files := S.files ++ [⟨ByteArray.empty, 0⟩] }

theorem live_add {S : St} {i : Nat} : VfsS.Live (addS S) i ↔ VfsS.Live S i := Iff.rfl

theorem fl_add (S : St) (i : Nat) : VfsS.fl (addS S) i = if i = S.files.length then ⟨ByteArray.empty, 0⟩ else VfsS.fl S i := by
  unfold VfsS.fl addS
  rw [List.getD_eq_getElem?_getD, List.getD_eq_getElem?_getD]
  by_cases h : i = S.files.length
  · rw [if_pos h, h, List.getElem?_append_right (Nat.le_refl _), Nat.sub_self]; rfl
  · rw [if_neg h]
    rcases Nat.lt_or_ge i S.files.length with h1 | h1
    · rw [List.getElem?_append_left h1]
    · rw [List.getElem?_eq_none (by simp; omega), List.getElem?_eq_none h1]

theorem wf_add {S : St} (h : VfsS.Wf S) : VfsS.Wf (addS S) where
  idx i hi := by have := h.idx i hi; show i < (S.files ++ _).length; rw [List.length_append]; omega
  dn := h.dn
  ds := h.ds
  zn := h.zn
  zs := h.zs
  za := h.za
  dur f hf := by
    rcases List.mem_append.1 hf with hf | hf
    · exact h.dur f hf
    · rw [List.mem_singleton] at hf; subst hf; exact ⟨Nat.le_refl _, Nat.zero_le _⟩
  room := h.room
  lim := h.lim

/-- What a change of names makes, whole. -/
theorem VX.changed {w w1 w' : World} {p : Nat} {K : Nat → Prop} {N n : Nat} {S : St} {bn bs : Nat} {av av' : Value} {φ : Nat → Nat} {ψ : Nat → Value} (h : VX w1 p S K N bn bs av φ ψ) (hw : w.heap.size ≤ w1.heap.size) (a : Chg) (hn : n ≤ N)
    (hs : a.src.size ≤ 10000000) (hd : a.dst.size ≤ 10000000)
    (hf : ∀ i, a.file = some i → i < S.files.length ∧ FileAt w1 (φ i) (ψ i) (VfsS.fl S i) ∧ K (φ i) ∧ (∀ k, (ψ i).ownBlock = some k → K k) ∧ (∀ j, VfsS.Live S j → j ≠ i → φ j ≠ φ i) ∧ (∀ j k, VfsS.Live S j → j ≠ i → (ψ i).ownBlock = some k → (ψ j).ownBlock ≠ some k))
    (hm : MapG NC w' bn (n + 1) (nmF φ (doL S.now a))) (ho : OwnG w' 150 3 av' (S.acts ++ [a]).length (arow φ (S.acts ++ [a]))) (hav : ∀ k, av'.ownBlock = some k → av.ownBlock = some k ∨ w1.heap.size ≤ k)
    (hp' : w'.heap[p]? = some (.cells #[.map (some bn), .map (some bs), av', .int .i64 S.room, .int .i64 S.steps, .int .i64 S.limit] 112 (0, 0)))
    (hfr : Only (fun k => k = p ∨ k = bn ∨ av.ownBlock = some k) w1 w') (hN : N + 1 ≤ 100000000) : VRep w' p (VfsS.changeS S a) (Kx K w.heap.size w'.heap.size) (N + 1) := by
  obtain ⟨hB, hp, hkp, hst⟩ := h
  exact ⟨bn, bs, av', φ, ψ, (hB.changed hp a hn hs hd hf hm ho hav hfr hN).mono (fun k hk => hk.mono hw (Nat.le_refl _)) (Nat.le_refl _) hN, hp', .inl hkp, by show S.steps ≤ N + 1; omega⟩

theorem only_change {w w' : World} {p : Nat} {K : Nat → Prop} {N : Nat} {S : St} {bn bs : Nat} {av : Value} {φ : Nat → Nat} {ψ : Nat → Value} (h : VX w p S K N bn bs av φ ψ) (hfr : Only (fun k => k = p ∨ k = bn ∨ av.ownBlock = some k) w w') : Only K w w' :=
  ⟨hfr.os, hfr.tape, hfr.output, hfr.size, fun k hk hn => hfr.block k hk fun hh => hn (by
    rcases hh with hh | hh | hh
    · rw [hh]; exact h.2.2.1
    · rw [hh]; exact h.1.kn
    · exact h.1.ka k hh)⟩

/-- What change_c gives for a file system that is whole. -/
theorem change_x {w : World} {p : Nat} {K : Nat → Prop} {N : Nat} {S : St} {bn bs : Nat} {av : Value} {φ : Nat → Nat} {ψ : Nat → Value} (h : VX w p S K N bn bs av φ ψ) (a : Chg) (hs : a.src.size ≤ 10000000) (hd : a.dst.size ≤ 10000000) (hN : N + 1 ≤ 100000000)
    (hf : ∀ i, a.file = some i → i < S.files.length ∧ FileAt w (φ i) (ψ i) (VfsS.fl S i) ∧ K (φ i) ∧ (∀ k, (ψ i).ownBlock = some k → K k) ∧ (∀ j, VfsS.Live S j → j ≠ i → φ j ≠ φ i) ∧ (∀ j k, VfsS.Live S j → j ≠ i → (ψ i).ownBlock = some k → (ψ j).ownBlock ≠ some k)) :
    Calls Tryd.prog 81 #[.pointer (some ⟨p, 0, none⟩), .agg #[.string a.src, .string a.dst, ptrV (a.file.map φ)]] w fun e w' => e = .returned (.tuple #[]) ∧ VRep w' p (VfsS.changeS S a) (Kx K w.heap.size w'.heap.size) (N + 1) ∧ Only K w w' := by
  obtain ⟨n, hn, hm⟩ := h.1.now
  have hlen : S.acts.length ≤ N := by obtain ⟨n2, hn2, _⟩ := h.1.sure; omega
  refine (change_c a h.2.1 hm h.1.acts (by omega) (by omega) hs hd).mono ?_
  rintro e w' ⟨rfl, av', m', o', p', k', fr⟩
  exact ⟨rfl, h.changed (Nat.le_refl _) a hn hs hd hf m' o' k' p' fr hN, only_change h fr⟩

theorem hf_live {w : World} {K : Nat → Prop} {N : Nat} {S : St} {bn bs : Nat} {av : Value} {φ : Nat → Nat} {ψ : Nat → Value} (h : VB w K N S bn bs av φ ψ) {i : Nat} (hi : VfsS.Live S i) :
    i < S.files.length ∧ FileAt w (φ i) (ψ i) (VfsS.fl S i) ∧ K (φ i) ∧ (∀ k, (ψ i).ownBlock = some k → K k) ∧ (∀ j, VfsS.Live S j → j ≠ i → φ j ≠ φ i) ∧ (∀ j k, VfsS.Live S j → j ≠ i → (ψ i).ownBlock = some k → (ψ j).ownBlock ≠ some k) :=
  ⟨h.wf.idx i hi, h.file i hi, h.kf i hi, fun k hk => h.kb i k hi hk, fun j hj hne e => hne (h.inj j i hj hi e), fun j k hj hne h1 => h.apart i j k hi hj (fun e => hne e.symm) h1⟩

set_option maxRecDepth 100000 in
theorem remove_c {w : World} {p : Nat} {S : St} {K : Nat → Prop} {N : Nat} (h : VRep w p S K N) (s : ByteArray) (hs : s.size ≤ 10000000) (hN : N + 2 ≤ 100000000) :
    Calls Tryd.prog 51 #[.pointer (some ⟨p, 0, none⟩), .string s] w fun e w' => e = .returned (.int .i64 (VfsS.removeS S s).2) ∧ VRep w' p (VfsS.removeS S s).1 (Kx K w.heap.size w'.heap.size) (N + 2) ∧ Only K w w' := by
  have hrep := h
  obtain ⟨bn, bs, av, φ, ψ, hX⟩ := h
  have hlk := hX.1.look s hs
  have c0 : w.cell? ⟨p, 0, none⟩ = some (.map (some bn)) := by rw [cell_of hX.2.1]; rfl
  cases hf : find S.now s with
  | none =>
    have HR : Hid (VfsS.removeS S s = (S, 4)) := by show _ = _; unfold VfsS.removeS; rw [hf]; rfl
    rw [hf] at hlk
    have HX := Lib.hid (hrep.mono (K' := Kx K w.heap.size w.heap.size) (N' := N + 2) (fun _ h => .inl h) (by omega) hN)
    rw [HR.out]
    clear hf hX hrep
    go_enter Tryd.func51, Tryd.ntmps51
    go_wp2_with fail
    go_ret
    exact ⟨rfl, HX.out, Only.refl _ _⟩
  | some i =>
    have HST := Lib.hid (step_c hX (by omega))
    have hkp := hX.2.2.1
    rw [hf] at hlk
    simp only at hlk
    by_cases h0 : S.limit = 0
    · have HR : Hid (VfsS.removeS S s = (S, 190)) := by show _ = _; unfold VfsS.removeS; rw [hf]; simp only [Option.isSome_some, if_true, if_pos h0]
      have HSS : Hid (VfsS.stepS S = S) := by show _ = _; unfold VfsS.stepS; rw [if_pos h0]
      rw [if_pos h0] at HST
      rw [HR.out]
      clear hf hX hrep h0
      go_enter Tryd.func51, Tryd.ntmps51
      go_wp2_with fail
      refine HST.out.mono ?_
      rintro e w1 ⟨rfl, hX1, hg1⟩
      have HX := Lib.hid hX1
      clear hX1
      go_wp2_with fail
      go_ret
      refine ⟨rfl, ?_, Only.of_grown hg1 (by intro k hk; injection hk with hk; subst hk; exact hkp)⟩
      have := HX.out
      rw [HSS.out] at this
      exact VRep.mono ⟨_, _, _, _, _, this⟩ (fun _ h => .inl h) (by omega) hN
    · have HR : Hid (VfsS.removeS S s = (VfsS.changeS (VfsS.stepS S) ⟨s, ByteArray.empty, none⟩, 0)) := by show _ = _; unfold VfsS.removeS; rw [hf]; simp only [Option.isSome_some, if_true, if_neg h0]
      rw [if_neg h0] at HST
      rw [HR.out]
      clear hf hX hrep h0
      go_enter Tryd.func51, Tryd.ntmps51
      go_wp2_with fail
      refine HST.out.mono ?_
      rintro e w1 ⟨rfl, hX1, hg1⟩
      have HC := Lib.hid (change_x hX1 ⟨s, ByteArray.empty, none⟩ hs (show ByteArray.empty.size ≤ 10000000 by decide) (by omega) (fun i hi => by cases hi))
      have hsz := hg1.size
      clear hX1
      go_wp2_with fail
      refine HC.out.mono ?_
      rintro e w2 ⟨rfl, hr2, ho2⟩
      have HR2 := Lib.hid hr2
      clear hr2
      go_wp2_with fail
      go_ret
      refine ⟨rfl, HR2.out.mono (fun k hk => hk.mono hsz (Nat.le_refl _)) (by omega) hN, (Only.of_grown hg1 (by intro k hk; injection hk with hk; subst hk; exact hkp)).trans' ho2⟩

set_option maxRecDepth 100000 in
theorem rename_c {w : World} {p : Nat} {S : St} {K : Nat → Prop} {N : Nat} (h : VRep w p S K N) (s t : ByteArray) (hs : s.size ≤ 10000000) (ht : t.size ≤ 10000000) (hN : N + 2 ≤ 100000000) (hg : Gl w) :
    Calls Tryd.prog 48 #[.pointer (some ⟨p, 0, none⟩), .string s, .string t] w fun e w' => e = .returned (.int .i64 (VfsS.renameS S s t).2) ∧ VRep w' p (VfsS.renameS S s t).1 (Kx K w.heap.size w'.heap.size) (N + 2) ∧ Only K w w' := by
  have hrep := h
  obtain ⟨bn, bs, av, φ, ψ, hX⟩ := h
  have hlk := hX.1.look s hs
  have c0 : w.cell? ⟨p, 0, none⟩ = some (.map (some bn)) := by rw [cell_of hX.2.1]; rfl
  cases hf : find S.now s with
  | none =>
    have HR : Hid (VfsS.renameS S s t = (S, 4)) := by show _ = _; unfold VfsS.renameS; rw [hf]
    rw [hf] at hlk
    have HX := Lib.hid (hrep.mono (K' := Kx K w.heap.size w.heap.size) (N' := N + 2) (fun _ h => .inl h) (by omega) hN)
    rw [HR.out]
    clear hf hX hrep
    go_enter Tryd.func48, Tryd.ntmps48
    go_wp2_with fail
    go_ret
    exact ⟨rfl, HX.out, Only.refl _ _⟩
  | some i =>
    have hl := live_of_find hf
    have hkp := hX.2.2.1
    have HCK := Lib.hid (fun (w1 : World) (g : Gl w1) => check_c t w1 g (by omega))
    rw [hf] at hlk
    simp only at hlk
    by_cases hck : PathS.check t = 0
    · rw [hck] at HCK
      by_cases hst : s = t
      · have HR : Hid (VfsS.renameS S s t = (S, 5)) := by show _ = _; unfold VfsS.renameS; rw [hf]; simp only [hck, ne_eq, not_true, if_false, if_pos hst]
        have e1 : (s.toList == t.toList) = true := by rw [hst]; simp
        rw [HR.out]
        have HX := Lib.hid hrep
        clear hf hX hrep hst hck
        go_enter Tryd.func48, Tryd.ntmps48
        go_wp2_with fail
        refine (HCK.out w hg).mono ?_
        rintro e w1 ⟨rfl, hb1⟩
        go_wp2_with fail
        go_ret
        exact ⟨rfl, (HX.out.below hb1).mono (fun _ h => .inl h) (by omega) hN, Only.of_below hb1⟩
      · have e1 : (s.toList == t.toList) = false := by rw [beq_eq_false_iff_ne, Lib.toList_data, Lib.toList_data]; exact fun h => hst (PathS.ba_ext h)
        by_cases h0 : S.limit = 0
        · have HR : Hid (VfsS.renameS S s t = (S, 190)) := by show _ = _; unfold VfsS.renameS; rw [hf]; simp only [hck, ne_eq, not_true, if_false, if_neg hst, if_pos h0]
          have HSS : Hid (VfsS.stepS S = S) := by show _ = _; unfold VfsS.stepS; rw [if_pos h0]
          have HST := Lib.hid (fun (w1 : World) (hb1 : Below w.heap.size w w1) => by have := step_c (hX.below hb1) (by omega); rwa [if_pos h0] at this)
          rw [HR.out]
          clear hf hX hrep h0 hst hck
          go_enter Tryd.func48, Tryd.ntmps48
          go_wp2_with fail
          refine (HCK.out w hg).mono ?_
          rintro e w1 ⟨rfl, hb1⟩
          have HST1 := Lib.hid (HST.out w1 hb1)
          go_wp2_with fail
          refine HST1.out.mono ?_
          rintro e w2 ⟨rfl, hX2, hg2⟩
          have HX := Lib.hid hX2
          clear hX2
          go_wp2_with fail
          go_ret
          refine ⟨rfl, ?_, (Only.of_below hb1).trans' (Only.of_grown hg2 (by intro k hk; injection hk with hk; subst hk; exact hkp))⟩
          have := HX.out
          rw [HSS.out] at this
          exact VRep.mono ⟨_, _, _, _, _, this⟩ (fun _ h => .inl h) (by omega) hN
        · have HR : Hid (VfsS.renameS S s t = (VfsS.changeS (VfsS.stepS S) ⟨s, t, some i⟩, 0)) := by show _ = _; unfold VfsS.renameS; rw [hf]; simp only [hck, ne_eq, not_true, if_false, if_neg hst, if_neg h0]
          have HST := Lib.hid (fun (w1 : World) (hb1 : Below w.heap.size w w1) => by have := step_c (hX.below hb1) (by omega); rwa [if_neg h0] at this)
          have hl1 := VfsS.live_step.2 hl
          rw [HR.out]
          clear hf hX hrep h0 hst hck
          go_enter Tryd.func48, Tryd.ntmps48
          go_wp2_with fail
          refine (HCK.out w hg).mono ?_
          rintro e w1 ⟨rfl, hb1⟩
          have HST1 := Lib.hid (HST.out w1 hb1)
          go_wp2_with fail
          refine HST1.out.mono ?_
          rintro e w2 ⟨rfl, hX2, hg2⟩
          have ho2 : Only K w w2 := (Only.of_below hb1).trans' (Only.of_grown hg2 (by intro k hk; injection hk with hk; subst hk; exact hkp))
          have HC : Hid (Calls Tryd.prog 81 #[.pointer (some ⟨p, 0, none⟩), .agg #[.string s, .string t, .pointer (some ⟨φ i, 0, none⟩)]] w2 fun e w' => e = .returned (.tuple #[]) ∧ VRep w' p (VfsS.changeS (VfsS.stepS S) ⟨s, t, some i⟩) (Kx K w2.heap.size w'.heap.size) (N + 1 + 1) ∧ Only K w2 w') :=
            change_x hX2 ⟨s, t, some i⟩ hs ht (by omega) (fun j hj => by injection hj with hj; subst hj; exact hf_live hX2.1 hl1)
          have hsz := ho2.size
          clear hX2
          go_wp2_with fail
          refine HC.out.mono ?_
          rintro e w3 ⟨rfl, hr3, ho3⟩
          have HR3 := Lib.hid hr3
          clear hr3
          go_wp2_with fail
          go_ret
          refine ⟨rfl, HR3.out.mono (fun k hk => hk.mono hsz (Nat.le_refl _)) (by omega) hN, ho2.trans' ho3⟩
    · have HR : Hid (VfsS.renameS S s t = (S, PathS.check t)) := by show _ = _; unfold VfsS.renameS; rw [hf]; simp only [ne_eq, hck, not_false_eq_true, if_true]
      have d1 : (PathS.check t == 0) = false := by rw [beq_eq_false_iff_ne]; exact hck
      have d2 : (PathS.check t != 0) = true := by rw [bne_iff_ne]; exact hck
      have HX := Lib.hid hrep
      have HGB := Lib.hid (fun (w1 : World) (hb1 : Below w.heap.size w w1) => hg.below hb1 (Nat.le_refl _))
      rw [HR.out]
      clear hf hX hrep hck HR
      generalize PathS.check t = ck at *
      go_enter Tryd.func48, Tryd.ntmps48
      go_wp2_with fail
      refine (HCK.out w hg).mono ?_
      rintro e w1 ⟨rfl, hb1⟩
      go_wp2_with fail
      refine (HCK.out w1 (HGB.out w1 hb1)).mono ?_
      rintro e w2 ⟨rfl, hb2⟩
      have hb3 := hb1.trans (hb2.mono hb1.size)
      go_wp2_with fail
      go_ret
      exact ⟨rfl, (HX.out.below hb3).mono (fun _ h => .inl h) (by omega) hN, Only.of_below hb3⟩

/-- A file's block more. -/
theorem VX.addFile {w : World} {p : Nat} {K : Nat → Prop} {N : Nat} {S : St} {bn bs : Nat} {av : Value} {φ : Nat → Nat} {ψ : Nat → Value} (h : VX w p S K N bn bs av φ ψ) (hN : N + 1 ≤ 100000000) :
    VX (w.alloc (.cells #[.slice none 0 0, .int .i64 0] 130)) p (addS S) (Kx K w.heap.size (w.heap.size + 1)) (N + 1) bn bs av (fun i => if i = S.files.length then w.heap.size else φ i) (fun i => if i = S.files.length then .slice none 0 0 else ψ i) := by
  obtain ⟨hB, hp, hkp, hs⟩ := h.below (((Below.refl _ w).alloc (Nat.le_refl _) (.cells #[.slice none 0 0, .int .i64 0] 130)))
  have hlt : ∀ i, VfsS.Live S i → i ≠ S.files.length := fun i hi => Nat.ne_of_lt (hB.wf.idx i hi)
  have hne : ∀ (l : Nm), (∀ s i, (s, i) ∈ l → VfsS.Live S i) → ∀ x, nmF φ l x = nmF (fun i => if i = S.files.length then w.heap.size else φ i) l x := fun l hl x =>
    nmF_congr (fun s i hi => by simp only [if_neg (hlt i (hl s i hi))]) x
  obtain ⟨n1, hn1, m1⟩ := hB.now
  obtain ⟨n2, hn2, m2⟩ := hB.sure
  have e1 : ∀ i, VfsS.Live S i → (if i = S.files.length then w.heap.size else φ i) = φ i := fun i hi => if_neg (hlt i hi)
  have e2 : ∀ i, VfsS.Live S i → (if i = S.files.length then Value.slice none 0 0 else ψ i) = ψ i := fun i hi => if_neg (hlt i hi)
  refine ⟨⟨⟨n1, by omega, m1.congr (hne S.now fun s i hi => .inl ⟨s, hi⟩)⟩, ⟨n2, ?_, m2.congr (hne S.sure fun s i hi => .inr (.inl ⟨s, hi⟩))⟩, ?_, fun i hi => ?_, hB.ne, fun i j hi hj => ?_, fun i j k hi hj => ?_, .inl hB.kn, .inl hB.ks, fun k hk => .inl (hB.ka k hk), fun i hi => ?_, fun i k hi => ?_, wf_add hB.wf, ?_, hN⟩, hp, .inl hkp, by show S.steps ≤ N + 1; omega⟩
  · show n2 + S.acts.length ≤ N + 1; omega
  · have := hB.acts
    rw [arow_congr (χ := fun i => if i = S.files.length then w.heap.size else φ i) fun a ha i hi => (e1 i (.inr (.inr ⟨a, ha, hi⟩))).symm] at this
    exact this
  · have hi' : VfsS.Live S i := hi
    rw [e1 i hi', e2 i hi', fl_add, if_neg (hlt i hi')]
    exact hB.file i hi'
  · rw [e1 i hi, e1 j hj]; exact hB.inj i j hi hj
  · rw [e2 i hi, e2 j hj]; exact hB.apart i j k hi hj
  · rw [e1 i hi]; exact .inl (hB.kf i hi)
  · rw [e2 i hi]; exact fun hk => .inl (hB.kb i k hi hk)
  · show (S.files ++ _).length ≤ N + 1
    rw [List.length_append]; have := hB.len; simp; omega

set_option maxRecDepth 100000 in
theorem create_c {w : World} {p : Nat} {S : St} {K : Nat → Prop} {N : Nat} (h : VRep w p S K N) (s : ByteArray) (hs : s.size ≤ 10000000) (hN : N + 3 ≤ 100000000) (hg : Gl w) :
    Calls Tryd.prog 45 #[.pointer (some ⟨p, 0, none⟩), .string s] w fun e w' => e = .returned (.int .i64 (VfsS.createS S s).2) ∧ VRep w' p (VfsS.createS S s).1 (Kx K w.heap.size w'.heap.size) (N + 3) ∧ Only K w w' := by
  have hrep := h
  obtain ⟨bn, bs, av, φ, ψ, hX⟩ := h
  have hkp := hX.2.2.1
  have HCK := Lib.hid (fun (w1 : World) (g : Gl w1) => check_c s w1 g (by omega))
  by_cases hck : PathS.check s = 0
  · rw [hck] at HCK
    have HLK := Lib.hid (fun (w1 : World) (hb1 : Below w.heap.size w w1) => (hX.below hb1).1.look s hs)
    have HC0 : Hid (∀ (w1 : World), Below w.heap.size w w1 → w1.cell? ⟨p, 0, none⟩ = some (.map (some bn))) := fun w1 hb1 => by rw [cell_of (hX.below hb1).2.1]; rfl
    cases hf : find S.now s with
    | some i =>
      have HR : Hid (VfsS.createS S s = (S, 5)) := by show _ = _; unfold VfsS.createS; rw [hf]; simp [hck]
      rw [hf] at HLK
      simp only at HLK
      rw [HR.out]
      have HX := Lib.hid hrep
      clear hf hX hrep hck HR
      go_enter Tryd.func45, Tryd.ntmps45
      go_wp2_with fail
      refine (HCK.out w hg).mono ?_
      rintro e w1 ⟨rfl, hb1⟩
      have c0 := HC0.out w1 hb1
      have hlk := HLK.out w1 hb1
      go_wp2_with fail
      go_ret
      exact ⟨rfl, (HX.out.below hb1).mono (fun _ h => .inl h) (by omega) hN, Only.of_below hb1⟩
    | none =>
      rw [hf] at HLK
      simp only at HLK
      by_cases h0 : S.limit = 0
      · have HR : Hid (VfsS.createS S s = (S, 190)) := by show _ = _; unfold VfsS.createS; rw [hf]; simp [hck, h0]
        have HSS : Hid (VfsS.stepS S = S) := by show _ = _; unfold VfsS.stepS; rw [if_pos h0]
        have HST := Lib.hid (fun (w1 : World) (hb1 : Below w.heap.size w w1) => by have := step_c (hX.below hb1) (by omega); rwa [if_pos h0] at this)
        rw [HR.out]
        clear hf hX hrep hck HR h0
        go_enter Tryd.func45, Tryd.ntmps45
        go_wp2_with fail
        refine (HCK.out w hg).mono ?_
        rintro e w1 ⟨rfl, hb1⟩
        have c0 := HC0.out w1 hb1
        have hlk := HLK.out w1 hb1
        have HST1 := Lib.hid (HST.out w1 hb1)
        go_wp2_with fail
        refine HST1.out.mono ?_
        rintro e w2 ⟨rfl, hX2, hg2⟩
        have HX := Lib.hid hX2
        clear hX2
        go_wp2_with fail
        go_ret
        refine ⟨rfl, ?_, (Only.of_below hb1).trans' (Only.of_grown hg2 (by intro k hk; injection hk with hk; subst hk; exact hkp))⟩
        have := HX.out
        rw [HSS.out] at this
        exact VRep.mono ⟨_, _, _, _, _, this⟩ (fun _ h => .inl h) (by omega) hN
      · have HR : Hid (VfsS.createS S s = (VfsS.changeS (addS (VfsS.stepS S)) ⟨ByteArray.empty, s, some S.files.length⟩, 0)) := by
          show _ = _; unfold VfsS.createS; rw [hf]; simp only [hck, ne_eq, not_true, if_false, Option.isSome_none, Bool.false_eq_true, if_neg h0]; unfold addS; rw [VfsS.stepS_files]
        have HST := Lib.hid (fun (w1 : World) (hb1 : Below w.heap.size w w1) => by have := step_c (hX.below hb1) (by omega); rwa [if_neg h0] at this)
        rw [HR.out]
        clear hf hX hrep hck HR h0
        go_enter Tryd.func45, Tryd.ntmps45
        go_wp2_with fail
        refine (HCK.out w hg).mono ?_
        rintro e w1 ⟨rfl, hb1⟩
        have c0 := HC0.out w1 hb1
        have hlk := HLK.out w1 hb1
        have HST1 := Lib.hid (HST.out w1 hb1)
        go_wp2_with fail
        refine HST1.out.mono ?_
        rintro e w2 ⟨rfl, hX2, hg2⟩
        have ho2 : Only K w w2 := (Only.of_below hb1).trans' (Only.of_grown hg2 (by intro k hk; injection hk with hk; subst hk; exact hkp))
        have hX3 := hX2.addFile (by omega)
        rw [VfsS.stepS_files] at hX3
        have hnl : ∀ j, VfsS.Live (VfsS.stepS S) j → j ≠ S.files.length := fun j hj => by have := hX2.1.wf.idx j hj; rw [VfsS.stepS_files] at this; omega
        have HC : Hid (Calls Tryd.prog 81 #[.pointer (some ⟨p, 0, none⟩), .agg #[.string ByteArray.empty, .string s, .pointer (some ⟨w2.heap.size, 0, none⟩)]] (w2.alloc (.cells #[.slice none 0 0, .int .i64 0] 130)) fun e w' => e = .returned (.tuple #[]) ∧
            VRep w' p (VfsS.changeS (addS (VfsS.stepS S)) ⟨ByteArray.empty, s, some S.files.length⟩) (Kx (Kx K w2.heap.size (w2.heap.size + 1)) (w2.alloc (.cells #[.slice none 0 0, .int .i64 0] 130)).heap.size w'.heap.size) (N + 1 + 1 + 1) ∧ Only (Kx K w2.heap.size (w2.heap.size + 1)) (w2.alloc (.cells #[.slice none 0 0, .int .i64 0] 130)) w') := by
          have := change_x hX3 ⟨ByteArray.empty, s, some S.files.length⟩ (show ByteArray.empty.size ≤ 10000000 by decide) hs (by omega) (fun i hi => by
            injection hi with hi
            subst hi
            simp only [if_pos]
            refine ⟨?_, ⟨?_, ?_⟩, .inr ⟨Nat.le_refl _, Nat.lt_succ_self _⟩, (fun k hk => by cases hk), fun j hj hne => ?_, fun j k hj hne hk => by cases hk⟩
            · show S.files.length < ((VfsS.stepS S).files ++ _).length
              rw [VfsS.stepS_files, List.length_append]; simp
            · rw [fl_add, VfsS.stepS_files, if_pos rfl]
              exact (Go.MapKept.heap_alloc w2 _).1
            · rw [fl_add, VfsS.stepS_files, if_pos rfl]
              exact OwnG.nil _ _ _
            · rw [if_neg hne]
              have := hX2.1.lt (show VfsS.Live (VfsS.stepS S) j from hj)
              omega)
          simp only [Option.map_some, if_pos, ptrV] at this
          exact this
        have hsz := ho2.size
        have hal : Only K w2 (w2.alloc (.cells #[.slice none 0 0, .int .i64 0] 130)) := Only.of_below ((Below.refl _ w2).alloc (Nat.le_refl _) _)
        have hws : (w2.alloc (.cells #[.slice none 0 0, .int .i64 0] 130)).heap.size = w2.heap.size + 1 := by simp
        clear hX2 hX3 hnl
        go_wp2_with fail
        refine HC.out.mono ?_
        rintro e w3 ⟨rfl, hr3, ho3⟩
        have HR3 := Lib.hid hr3
        have hsz3 := ho3.size
        clear hr3
        go_wp2_with fail
        go_ret
        refine ⟨rfl, HR3.out.mono (fun k hk => ?_) (by omega) hN, ?_⟩
        · rcases hk with hk | hk
          · exact hk.mono hsz (by omega)
          · exact .inr (by omega)
        · rw [← hws] at ho3
          exact ho2.trans' (hal.trans ho3)
  · have HR : Hid (VfsS.createS S s = (S, PathS.check s)) := by show _ = _; unfold VfsS.createS; simp only [ne_eq, hck, not_false_eq_true, if_true]
    have d1 : (PathS.check s == 0) = false := by rw [beq_eq_false_iff_ne]; exact hck
    have d2 : (PathS.check s != 0) = true := by rw [bne_iff_ne]; exact hck
    have HX := Lib.hid hrep
    have HGB := Lib.hid (fun (w1 : World) (hb1 : Below w.heap.size w w1) => hg.below hb1 (Nat.le_refl _))
    rw [HR.out]
    clear hX hrep hck HR
    generalize PathS.check s = ck at *
    go_enter Tryd.func45, Tryd.ntmps45
    go_wp2_with fail
    refine (HCK.out w hg).mono ?_
    rintro e w1 ⟨rfl, hb1⟩
    go_wp2_with fail
    refine (HCK.out w1 (HGB.out w1 hb1)).mono ?_
    rintro e w2 ⟨rfl, hb2⟩
    have hb3 := hb1.trans (hb2.mono hb1.size)
    go_wp2_with fail
    go_ret
    exact ⟨rfl, (HX.out.below hb3).mono (fun _ h => .inl h) (by omega) hN, Only.of_below hb3⟩
end Go.Proofs.YtfoamcobpfflbaaDoor
