/- Texts of mine, joined: Walks: a file's bytes: added to, cut, made durable. -/
import Derived.Test.YtfoamcobpfflbaaDoorZ11
namespace Go.Proofs.YtfoamcobpfflbaaDoor
open Go Go.RowKit Go.Maps
open VfsS (File Chg Nm St find doL)

/-- At address a lies the list xs, outside K. -/
def SlK (K : Nat → Prop) (w : World) (a : Option Addr) (xs : List Value) : Prop :=
  xs = [] ∨ ∃ b o, a = some ⟨b, o, none⟩ ∧ b < w.heap.size ∧ ¬ K b ∧ ∀ i u, xs[i]? = some u → w.cell? ⟨b, o + i, none⟩ = some u

theorem SlK.sl {K : Nat → Prop} {w : World} {a : Option Addr} {xs : List Value} (h : SlK K w a xs) : Sl w a xs := by
  rcases h with h | ⟨b, o, h1, h2, _, h4⟩
  · exact .inl h
  · exact .inr ⟨b, o, h1, h2, h4⟩

theorem SlK.only {K : Nat → Prop} {w w' : World} {a : Option Addr} {xs : List Value} (h : SlK K w a xs) (ho : Only K w w') : SlK K w' a xs := by
  rcases h with h | ⟨b, o, h1, h2, h3, h4⟩
  · exact .inl h
  · exact .inr ⟨b, o, h1, Nat.lt_of_lt_of_le h2 ho.size, h3, fun i u hu => by rw [World.cell?_of_block (a := ⟨b, o + i, none⟩) (ho.block b h2 h3)]; exact h4 i u hu⟩

theorem SlK.onlyx {K : Nat → Prop} {w w' : World} {a : Option Addr} {xs : List Value} (h : SlK K w a xs) (ho : Only K w w') : SlK (Kx K w.heap.size w'.heap.size) w' a xs := by
  rcases h with h | ⟨b, o, h1, h2, h3, h4⟩
  · exact .inl h
  · exact .inr ⟨b, o, h1, Nat.lt_of_lt_of_le h2 ho.size, fun e => e.elim h3 fun e => by omega, fun i u hu => by rw [World.cell?_of_block (a := ⟨b, o + i, none⟩) (ho.block b h2 h3)]; exact h4 i u hu⟩

theorem src_sl {w : World} {a : Option Addr} {c : Nat} {b : ByteArray} (h : Sl w a (byteCells b)) : Src Tryd.prog 1 43 (.slice a b.size c) b.size (byteCells b) w := by
  have hl := byteCells_length b
  rcases h with e | ⟨g, o, rfl, _, hc⟩
  · have e2 : b.size = 0 := by rw [← hl, e]; rfl
    rw [e, e2]
    cases a with
    | none => exact Src.ofNil w Tryd.underlying43 c
    | some ad => exact Src.ofSlice w Tryd.underlying43 ad 0 c [] (by simp) (fun j u hu => by cases hu) (fun u hu => by cases hu)
  · exact Src.ofSlice w Tryd.underlying43 _ b.size c (byteCells b) (by rw [hl, Nat.mul_one]) (fun j u hu => by rw [Addr.add_lit]; exact hc j u hu) (one_bytes b)

theorem byteCells_append (a b : ByteArray) : byteCells (a ++ b) = byteCells a ++ byteCells b := by
  unfold byteCells; rw [ByteArray.data_append, Array.toList_append, List.map_append]

theorem Kx.mono {K : Nat → Prop} {a b a' b' k : Nat} (h : Kx K a b k) (ha : a' ≤ a) (hb : b ≤ b') : Kx K a' b' k := by
  rcases h with h | h
  · exact .inl h
  · exact .inr (by omega)

theorem used_ge {S : St} {s : ByteArray} {i : Nat} (h : find S.now s = some i) : (VfsS.fl S i).text.size ≤ VfsS.used S := by
  unfold VfsS.used
  have hm := VfsS.find_mem h
  have : (VfsS.fl S i).text.size ∈ S.now.map fun p => (VfsS.fl S p.2).text.size := List.mem_map.2 ⟨(s, i), hm, rfl⟩
  generalize (S.now.map fun p => (VfsS.fl S p.2).text.size) = l at *
  clear hm h
  induction l with
  | nil => cases this
  | cons x l ih =>
    rw [List.sum_cons]
    rcases List.mem_cons.1 this with e | e
    · rw [e]; omega
    · have := ih e; omega

theorem step_used (S : St) : VfsS.used (VfsS.stepS S) = VfsS.used S := by unfold VfsS.used; rw [VfsS.stepS_now]; simp only [VfsS.fl_step]

/-- Behind a file's turn the whole is told anew. -/
theorem VX.putFile {w w1 w' : World} {p : Nat} {K : Nat → Prop} {N : Nat} {S : St} {bn bs : Nat} {av v : Value} {φ : Nat → Nat} {ψ : Nat → Value} (h : VX w1 p S K N bn bs av φ ψ) (hw : w.heap.size ≤ w1.heap.size) {i : Nat} (hi : VfsS.Live S i) (f : File) (hf : f.dur ≤ f.text.size ∧ f.text.size ≤ 4194304)
    (hfa : FileAt w' (φ i) v f) (hv : ∀ k, v.ownBlock = some k → (ψ i).ownBlock = some k ∨ w1.heap.size ≤ k) (hfr : Only (fun k => k = φ i ∨ (ψ i).ownBlock = some k) w1 w') : VRep w' p (VfsS.putS S i f) (Kx K w.heap.size w'.heap.size) N := by
  obtain ⟨hB, hp, hkp, hs⟩ := h
  obtain ⟨g1, g2⟩ := hB.file i hi
  refine ⟨bn, bs, av, φ, _, ((hB.putFile hi f hf hfa hv hfr).mono (fun k hk => hk.mono hw (Nat.le_refl _)) (Nat.le_refl _) hB.big), ?_, .inl hkp, hs⟩
  rw [hfr.block p (Array.getElem?_eq_some_iff.1 hp).1 fun hh => ?_]
  · exact hp
  · rcases hh with hh | hh
    · subst hh; rw [g1] at hp; injection hp with hp; injection hp with _ hp _; exact absurd hp (by decide)
    · obtain ⟨cur, hc⟩ := g2.tag hh
      rw [hc] at hp; injection hp with hp; injection hp with _ hp _; exact absurd hp (by decide)

theorem only_file {w w' : World} {K : Nat → Prop} {N : Nat} {S : St} {bn bs : Nat} {av : Value} {φ : Nat → Nat} {ψ : Nat → Value} (h : VB w K N S bn bs av φ ψ) {i : Nat} (hi : VfsS.Live S i) (hfr : Only (fun k => k = φ i ∨ (ψ i).ownBlock = some k) w w') : Only K w w' :=
  ⟨hfr.os, hfr.tape, hfr.output, hfr.size, fun k hk hn => hfr.block k hk fun hh => hn (hh.elim (fun e => e ▸ h.kf i hi) (fun e => h.kb i k hi e))⟩

set_option maxRecDepth 100000 in
theorem sync_c {w : World} {p : Nat} {S : St} {K : Nat → Prop} {N : Nat} (h : VRep w p S K N) (s : ByteArray) (hs : s.size ≤ 10000000) (hN : N + 2 ≤ 100000000) :
    Calls Tryd.prog 46 #[.pointer (some ⟨p, 0, none⟩), .string s] w fun e w' => e = .returned (.int .i64 (VfsS.syncS S s).2) ∧ VRep w' p (VfsS.syncS S s).1 (Kx K w.heap.size w'.heap.size) (N + 2) ∧ Only K w w' := by
  have hrep := h
  obtain ⟨bn, bs, av, φ, ψ, hX⟩ := h
  have hlk := hX.1.look s hs
  have c0 : w.cell? ⟨p, 0, none⟩ = some (.map (some bn)) := by rw [cell_of hX.2.1]; rfl
  cases hf : find S.now s with
  | none =>
    have HR : Hid (VfsS.syncS S s = (S, 4)) := by show _ = _; unfold VfsS.syncS; rw [hf]
    rw [hf] at hlk
    have HX := Lib.hid (hrep.mono (K' := Kx K w.heap.size w.heap.size) (N' := N + 2) (fun _ h => .inl h) (by omega) hN)
    rw [HR.out]
    clear hf hX hrep
    go_enter Tryd.func46, Tryd.ntmps46
    go_wp2_with fail
    go_ret
    exact ⟨rfl, HX.out, Only.refl _ _⟩
  | some i =>
    have hl := live_of_find hf
    have HST := Lib.hid (step_c hX (by omega))
    have hkp := hX.2.2.1
    rw [hf] at hlk
    simp only at hlk
    by_cases h0 : S.limit = 0
    · have HR : Hid (VfsS.syncS S s = (S, 190)) := by show _ = _; unfold VfsS.syncS; rw [hf]; simp only [if_pos h0]
      have HSS : Hid (VfsS.stepS S = S) := by show _ = _; unfold VfsS.stepS; rw [if_pos h0]
      rw [if_pos h0] at HST
      rw [HR.out]
      clear hf hX hrep h0
      go_enter Tryd.func46, Tryd.ntmps46
      go_wp2_with fail
      refine HST.out.mono ?_
      rintro e w1 ⟨rfl, hX1, hg1⟩
      have HX := Lib.hid hX1
      clear hX1
      go_wp2_with fail
      go_ret
      refine ⟨rfl, ?_, Only.of_grown hg1 (by intro k hk; injection hk with hk; subst hk; exact hkp)⟩
      have := HX.out
      rw [HSS.out] at this
      exact VRep.mono ⟨_, _, _, _, _, this⟩ (fun _ h => .inl h) (by omega) hN
    · have HR : Hid (VfsS.syncS S s = (VfsS.putS (VfsS.stepS S) i ⟨(VfsS.fl S i).text, (VfsS.fl S i).text.size⟩, 0)) := by show _ = _; unfold VfsS.syncS; rw [hf]; simp only [if_neg h0]
      rw [if_neg h0] at HST
      rw [HR.out]
      have HOK := Lib.hid (file_ok hX.1.wf hl)
      have hl1 := VfsS.live_step.2 hl
      clear hf hX hrep h0
      go_enter Tryd.func46, Tryd.ntmps46
      go_wp2_with fail
      refine HST.out.mono ?_
      rintro e w1 ⟨rfl, hX1, hg1⟩
      obtain ⟨f1, f2⟩ := hX1.1.file i hl1
      rw [VfsS.fl_step] at f1 f2
      obtain ⟨fa, fc, hpsi, -, -, -⟩ := f2.form
      have k0 : w1.cell? ⟨φ i, 0, none⟩ = some (.slice fa (VfsS.fl S i).text.size fc) := by rw [cell_of f1, hpsi]; rfl
      have k1 : w1.cell? ⟨φ i, 1, none⟩ = some (.int .i64 (VfsS.fl S i).dur) := by rw [cell_of f1]; rfl
      have fz := frozen_of f1 1
      obtain ⟨s2, g2⟩ := set_block f1 1 (.int .i64 ((VfsS.fl S i).text.size : Nat))
      have hne : (ψ i).ownBlock = none ∨ (ψ i).ownBlock ≠ some (φ i) := by
        cases hk : (ψ i).ownBlock with
        | none => exact .inl rfl
        | some k =>
          right; intro e; injection e with e; subst e
          obtain ⟨cur, hc⟩ := f2.tag hk
          rw [hc] at f1; injection f1 with f1; injection f1 with _ f1 _; exact absurd f1 (by decide)
      have HFA : Hid (FileAt (w1.setCell ⟨φ i, 1, none⟩ (.int .i64 ((VfsS.fl S i).text.size : Nat))) (φ i) (ψ i) ⟨(VfsS.fl S i).text, (VfsS.fl S i).text.size⟩) := ⟨by simpa using s2, f2.kept g2 hne⟩
      have HFR : Hid (Only (fun k => k = φ i ∨ (ψ i).ownBlock = some k) w1 (w1.setCell ⟨φ i, 1, none⟩ (.int .i64 ((VfsS.fl S i).text.size : Nat)))) := Only.of_grown g2 (by intro k hk; injection hk with hk; exact .inl hk.symm)
      have HX := Lib.hid hX1
      clear hX1 f1 f2 hpsi s2 g2 hne
      go_wp2_with fail
      go_ret
      have hsz := hg1.size
      refine ⟨rfl, ?_, ?_⟩
      · exact (HX.out.putFile hsz hl1 ⟨(VfsS.fl S i).text, (VfsS.fl S i).text.size⟩ ⟨Nat.le_refl _, HOK.out.2⟩ HFA.out (fun k hk => .inl hk) HFR.out).mono (fun _ h => h) (by omega) hN
      · exact (Only.of_grown hg1 (by intro k hk; injection hk with hk; subst hk; exact hkp)).trans' (only_file HX.out.1 hl1 HFR.out)

theorem extract_take (s : ByteArray) (n : Nat) : byteCells (s.extract 0 n) = (byteCells s).take n := by
  unfold byteCells
  rw [← List.map_take]
  congr 1
  rw [ByteArray.data_extract, Array.toList_extract]
  simp

set_option maxRecDepth 100000 in
theorem append_c {w : World} {p : Nat} {S : St} {K : Nat → Prop} {N : Nat} (h : VRep w p S K N) (s b : ByteArray) (a : Option Addr) (c : Nat) (hs : s.size ≤ 10000000) (hb : b.size ≤ 10000000) (hsl : SlK K w a (byteCells b)) (hN : N + 2 ≤ 100000000) :
    Calls Tryd.prog 27 #[.pointer (some ⟨p, 0, none⟩), .string s, .slice a b.size c] w fun e w' => e = .returned (.int .i64 (VfsS.appendS S s b).2) ∧ VRep w' p (VfsS.appendS S s b).1 (Kx K w.heap.size w'.heap.size) (N + 2) ∧ Only K w w' := by
  have hrep := h
  obtain ⟨bn, bs, av, φ, ψ, hX⟩ := h
  have hlk := hX.1.look s hs
  have c0 : w.cell? ⟨p, 0, none⟩ = some (.map (some bn)) := by rw [cell_of hX.2.1]; rfl
  cases hf : find S.now s with
  | none =>
    have HR : Hid (VfsS.appendS S s b = (S, 4)) := by show _ = _; unfold VfsS.appendS; rw [hf]
    rw [hf] at hlk
    have HX := Lib.hid (hrep.mono (K' := Kx K w.heap.size w.heap.size) (N' := N + 2) (fun _ h => .inl h) (by omega) hN)
    rw [HR.out]
    clear hf hX hrep hsl
    go_enter Tryd.func27, Tryd.ntmps27
    go_wp2_with fail
    go_ret
    exact ⟨rfl, HX.out, Only.refl _ _⟩
  | some i =>
    have hl := live_of_find hf
    have HLF := Lib.hid (left_c hrep)
    have hkp := hX.2.2.1
    rw [hf] at hlk
    simp only at hlk
    by_cases hfull : (S.room : Int) - VfsS.used S < b.size
    · have HR : Hid (VfsS.appendS S s b = (S, 3)) := by show _ = _; unfold VfsS.appendS; rw [hf]; simp only [if_pos hfull]
      have d1 : decide ((S.room : Int) - (VfsS.used S : Int) < (b.size : Int)) = true := decide_eq_true hfull
      rw [HR.out]
      have HX := Lib.hid hrep
      clear hf hX hrep hfull hsl
      generalize (S.room : Int) - (VfsS.used S : Int) = lf at *
      go_enter Tryd.func27, Tryd.ntmps27
      go_wp2_with fail
      refine HLF.out.mono ?_
      rintro e w1 ⟨rfl, hb1⟩
      go_wp2_with fail
      go_ret
      exact ⟨rfl, (HX.out.below hb1).mono (fun _ h => .inl h) (by omega) hN, Only.of_below hb1⟩
    · have d1 : decide ((S.room : Int) - (VfsS.used S : Int) < (b.size : Int)) = false := decide_eq_false hfull
      have hroom := hX.1.wf.room
      have hug := used_ge hf
      have hok := file_ok hX.1.wf hl
      have hsum : (VfsS.fl S i).text.size + b.size ≤ 4194304 := by omega
      by_cases h0 : S.limit = 0
      · have HR : Hid (VfsS.appendS S s b = (S, 190)) := by show _ = _; unfold VfsS.appendS; rw [hf]; simp only [if_neg hfull, if_pos h0]
        have HSS : Hid (VfsS.stepS S = S) := by show _ = _; unfold VfsS.stepS; rw [if_pos h0]
        rw [HR.out]
        have HST := Lib.hid (fun (w1 : World) (hb1 : Below w.heap.size w w1) => by have := step_c (hX.below hb1) (by omega); rwa [if_pos h0] at this)
        clear hf hX hrep h0 hfull hroom hug hok hsum hsl
        generalize (S.room : Int) - (VfsS.used S : Int) = lf at *
        go_enter Tryd.func27, Tryd.ntmps27
        go_wp2_with fail
        refine HLF.out.mono ?_
        rintro e w1 ⟨rfl, hb1⟩
        have HST1 := Lib.hid (HST.out w1 hb1)
        go_wp2_with fail
        refine HST1.out.mono ?_
        rintro e w2 ⟨rfl, hX2, hg2⟩
        have HX := Lib.hid hX2
        clear hX2
        go_wp2_with fail
        go_ret
        refine ⟨rfl, ?_, (Only.of_below hb1).trans' (Only.of_grown hg2 (by intro k hk; injection hk with hk; subst hk; exact hkp))⟩
        have := HX.out
        rw [HSS.out] at this
        exact VRep.mono ⟨_, _, _, _, _, this⟩ (fun _ h => .inl h) (by omega) hN
      · have HR : Hid (VfsS.appendS S s b = (VfsS.putS (VfsS.stepS S) i ⟨(VfsS.fl S i).text ++ b, (VfsS.fl S i).dur⟩, 0)) := by show _ = _; unfold VfsS.appendS; rw [hf]; simp only [if_neg hfull, if_neg h0]
        rw [HR.out]
        have HST := Lib.hid (fun (w1 : World) (hb1 : Below w.heap.size w w1) => by have := step_c (hX.below hb1) (by omega); rwa [if_neg h0] at this)
        have hl1 := VfsS.live_step.2 hl
        have HSL := Lib.hid hsl
        clear hf hX hrep h0 hfull hroom hug hsl
        generalize (S.room : Int) - (VfsS.used S : Int) = lf at *
        go_enter Tryd.func27, Tryd.ntmps27
        go_wp2_with fail
        refine HLF.out.mono ?_
        rintro e w1 ⟨rfl, hb1⟩
        have HST1 := Lib.hid (HST.out w1 hb1)
        go_wp2_with fail
        refine HST1.out.mono ?_
        rintro e w2 ⟨rfl, hX2, hg2⟩
        have ho2 : Only K w w2 := (Only.of_below hb1).trans' (Only.of_grown hg2 (by intro k hk; injection hk with hk; subst hk; exact hkp))
        obtain ⟨f1, f2⟩ := hX2.1.file i hl1
        rw [VfsS.fl_step] at f1 f2
        have k0 : w2.cell? ⟨φ i, 0, none⟩ = some (ψ i) := by rw [cell_of f1]; rfl
        have hsrc := src_sl (c := c) (HSL.out.only ho2).sl
        have hne : (ψ i).ownBlock ≠ some (φ i) := by
          intro e
          obtain ⟨cur, hc⟩ := f2.tag e
          rw [hc] at f1; injection f1 with f1; injection f1 with _ f1 _; exact absurd f1 (by decide)
        have HX := Lib.hid hX2
        have HF1 := Lib.hid f1
        have hphl := hX2.1.lt hl1
        have h63 : (VfsS.fl S i).text.size + b.size ≤ maxLen := by simp only [maxLen]; omega
        have h47 : ((VfsS.fl S i).text.size + b.size) * 1 ≤ 140737488355328 := by omega
        clear hX2 f1
        go_wp2_with (at_builtin; refine wp_appG rfl _ _ _ _ rfl byteElem rfl rfl f2 rfl hsrc h63 h47 ?_)
        intro v3 w3 ho3 hg3 hv3
        obtain ⟨a3, c3, rfl, -, -, -⟩ := ho3.form
        have f3 := (hg3.block _ hphl (Ne.symm hne)).trans HF1.out
        have k3 : w3.cell? ⟨φ i, 0, none⟩ = some (ψ i) := by rw [cell_of f3]; rfl
        have fz := frozen_of f3 0
        obtain ⟨s4, g4⟩ := set_block f3 0 (.slice a3 ((VfsS.fl S i).text.size + b.size) c3)
        have hnv : (Value.slice a3 ((VfsS.fl S i).text.size + b.size) c3).ownBlock = none ∨ (Value.slice a3 ((VfsS.fl S i).text.size + b.size) c3).ownBlock ≠ some (φ i) := by
          cases hk : (Value.slice a3 ((VfsS.fl S i).text.size + b.size) c3).ownBlock with
          | none => exact .inl rfl
          | some k =>
            right; intro e; injection e with e; subst e
            rcases hv3 _ hk with h | h
            · exact hne h
            · omega
        have HFA : Hid (FileAt (w3.setCell ⟨φ i, 0, none⟩ (.slice a3 ((VfsS.fl S i).text.size + b.size) c3)) (φ i) (.slice a3 ((VfsS.fl S i).text.size + b.size) c3) ⟨(VfsS.fl S i).text ++ b, (VfsS.fl S i).dur⟩) := by
          refine ⟨by simpa using s4, ?_⟩
          show OwnG _ _ _ _ ((VfsS.fl S i).text ++ b).size (byteCells ((VfsS.fl S i).text ++ b))
          rw [ByteArray.size_append, byteCells_append]
          exact ho3.kept g4 hnv
        have HFR : Hid (Only (fun k => k = φ i ∨ (ψ i).ownBlock = some k) w2 (w3.setCell ⟨φ i, 0, none⟩ (.slice a3 ((VfsS.fl S i).text.size + b.size) c3))) :=
          (Only.of_grown hg3 (fun k hk => .inr hk)).trans' (Only.of_grown g4 (by intro k hk; injection hk with hk; exact .inl hk.symm))
        have HV := Lib.hid hv3
        clear f2 f3 s4 g4 hnv hne ho3 hg3 hsrc hv3
        go_wp2_with fail
        go_ret
        refine ⟨rfl, ?_, ?_⟩
        · exact (HX.out.putFile (ho2.size) hl1 ⟨(VfsS.fl S i).text ++ b, (VfsS.fl S i).dur⟩ ⟨by show (VfsS.fl S i).dur ≤ ((VfsS.fl S i).text ++ b).size; rw [ByteArray.size_append]; omega, by show ((VfsS.fl S i).text ++ b).size ≤ _; rw [ByteArray.size_append]; exact hsum⟩ HFA.out HV.out HFR.out).mono (fun _ h => h) (by omega) hN
        · exact ho2.trans' (only_file HX.out.1 hl1 HFR.out)

set_option maxRecDepth 100000 in
theorem cut_c {w : World} {p : Nat} {S : St} {K : Nat → Prop} {N : Nat} (h : VRep w p S K N) (s : ByteArray) (n : Int) (hs : s.size ≤ 10000000) (hN : N + 2 ≤ 100000000) :
    Calls Tryd.prog 49 #[.pointer (some ⟨p, 0, none⟩), .string s, .int .i64 n] w fun e w' => e = .returned (.int .i64 (VfsS.cutS S s n).2) ∧ VRep w' p (VfsS.cutS S s n).1 (Kx K w.heap.size w'.heap.size) (N + 2) ∧ Only K w w' := by
  have hrep := h
  obtain ⟨bn, bs, av, φ, ψ, hX⟩ := h
  have hlk := hX.1.look s hs
  have c0 : w.cell? ⟨p, 0, none⟩ = some (.map (some bn)) := by rw [cell_of hX.2.1]; rfl
  cases hf : find S.now s with
  | none =>
    have HR : Hid (VfsS.cutS S s n = (S, 4)) := by show _ = _; unfold VfsS.cutS; rw [hf]
    rw [hf] at hlk
    have HX := Lib.hid (hrep.mono (K' := Kx K w.heap.size w.heap.size) (N' := N + 2) (fun _ h => .inl h) (by omega) hN)
    rw [HR.out]
    clear hf hX hrep
    go_enter Tryd.func49, Tryd.ntmps49
    go_wp2_with fail
    go_ret
    exact ⟨rfl, HX.out, Only.refl _ _⟩
  | some i =>
    have hl := live_of_find hf
    have HST := Lib.hid (step_c hX (by omega))
    have hkp := hX.2.2.1
    rw [hf] at hlk
    simp only at hlk
    obtain ⟨f1, f2⟩ := hX.1.file i hl
    obtain ⟨fa, fc, hpsi, hfc, -, -⟩ := f2.form
    have k0 : w.cell? ⟨φ i, 0, none⟩ = some (.slice fa (VfsS.fl S i).text.size fc) := by rw [cell_of f1, hpsi]; rfl
    by_cases hbad : n < 0 ∨ ((VfsS.fl S i).text.size : Int) < n
    · have HR : Hid (VfsS.cutS S s n = (S, 1)) := by show _ = _; unfold VfsS.cutS; rw [hf]; simp only [if_pos hbad]
      have HX := Lib.hid (hrep.mono (K' := Kx K w.heap.size w.heap.size) (N' := N + 2) (fun _ h => .inl h) (by omega) hN)
      rw [HR.out]
      by_cases hn0 : n < 0
      · have d1 : decide (n < 0) = true := decide_eq_true hn0
        clear hf hX hrep f1 f2 hpsi hbad hn0
        go_enter Tryd.func49, Tryd.ntmps49
        go_wp2_with fail
        go_ret
        exact ⟨rfl, HX.out, Only.refl _ _⟩
      · have d1 : decide (n < 0) = false := decide_eq_false hn0
        have d2 : decide (((VfsS.fl S i).text.size : Int) < n) = true := decide_eq_true (hbad.resolve_left hn0)
        clear hf hX hrep f1 f2 hpsi hbad hn0
        go_enter Tryd.func49, Tryd.ntmps49
        go_wp2_with fail
        go_ret
        exact ⟨rfl, HX.out, Only.refl _ _⟩
    · have d1 : decide (n < 0) = false := decide_eq_false (fun e => hbad (.inl e))
      have d2 : decide (((VfsS.fl S i).text.size : Int) < n) = false := decide_eq_false (fun e => hbad (.inr e))
      by_cases h0 : S.limit = 0
      · have HR : Hid (VfsS.cutS S s n = (S, 190)) := by show _ = _; unfold VfsS.cutS; rw [hf]; simp only [if_neg hbad, if_pos h0]
        have HSS : Hid (VfsS.stepS S = S) := by show _ = _; unfold VfsS.stepS; rw [if_pos h0]
        rw [if_pos h0] at HST
        rw [HR.out]
        clear hf hX hrep h0 f1 f2 hpsi hbad
        go_enter Tryd.func49, Tryd.ntmps49
        go_wp2_with fail
        refine HST.out.mono ?_
        rintro e w1 ⟨rfl, hX1, hg1⟩
        have HX := Lib.hid hX1
        clear hX1
        go_wp2_with fail
        go_ret
        refine ⟨rfl, ?_, Only.of_grown hg1 (by intro k hk; injection hk with hk; subst hk; exact hkp)⟩
        have := HX.out
        rw [HSS.out] at this
        exact VRep.mono ⟨_, _, _, _, _, this⟩ (fun _ h => .inl h) (by omega) hN
      · have HR : Hid (VfsS.cutS S s n = (VfsS.putS (VfsS.stepS S) i ⟨(VfsS.fl S i).text.extract 0 n.toNat, n.toNat⟩, 0)) := by show _ = _; unfold VfsS.cutS; rw [hf]; simp only [if_neg hbad, if_neg h0]
        rw [if_neg h0] at HST
        rw [HR.out]
        have HOK := Lib.hid (file_ok hX.1.wf hl)
        have hl1 := VfsS.live_step.2 hl
        obtain ⟨m, rfl⟩ : ∃ m : Nat, n = m := ⟨n.toNat, by omega⟩
        rw [Int.toNat_natCast]
        have hml : m ≤ (VfsS.fl S i).text.size := by omega
        have hmf : m ≤ fc := by omega
        clear hf hX hrep h0 f1 f2 hbad
        go_enter Tryd.func49, Tryd.ntmps49
        go_wp2_with fail
        refine HST.out.mono ?_
        rintro e w1 ⟨rfl, hX1, hg1⟩
        obtain ⟨f1, f2⟩ := hX1.1.file i hl1
        rw [VfsS.fl_step] at f1 f2
        have k0' : w1.cell? ⟨φ i, 0, none⟩ = some (.slice fa (VfsS.fl S i).text.size fc) := by rw [cell_of f1, hpsi]; rfl
        have fz0 := frozen_of f1 0
        obtain ⟨s2, g2⟩ := set_block f1 0 (.slice fa m fc)
        have k1 : (w1.setCell ⟨φ i, 0, none⟩ (.slice fa m fc)).cell? ⟨φ i, 1, none⟩ = some (.int .i64 (VfsS.fl S i).dur) := by rw [cell_of s2]; rfl
        have fz1 := frozen_of s2 1
        obtain ⟨s3, g3⟩ := set_block s2 1 (.int .i64 (m : Nat))
        have g23 : w1.grownBy ((w1.setCell ⟨φ i, 0, none⟩ (.slice fa m fc)).setCell ⟨φ i, 1, none⟩ (.int .i64 (m : Nat))) (some (φ i)) := World.grownBy.andThen g2 g3 (fun j hj => .inr hj)
        have f2' := f2
        rw [hpsi] at f2'
        have f4 := f2'.take m fc hml hmf (Nat.le_refl _)
        have hne : (Value.slice fa m fc).ownBlock = none ∨ (Value.slice fa m fc).ownBlock ≠ some (φ i) := by
          cases hk : (Value.slice fa m fc).ownBlock with
          | none => exact .inl rfl
          | some k =>
            right; intro e; injection e with e; subst e
            obtain ⟨cur, hc⟩ := f4.tag hk
            rw [hc] at f1; injection f1 with f1; injection f1 with _ f1 _; exact absurd f1 (by decide)
        have hex : ((VfsS.fl S i).text.extract 0 m).size = m := by rw [ByteArray.size_extract]; omega
        have HFA : Hid (FileAt ((w1.setCell ⟨φ i, 0, none⟩ (.slice fa m fc)).setCell ⟨φ i, 1, none⟩ (.int .i64 (m : Nat))) (φ i) (.slice fa m fc) ⟨(VfsS.fl S i).text.extract 0 m, m⟩) := by
          refine ⟨by simpa using s3, ?_⟩
          show OwnG _ _ _ _ ((VfsS.fl S i).text.extract 0 m).size (byteCells ((VfsS.fl S i).text.extract 0 m))
          rw [hex, extract_take]
          have := f4.kept g23 hne
          rwa [Nat.mul_one] at this
        have HFR : Hid (Only (fun k => k = φ i ∨ (ψ i).ownBlock = some k) w1 ((w1.setCell ⟨φ i, 0, none⟩ (.slice fa m fc)).setCell ⟨φ i, 1, none⟩ (.int .i64 (m : Nat)))) := Only.of_grown g23 (by intro k hk; injection hk with hk; exact .inl hk.symm)
        have HX := Lib.hid hX1
        have HV : Hid (∀ k, (Value.slice fa m fc).ownBlock = some k → (ψ i).ownBlock = some k ∨ w1.heap.size ≤ k) := by
          intro k hk
          left; rw [hpsi]
          cases fa with
          | none => cases hk
          | some ad => exact hk
        have HEX := Lib.hid hex
        clear hX1 f1 f2 f2' f4 hpsi s2 g2 s3 g3 g23 hne hex
        go_wp2_with fail
        go_ret
        have hsz := hg1.size
        refine ⟨rfl, ?_, ?_⟩
        · exact (HX.out.putFile hsz hl1 ⟨(VfsS.fl S i).text.extract 0 m, m⟩ ⟨by show m ≤ ((VfsS.fl S i).text.extract 0 m).size; rw [HEX.out]; exact Nat.le_refl _, by show ((VfsS.fl S i).text.extract 0 m).size ≤ _; rw [HEX.out]; have := HOK.out.2; omega⟩ HFA.out HV.out HFR.out).mono (fun _ h => h) (by omega) hN
        · exact (Only.of_grown hg1 (by intro k hk; injection hk with hk; subst hk; exact hkp)).trans' (only_file HX.out.1 hl1 HFR.out)
end Go.Proofs.YtfoamcobpfflbaaDoor
