/- Texts of mine, joined: What the file system's parts are behind a change of names, and behind a file's turn. | Walks: a file's bytes: added to, cut, made durable. | Walks: files made, renamed, removed. -/
import Derived.Test.YtfoamcobpfflbaaDoorZ3
namespace Go.Proofs.YtfoamcobpfflbaaDoor
open Go Go.RowKit Go.Maps
open VfsS (File Chg Nm St find doL)

theorem Kx.old {K : Nat → Prop} {a b k : Nat} (h : K k) : Kx K a b k := .inl h

/-- Behind a change of names. -/
theorem VB.changed {w w' : World} {K : Nat → Prop} {N n : Nat} {S : St} {bn bs : Nat} {av av' : Value} {φ : Nat → Nat} {ψ : Nat → Value} {p : Nat} {cs : Array Value} {fr : Nat × Nat} (h : VB w K N S bn bs av φ ψ) (hp : w.heap[p]? = some (.cells cs 112 fr)) (a : Chg) (hn : n ≤ N)
    (hs : a.src.size ≤ 10000000) (hd : a.dst.size ≤ 10000000)
    (hf : ∀ i, a.file = some i → i < S.files.length ∧ FileAt w (φ i) (ψ i) (VfsS.fl S i) ∧ K (φ i) ∧ (∀ k, (ψ i).ownBlock = some k → K k) ∧ (∀ j, VfsS.Live S j → j ≠ i → φ j ≠ φ i) ∧ (∀ j k, VfsS.Live S j → j ≠ i → (ψ i).ownBlock = some k → (ψ j).ownBlock ≠ some k))
    (hm : MapG NC w' bn (n + 1) (nmF φ (doL S.now a))) (ho : OwnG w' 150 3 av' (S.acts ++ [a]).length (arow φ (S.acts ++ [a]))) (hav : ∀ k, av'.ownBlock = some k → av.ownBlock = some k ∨ w.heap.size ≤ k)
    (hfr : Only (fun k => k = p ∨ k = bn ∨ av.ownBlock = some k) w w') (hN : N + 1 ≤ 100000000) : VB w' (Kx K w.heap.size w'.heap.size) (N + 1) (VfsS.changeS S a) bn bs av' φ ψ := by
  obtain ⟨n2, hn2, m2⟩ := h.sure
  obtain ⟨n1, hn1, m1⟩ := h.now
  obtain ⟨es1, c1, b1⟩ := m1.isMap
  obtain ⟨es2, c2, b2⟩ := m2.isMap
  have hw := h.wf.change (fun i hi => (hf i hi).1) hs hd
  have far : ∀ (k : Nat) (cs' : Array Value) (e : TypeId) (fr' : Nat × Nat), w.heap[k]? = some (Obj.cells cs' e fr') → e ≠ 112 → e ≠ 150 → w'.heap[k]? = w.heap[k]? := by
    intro k cs' e fr' hk he1 he2
    refine hfr.block k (Array.getElem?_eq_some_iff.1 hk).1 fun hh => ?_
    rcases hh with hh | hh | hh
    · subst hh; rw [hp] at hk; injection hk with hk; injection hk with _ hk _; exact he1 hk.symm
    · subst hh; rw [b1] at hk; cases hk
    · obtain ⟨cur, hc⟩ := h.acts.tag hh
      rw [hc] at hk; injection hk with hk; injection hk with _ hk _; exact he2 hk.symm
  have fileAll : ∀ i, VfsS.Live S i ∨ a.file = some i → FileAt w (φ i) (ψ i) (VfsS.fl S i) := by
    rintro i (hi | hi)
    · exact h.file i hi
    · exact (hf i hi).2.1
  have live2 : ∀ i, VfsS.Live (VfsS.changeS S a) i → VfsS.Live S i ∨ a.file = some i := fun i hi => VfsS.live_change hi
  have hbs : w'.heap[bs]? = w.heap[bs]? := by
    refine hfr.block bs m2.lt fun hh => ?_
    rcases hh with hh | hh | hh
    · subst hh; rw [hp] at b2; cases b2
    · exact h.ne hh.symm
    · obtain ⟨cur, hc⟩ := h.acts.tag hh
      rw [hc] at b2; cases b2
  refine ⟨⟨n + 1, by omega, hm⟩, ⟨n2, ?_, m2.block hbs⟩, ho, fun i hi => ?_, h.ne, fun i j hi hj e => ?_, fun i j k hi hj hij => ?_, .inl h.kn, .inl h.ks, fun k hk => ?_, fun i hi => ?_, fun i k hi hk => ?_, hw, ?_, hN⟩
  · show n2 + (S.acts ++ [a]).length ≤ N + 1
    rw [List.length_append]; simp; omega
  · obtain ⟨f1, f2⟩ := fileAll i (live2 i hi)
    exact ⟨(far _ _ _ _ f1 (by decide) (by decide)).trans f1, f2.block fun k hk => by obtain ⟨cur, hc⟩ := f2.tag hk; exact far _ _ _ _ hc (by decide) (by decide)⟩
  · rcases live2 i hi with hi | hi <;> rcases live2 j hj with hj | hj
    · exact h.inj i j hi hj e
    · by_cases hij : i = j
      · exact hij
      · exact absurd e ((hf j hj).2.2.2.2.1 i hi hij)
    · by_cases hij : j = i
      · exact hij.symm
      · exact absurd e.symm ((hf i hi).2.2.2.2.1 j hj hij)
    · rw [hi] at hj; injection hj
  · rcases live2 i hi with hi | hi <;> rcases live2 j hj with hj | hj
    · exact h.apart i j k hi hj hij
    · exact fun h1 h2 => (hf j hj).2.2.2.2.2 i k hi hij h2 h1
    · exact (hf i hi).2.2.2.2.2 j k hj (Ne.symm hij)
    · rw [hi] at hj; injection hj with hj; exact absurd hj hij
  · rcases hav k hk with h1 | h1
    · exact .inl (h.ka k h1)
    · exact .inr ⟨h1, ho.lt hk⟩
  · rcases live2 i hi with hi | hi
    · exact .inl (h.kf i hi)
    · exact .inl (hf i hi).2.2.1
  · rcases live2 i hi with hi | hi
    · exact .inl (h.kb i k hi hk)
    · exact .inl ((hf i hi).2.2.2.1 k hk)
  · show S.files.length ≤ N + 1
    have := h.len; omega

/-- Behind a file's turn. -/
theorem VB.putFile {w w' : World} {K : Nat → Prop} {N : Nat} {S : St} {bn bs : Nat} {av v : Value} {φ : Nat → Nat} {ψ : Nat → Value} (h : VB w K N S bn bs av φ ψ) {i : Nat} (hi : VfsS.Live S i) (f : File) (hf : f.dur ≤ f.text.size ∧ f.text.size ≤ 4194304)
    (hfa : FileAt w' (φ i) v f) (hv : ∀ k, v.ownBlock = some k → (ψ i).ownBlock = some k ∨ w.heap.size ≤ k) (hfr : Only (fun k => k = φ i ∨ (ψ i).ownBlock = some k) w w') :
    VB w' (Kx K w.heap.size w'.heap.size) N (VfsS.putS S i f) bn bs av φ (fun j => if j = i then v else ψ j) := by
  obtain ⟨n2, hn2, m2⟩ := h.sure
  obtain ⟨n1, hn1, m1⟩ := h.now
  obtain ⟨es1, c1, b1⟩ := m1.isMap
  obtain ⟨es2, c2, b2⟩ := m2.isMap
  obtain ⟨g1, g2⟩ := h.file i hi
  have mapFar : ∀ (b : Nat) (es : Array MapEntry) (c : Nat), w.heap[b]? = some (Obj.map es c) → w'.heap[b]? = w.heap[b]? := by
    intro b es c hb
    refine hfr.block b (Array.getElem?_eq_some_iff.1 hb).1 fun hh => ?_
    rcases hh with hh | hh
    · subst hh; rw [g1] at hb; cases hb
    · obtain ⟨cur, hc⟩ := g2.tag hh
      rw [hc] at hb; cases hb
  have hlen := h.wf.idx i hi
  have getS := VfsS.fl_put hlen f
  have hlv : ∀ j, VfsS.Live (VfsS.putS S i f) j ↔ VfsS.Live S j := fun j => Iff.rfl
  refine ⟨⟨n1, hn1, m1.block (mapFar _ _ _ b1)⟩, ⟨n2, hn2, m2.block (mapFar _ _ _ b2)⟩, h.acts.block fun k hk => ?_, fun j hj => ?_, h.ne, h.inj, fun j l k hj hl hjl => ?_, .inl h.kn, .inl h.ks, fun k hk => .inl (h.ka k hk), fun j hj => .inl (h.kf j hj), fun j k hj hk => ?_, h.wf.put i hf, ?_, h.big⟩
  · obtain ⟨cur, hc⟩ := h.acts.tag hk
    refine hfr.block k (h.acts.lt hk) fun hh => ?_
    rcases hh with hh | hh
    · subst hh; rw [g1] at hc; injection hc with hc; injection hc with _ hc _; exact absurd hc (by decide)
    · obtain ⟨cur2, hc2⟩ := g2.tag hh
      rw [hc2] at hc; injection hc with hc; injection hc with _ hc _; exact absurd hc (by decide)
  · rw [getS]
    by_cases e : j = i
    · subst e; rw [if_pos rfl]; simp only [if_pos]; exact hfa
    · rw [if_neg e]
      simp only [if_neg e]
      obtain ⟨f1, f2⟩ := h.file j hj
      refine ⟨(hfr.block _ (h.lt hj) fun hh => ?_).trans f1, f2.block fun k hk => hfr.block k (f2.lt hk) fun hh => ?_⟩
      · rcases hh with hh | hh
        · exact e (h.inj j i hj hi hh)
        · obtain ⟨cur2, hc2⟩ := g2.tag hh
          rw [hc2] at f1; injection f1 with f1; injection f1 with _ f1 _; exact absurd f1 (by decide)
      · rcases hh with hh | hh
        · obtain ⟨cur2, hc2⟩ := f2.tag hk
          subst hh; rw [g1] at hc2; injection hc2 with hc2; injection hc2 with _ hc2 _; exact absurd hc2 (by decide)
        · exact h.apart i j k hi hj (fun e2 => e e2.symm) hh hk
  · by_cases e1 : j = i
    · rw [if_pos e1, if_neg (fun e2 => hjl (e1.trans e2.symm))]
      intro h1 h2
      rcases hv k h1 with h3 | h3
      · exact h.apart i l k hi hl (fun e => hjl (e1.trans e)) h3 h2
      · have := (h.file l hl).2.lt h2; omega
    · rw [if_neg e1]
      by_cases e2 : l = i
      · rw [if_pos e2]
        intro h1 h2
        rcases hv k h2 with h3 | h3
        · exact h.apart i j k hi hj (fun e => e1 e.symm) h3 h1
        · have := (h.file j hj).2.lt h1; omega
      · rw [if_neg e2]; exact h.apart j l k hj hl hjl
  · by_cases e : j = i
    · rw [if_pos e] at hk
      rcases hv k hk with h3 | h3
      · exact .inl (h.kb i k hi h3)
      · exact .inr ⟨h3, hfa.2.lt hk⟩
    · rw [if_neg e] at hk; exact .inl (h.kb j k hj hk)
  · show (S.files.set i f).length ≤ N
    rw [List.length_set]; exact h.len

theorem gl_only {K : Nat → Prop} {w w' : World} (h : Gl w) (ho : Only K w w') (hk : ¬ K 0) : Gl w' := by
  obtain ⟨⟨m, hm⟩, hs⟩ := h
  refine ⟨⟨m, ?_⟩, Nat.lt_of_lt_of_le hs ho.size⟩
  rw [World.cell?_of_block (a := ⟨0, 0, none⟩) (ho.block _ hs hk)]; exact hm
end Go.Proofs.YtfoamcobpfflbaaDoor
namespace Go.Proofs.YtfoamcobpfflbaaDoor
open Go Go.RowKit Go.Maps
open VfsS (File Chg Nm St find doL)

/-- At address a lies the list xs, outside K. -/
def SlK (K : Nat → Prop) (w : World) (a : Option Addr) (xs : List Value) : Prop :=
  xs = [] ∨ ∃ b o, a = some ⟨b, o, none⟩ ∧ b < w.heap.size ∧ ¬ K b ∧ ∀ i u, xs[i]? = some u → w.cell? ⟨b, o + i, none⟩ = some u

theorem SlK.sl {K : Nat → Prop} {w : World} {a : Option Addr} {xs : List Value} (h : SlK K w a xs) : Sl w a xs := by
  rcases h with h | ⟨b, o, h1, h2, _, h4⟩
  · exact .inl h
  · exact .inr ⟨b, o, h1, h2, h4⟩

theorem SlK.only {K : Nat → Prop} {w w' : World} {a : Option Addr} {xs : List Value} (h : SlK K w a xs) (ho : Only K w w') : SlK K w' a xs := by
  rcases h with h | ⟨b, o, h1, h2, h3, h4⟩
  · exact .inl h
  · exact .inr ⟨b, o, h1, Nat.lt_of_lt_of_le h2 ho.size, h3, fun i u hu => by rw [World.cell?_of_block (a := ⟨b, o + i, none⟩) (ho.block b h2 h3)]; exact h4 i u hu⟩

theorem SlK.onlyx {K : Nat → Prop} {w w' : World} {a : Option Addr} {xs : List Value} (h : SlK K w a xs) (ho : Only K w w') : SlK (Kx K w.heap.size w'.heap.size) w' a xs := by
  rcases h with h | ⟨b, o, h1, h2, h3, h4⟩
  · exact .inl h
  · exact .inr ⟨b, o, h1, Nat.lt_of_lt_of_le h2 ho.size, fun e => e.elim h3 fun e => by omega, fun i u hu => by rw [World.cell?_of_block (a := ⟨b, o + i, none⟩) (ho.block b h2 h3)]; exact h4 i u hu⟩

theorem src_sl {w : World} {a : Option Addr} {c : Nat} {b : ByteArray} (h : Sl w a (byteCells b)) : Src Tryd.prog 1 43 (.slice a b.size c) b.size (byteCells b) w := by
  have hl := byteCells_length b
  rcases h with e | ⟨g, o, rfl, _, hc⟩
  · have e2 : b.size = 0 := by rw [← hl, e]; rfl
    rw [e, e2]
    cases a with
    | none => exact Src.ofNil w Tryd.underlying43 c
    | some ad => exact Src.ofSlice w Tryd.underlying43 ad 0 c [] (by simp) (fun j u hu => by cases hu) (fun u hu => by cases hu)
  · exact Src.ofSlice w Tryd.underlying43 _ b.size c (byteCells b) (by rw [hl, Nat.mul_one]) (fun j u hu => by rw [Addr.add_lit]; exact hc j u hu) (one_bytes b)

theorem byteCells_append (a b : ByteArray) : byteCells (a ++ b) = byteCells a ++ byteCells b := by
  unfold byteCells; rw [ByteArray.data_append, Array.toList_append, List.map_append]

theorem Kx.mono {K : Nat → Prop} {a b a' b' k : Nat} (h : Kx K a b k) (ha : a' ≤ a) (hb : b ≤ b') : Kx K a' b' k := by
  rcases h with h | h
  · exact .inl h
  · exact .inr (by omega)

theorem used_ge {S : St} {s : ByteArray} {i : Nat} (h : find S.now s = some i) : (VfsS.fl S i).text.size ≤ VfsS.used S := by
  unfold VfsS.used
  have hm := VfsS.find_mem h
  have : (VfsS.fl S i).text.size ∈ S.now.map fun p => (VfsS.fl S p.2).text.size := List.mem_map.2 ⟨(s, i), hm, rfl⟩
  generalize (S.now.map fun p => (VfsS.fl S p.2).text.size) = l at *
  clear hm h
  induction l with
  | nil => cases this
  | cons x l ih =>
    rw [List.sum_cons]
    rcases List.mem_cons.1 this with e | e
    · rw [e]; omega
    · have := ih e; omega

theorem step_used (S : St) : VfsS.used (VfsS.stepS S) = VfsS.used S := by unfold VfsS.used; rw [VfsS.stepS_now]; simp only [VfsS.fl_step]

/-- Behind a file's turn the whole is told anew. -/
theorem VX.putFile {w w1 w' : World} {p : Nat} {K : Nat → Prop} {N : Nat} {S : St} {bn bs : Nat} {av v : Value} {φ : Nat → Nat} {ψ : Nat → Value} (h : VX w1 p S K N bn bs av φ ψ) (hw : w.heap.size ≤ w1.heap.size) {i : Nat} (hi : VfsS.Live S i) (f : File) (hf : f.dur ≤ f.text.size ∧ f.text.size ≤ 4194304)
    (hfa : FileAt w' (φ i) v f) (hv : ∀ k, v.ownBlock = some k → (ψ i).ownBlock = some k ∨ w1.heap.size ≤ k) (hfr : Only (fun k => k = φ i ∨ (ψ i).ownBlock = some k) w1 w') : VRep w' p (VfsS.putS S i f) (Kx K w.heap.size w'.heap.size) N := by
  obtain ⟨hB, hp, hkp, hs⟩ := h
  obtain ⟨g1, g2⟩ := hB.file i hi
  refine ⟨bn, bs, av, φ, _, ((hB.putFile hi f hf hfa hv hfr).mono (fun k hk => hk.mono hw (Nat.le_refl _)) (Nat.le_refl _) hB.big), ?_, .inl hkp, hs⟩
  rw [hfr.block p (Array.getElem?_eq_some_iff.1 hp).1 fun hh => ?_]
  · exact hp
  · rcases hh with hh | hh
    · subst hh; rw [g1] at hp; injection hp with hp; injection hp with _ hp _; exact absurd hp (by decide)
    · obtain ⟨cur, hc⟩ := g2.tag hh
      rw [hc] at hp; injection hp with hp; injection hp with _ hp _; exact absurd hp (by decide)

theorem only_file {w w' : World} {K : Nat → Prop} {N : Nat} {S : St} {bn bs : Nat} {av : Value} {φ : Nat → Nat} {ψ : Nat → Value} (h : VB w K N S bn bs av φ ψ) {i : Nat} (hi : VfsS.Live S i) (hfr : Only (fun k => k = φ i ∨ (ψ i).ownBlock = some k) w w') : Only K w w' :=
  ⟨hfr.os, hfr.tape, hfr.output, hfr.size, fun k hk hn => hfr.block k hk fun hh => hn (hh.elim (fun e => e ▸ h.kf i hi) (fun e => h.kb i k hi e))⟩

set_option maxRecDepth 100000 in
theorem sync_c {w : World} {p : Nat} {S : St} {K : Nat → Prop} {N : Nat} (h : VRep w p S K N) (s : ByteArray) (hs : s.size ≤ 10000000) (hN : N + 2 ≤ 100000000) :
    Calls Tryd.prog 46 #[.pointer (some ⟨p, 0, none⟩), .string s] w fun e w' => e = .returned (.int .i64 (VfsS.syncS S s).2) ∧ VRep w' p (VfsS.syncS S s).1 (Kx K w.heap.size w'.heap.size) (N + 2) ∧ Only K w w' := by
  have hrep := h
  obtain ⟨bn, bs, av, φ, ψ, hX⟩ := h
  have hlk := hX.1.look s hs
  have c0 : w.cell? ⟨p, 0, none⟩ = some (.map (some bn)) := by rw [cell_of hX.2.1]; rfl
  cases hf : find S.now s with
  | none =>
    have HR : Hid (VfsS.syncS S s = (S, 4)) := by show _ = _; unfold VfsS.syncS; rw [hf]
    rw [hf] at hlk
    have HX := Lib.hid (hrep.mono (K' := Kx K w.heap.size w.heap.size) (N' := N + 2) (fun _ h => .inl h) (by omega) hN)
    rw [HR.out]
    clear hf hX hrep
    go_enter Tryd.func46, Tryd.ntmps46
    go_wp2_with fail
    go_ret
    exact ⟨rfl, HX.out, Only.refl _ _⟩
  | some i =>
    have hl := live_of_find hf
    have HST := Lib.hid (step_c hX (by omega))
    have hkp := hX.2.2.1
    rw [hf] at hlk
    simp only at hlk
    by_cases h0 : S.limit = 0
    · have HR : Hid (VfsS.syncS S s = (S, 190)) := by show _ = _; unfold VfsS.syncS; rw [hf]; simp only [if_pos h0]
      have HSS : Hid (VfsS.stepS S = S) := by show _ = _; unfold VfsS.stepS; rw [if_pos h0]
      rw [if_pos h0] at HST
      rw [HR.out]
      clear hf hX hrep h0
      go_enter Tryd.func46, Tryd.ntmps46
      go_wp2_with fail
      refine HST.out.mono ?_
      rintro e w1 ⟨rfl, hX1, hg1⟩
      have HX := Lib.hid hX1
      clear hX1
      go_wp2_with fail
      go_ret
      refine ⟨rfl, ?_, Only.of_grown hg1 (by intro k hk; injection hk with hk; subst hk; exact hkp)⟩
      have := HX.out
      rw [HSS.out] at this
      exact VRep.mono ⟨_, _, _, _, _, this⟩ (fun _ h => .inl h) (by omega) hN
    · have HR : Hid (VfsS.syncS S s = (VfsS.putS (VfsS.stepS S) i ⟨(VfsS.fl S i).text, (VfsS.fl S i).text.size⟩, 0)) := by show _ = _; unfold VfsS.syncS; rw [hf]; simp only [if_neg h0]
      rw [if_neg h0] at HST
      rw [HR.out]
      have HOK := Lib.hid (file_ok hX.1.wf hl)
      have hl1 := VfsS.live_step.2 hl
      clear hf hX hrep h0
      go_enter Tryd.func46, Tryd.ntmps46
      go_wp2_with fail
      refine HST.out.mono ?_
      rintro e w1 ⟨rfl, hX1, hg1⟩
      obtain ⟨f1, f2⟩ := hX1.1.file i hl1
      rw [VfsS.fl_step] at f1 f2
      obtain ⟨fa, fc, hpsi, -, -, -⟩ := f2.form
      have k0 : w1.cell? ⟨φ i, 0, none⟩ = some (.slice fa (VfsS.fl S i).text.size fc) := by rw [cell_of f1, hpsi]; rfl
      have k1 : w1.cell? ⟨φ i, 1, none⟩ = some (.int .i64 (VfsS.fl S i).dur) := by rw [cell_of f1]; rfl
      have fz := frozen_of f1 1
      obtain ⟨s2, g2⟩ := set_block f1 1 (.int .i64 ((VfsS.fl S i).text.size : Nat))
      have hne : (ψ i).ownBlock = none ∨ (ψ i).ownBlock ≠ some (φ i) := by
        cases hk : (ψ i).ownBlock with
        | none => exact .inl rfl
        | some k =>
          right; intro e; injection e with e; subst e
          obtain ⟨cur, hc⟩ := f2.tag hk
          rw [hc] at f1; injection f1 with f1; injection f1 with _ f1 _; exact absurd f1 (by decide)
      have HFA : Hid (FileAt (w1.setCell ⟨φ i, 1, none⟩ (.int .i64 ((VfsS.fl S i).text.size : Nat))) (φ i) (ψ i) ⟨(VfsS.fl S i).text, (VfsS.fl S i).text.size⟩) := ⟨by simpa using s2, f2.kept g2 hne⟩
      have HFR : Hid (Only (fun k => k = φ i ∨ (ψ i).ownBlock = some k) w1 (w1.setCell ⟨φ i, 1, none⟩ (.int .i64 ((VfsS.fl S i).text.size : Nat)))) := Only.of_grown g2 (by intro k hk; injection hk with hk; exact .inl hk.symm)
      have HX := Lib.hid hX1
      clear hX1 f1 f2 hpsi s2 g2 hne
      go_wp2_with fail
      go_ret
      have hsz := hg1.size
      refine ⟨rfl, ?_, ?_⟩
      · exact (HX.out.putFile hsz hl1 ⟨(VfsS.fl S i).text, (VfsS.fl S i).text.size⟩ ⟨Nat.le_refl _, HOK.out.2⟩ HFA.out (fun k hk => .inl hk) HFR.out).mono (fun _ h => h) (by omega) hN
      · exact (Only.of_grown hg1 (by intro k hk; injection hk with hk; subst hk; exact hkp)).trans' (only_file HX.out.1 hl1 HFR.out)

theorem extract_take (s : ByteArray) (n : Nat) : byteCells (s.extract 0 n) = (byteCells s).take n := by
  unfold byteCells
  rw [← List.map_take]
  congr 1
  rw [ByteArray.data_extract, Array.toList_extract]
  simp

set_option maxRecDepth 100000 in
theorem append_c {w : World} {p : Nat} {S : St} {K : Nat → Prop} {N : Nat} (h : VRep w p S K N) (s b : ByteArray) (a : Option Addr) (c : Nat) (hs : s.size ≤ 10000000) (hb : b.size ≤ 10000000) (hsl : SlK K w a (byteCells b)) (hN : N + 2 ≤ 100000000) :
    Calls Tryd.prog 27 #[.pointer (some ⟨p, 0, none⟩), .string s, .slice a b.size c] w fun e w' => e = .returned (.int .i64 (VfsS.appendS S s b).2) ∧ VRep w' p (VfsS.appendS S s b).1 (Kx K w.heap.size w'.heap.size) (N + 2) ∧ Only K w w' := by
  have hrep := h
  obtain ⟨bn, bs, av, φ, ψ, hX⟩ := h
  have hlk := hX.1.look s hs
  have c0 : w.cell? ⟨p, 0, none⟩ = some (.map (some bn)) := by rw [cell_of hX.2.1]; rfl
  cases hf : find S.now s with
  | none =>
    have HR : Hid (VfsS.appendS S s b = (S, 4)) := by show _ = _; unfold VfsS.appendS; rw [hf]
    rw [hf] at hlk
    have HX := Lib.hid (hrep.mono (K' := Kx K w.heap.size w.heap.size) (N' := N + 2) (fun _ h => .inl h) (by omega) hN)
    rw [HR.out]
    clear hf hX hrep hsl
    go_enter Tryd.func27, Tryd.ntmps27
    go_wp2_with fail
    go_ret
    exact ⟨rfl, HX.out, Only.refl _ _⟩
  | some i =>
    have hl := live_of_find hf
    have HLF := Lib.hid (left_c hrep)
    have hkp := hX.2.2.1
    rw [hf] at hlk
    simp only at hlk
    by_cases hfull : (S.room : Int) - VfsS.used S < b.size
    · have HR : Hid (VfsS.appendS S s b = (S, 3)) := by show _ = _; unfold VfsS.appendS; rw [hf]; simp only [if_pos hfull]
      have d1 : decide ((S.room : Int) - (VfsS.used S : Int) < (b.size : Int)) = true := decide_eq_true hfull
      rw [HR.out]
      have HX := Lib.hid hrep
      clear hf hX hrep hfull hsl
      generalize (S.room : Int) - (VfsS.used S : Int) = lf at *
      go_enter Tryd.func27, Tryd.ntmps27
      go_wp2_with fail
      refine HLF.out.mono ?_
      rintro e w1 ⟨rfl, hb1⟩
      go_wp2_with fail
      go_ret
      exact ⟨rfl, (HX.out.below hb1).mono (fun _ h => .inl h) (by omega) hN, Only.of_below hb1⟩
    · have d1 : decide ((S.room : Int) - (VfsS.used S : Int) < (b.size : Int)) = false := decide_eq_false hfull
      have hroom := hX.1.wf.room
      have hug := used_ge hf
      have hok := file_ok hX.1.wf hl
      have hsum : (VfsS.fl S i).text.size + b.size ≤ 4194304 := by omega
      by_cases h0 : S.limit = 0
      · have HR : Hid (VfsS.appendS S s b = (S, 190)) := by show _ = _; unfold VfsS.appendS; rw [hf]; simp only [if_neg hfull, if_pos h0]
        have HSS : Hid (VfsS.stepS S = S) := by show _ = _; unfold VfsS.stepS; rw [if_pos h0]
        rw [HR.out]
        have HST := Lib.hid (fun (w1 : World) (hb1 : Below w.heap.size w w1) => by have := step_c (hX.below hb1) (by omega); rwa [if_pos h0] at this)
        clear hf hX hrep h0 hfull hroom hug hok hsum hsl
        generalize (S.room : Int) - (VfsS.used S : Int) = lf at *
        go_enter Tryd.func27, Tryd.ntmps27
        go_wp2_with fail
        refine HLF.out.mono ?_
        rintro e w1 ⟨rfl, hb1⟩
        have HST1 := Lib.hid (HST.out w1 hb1)
        go_wp2_with fail
        refine HST1.out.mono ?_
        rintro e w2 ⟨rfl, hX2, hg2⟩
        have HX := Lib.hid hX2
        clear hX2
        go_wp2_with fail
        go_ret
        refine ⟨rfl, ?_, (Only.of_below hb1).trans' (Only.of_grown hg2 (by intro k hk; injection hk with hk; subst hk; exact hkp))⟩
        have := HX.out
        rw [HSS.out] at this
        exact VRep.mono ⟨_, _, _, _, _, this⟩ (fun _ h => .inl h) (by omega) hN
      · have HR : Hid (VfsS.appendS S s b = (VfsS.putS (VfsS.stepS S) i ⟨(VfsS.fl S i).text ++ b, (VfsS.fl S i).dur⟩, 0)) := by show _ = _; unfold VfsS.appendS; rw [hf]; simp only [if_neg hfull, if_neg h0]
        rw [HR.out]
        have HST := Lib.hid (fun (w1 : World) (hb1 : Below w.heap.size w w1) => by have := step_c (hX.below hb1) (by omega); rwa [if_neg h0] at this)
        have hl1 := VfsS.live_step.2 hl
        have HSL := Lib.hid hsl
        clear hf hX hrep h0 hfull hroom hug hsl
        generalize (S.room : Int) - (VfsS.used S : Int) = lf at *
        go_enter Tryd.func27, Tryd.ntmps27
        go_wp2_with fail
        refine HLF.out.mono ?_
        rintro e w1 ⟨rfl, hb1⟩
        have HST1 := Lib.hid (HST.out w1 hb1)
        go_wp2_with fail
        refine HST1.out.mono ?_
        rintro e w2 ⟨rfl, hX2, hg2⟩
        have ho2 : Only K w w2 := (Only.of_below hb1).trans' (Only.of_grown hg2 (by intro k hk; injection hk with hk; subst hk; exact hkp))
        obtain ⟨f1, f2⟩ := hX2.1.file i hl1
        rw [VfsS.fl_step] at f1 f2
        have k0 : w2.cell? ⟨φ i, 0, none⟩ = some (ψ i) := by rw [cell_of f1]; rfl
        have hsrc := src_sl (c := c) (HSL.out.only ho2).sl
        have hne : (ψ i).ownBlock ≠ some (φ i) := by
          intro e
          obtain ⟨cur, hc⟩ := f2.tag e
          rw [hc] at f1; injection f1 with f1; injection f1 with _ f1 _; exact absurd f1 (by decide)
        have HX := Lib.hid hX2
        have HF1 := Lib.hid f1
        have hphl := hX2.1.lt hl1
        have h63 : (VfsS.fl S i).text.size + b.size ≤ maxLen := by simp only [maxLen]; omega
        have h47 : ((VfsS.fl S i).text.size + b.size) * 1 ≤ 140737488355328 := by omega
        clear hX2 f1
        go_wp2_with (at_builtin; refine wp_appG rfl _ _ _ _ rfl byteElem rfl rfl f2 rfl hsrc h63 h47 ?_)
        intro v3 w3 ho3 hg3 hv3
        obtain ⟨a3, c3, rfl, -, -, -⟩ := ho3.form
        have f3 := (hg3.block _ hphl (Ne.symm hne)).trans HF1.out
        have k3 : w3.cell? ⟨φ i, 0, none⟩ = some (ψ i) := by rw [cell_of f3]; rfl
        have fz := frozen_of f3 0
        obtain ⟨s4, g4⟩ := set_block f3 0 (.slice a3 ((VfsS.fl S i).text.size + b.size) c3)
        have hnv : (Value.slice a3 ((VfsS.fl S i).text.size + b.size) c3).ownBlock = none ∨ (Value.slice a3 ((VfsS.fl S i).text.size + b.size) c3).ownBlock ≠ some (φ i) := by
          cases hk : (Value.slice a3 ((VfsS.fl S i).text.size + b.size) c3).ownBlock with
          | none => exact .inl rfl
          | some k =>
            right; intro e; injection e with e; subst e
            rcases hv3 _ hk with h | h
            · exact hne h
            · omega
        have HFA : Hid (FileAt (w3.setCell ⟨φ i, 0, none⟩ (.slice a3 ((VfsS.fl S i).text.size + b.size) c3)) (φ i) (.slice a3 ((VfsS.fl S i).text.size + b.size) c3) ⟨(VfsS.fl S i).text ++ b, (VfsS.fl S i).dur⟩) := by
          refine ⟨by simpa using s4, ?_⟩
          show OwnG _ _ _ _ ((VfsS.fl S i).text ++ b).size (byteCells ((VfsS.fl S i).text ++ b))
          rw [ByteArray.size_append, byteCells_append]
          exact ho3.kept g4 hnv
        have HFR : Hid (Only (fun k => k = φ i ∨ (ψ i).ownBlock = some k) w2 (w3.setCell ⟨φ i, 0, none⟩ (.slice a3 ((VfsS.fl S i).text.size + b.size) c3))) :=
          (Only.of_grown hg3 (fun k hk => .inr hk)).trans' (Only.of_grown g4 (by intro k hk; injection hk with hk; exact .inl hk.symm))
        have HV := Lib.hid hv3
        clear f2 f3 s4 g4 hnv hne ho3 hg3 hsrc hv3
        go_wp2_with fail
        go_ret
        refine ⟨rfl, ?_, ?_⟩
        · exact (HX.out.putFile (ho2.size) hl1 ⟨(VfsS.fl S i).text ++ b, (VfsS.fl S i).dur⟩ ⟨by show (VfsS.fl S i).dur ≤ ((VfsS.fl S i).text ++ b).size; rw [ByteArray.size_append]; omega, by show ((VfsS.fl S i).text ++ b).size ≤ _; rw [ByteArray.size_append]; exact hsum⟩ HFA.out HV.out HFR.out).mono (fun _ h => h) (by omega) hN
        · exact ho2.trans' (only_file HX.out.1 hl1 HFR.out)

set_option maxRecDepth 100000 in
theorem cut_c {w : World} {p : Nat} {S : St} {K : Nat → Prop} {N : Nat} (h : VRep w p S K N) (s : ByteArray) (n : Int) (hs : s.size ≤ 10000000) (hN : N + 2 ≤ 100000000) :
    Calls Tryd.prog 49 #[.pointer (some ⟨p, 0, none⟩), .string s, .int .i64 n] w fun e w' => e = .returned (.int .i64 (VfsS.cutS S s n).2) ∧ VRep w' p (VfsS.cutS S s n).1 (Kx K w.heap.size w'.heap.size) (N + 2) ∧ Only K w w' := by
  have hrep := h
  obtain ⟨bn, bs, av, φ, ψ, hX⟩ := h
  have hlk := hX.1.look s hs
  have c0 : w.cell? ⟨p, 0, none⟩ = some (.map (some bn)) := by rw [cell_of hX.2.1]; rfl
  cases hf : find S.now s with
  | none =>
    have HR : Hid (VfsS.cutS S s n = (S, 4)) := by show _ = _; unfold VfsS.cutS; rw [hf]
    rw [hf] at hlk
    have HX := Lib.hid (hrep.mono (K' := Kx K w.heap.size w.heap.size) (N' := N + 2) (fun _ h => .inl h) (by omega) hN)
    rw [HR.out]
    clear hf hX hrep
    go_enter Tryd.func49, Tryd.ntmps49
    go_wp2_with fail
    go_ret
    exact ⟨rfl, HX.out, Only.refl _ _⟩
  | some i =>
    have hl := live_of_find hf
    have HST := Lib.hid (step_c hX (by omega))
    have hkp := hX.2.2.1
    rw [hf] at hlk
    simp only at hlk
    obtain ⟨f1, f2⟩ := hX.1.file i hl
    obtain ⟨fa, fc, hpsi, hfc, -, -⟩ := f2.form
    have k0 : w.cell? ⟨φ i, 0, none⟩ = some (.slice fa (VfsS.fl S i).text.size fc) := by rw [cell_of f1, hpsi]; rfl
    by_cases hbad : n < 0 ∨ ((VfsS.fl S i).text.size : Int) < n
    · have HR : Hid (VfsS.cutS S s n = (S, 1)) := by show _ = _; unfold VfsS.cutS; rw [hf]; simp only [if_pos hbad]
      have HX := Lib.hid (hrep.mono (K' := Kx K w.heap.size w.heap.size) (N' := N + 2) (fun _ h => .inl h) (by omega) hN)
      rw [HR.out]
      by_cases hn0 : n < 0
      · have d1 : decide (n < 0) = true := decide_eq_true hn0
        clear hf hX hrep f1 f2 hpsi hbad hn0
        go_enter Tryd.func49, Tryd.ntmps49
        go_wp2_with fail
        go_ret
        exact ⟨rfl, HX.out, Only.refl _ _⟩
      · have d1 : decide (n < 0) = false := decide_eq_false hn0
        have d2 : decide (((VfsS.fl S i).text.size : Int) < n) = true := decide_eq_true (hbad.resolve_left hn0)
        clear hf hX hrep f1 f2 hpsi hbad hn0
        go_enter Tryd.func49, Tryd.ntmps49
        go_wp2_with fail
        go_ret
        exact ⟨rfl, HX.out, Only.refl _ _⟩
    · have d1 : decide (n < 0) = false := decide_eq_false (fun e => hbad (.inl e))
      have d2 : decide (((VfsS.fl S i).text.size : Int) < n) = false := decide_eq_false (fun e => hbad (.inr e))
      by_cases h0 : S.limit = 0
      · have HR : Hid (VfsS.cutS S s n = (S, 190)) := by show _ = _; unfold VfsS.cutS; rw [hf]; simp only [if_neg hbad, if_pos h0]
        have HSS : Hid (VfsS.stepS S = S) := by show _ = _; unfold VfsS.stepS; rw [if_pos h0]
        rw [if_pos h0] at HST
        rw [HR.out]
        clear hf hX hrep h0 f1 f2 hpsi hbad
        go_enter Tryd.func49, Tryd.ntmps49
        go_wp2_with fail
        refine HST.out.mono ?_
        rintro e w1 ⟨rfl, hX1, hg1⟩
        have HX := Lib.hid hX1
        clear hX1
        go_wp2_with fail
        go_ret
        refine ⟨rfl, ?_, Only.of_grown hg1 (by intro k hk; injection hk with hk; subst hk; exact hkp)⟩
        have := HX.out
        rw [HSS.out] at this
        exact VRep.mono ⟨_, _, _, _, _, this⟩ (fun _ h => .inl h) (by omega) hN
      · have HR : Hid (VfsS.cutS S s n = (VfsS.putS (VfsS.stepS S) i ⟨(VfsS.fl S i).text.extract 0 n.toNat, n.toNat⟩, 0)) := by show _ = _; unfold VfsS.cutS; rw [hf]; simp only [if_neg hbad, if_neg h0]
        rw [if_neg h0] at HST
        rw [HR.out]
        have HOK := Lib.hid (file_ok hX.1.wf hl)
        have hl1 := VfsS.live_step.2 hl
        obtain ⟨m, rfl⟩ : ∃ m : Nat, n = m := ⟨n.toNat, by omega⟩
        rw [Int.toNat_natCast]
        have hml : m ≤ (VfsS.fl S i).text.size := by omega
        have hmf : m ≤ fc := by omega
        clear hf hX hrep h0 f1 f2 hbad
        go_enter Tryd.func49, Tryd.ntmps49
        go_wp2_with fail
        refine HST.out.mono ?_
        rintro e w1 ⟨rfl, hX1, hg1⟩
        obtain ⟨f1, f2⟩ := hX1.1.file i hl1
        rw [VfsS.fl_step] at f1 f2
        have k0' : w1.cell? ⟨φ i, 0, none⟩ = some (.slice fa (VfsS.fl S i).text.size fc) := by rw [cell_of f1, hpsi]; rfl
        have fz0 := frozen_of f1 0
        obtain ⟨s2, g2⟩ := set_block f1 0 (.slice fa m fc)
        have k1 : (w1.setCell ⟨φ i, 0, none⟩ (.slice fa m fc)).cell? ⟨φ i, 1, none⟩ = some (.int .i64 (VfsS.fl S i).dur) := by rw [cell_of s2]; rfl
        have fz1 := frozen_of s2 1
        obtain ⟨s3, g3⟩ := set_block s2 1 (.int .i64 (m : Nat))
        have g23 : w1.grownBy ((w1.setCell ⟨φ i, 0, none⟩ (.slice fa m fc)).setCell ⟨φ i, 1, none⟩ (.int .i64 (m : Nat))) (some (φ i)) := World.grownBy.andThen g2 g3 (fun j hj => .inr hj)
        have f2' := f2
        rw [hpsi] at f2'
        have f4 := f2'.take m fc hml hmf (Nat.le_refl _)
        have hne : (Value.slice fa m fc).ownBlock = none ∨ (Value.slice fa m fc).ownBlock ≠ some (φ i) := by
          cases hk : (Value.slice fa m fc).ownBlock with
          | none => exact .inl rfl
          | some k =>
            right; intro e; injection e with e; subst e
            obtain ⟨cur, hc⟩ := f4.tag hk
            rw [hc] at f1; injection f1 with f1; injection f1 with _ f1 _; exact absurd f1 (by decide)
        have hex : ((VfsS.fl S i).text.extract 0 m).size = m := by rw [ByteArray.size_extract]; omega
        have HFA : Hid (FileAt ((w1.setCell ⟨φ i, 0, none⟩ (.slice fa m fc)).setCell ⟨φ i, 1, none⟩ (.int .i64 (m : Nat))) (φ i) (.slice fa m fc) ⟨(VfsS.fl S i).text.extract 0 m, m⟩) := by
          refine ⟨by simpa using s3, ?_⟩
          show OwnG _ _ _ _ ((VfsS.fl S i).text.extract 0 m).size (byteCells ((VfsS.fl S i).text.extract 0 m))
          rw [hex, extract_take]
          have := f4.kept g23 hne
          rwa [Nat.mul_one] at this
        have HFR : Hid (Only (fun k => k = φ i ∨ (ψ i).ownBlock = some k) w1 ((w1.setCell ⟨φ i, 0, none⟩ (.slice fa m fc)).setCell ⟨φ i, 1, none⟩ (.int .i64 (m : Nat)))) := Only.of_grown g23 (by intro k hk; injection hk with hk; exact .inl hk.symm)
        have HX := Lib.hid hX1
        have HV : Hid (∀ k, (Value.slice fa m fc).ownBlock = some k → (ψ i).ownBlock = some k ∨ w1.heap.size ≤ k) := by
          intro k hk
          left; rw [hpsi]
          cases fa with
          | none => cases hk
          | some ad => exact hk
        have HEX := Lib.hid hex
        clear hX1 f1 f2 f2' f4 hpsi s2 g2 s3 g3 g23 hne hex
        go_wp2_with fail
        go_ret
        have hsz := hg1.size
        refine ⟨rfl, ?_, ?_⟩
        · exact (HX.out.putFile hsz hl1 ⟨(VfsS.fl S i).text.extract 0 m, m⟩ ⟨by show m ≤ ((VfsS.fl S i).text.extract 0 m).size; rw [HEX.out]; exact Nat.le_refl _, by show ((VfsS.fl S i).text.extract 0 m).size ≤ _; rw [HEX.out]; have := HOK.out.2; omega⟩ HFA.out HV.out HFR.out).mono (fun _ h => h) (by omega) hN
        · exact (Only.of_grown hg1 (by intro k hk; injection hk with hk; subst hk; exact hkp)).trans' (only_file HX.out.1 hl1 HFR.out)
end Go.Proofs.YtfoamcobpfflbaaDoor
namespace Go.Proofs.YtfoamcobpfflbaaDoor
open Go Go.RowKit Go.Maps
open VfsS (File Chg Nm St find doL)

/-- A file more, that nobody means yet. -/
def addS (S : St) : St := { S with files := S.files ++ [⟨ByteArray.empty, 0⟩] }

theorem live_add {S : St} {i : Nat} : VfsS.Live (addS S) i ↔ VfsS.Live S i := Iff.rfl

theorem fl_add (S : St) (i : Nat) : VfsS.fl (addS S) i = if i = S.files.length then ⟨ByteArray.empty, 0⟩ else VfsS.fl S i := by
  unfold VfsS.fl addS
  rw [List.getD_eq_getElem?_getD, List.getD_eq_getElem?_getD]
  by_cases h : i = S.files.length
  · rw [if_pos h, h, List.getElem?_append_right (Nat.le_refl _), Nat.sub_self]; rfl
  · rw [if_neg h]
    rcases Nat.lt_or_ge i S.files.length with h1 | h1
    · rw [List.getElem?_append_left h1]
    · rw [List.getElem?_eq_none (by simp; omega), List.getElem?_eq_none h1]

theorem wf_add {S : St} (h : VfsS.Wf S) : VfsS.Wf (addS S) where
  idx i hi := by have := h.idx i hi; show i < (S.files ++ _).length; rw [List.length_append]; omega
  dn := h.dn
  ds := h.ds
  zn := h.zn
  zs := h.zs
  za := h.za
  dur f hf := by
    rcases List.mem_append.1 hf with hf | hf
    · exact h.dur f hf
    · rw [List.mem_singleton] at hf; subst hf; exact ⟨Nat.le_refl _, Nat.zero_le _⟩
  room := h.room
  lim := h.lim

/-- What a change of names makes, whole. -/
theorem VX.changed {w w1 w' : World} {p : Nat} {K : Nat → Prop} {N n : Nat} {S : St} {bn bs : Nat} {av av' : Value} {φ : Nat → Nat} {ψ : Nat → Value} (h : VX w1 p S K N bn bs av φ ψ) (hw : w.heap.size ≤ w1.heap.size) (a : Chg) (hn : n ≤ N)
    (hs : a.src.size ≤ 10000000) (hd : a.dst.size ≤ 10000000)
    (hf : ∀ i, a.file = some i → i < S.files.length ∧ FileAt w1 (φ i) (ψ i) (VfsS.fl S i) ∧ K (φ i) ∧ (∀ k, (ψ i).ownBlock = some k → K k) ∧ (∀ j, VfsS.Live S j → j ≠ i → φ j ≠ φ i) ∧ (∀ j k, VfsS.Live S j → j ≠ i → (ψ i).ownBlock = some k → (ψ j).ownBlock ≠ some k))
    (hm : MapG NC w' bn (n + 1) (nmF φ (doL S.now a))) (ho : OwnG w' 150 3 av' (S.acts ++ [a]).length (arow φ (S.acts ++ [a]))) (hav : ∀ k, av'.ownBlock = some k → av.ownBlock = some k ∨ w1.heap.size ≤ k)
    (hp' : w'.heap[p]? = some (.cells #[.map (some bn), .map (some bs), av', .int .i64 S.room, .int .i64 S.steps, .int .i64 S.limit] 112 (0, 0)))
    (hfr : Only (fun k => k = p ∨ k = bn ∨ av.ownBlock = some k) w1 w') (hN : N + 1 ≤ 100000000) : VRep w' p (VfsS.changeS S a) (Kx K w.heap.size w'.heap.size) (N + 1) := by
  obtain ⟨hB, hp, hkp, hst⟩ := h
  exact ⟨bn, bs, av', φ, ψ, (hB.changed hp a hn hs hd hf hm ho hav hfr hN).mono (fun k hk => hk.mono hw (Nat.le_refl _)) (Nat.le_refl _) hN, hp', .inl hkp, by show S.steps ≤ N + 1; omega⟩

theorem only_change {w w' : World} {p : Nat} {K : Nat → Prop} {N : Nat} {S : St} {bn bs : Nat} {av : Value} {φ : Nat → Nat} {ψ : Nat → Value} (h : VX w p S K N bn bs av φ ψ) (hfr : Only (fun k => k = p ∨ k = bn ∨ av.ownBlock = some k) w w') : Only K w w' :=
  ⟨hfr.os, hfr.tape, hfr.output, hfr.size, fun k hk hn => hfr.block k hk fun hh => hn (by
    rcases hh with hh | hh | hh
    · rw [hh]; exact h.2.2.1
    · rw [hh]; exact h.1.kn
    · exact h.1.ka k hh)⟩

/-- What change_c gives for a file system that is whole. -/
theorem change_x {w : World} {p : Nat} {K : Nat → Prop} {N : Nat} {S : St} {bn bs : Nat} {av : Value} {φ : Nat → Nat} {ψ : Nat → Value} (h : VX w p S K N bn bs av φ ψ) (a : Chg) (hs : a.src.size ≤ 10000000) (hd : a.dst.size ≤ 10000000) (hN : N + 1 ≤ 100000000)
    (hf : ∀ i, a.file = some i → i < S.files.length ∧ FileAt w (φ i) (ψ i) (VfsS.fl S i) ∧ K (φ i) ∧ (∀ k, (ψ i).ownBlock = some k → K k) ∧ (∀ j, VfsS.Live S j → j ≠ i → φ j ≠ φ i) ∧ (∀ j k, VfsS.Live S j → j ≠ i → (ψ i).ownBlock = some k → (ψ j).ownBlock ≠ some k)) :
    Calls Tryd.prog 81 #[.pointer (some ⟨p, 0, none⟩), .agg #[.string a.src, .string a.dst, ptrV (a.file.map φ)]] w fun e w' => e = .returned (.tuple #[]) ∧ VRep w' p (VfsS.changeS S a) (Kx K w.heap.size w'.heap.size) (N + 1) ∧ Only K w w' := by
  obtain ⟨n, hn, hm⟩ := h.1.now
  have hlen : S.acts.length ≤ N := by obtain ⟨n2, hn2, _⟩ := h.1.sure; omega
  refine (change_c a h.2.1 hm h.1.acts (by omega) (by omega) hs hd).mono ?_
  rintro e w' ⟨rfl, av', m', o', p', k', fr⟩
  exact ⟨rfl, h.changed (Nat.le_refl _) a hn hs hd hf m' o' k' p' fr hN, only_change h fr⟩

theorem hf_live {w : World} {K : Nat → Prop} {N : Nat} {S : St} {bn bs : Nat} {av : Value} {φ : Nat → Nat} {ψ : Nat → Value} (h : VB w K N S bn bs av φ ψ) {i : Nat} (hi : VfsS.Live S i) :
    i < S.files.length ∧ FileAt w (φ i) (ψ i) (VfsS.fl S i) ∧ K (φ i) ∧ (∀ k, (ψ i).ownBlock = some k → K k) ∧ (∀ j, VfsS.Live S j → j ≠ i → φ j ≠ φ i) ∧ (∀ j k, VfsS.Live S j → j ≠ i → (ψ i).ownBlock = some k → (ψ j).ownBlock ≠ some k) :=
  ⟨h.wf.idx i hi, h.file i hi, h.kf i hi, fun k hk => h.kb i k hi hk, fun j hj hne e => hne (h.inj j i hj hi e), fun j k hj hne h1 => h.apart i j k hi hj (fun e => hne e.symm) h1⟩

set_option maxRecDepth 100000 in
theorem remove_c {w : World} {p : Nat} {S : St} {K : Nat → Prop} {N : Nat} (h : VRep w p S K N) (s : ByteArray) (hs : s.size ≤ 10000000) (hN : N + 2 ≤ 100000000) :
    Calls Tryd.prog 51 #[.pointer (some ⟨p, 0, none⟩), .string s] w fun e w' => e = .returned (.int .i64 (VfsS.removeS S s).2) ∧ VRep w' p (VfsS.removeS S s).1 (Kx K w.heap.size w'.heap.size) (N + 2) ∧ Only K w w' := by
  have hrep := h
  obtain ⟨bn, bs, av, φ, ψ, hX⟩ := h
  have hlk := hX.1.look s hs
  have c0 : w.cell? ⟨p, 0, none⟩ = some (.map (some bn)) := by rw [cell_of hX.2.1]; rfl
  cases hf : find S.now s with
  | none =>
    have HR : Hid (VfsS.removeS S s = (S, 4)) := by show _ = _; unfold VfsS.removeS; rw [hf]; rfl
    rw [hf] at hlk
    have HX := Lib.hid (hrep.mono (K' := Kx K w.heap.size w.heap.size) (N' := N + 2) (fun _ h => .inl h) (by omega) hN)
    rw [HR.out]
    clear hf hX hrep
    go_enter Tryd.func51, Tryd.ntmps51
    go_wp2_with fail
    go_ret
    exact ⟨rfl, HX.out, Only.refl _ _⟩
  | some i =>
    have HST := Lib.hid (step_c hX (by omega))
    have hkp := hX.2.2.1
    rw [hf] at hlk
    simp only at hlk
    by_cases h0 : S.limit = 0
    · have HR : Hid (VfsS.removeS S s = (S, 190)) := by show _ = _; unfold VfsS.removeS; rw [hf]; simp only [Option.isSome_some, if_true, if_pos h0]
      have HSS : Hid (VfsS.stepS S = S) := by show _ = _; unfold VfsS.stepS; rw [if_pos h0]
      rw [if_pos h0] at HST
      rw [HR.out]
      clear hf hX hrep h0
      go_enter Tryd.func51, Tryd.ntmps51
      go_wp2_with fail
      refine HST.out.mono ?_
      rintro e w1 ⟨rfl, hX1, hg1⟩
      have HX := Lib.hid hX1
      clear hX1
      go_wp2_with fail
      go_ret
      refine ⟨rfl, ?_, Only.of_grown hg1 (by intro k hk; injection hk with hk; subst hk; exact hkp)⟩
      have := HX.out
      rw [HSS.out] at this
      exact VRep.mono ⟨_, _, _, _, _, this⟩ (fun _ h => .inl h) (by omega) hN
    · have HR : Hid (VfsS.removeS S s = (VfsS.changeS (VfsS.stepS S) ⟨s, ByteArray.empty, none⟩, 0)) := by show _ = _; unfold VfsS.removeS; rw [hf]; simp only [Option.isSome_some, if_true, if_neg h0]
      rw [if_neg h0] at HST
      rw [HR.out]
      clear hf hX hrep h0
      go_enter Tryd.func51, Tryd.ntmps51
      go_wp2_with fail
      refine HST.out.mono ?_
      rintro e w1 ⟨rfl, hX1, hg1⟩
      have HC := Lib.hid (change_x hX1 ⟨s, ByteArray.empty, none⟩ hs (show ByteArray.empty.size ≤ 10000000 by decide) (by omega) (fun i hi => by cases hi))
      have hsz := hg1.size
      clear hX1
      go_wp2_with fail
      refine HC.out.mono ?_
      rintro e w2 ⟨rfl, hr2, ho2⟩
      have HR2 := Lib.hid hr2
      clear hr2
      go_wp2_with fail
      go_ret
      refine ⟨rfl, HR2.out.mono (fun k hk => hk.mono hsz (Nat.le_refl _)) (by omega) hN, (Only.of_grown hg1 (by intro k hk; injection hk with hk; subst hk; exact hkp)).trans' ho2⟩

set_option maxRecDepth 100000 in
theorem rename_c {w : World} {p : Nat} {S : St} {K : Nat → Prop} {N : Nat} (h : VRep w p S K N) (s t : ByteArray) (hs : s.size ≤ 10000000) (ht : t.size ≤ 10000000) (hN : N + 2 ≤ 100000000) (hg : Gl w) :
    Calls Tryd.prog 48 #[.pointer (some ⟨p, 0, none⟩), .string s, .string t] w fun e w' => e = .returned (.int .i64 (VfsS.renameS S s t).2) ∧ VRep w' p (VfsS.renameS S s t).1 (Kx K w.heap.size w'.heap.size) (N + 2) ∧ Only K w w' := by
  have hrep := h
  obtain ⟨bn, bs, av, φ, ψ, hX⟩ := h
  have hlk := hX.1.look s hs
  have c0 : w.cell? ⟨p, 0, none⟩ = some (.map (some bn)) := by rw [cell_of hX.2.1]; rfl
  cases hf : find S.now s with
  | none =>
    have HR : Hid (VfsS.renameS S s t = (S, 4)) := by show _ = _; unfold VfsS.renameS; rw [hf]
    rw [hf] at hlk
    have HX := Lib.hid (hrep.mono (K' := Kx K w.heap.size w.heap.size) (N' := N + 2) (fun _ h => .inl h) (by omega) hN)
    rw [HR.out]
    clear hf hX hrep
    go_enter Tryd.func48, Tryd.ntmps48
    go_wp2_with fail
    go_ret
    exact ⟨rfl, HX.out, Only.refl _ _⟩
  | some i =>
    have hl := live_of_find hf
    have hkp := hX.2.2.1
    have HCK := Lib.hid (fun (w1 : World) (g : Gl w1) => check_c t w1 g (by omega))
    rw [hf] at hlk
    simp only at hlk
    by_cases hck : PathS.check t = 0
    · rw [hck] at HCK
      by_cases hst : s = t
      · have HR : Hid (VfsS.renameS S s t = (S, 5)) := by show _ = _; unfold VfsS.renameS; rw [hf]; simp only [hck, ne_eq, not_true, if_false, if_pos hst]
        have e1 : (s.toList == t.toList) = true := by rw [hst]; simp
        rw [HR.out]
        have HX := Lib.hid hrep
        clear hf hX hrep hst hck
        go_enter Tryd.func48, Tryd.ntmps48
        go_wp2_with fail
        refine (HCK.out w hg).mono ?_
        rintro e w1 ⟨rfl, hb1⟩
        go_wp2_with fail
        go_ret
        exact ⟨rfl, (HX.out.below hb1).mono (fun _ h => .inl h) (by omega) hN, Only.of_below hb1⟩
      · have e1 : (s.toList == t.toList) = false := by rw [beq_eq_false_iff_ne, Lib.toList_data, Lib.toList_data]; exact fun h => hst (PathS.ba_ext h)
        by_cases h0 : S.limit = 0
        · have HR : Hid (VfsS.renameS S s t = (S, 190)) := by show _ = _; unfold VfsS.renameS; rw [hf]; simp only [hck, ne_eq, not_true, if_false, if_neg hst, if_pos h0]
          have HSS : Hid (VfsS.stepS S = S) := by show _ = _; unfold VfsS.stepS; rw [if_pos h0]
          have HST := Lib.hid (fun (w1 : World) (hb1 : Below w.heap.size w w1) => by have := step_c (hX.below hb1) (by omega); rwa [if_pos h0] at this)
          rw [HR.out]
          clear hf hX hrep h0 hst hck
          go_enter Tryd.func48, Tryd.ntmps48
          go_wp2_with fail
          refine (HCK.out w hg).mono ?_
          rintro e w1 ⟨rfl, hb1⟩
          have HST1 := Lib.hid (HST.out w1 hb1)
          go_wp2_with fail
          refine HST1.out.mono ?_
          rintro e w2 ⟨rfl, hX2, hg2⟩
          have HX := Lib.hid hX2
          clear hX2
          go_wp2_with fail
          go_ret
          refine ⟨rfl, ?_, (Only.of_below hb1).trans' (Only.of_grown hg2 (by intro k hk; injection hk with hk; subst hk; exact hkp))⟩
          have := HX.out
          rw [HSS.out] at this
          exact VRep.mono ⟨_, _, _, _, _, this⟩ (fun _ h => .inl h) (by omega) hN
        · have HR : Hid (VfsS.renameS S s t = (VfsS.changeS (VfsS.stepS S) ⟨s, t, some i⟩, 0)) := by show _ = _; unfold VfsS.renameS; rw [hf]; simp only [hck, ne_eq, not_true, if_false, if_neg hst, if_neg h0]
          have HST := Lib.hid (fun (w1 : World) (hb1 : Below w.heap.size w w1) => by have := step_c (hX.below hb1) (by omega); rwa [if_neg h0] at this)
          have hl1 := VfsS.live_step.2 hl
          rw [HR.out]
          clear hf hX hrep h0 hst hck
          go_enter Tryd.func48, Tryd.ntmps48
          go_wp2_with fail
          refine (HCK.out w hg).mono ?_
          rintro e w1 ⟨rfl, hb1⟩
          have HST1 := Lib.hid (HST.out w1 hb1)
          go_wp2_with fail
          refine HST1.out.mono ?_
          rintro e w2 ⟨rfl, hX2, hg2⟩
          have ho2 : Only K w w2 := (Only.of_below hb1).trans' (Only.of_grown hg2 (by intro k hk; injection hk with hk; subst hk; exact hkp))
          have HC : Hid (Calls Tryd.prog 81 #[.pointer (some ⟨p, 0, none⟩), .agg #[.string s, .string t, .pointer (some ⟨φ i, 0, none⟩)]] w2 fun e w' => e = .returned (.tuple #[]) ∧ VRep w' p (VfsS.changeS (VfsS.stepS S) ⟨s, t, some i⟩) (Kx K w2.heap.size w'.heap.size) (N + 1 + 1) ∧ Only K w2 w') :=
            change_x hX2 ⟨s, t, some i⟩ hs ht (by omega) (fun j hj => by injection hj with hj; subst hj; exact hf_live hX2.1 hl1)
          have hsz := ho2.size
          clear hX2
          go_wp2_with fail
          refine HC.out.mono ?_
          rintro e w3 ⟨rfl, hr3, ho3⟩
          have HR3 := Lib.hid hr3
          clear hr3
          go_wp2_with fail
          go_ret
          refine ⟨rfl, HR3.out.mono (fun k hk => hk.mono hsz (Nat.le_refl _)) (by omega) hN, ho2.trans' ho3⟩
    · have HR : Hid (VfsS.renameS S s t = (S, PathS.check t)) := by show _ = _; unfold VfsS.renameS; rw [hf]; simp only [ne_eq, hck, not_false_eq_true, if_true]
      have d1 : (PathS.check t == 0) = false := by rw [beq_eq_false_iff_ne]; exact hck
      have d2 : (PathS.check t != 0) = true := by rw [bne_iff_ne]; exact hck
      have HX := Lib.hid hrep
      have HGB := Lib.hid (fun (w1 : World) (hb1 : Below w.heap.size w w1) => hg.below hb1 (Nat.le_refl _))
      rw [HR.out]
      clear hf hX hrep hck HR
      generalize PathS.check t = ck at *
      go_enter Tryd.func48, Tryd.ntmps48
      go_wp2_with fail
      refine (HCK.out w hg).mono ?_
      rintro e w1 ⟨rfl, hb1⟩
      go_wp2_with fail
      refine (HCK.out w1 (HGB.out w1 hb1)).mono ?_
      rintro e w2 ⟨rfl, hb2⟩
      have hb3 := hb1.trans (hb2.mono hb1.size)
      go_wp2_with fail
      go_ret
      exact ⟨rfl, (HX.out.below hb3).mono (fun _ h => .inl h) (by omega) hN, Only.of_below hb3⟩

/-- A file's block more. -/
theorem VX.addFile {w : World} {p : Nat} {K : Nat → Prop} {N : Nat} {S : St} {bn bs : Nat} {av : Value} {φ : Nat → Nat} {ψ : Nat → Value} (h : VX w p S K N bn bs av φ ψ) (hN : N + 1 ≤ 100000000) :
    VX (w.alloc (.cells #[.slice none 0 0, .int .i64 0] 130)) p (addS S) (Kx K w.heap.size (w.heap.size + 1)) (N + 1) bn bs av (fun i => if i = S.files.length then w.heap.size else φ i) (fun i => if i = S.files.length then .slice none 0 0 else ψ i) := by
  obtain ⟨hB, hp, hkp, hs⟩ := h.below (((Below.refl _ w).alloc (Nat.le_refl _) (.cells #[.slice none 0 0, .int .i64 0] 130)))
  have hlt : ∀ i, VfsS.Live S i → i ≠ S.files.length := fun i hi => Nat.ne_of_lt (hB.wf.idx i hi)
  have hne : ∀ (l : Nm), (∀ s i, (s, i) ∈ l → VfsS.Live S i) → ∀ x, nmF φ l x = nmF (fun i => if i = S.files.length then w.heap.size else φ i) l x := fun l hl x =>
    nmF_congr (fun s i hi => by simp only [if_neg (hlt i (hl s i hi))]) x
  obtain ⟨n1, hn1, m1⟩ := hB.now
  obtain ⟨n2, hn2, m2⟩ := hB.sure
  have e1 : ∀ i, VfsS.Live S i → (if i = S.files.length then w.heap.size else φ i) = φ i := fun i hi => if_neg (hlt i hi)
  have e2 : ∀ i, VfsS.Live S i → (if i = S.files.length then Value.slice none 0 0 else ψ i) = ψ i := fun i hi => if_neg (hlt i hi)
  refine ⟨⟨⟨n1, by omega, m1.congr (hne S.now fun s i hi => .inl ⟨s, hi⟩)⟩, ⟨n2, ?_, m2.congr (hne S.sure fun s i hi => .inr (.inl ⟨s, hi⟩))⟩, ?_, fun i hi => ?_, hB.ne, fun i j hi hj => ?_, fun i j k hi hj => ?_, .inl hB.kn, .inl hB.ks, fun k hk => .inl (hB.ka k hk), fun i hi => ?_, fun i k hi => ?_, wf_add hB.wf, ?_, hN⟩, hp, .inl hkp, by show S.steps ≤ N + 1; omega⟩
  · show n2 + S.acts.length ≤ N + 1; omega
  · have := hB.acts
    rw [arow_congr (χ := fun i => if i = S.files.length then w.heap.size else φ i) fun a ha i hi => (e1 i (.inr (.inr ⟨a, ha, hi⟩))).symm] at this
    exact this
  · have hi' : VfsS.Live S i := hi
    rw [e1 i hi', e2 i hi', fl_add, if_neg (hlt i hi')]
    exact hB.file i hi'
  · rw [e1 i hi, e1 j hj]; exact hB.inj i j hi hj
  · rw [e2 i hi, e2 j hj]; exact hB.apart i j k hi hj
  · rw [e1 i hi]; exact .inl (hB.kf i hi)
  · rw [e2 i hi]; exact fun hk => .inl (hB.kb i k hi hk)
  · show (S.files ++ _).length ≤ N + 1
    rw [List.length_append]; have := hB.len; simp; omega

set_option maxRecDepth 100000 in
theorem create_c {w : World} {p : Nat} {S : St} {K : Nat → Prop} {N : Nat} (h : VRep w p S K N) (s : ByteArray) (hs : s.size ≤ 10000000) (hN : N + 3 ≤ 100000000) (hg : Gl w) :
    Calls Tryd.prog 45 #[.pointer (some ⟨p, 0, none⟩), .string s] w fun e w' => e = .returned (.int .i64 (VfsS.createS S s).2) ∧ VRep w' p (VfsS.createS S s).1 (Kx K w.heap.size w'.heap.size) (N + 3) ∧ Only K w w' := by
  have hrep := h
  obtain ⟨bn, bs, av, φ, ψ, hX⟩ := h
  have hkp := hX.2.2.1
  have HCK := Lib.hid (fun (w1 : World) (g : Gl w1) => check_c s w1 g (by omega))
  by_cases hck : PathS.check s = 0
  · rw [hck] at HCK
    have HLK := Lib.hid (fun (w1 : World) (hb1 : Below w.heap.size w w1) => (hX.below hb1).1.look s hs)
    have HC0 : Hid (∀ (w1 : World), Below w.heap.size w w1 → w1.cell? ⟨p, 0, none⟩ = some (.map (some bn))) := fun w1 hb1 => by rw [cell_of (hX.below hb1).2.1]; rfl
    cases hf : find S.now s with
    | some i =>
      have HR : Hid (VfsS.createS S s = (S, 5)) := by show _ = _; unfold VfsS.createS; rw [hf]; simp [hck]
      rw [hf] at HLK
      simp only at HLK
      rw [HR.out]
      have HX := Lib.hid hrep
      clear hf hX hrep hck HR
      go_enter Tryd.func45, Tryd.ntmps45
      go_wp2_with fail
      refine (HCK.out w hg).mono ?_
      rintro e w1 ⟨rfl, hb1⟩
      have c0 := HC0.out w1 hb1
      have hlk := HLK.out w1 hb1
      go_wp2_with fail
      go_ret
      exact ⟨rfl, (HX.out.below hb1).mono (fun _ h => .inl h) (by omega) hN, Only.of_below hb1⟩
    | none =>
      rw [hf] at HLK
      simp only at HLK
      by_cases h0 : S.limit = 0
      · have HR : Hid (VfsS.createS S s = (S, 190)) := by show _ = _; unfold VfsS.createS; rw [hf]; simp [hck, h0]
        have HSS : Hid (VfsS.stepS S = S) := by show _ = _; unfold VfsS.stepS; rw [if_pos h0]
        have HST := Lib.hid (fun (w1 : World) (hb1 : Below w.heap.size w w1) => by have := step_c (hX.below hb1) (by omega); rwa [if_pos h0] at this)
        rw [HR.out]
        clear hf hX hrep hck HR h0
        go_enter Tryd.func45, Tryd.ntmps45
        go_wp2_with fail
        refine (HCK.out w hg).mono ?_
        rintro e w1 ⟨rfl, hb1⟩
        have c0 := HC0.out w1 hb1
        have hlk := HLK.out w1 hb1
        have HST1 := Lib.hid (HST.out w1 hb1)
        go_wp2_with fail
        refine HST1.out.mono ?_
        rintro e w2 ⟨rfl, hX2, hg2⟩
        have HX := Lib.hid hX2
        clear hX2
        go_wp2_with fail
        go_ret
        refine ⟨rfl, ?_, (Only.of_below hb1).trans' (Only.of_grown hg2 (by intro k hk; injection hk with hk; subst hk; exact hkp))⟩
        have := HX.out
        rw [HSS.out] at this
        exact VRep.mono ⟨_, _, _, _, _, this⟩ (fun _ h => .inl h) (by omega) hN
      · have HR : Hid (VfsS.createS S s = (VfsS.changeS (addS (VfsS.stepS S)) ⟨ByteArray.empty, s, some S.files.length⟩, 0)) := by
          show _ = _; unfold VfsS.createS; rw [hf]; simp only [hck, ne_eq, not_true, if_false, Option.isSome_none, Bool.false_eq_true, if_neg h0]; unfold addS; rw [VfsS.stepS_files]
        have HST := Lib.hid (fun (w1 : World) (hb1 : Below w.heap.size w w1) => by have := step_c (hX.below hb1) (by omega); rwa [if_neg h0] at this)
        rw [HR.out]
        clear hf hX hrep hck HR h0
        go_enter Tryd.func45, Tryd.ntmps45
        go_wp2_with fail
        refine (HCK.out w hg).mono ?_
        rintro e w1 ⟨rfl, hb1⟩
        have c0 := HC0.out w1 hb1
        have hlk := HLK.out w1 hb1
        have HST1 := Lib.hid (HST.out w1 hb1)
        go_wp2_with fail
        refine HST1.out.mono ?_
        rintro e w2 ⟨rfl, hX2, hg2⟩
        have ho2 : Only K w w2 := (Only.of_below hb1).trans' (Only.of_grown hg2 (by intro k hk; injection hk with hk; subst hk; exact hkp))
        have hX3 := hX2.addFile (by omega)
        rw [VfsS.stepS_files] at hX3
        have hnl : ∀ j, VfsS.Live (VfsS.stepS S) j → j ≠ S.files.length := fun j hj => by have := hX2.1.wf.idx j hj; rw [VfsS.stepS_files] at this; omega
        have HC : Hid (Calls Tryd.prog 81 #[.pointer (some ⟨p, 0, none⟩), .agg #[.string ByteArray.empty, .string s, .pointer (some ⟨w2.heap.size, 0, none⟩)]] (w2.alloc (.cells #[.slice none 0 0, .int .i64 0] 130)) fun e w' => e = .returned (.tuple #[]) ∧
            VRep w' p (VfsS.changeS (addS (VfsS.stepS S)) ⟨ByteArray.empty, s, some S.files.length⟩) (Kx (Kx K w2.heap.size (w2.heap.size + 1)) (w2.alloc (.cells #[.slice none 0 0, .int .i64 0] 130)).heap.size w'.heap.size) (N + 1 + 1 + 1) ∧ Only (Kx K w2.heap.size (w2.heap.size + 1)) (w2.alloc (.cells #[.slice none 0 0, .int .i64 0] 130)) w') := by
          have := change_x hX3 ⟨ByteArray.empty, s, some S.files.length⟩ (show ByteArray.empty.size ≤ 10000000 by decide) hs (by omega) (fun i hi => by
            injection hi with hi
            subst hi
            simp only [if_pos]
            refine ⟨?_, ⟨?_, ?_⟩, .inr ⟨Nat.le_refl _, Nat.lt_succ_self _⟩, (fun k hk => by cases hk), fun j hj hne => ?_, fun j k hj hne hk => by cases hk⟩
            · show S.files.length < ((VfsS.stepS S).files ++ _).length
              rw [VfsS.stepS_files, List.length_append]; simp
            · rw [fl_add, VfsS.stepS_files, if_pos rfl]
              exact (Go.MapKept.heap_alloc w2 _).1
            · rw [fl_add, VfsS.stepS_files, if_pos rfl]
              exact OwnG.nil _ _ _
            · rw [if_neg hne]
              have := hX2.1.lt (show VfsS.Live (VfsS.stepS S) j from hj)
              omega)
          simp only [Option.map_some, if_pos, ptrV] at this
          exact this
        have hsz := ho2.size
        have hal : Only K w2 (w2.alloc (.cells #[.slice none 0 0, .int .i64 0] 130)) := Only.of_below ((Below.refl _ w2).alloc (Nat.le_refl _) _)
        have hws : (w2.alloc (.cells #[.slice none 0 0, .int .i64 0] 130)).heap.size = w2.heap.size + 1 := by simp
        clear hX2 hX3 hnl
        go_wp2_with fail
        refine HC.out.mono ?_
        rintro e w3 ⟨rfl, hr3, ho3⟩
        have HR3 := Lib.hid hr3
        have hsz3 := ho3.size
        clear hr3
        go_wp2_with fail
        go_ret
        refine ⟨rfl, HR3.out.mono (fun k hk => ?_) (by omega) hN, ?_⟩
        · rcases hk with hk | hk
          · exact hk.mono hsz (by omega)
          · exact .inr (by omega)
        · rw [← hws] at ho3
          exact ho2.trans' (hal.trans ho3)
  · have HR : Hid (VfsS.createS S s = (S, PathS.check s)) := by show _ = _; unfold VfsS.createS; simp only [ne_eq, hck, not_false_eq_true, if_true]
    have d1 : (PathS.check s == 0) = false := by rw [beq_eq_false_iff_ne]; exact hck
    have d2 : (PathS.check s != 0) = true := by rw [bne_iff_ne]; exact hck
    have HX := Lib.hid hrep
    have HGB := Lib.hid (fun (w1 : World) (hb1 : Below w.heap.size w w1) => hg.below hb1 (Nat.le_refl _))
    rw [HR.out]
    clear hX hrep hck HR
    generalize PathS.check s = ck at *
    go_enter Tryd.func45, Tryd.ntmps45
    go_wp2_with fail
    refine (HCK.out w hg).mono ?_
    rintro e w1 ⟨rfl, hb1⟩
    go_wp2_with fail
    refine (HCK.out w1 (HGB.out w1 hb1)).mono ?_
    rintro e w2 ⟨rfl, hb2⟩
    have hb3 := hb1.trans (hb2.mono hb1.size)
    go_wp2_with fail
    go_ret
    exact ⟨rfl, (HX.out.below hb3).mono (fun _ h => .inl h) (by omega) hN, Only.of_below hb3⟩
end Go.Proofs.YtfoamcobpfflbaaDoor
