/- What the file system's parts are behind a change of names, and behind a file's turn. -/
import Derived.Test.YtfoamcobpfflbaaDoorVfsOpC
namespace Go.Proofs.YtfoamcobpfflbaaDoor
open Go Go.RowKit Go.Maps
open VfsS (File Chg Nm St find doL)

theorem Kx.old {K : Nat → Prop} {a b k : Nat} (h : K k) : Kx K a b k := .inl h

/-- Behind a change of names. -/
theorem VB.changed {w w' : World} {K : Nat → Prop} {N n : Nat} {S : St} {bn bs : Nat} {av av' : Value} {φ : Nat → Nat} {ψ : Nat → Value} {p : Nat} {cs : Array Value} {fr : Nat × Nat} (h : VB w K N S bn bs av φ ψ) (hp : w.heap[p]? = some (.cells cs 112 fr)) (a : Chg) (hn : n ≤ N)
    (hs : a.src.size ≤ 10000000) (hd : a.dst.size ≤ 10000000)
    (hf : ∀ i, a.file = some i → i < S.files.length ∧ FileAt w (φ i) (ψ i) (VfsS.fl S i) ∧ K (φ i) ∧ (∀ k, (ψ i).ownBlock = some k → K k) ∧ (∀ j, VfsS.Live S j → j ≠ i → φ j ≠ φ i) ∧ (∀ j k, VfsS.Live S j → j ≠ i → (ψ i).ownBlock = some k → (ψ j).ownBlock ≠ some k))
    (hm : MapG NC w' bn (n + 1) (nmF φ (doL S.now a))) (ho : OwnG w' 150 3 av' (S.acts ++ [a]).length (arow φ (S.acts ++ [a]))) (hav : ∀ k, av'.ownBlock = some k → av.ownBlock = some k ∨ w.heap.size ≤ k)
    (hfr : Only (fun k => k = p ∨ k = bn ∨ av.ownBlock = some k) w w') (hN : N + 1 ≤ 100000000) : VB w' (Kx K w.heap.size w'.heap.size) (N + 1) (VfsS.changeS S a) bn bs av' φ ψ := by
  obtain ⟨n2, hn2, m2⟩ := h.sure
  obtain ⟨n1, hn1, m1⟩ := h.now
  obtain ⟨es1, c1, b1⟩ := m1.isMap
  obtain ⟨es2, c2, b2⟩ := m2.isMap
  have hw := h.wf.change (fun i hi => (hf i hi).1) hs hd
  have far : ∀ (k : Nat) (cs' : Array Value) (e : TypeId) (fr' : Nat × Nat), w.heap[k]? = some (Obj.cells cs' e fr') → e ≠ 112 → e ≠ 150 → w'.heap[k]? = w.heap[k]? := by
    intro k cs' e fr' hk he1 he2
    refine hfr.block k (Array.getElem?_eq_some_iff.1 hk).1 fun hh => ?_
    rcases hh with hh | hh | hh
    · subst hh; rw [hp] at hk; injection hk with hk; injection hk with _ hk _; exact he1 hk.symm
    · subst hh; rw [b1] at hk; cases hk
    · obtain ⟨cur, hc⟩ := h.acts.tag hh
      rw [hc] at hk; injection hk with hk; injection hk with _ hk _; exact he2 hk.symm
  have fileAll : ∀ i, VfsS.Live S i ∨ a.file = some i → FileAt w (φ i) (ψ i) (VfsS.fl S i) := by
    rintro i (hi | hi)
    · exact h.file i hi
    · exact (hf i hi).2.1
  have live2 : ∀ i, VfsS.Live (VfsS.changeS S a) i → VfsS.Live S i ∨ a.file = some i := fun i hi => VfsS.live_change hi
  have hbs : w'.heap[bs]? = w.heap[bs]? := by
    refine hfr.block bs m2.lt fun hh => ?_
    rcases hh with hh | hh | hh
    · subst hh; rw [hp] at b2; cases b2
    · exact h.ne hh.symm
    · obtain ⟨cur, hc⟩ := h.acts.tag hh
      rw [hc] at b2; cases b2
  refine ⟨⟨n + 1, by omega, hm⟩, ⟨n2, ?_, m2.block hbs⟩, ho, fun i hi => ?_, h.ne, fun i j hi hj e => ?_, fun i j k hi hj hij => ?_, .inl h.kn, .inl h.ks, fun k hk => ?_, fun i hi => ?_, fun i k hi hk => ?_, hw, ?_, hN⟩
  · show n2 + (S.acts ++ [a]).length ≤ N + 1
    rw [List.length_append]; simp; omega
  · obtain ⟨f1, f2⟩ := fileAll i (live2 i hi)
    exact ⟨(far _ _ _ _ f1 (by decide) (by decide)).trans f1, f2.block fun k hk => by obtain ⟨cur, hc⟩ := f2.tag hk; exact far _ _ _ _ hc (by decide) (by decide)⟩
  · rcases live2 i hi with hi | hi <;> rcases live2 j hj with hj | hj
    · exact h.inj i j hi hj e
    · by_cases hij : i = j
      · exact hij
      · exact absurd e ((hf j hj).2.2.2.2.1 i hi hij)
    · by_cases hij : j = i
      · exact hij.symm
      · exact absurd e.symm ((hf i hi).2.2.2.2.1 j hj hij)
    · rw [hi] at hj; injection hj
  · rcases live2 i hi with hi | hi <;> rcases live2 j hj with hj | hj
    · exact h.apart i j k hi hj hij
    · exact fun h1 h2 => (hf j hj).2.2.2.2.2 i k hi hij h2 h1
    · exact (hf i hi).2.2.2.2.2 j k hj (Ne.symm hij)
    · rw [hi] at hj; injection hj with hj; exact absurd hj hij
  · rcases hav k hk with h1 | h1
    · exact .inl (h.ka k h1)
    · exact .inr ⟨h1, ho.lt hk⟩
  · rcases live2 i hi with hi | hi
    · exact .inl (h.kf i hi)
    · exact .inl (hf i hi).2.2.1
  · rcases live2 i hi with hi | hi
    · exact .inl (h.kb i k hi hk)
    · exact .inl ((hf i hi).2.2.2.1 k hk)
  · show S.files.length ≤ N + 1
    have := h.len; omega

/-- Behind a file's turn. -/
theorem VB.putFile {w w' : World} {K : Nat → Prop} {N : Nat} {S : St} {bn bs : Nat} {av v : Value} {φ : Nat → Nat} {ψ : Nat → Value} (h : VB w K N S bn bs av φ ψ) {i : Nat} (hi : VfsS.Live S i) (f : File) (hf : f.dur ≤ f.text.size ∧ f.text.size ≤ 4194304)
    (hfa : FileAt w' (φ i) v f) (hv : ∀ k, v.ownBlock = some k → (ψ i).ownBlock = some k ∨ w.heap.size ≤ k) (hfr : Only (fun k => k = φ i ∨ (ψ i).ownBlock = some k) w w') :
    VB w' (Kx K w.heap.size w'.heap.size) N (VfsS.putS S i f) bn bs av φ (fun j => if j = i then v else ψ j) := by
  obtain ⟨n2, hn2, m2⟩ := h.sure
  obtain ⟨n1, hn1, m1⟩ := h.now
  obtain ⟨es1, c1, b1⟩ := m1.isMap
  obtain ⟨es2, c2, b2⟩ := m2.isMap
  obtain ⟨g1, g2⟩ := h.file i hi
  have mapFar : ∀ (b : Nat) (es : Array MapEntry) (c : Nat), w.heap[b]? = some (Obj.map es c) → w'.heap[b]? = w.heap[b]? := by
    intro b es c hb
    refine hfr.block b (Array.getElem?_eq_some_iff.1 hb).1 fun hh => ?_
    rcases hh with hh | hh
    · subst hh; rw [g1] at hb; cases hb
    · obtain ⟨cur, hc⟩ := g2.tag hh
      rw [hc] at hb; cases hb
  have hlen := h.wf.idx i hi
  have getS := VfsS.fl_put hlen f
  have hlv : ∀ j, VfsS.Live (VfsS.putS S i f) j ↔ VfsS.Live S j := fun j => Iff.rfl
  refine ⟨⟨n1, hn1, m1.block (mapFar _ _ _ b1)⟩, ⟨n2, hn2, m2.block (mapFar _ _ _ b2)⟩, h.acts.block fun k hk => ?_, fun j hj => ?_, h.ne, h.inj, fun j l k hj hl hjl => ?_, .inl h.kn, .inl h.ks, fun k hk => .inl (h.ka k hk), fun j hj => .inl (h.kf j hj), fun j k hj hk => ?_, h.wf.put i hf, ?_, h.big⟩
  · obtain ⟨cur, hc⟩ := h.acts.tag hk
    refine hfr.block k (h.acts.lt hk) fun hh => ?_
    rcases hh with hh | hh
    · subst hh; rw [g1] at hc; injection hc with hc; injection hc with _ hc _; exact absurd hc (by decide)
    · obtain ⟨cur2, hc2⟩ := g2.tag hh
      rw [hc2] at hc; injection hc with hc; injection hc with _ hc _; exact absurd hc (by decide)
  · rw [getS]
    by_cases e : j = i
    · subst e; rw [if_pos rfl]; simp only [if_pos]; exact hfa
    · rw [if_neg e]
      simp only [if_neg e]
      obtain ⟨f1, f2⟩ := h.file j hj
      refine ⟨(hfr.block _ (h.lt hj) fun hh => ?_).trans f1, f2.block fun k hk => hfr.block k (f2.lt hk) fun hh => ?_⟩
      · rcases hh with hh | hh
        · exact e (h.inj j i hj hi hh)
        · obtain ⟨cur2, hc2⟩ := g2.tag hh
          rw [hc2] at f1; injection f1 with f1; injection f1 with _ f1 _; exact absurd f1 (by decide)
      · rcases hh with hh | hh
        · obtain ⟨cur2, hc2⟩ := f2.tag hk
          subst hh; rw [g1] at hc2; injection hc2 with hc2; injection hc2 with _ hc2 _; exact absurd hc2 (by decide)
        · exact h.apart i j k hi hj (fun e2 => e e2.symm) hh hk
  · by_cases e1 : j = i
    · rw [if_pos e1, if_neg (fun e2 => hjl (e1.trans e2.symm))]
      intro h1 h2
      rcases hv k h1 with h3 | h3
      · exact h.apart i l k hi hl (fun e => hjl (e1.trans e)) h3 h2
      · have := (h.file l hl).2.lt h2; omega
    · rw [if_neg e1]
      by_cases e2 : l = i
      · rw [if_pos e2]
        intro h1 h2
        rcases hv k h2 with h3 | h3
        · exact h.apart i j k hi hj (fun e => e1 e.symm) h3 h1
        · have := (h.file j hj).2.lt h1; omega
      · rw [if_neg e2]; exact h.apart j l k hj hl hjl
  · by_cases e : j = i
    · rw [if_pos e] at hk
      rcases hv k hk with h3 | h3
      · exact .inl (h.kb i k hi h3)
      · exact .inr ⟨h3, hfa.2.lt hk⟩
    · rw [if_neg e] at hk; exact .inl (h.kb j k hj hk)
  · show (S.files.set i f).length ≤ N
    rw [List.length_set]; exact h.len

theorem gl_only {K : Nat → Prop} {w w' : World} (h : Gl w) (ho : Only K w w') (hk : ¬ K 0) : Gl w' := by
  obtain ⟨⟨m, hm⟩, hs⟩ := h
  refine ⟨⟨m, ?_⟩, Nat.lt_of_lt_of_le hs ho.size⟩
  rw [World.cell?_of_block (a := ⟨0, 0, none⟩) (ho.block _ hs hk)]; exact hm
end Go.Proofs.YtfoamcobpfflbaaDoor
