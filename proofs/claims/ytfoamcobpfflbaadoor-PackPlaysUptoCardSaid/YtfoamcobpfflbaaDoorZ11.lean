/- Texts of mine, joined: Walks: a new file system; a change of names. | What the file system's parts are behind a change of names, and behind a file's turn. -/
import Derived.Deep.RegionLaw
import Derived.Test.YtfoamcobpfflbaaDoorZ10
namespace Go.Proofs.YtfoamcobpfflbaaDoor
open Go Go.RowKit Go.Maps
open VfsS (File Chg Nm St find doL)

set_option maxRecDepth 100000 in
theorem new_c (room : Int) (w : World) :
    Calls Tryd.prog 14 #[.int .i64 room] w fun e w' => ((room < 0 ∨ 4194304 < room) ∧ e = .returned (.tuple #[.pointer none, .int .i64 1]) ∧ w' = w) ∨
      ((0 ≤ room ∧ room ≤ 4194304) ∧ ∃ p, e = .returned (.tuple #[.pointer (some ⟨p, 0, none⟩), .int .i64 0]) ∧ w.heap.size ≤ p ∧ VRep w' p (VfsS.newS room.toNat) (Kx (fun _ => False) w.heap.size w'.heap.size) 0 ∧ Below w.heap.size w w') := by
  have hmm := fun (t : TypeId) (w : World) => run_makeMap (P := Tryd.prog) t w
  by_cases h1 : room < 0
  · have d1 : decide (room < 0) = true := decide_eq_true h1
    have HL : Hid (room < 0 ∨ 4194304 < room) := .inl h1
    clear h1
    go_enter Tryd.func14, Tryd.ntmps14
    go_wp2_with fail
    go_ret2
    exact .inl ⟨HL.out, rfl, rfl⟩
  · have d1 : decide (room < 0) = false := decide_eq_false h1
    by_cases h2 : 4194304 < room
    · have HL : Hid (room < 0 ∨ 4194304 < room) := .inr h2
      clear h1
      go_enter Tryd.func14, Tryd.ntmps14
      go_wp2_with fail
      go_ret2
      exact .inl ⟨HL.out, rfl, rfl⟩
    · have d2 : decide (4194304 < room) = false := decide_eq_false h2
      have HL : Hid (0 ≤ room ∧ room ≤ 4194304) := ⟨by omega, by omega⟩
      have hrt : ((room.toNat : Nat) : Int) = room := Int.toNat_of_nonneg (by omega)
      have HRT := Lib.hid hrt
      have HW := Lib.hid (VfsS.Wf.new (r := room.toNat) (by omega))
      clear h1 h2 hrt
      go_enter Tryd.func14, Tryd.ntmps14
      go_wp2_with fail
      go_ret2
      refine .inr ⟨HL.out, _, rfl, ?_, ?_, ?_⟩
      · omega
      · have m0 : MapG NC ((w.alloc (.map #[] 0)).alloc (.map #[] 0)) w.heap.size 0 (nmF id []) := (MapG.made NC w).alloc _
        have m1 := MapG.made NC (w.alloc (.map #[] 0))
        rw [show (w.alloc (.map #[] 0)).heap.size = w.heap.size + 1 by simp] at m1
        refine ⟨w.heap.size, w.heap.size + 1, .slice none 0 0, id, fun _ => .slice none 0 0, ⟨⟨0, Nat.le_refl _, m0.alloc _⟩, ⟨0, Nat.le_refl _, m1.alloc _⟩, OwnG.nil _ _ _, ?_, by omega, ?_, ?_, ?_, ?_, ?_, ?_, ?_, HW.out, Nat.le_refl _, by decide⟩, ?_, ?_, Nat.le_refl _⟩
        · intro i hi; exact absurd (HW.out.idx i hi) (Nat.not_lt_zero _)
        · intro i j hi; exact absurd (HW.out.idx i hi) (Nat.not_lt_zero _)
        · intro i j k hi; exact absurd (HW.out.idx i hi) (Nat.not_lt_zero _)
        · exact .inr ⟨Nat.le_refl _, by simp; omega⟩
        · exact .inr ⟨by omega, by simp⟩
        · intro k hk; cases hk
        · intro i hi; exact absurd (HW.out.idx i hi) (Nat.not_lt_zero _)
        · intro i k hi; exact absurd (HW.out.idx i hi) (Nat.not_lt_zero _)
        · have := (Go.MapKept.heap_alloc ((w.alloc (.map #[] 0)).alloc (.map #[] 0)) (.cells #[.map (some w.heap.size), .map (some (w.heap.size + 1)), .slice none 0 0, .int .i64 room, .int .i64 0, .int .i64 (-1)] 112)).1
          show _ = some (Obj.cells #[.map (some w.heap.size), .map (some (w.heap.size + 1)), .slice none 0 0, .int .i64 ((room.toNat : Nat) : Int), .int .i64 0, .int .i64 (-1)] 112 (0, 0))
          rw [HRT.out]
          simpa using this
        · exact .inr ⟨by omega, by simp⟩
      · exact (((Below.refl _ w).alloc (Nat.le_refl _) _).alloc (by simp) _).alloc (by simp; omega) _

theorem actElem : Elem Tryd.prog 110 150 (.agg #[.string ByteArray.empty, .string ByteArray.empty, .pointer none]) 3 40 := ⟨by kernel_rfl, by kernel_rfl⟩

set_option maxRecDepth 100000 in
set_option maxHeartbeats 1000000 in
theorem change_c {w : World} {p bn bs n : Nat} {av r1 r2 r3 : Value} {φ : Nat → Nat} {l : Nm} {acts : List Chg} (a : Chg) (hp : w.heap[p]? = some (.cells #[.map (some bn), .map (some bs), av, r1, r2, r3] 112 (0, 0))) (hm : MapG NC w bn n (nmF φ l))
    (ho : OwnG w 150 3 av acts.length (arow φ acts)) (hn : n < 200000000) (hl : acts.length ≤ 200000000) (hs : a.src.size ≤ 10000000) (hd : a.dst.size ≤ 10000000) :
    Calls Tryd.prog 81 #[.pointer (some ⟨p, 0, none⟩), .agg #[.string a.src, .string a.dst, ptrV (a.file.map φ)]] w fun e w' => e = .returned (.tuple #[]) ∧ ∃ av', MapG NC w' bn (n + 1) (nmF φ (doL l a)) ∧ OwnG w' 150 3 av' (acts ++ [a]).length (arow φ (acts ++ [a])) ∧
      w'.heap[p]? = some (.cells #[.map (some bn), .map (some bs), av', r1, r2, r3] 112 (0, 0)) ∧ (∀ k, av'.ownBlock = some k → av.ownBlock = some k ∨ w.heap.size ≤ k) ∧ Only (fun k => k = p ∨ k = bn ∨ av.ownBlock = some k) w w' := by
  obtain ⟨pv, hpv⟩ : ∃ pv, pv = ptrV (a.file.map φ) := ⟨_, rfl⟩
  have hpo : pv.oneCell' = true := by rw [hpv]; unfold ptrV; rfl
  have hplt := (Array.getElem?_eq_some_iff.1 hp).1
  have HDO := Lib.hid (fun (w1 : World) (h : MapG NC w1 bn n (nmF φ l)) => do_c a h hn hs hd)
  have HE : Hid (encA φ a = [.string a.src, .string a.dst, pv]) := by show _ = _; rw [hpv]; rfl
  have HSN : Hid (arow φ (acts ++ [a]) = arow φ acts ++ [.string a.src, .string a.dst, pv]) := by show _ = _; rw [arow_snoc, HE.out]
  rw [← hpv] at HDO ⊢
  have hm0 := hm.alloc (.cells #[.string a.src, .string a.dst, pv] 150)
  have ho0 := ho.alloc (.cells #[.string a.src, .string a.dst, pv] 150)
  have ha0 : (w.alloc (.cells #[.string a.src, .string a.dst, pv] 150)).heap[w.heap.size]? = some (.cells #[.string a.src, .string a.dst, pv] 150 (0, 0)) := (Go.MapKept.heap_alloc w _).1
  have hp0 : (w.alloc (.cells #[.string a.src, .string a.dst, pv] 150)).heap[p]? = _ := ((World.grownBy_alloc w _ none).block p hplt (by simp)).trans hp
  have g0 : w.grownBy (w.alloc (.cells #[.string a.src, .string a.dst, pv] 150)) none := World.grownBy_alloc w _ none
  generalize hW : w.alloc (.cells #[.string a.src, .string a.dst, pv] 150) = W at *
  have k0 : W.cell? ⟨p, 0, none⟩ = some (.map (some bn)) := by rw [cell_of hp0]; rfl
  have k1 : W.cell? ⟨w.heap.size, 0, none⟩ = some (.string a.src) := by rw [cell_of ha0]; rfl
  have k2 : W.cell? ⟨w.heap.size, 1, none⟩ = some (.string a.dst) := by rw [cell_of ha0]; rfl
  have k3 : W.cell? ⟨w.heap.size, 2, none⟩ = some pv := by rw [cell_of ha0]; rfl
  have nb1 : some p ≠ some bn := fun e => by
    injection e with e; subst e
    obtain ⟨es, c, hc⟩ := hm.isMap
    rw [hp] at hc; cases hc
  have nb2 : some w.heap.size ≠ some bn := fun e => by injection e with e; have := hm.lt; omega
  obtain ⟨src, dst, file⟩ := a
  simp only at hs hd HDO HE HSN hW ha0 k1 k2 ⊢
  have hone : ∀ u ∈ [Value.string src, Value.string dst, pv], u.oneCell' = true := by
    intro u hu
    simp only [List.mem_cons, List.mem_nil_iff, or_false] at hu
    rcases hu with rfl | rfl | rfl
    · rfl
    · rfl
    · exact hpo
  have hwl := g0.size
  clear hpv HE hpo hm ho hp
  go_enter Tryd.func81, Tryd.ntmps81
  go_wp2_with fail
  clear hW
  go_region_held3 (fun w' => w'.cell? ⟨p, 0, none⟩ = some (.map (some bn)) ∧ w'.cell? ⟨w.heap.size, 0, none⟩ = some (.string src) ∧ w'.cell? ⟨w.heap.size, 1, none⟩ = some (.string dst) ∧ w'.cell? ⟨w.heap.size, 2, none⟩ = some pv)
    (first | exact ⟨q0, q1, q2, q3⟩ | exact ⟨k0, k1, k2, k3⟩ | go_keep)
    (first | (go_at_call 88; refine (HDO.out _ (hm0.drewN 1)).mono ?_; rintro e w' ⟨rfl, hm1, hg1⟩; have hp1 := (hg1.block p (Array.getElem?_eq_some_iff.1 hp0).1 nb1).trans hp0; have ha1 := (hg1.block w.heap.size (Array.getElem?_eq_some_iff.1 ha0).1 nb2).trans ha0; have q0 : w'.cell? ⟨p, 0, none⟩ = some (.map (some bn)) := (by rw [cell_of hp1]; rfl); have q1 : w'.cell? ⟨w.heap.size, 0, none⟩ = some (.string src) := (by rw [cell_of ha1]; rfl); have q2 : w'.cell? ⟨w.heap.size, 1, none⟩ = some (.string dst) := (by rw [cell_of ha1]; rfl); have q3 : w'.cell? ⟨w.heap.size, 2, none⟩ = some pv := (by rw [cell_of ha1]; rfl)))
  have ho1 := (ho0.drewN 1).kept hg1 (by
    cases hk : av.ownBlock with
    | none => exact .inl rfl
    | some k =>
      right; intro e; injection e with e; subst e
      obtain ⟨cur, hc⟩ := ho0.tag hk
      obtain ⟨es, c, hcm⟩ := hm0.isMap
      rw [hc] at hcm; cases hcm)
  have hp2 : w'.cell? ⟨p, 2, none⟩ = some av := by rw [cell_of hp1]; rfl
  have fz2 := frozen_of hp1 2
  have g01 : w.grownBy w' (some bn) := (World.grownBy.but (c := W.drewN 1) ⟨g0.os, g0.tape, g0.output, g0.size, g0.block⟩ (some bn)).andThen hg1 (fun j hj => .inr hj)
  have nb3 : av.ownBlock ≠ some p := fun e => by
    obtain ⟨cur, hc⟩ := ho1.tag e
    rw [hp1] at hc; injection hc with hc; injection hc with _ hc _; exact absurd hc (by decide)
  have hsrc := Src.ofNew (P := Tryd.prog) (w := w'.drew) (tx := 110) (e := 150) Tryd.underlying110 (show [Value.string src, Value.string dst, pv].length = 3 from rfl) hone
  have hp2b : (w'.alloc (.cells #[.string src, .string dst, pv] 150)).cell? ⟨p, 2, none⟩ = some av := by rw [cell_of (((World.grownBy_alloc w' _ none).block p (Array.getElem?_eq_some_iff.1 hp1).1 (by simp)).trans hp1)]; rfl
  clear hm0 ho0 hp0 ha0 k0 k1 k2 k3 hone g0 HDO
  go_wp2_with fail
  go_region_law (first | (refine step_appG rfl _ _ _ _ rfl actElem rfl rfl ((ho1.drewN 1).alloc _) rfl hsrc (by simp [maxLen]; omega) (by omega) ?_; intro v3 w3 ho3 hg3 hv3; obtain ⟨a3, c3, rfl, -, -, -⟩ := ho3.form; have hp3 := (hg3.block p (by have := (Array.getElem?_eq_some_iff.1 hp1).1; simp; omega) nb3.symm).trans (((World.grownBy_alloc (w'.drewN 1) _ none).block p (Array.getElem?_eq_some_iff.1 hp1).1 (by simp)).trans hp1); have hq3 : w3.cell? ⟨p, 2, none⟩ = some av := (by rw [cell_of hp3]; rfl); have hf3 := frozen_of hp3 2))
  all_goals
    have hg3' : ((w'.alloc (.cells #[.string src, .string dst, pv] 150)).drewN 1).grownBy w3 av.ownBlock := hg3
    have hv3' : ∀ k, (Value.slice a3 (acts.length + 1) c3).ownBlock = some k → av.ownBlock = some k ∨ w'.heap.size + 1 ≤ k := by
      intro k hk
      rcases hv3 k hk with h | h
      · exact .inl h
      · right
        have e : (w'.alloc (.cells #[.string src, .string dst, pv] 150)).drew.heap.size = w'.heap.size + 1 := by simp
        rw [e] at h; exact h
    obtain ⟨s4, g4⟩ := set_block hp3 2 (.slice a3 (acts.length + 1) c3)
    have hsz4 := g01.size
    have hm1lt := hm1.lt
    have hp1lt := (Array.getElem?_eq_some_iff.1 hp1).1
    have nbv : some bn ≠ av.ownBlock := fun e => by
      obtain ⟨cur, hc⟩ := ho1.tag e.symm
      obtain ⟨es, c, hcm⟩ := hm1.isMap
      rw [hc] at hcm; cases hcm
    clear hg3 hv3
    go_end0
    refine ⟨rfl, .slice a3 (acts.length + 1) c3, ?_, ?_, by simpa using s4, fun k hk => ?_, ?_⟩
    · exact (((hm1.alloc _).drewN 1).kept hg3' nbv).kept g4 nb1.symm
    · rw [HSN.out, List.length_append]
      refine ho3.kept g4 ?_
      cases hk : (Value.slice a3 (acts.length + 1) c3).ownBlock with
      | none => exact .inl rfl
      | some k =>
        right; intro e; injection e with e; subst e
        rcases hv3' _ hk with h | h
        · exact nb3 h
        · omega
    · rcases hv3' k hk with h | h
      · exact .inl h
      · right; omega
    · refine ⟨?_, ?_, ?_, ?_, fun k hk hn => ?_⟩
      · exact g4.os.trans (hg3'.os.trans g01.os)
      · exact g4.tape.trans (hg3'.tape.trans g01.tape)
      · exact g4.output.trans (hg3'.output.trans g01.output)
      · have e1 := hg3'.size
        have e2 := g4.size
        have e : ((w'.alloc (.cells #[.string src, .string dst, pv] 150)).drewN 1).heap.size = w'.heap.size + 1 := by simp [World.drewN]
        omega
      · have e : ((w'.alloc (.cells #[.string src, .string dst, pv] 150)).drewN 1).heap.size = w'.heap.size + 1 := by simp [World.drewN]
        have h3 := hg3'.size
        rw [g4.block k (by omega) (fun e => hn (.inl (by injection e))), hg3'.block k (by omega) (fun e => hn (.inr (.inr e.symm)))]
        refine Eq.trans ((World.grownBy_alloc w' _ none).block k (by omega) (by simp)) (g01.block k hk (fun e => hn (.inr (.inl (by injection e)))))
end Go.Proofs.YtfoamcobpfflbaaDoor
namespace Go.Proofs.YtfoamcobpfflbaaDoor
open Go Go.RowKit Go.Maps
open VfsS (File Chg Nm St find doL)

theorem Kx.old {K : Nat → Prop} {a b k : Nat} (h : K k) : Kx K a b k := .inl h

/-- Behind a change of names. -/
theorem VB.changed {w w' : World} {K : Nat → Prop} {N n : Nat} {S : St} {bn bs : Nat} {av av' : Value} {φ : Nat → Nat} {ψ : Nat → Value} {p : Nat} {cs : Array Value} {fr : Nat × Nat} (h : VB w K N S bn bs av φ ψ) (hp : w.heap[p]? = some (.cells cs 112 fr)) (a : Chg) (hn : n ≤ N)
    (hs : a.src.size ≤ 10000000) (hd : a.dst.size ≤ 10000000)
    (hf : ∀ i, a.file = some i → i < S.files.length ∧ FileAt w (φ i) (ψ i) (VfsS.fl S i) ∧ K (φ i) ∧ (∀ k, (ψ i).ownBlock = some k → K k) ∧ (∀ j, VfsS.Live S j → j ≠ i → φ j ≠ φ i) ∧ (∀ j k, VfsS.Live S j → j ≠ i → (ψ i).ownBlock = some k → (ψ j).ownBlock ≠ some k))
    (hm : MapG NC w' bn (n + 1) (nmF φ (doL S.now a))) (ho : OwnG w' 150 3 av' (S.acts ++ [a]).length (arow φ (S.acts ++ [a]))) (hav : ∀ k, av'.ownBlock = some k → av.ownBlock = some k ∨ w.heap.size ≤ k)
    (hfr : Only (fun k => k = p ∨ k = bn ∨ av.ownBlock = some k) w w') (hN : N + 1 ≤ 100000000) : VB w' (Kx K w.heap.size w'.heap.size) (N + 1) (VfsS.changeS S a) bn bs av' φ ψ := by
  obtain ⟨n2, hn2, m2⟩ := h.sure
  obtain ⟨n1, hn1, m1⟩ := h.now
  obtain ⟨es1, c1, b1⟩ := m1.isMap
  obtain ⟨es2, c2, b2⟩ := m2.isMap
  have hw := h.wf.change (fun i hi => (hf i hi).1) hs hd
  have far : ∀ (k : Nat) (cs' : Array Value) (e : TypeId) (fr' : Nat × Nat), w.heap[k]? = some (Obj.cells cs' e fr') → e ≠ 112 → e ≠ 150 → w'.heap[k]? = w.heap[k]? := by
    intro k cs' e fr' hk he1 he2
    refine hfr.block k (Array.getElem?_eq_some_iff.1 hk).1 fun hh => ?_
    rcases hh with hh | hh | hh
    · subst hh; rw [hp] at hk; injection hk with hk; injection hk with _ hk _; exact he1 hk.symm
    · subst hh; rw [b1] at hk; cases hk
    · obtain ⟨cur, hc⟩ := h.acts.tag hh
      rw [hc] at hk; injection hk with hk; injection hk with _ hk _; exact he2 hk.symm
  have fileAll : ∀ i, VfsS.Live S i ∨ a.file = some i → FileAt w (φ i) (ψ i) (VfsS.fl S i) := by
    rintro i (hi | hi)
    · exact h.file i hi
    · exact (hf i hi).2.1
  have live2 : ∀ i, VfsS.Live (VfsS.changeS S a) i → VfsS.Live S i ∨ a.file = some i := fun i hi => VfsS.live_change hi
  have hbs : w'.heap[bs]? = w.heap[bs]? := by
    refine hfr.block bs m2.lt fun hh => ?_
    rcases hh with hh | hh | hh
    · subst hh; rw [hp] at b2; cases b2
    · exact h.ne hh.symm
    · obtain ⟨cur, hc⟩ := h.acts.tag hh
      rw [hc] at b2; cases b2
  refine ⟨⟨n + 1, by omega, hm⟩, ⟨n2, ?_, m2.block hbs⟩, ho, fun i hi => ?_, h.ne, fun i j hi hj e => ?_, fun i j k hi hj hij => ?_, .inl h.kn, .inl h.ks, fun k hk => ?_, fun i hi => ?_, fun i k hi hk => ?_, hw, ?_, hN⟩
  · show n2 + (S.acts ++ [a]).length ≤ N + 1
    rw [List.length_append]; simp; omega
  · obtain ⟨f1, f2⟩ := fileAll i (live2 i hi)
    exact ⟨(far _ _ _ _ f1 (by decide) (by decide)).trans f1, f2.block fun k hk => by obtain ⟨cur, hc⟩ := f2.tag hk; exact far _ _ _ _ hc (by decide) (by decide)⟩
  · rcases live2 i hi with hi | hi <;> rcases live2 j hj with hj | hj
    · exact h.inj i j hi hj e
    · by_cases hij : i = j
      · exact hij
      · exact absurd e ((hf j hj).2.2.2.2.1 i hi hij)
    · by_cases hij : j = i
      · exact hij.symm
      · exact absurd e.symm ((hf i hi).2.2.2.2.1 j hj hij)
    · rw [hi] at hj; injection hj
  · rcases live2 i hi with hi | hi <;> rcases live2 j hj with hj | hj
    · exact h.apart i j k hi hj hij
    · exact fun h1 h2 => (hf j hj).2.2.2.2.2 i k hi hij h2 h1
    · exact (hf i hi).2.2.2.2.2 j k hj (Ne.symm hij)
    · rw [hi] at hj; injection hj with hj; exact absurd hj hij
  · rcases hav k hk with h1 | h1
    · exact .inl (h.ka k h1)
    · exact .inr ⟨h1, ho.lt hk⟩
  · rcases live2 i hi with hi | hi
    · exact .inl (h.kf i hi)
    · exact .inl (hf i hi).2.2.1
  · rcases live2 i hi with hi | hi
    · exact .inl (h.kb i k hi hk)
    · exact .inl ((hf i hi).2.2.2.1 k hk)
  · show S.files.length ≤ N + 1
    have := h.len; omega

/-- Behind a file's turn. -/
theorem VB.putFile {w w' : World} {K : Nat → Prop} {N : Nat} {S : St} {bn bs : Nat} {av v : Value} {φ : Nat → Nat} {ψ : Nat → Value} (h : VB w K N S bn bs av φ ψ) {i : Nat} (hi : VfsS.Live S i) (f : File) (hf : f.dur ≤ f.text.size ∧ f.text.size ≤ 4194304)
    (hfa : FileAt w' (φ i) v f) (hv : ∀ k, v.ownBlock = some k → (ψ i).ownBlock = some k ∨ w.heap.size ≤ k) (hfr : Only (fun k => k = φ i ∨ (ψ i).ownBlock = some k) w w') :
    VB w' (Kx K w.heap.size w'.heap.size) N (VfsS.putS S i f) bn bs av φ (fun j => if j = i then v else ψ j) := by
  obtain ⟨n2, hn2, m2⟩ := h.sure
  obtain ⟨n1, hn1, m1⟩ := h.now
  obtain ⟨es1, c1, b1⟩ := m1.isMap
  obtain ⟨es2, c2, b2⟩ := m2.isMap
  obtain ⟨g1, g2⟩ := h.file i hi
  have mapFar : ∀ (b : Nat) (es : Array MapEntry) (c : Nat), w.heap[b]? = some (Obj.map es c) → w'.heap[b]? = w.heap[b]? := by
    intro b es c hb
    refine hfr.block b (Array.getElem?_eq_some_iff.1 hb).1 fun hh => ?_
    rcases hh with hh | hh
    · subst hh; rw [g1] at hb; cases hb
    · obtain ⟨cur, hc⟩ := g2.tag hh
      rw [hc] at hb; cases hb
  have hlen := h.wf.idx i hi
  have getS := VfsS.fl_put hlen f
  have hlv : ∀ j, VfsS.Live (VfsS.putS S i f) j ↔ VfsS.Live S j := fun j => Iff.rfl
  refine ⟨⟨n1, hn1, m1.block (mapFar _ _ _ b1)⟩, ⟨n2, hn2, m2.block (mapFar _ _ _ b2)⟩, h.acts.block fun k hk => ?_, fun j hj => ?_, h.ne, h.inj, fun j l k hj hl hjl => ?_, .inl h.kn, .inl h.ks, fun k hk => .inl (h.ka k hk), fun j hj => .inl (h.kf j hj), fun j k hj hk => ?_, h.wf.put i hf, ?_, h.big⟩
  · obtain ⟨cur, hc⟩ := h.acts.tag hk
    refine hfr.block k (h.acts.lt hk) fun hh => ?_
    rcases hh with hh | hh
    · subst hh; rw [g1] at hc; injection hc with hc; injection hc with _ hc _; exact absurd hc (by decide)
    · obtain ⟨cur2, hc2⟩ := g2.tag hh
      rw [hc2] at hc; injection hc with hc; injection hc with _ hc _; exact absurd hc (by decide)
  · rw [getS]
    by_cases e : j = i
    · subst e; rw [if_pos rfl]; simp only [if_pos]; exact hfa
    · rw [if_neg e]
      simp only [if_neg e]
      obtain ⟨f1, f2⟩ := h.file j hj
      refine ⟨(hfr.block _ (h.lt hj) fun hh => ?_).trans f1, f2.block fun k hk => hfr.block k (f2.lt hk) fun hh => ?_⟩
      · rcases hh with hh | hh
        · exact e (h.inj j i hj hi hh)
        · obtain ⟨cur2, hc2⟩ := g2.tag hh
          rw [hc2] at f1; injection f1 with f1; injection f1 with _ f1 _; exact absurd f1 (by decide)
      · rcases hh with hh | hh
        · obtain ⟨cur2, hc2⟩ := f2.tag hk
          subst hh; rw [g1] at hc2; injection hc2 with hc2; injection hc2 with _ hc2 _; exact absurd hc2 (by decide)
        · exact h.apart i j k hi hj (fun e2 => e e2.symm) hh hk
  · by_cases e1 : j = i
    · rw [if_pos e1, if_neg (fun e2 => hjl (e1.trans e2.symm))]
      intro h1 h2
      rcases hv k h1 with h3 | h3
      · exact h.apart i l k hi hl (fun e => hjl (e1.trans e)) h3 h2
      · have := (h.file l hl).2.lt h2; omega
    · rw [if_neg e1]
      by_cases e2 : l = i
      · rw [if_pos e2]
        intro h1 h2
        rcases hv k h2 with h3 | h3
        · exact h.apart i j k hi hj (fun e => e1 e.symm) h3 h1
        · have := (h.file j hj).2.lt h1; omega
      · rw [if_neg e2]; exact h.apart j l k hj hl hjl
  · by_cases e : j = i
    · rw [if_pos e] at hk
      rcases hv k hk with h3 | h3
      · exact .inl (h.kb i k hi h3)
      · exact .inr ⟨h3, hfa.2.lt hk⟩
    · rw [if_neg e] at hk; exact .inl (h.kb j k hj hk)
  · show (S.files.set i f).length ≤ N
    rw [List.length_set]; exact h.len

theorem gl_only {K : Nat → Prop} {w w' : World} (h : Gl w) (ho : Only K w w') (hk : ¬ K 0) : Gl w' := by
  obtain ⟨⟨m, hm⟩, hs⟩ := h
  refine ⟨⟨m, ?_⟩, Nat.lt_of_lt_of_le hs ho.size⟩
  rw [World.cell?_of_block (a := ⟨0, 0, none⟩) (ho.block _ hs hk)]; exact hm
end Go.Proofs.YtfoamcobpfflbaaDoor
