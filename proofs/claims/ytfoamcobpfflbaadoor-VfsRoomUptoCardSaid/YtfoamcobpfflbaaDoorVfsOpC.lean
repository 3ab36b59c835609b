/- Walks: a new file system; a change of names. -/
import Derived.Test.YtfoamcobpfflbaaDoorVfsOpB
import Derived.Deep.RegionLaw
namespace Go.Proofs.YtfoamcobpfflbaaDoor
open Go Go.RowKit Go.Maps
open VfsS (File Chg Nm St find doL)

set_option maxRecDepth 100000 in
theorem new_c (room : Int) (w : World) :
    Calls Tryd.prog 14 #[.int .i64 room] w fun e w' => ((room < 0 ∨ 4194304 < room) ∧ e = .returned (.tuple #[.pointer none, .int .i64 1]) ∧ w' = w) ∨
      ((0 ≤ room ∧ room ≤ 4194304) ∧ ∃ p, e = .returned (.tuple #[.pointer (some ⟨p, 0, none⟩), .int .i64 0]) ∧ w.heap.size ≤ p ∧ VRep w' p (VfsS.newS room.toNat) (Kx (fun _ => False) w.heap.size w'.heap.size) 0 ∧ Below w.heap.size w w') := by
  have hmm := fun (t : TypeId) (w : World) => run_makeMap (P := Tryd.prog) t w
  by_cases h1 : room < 0
  · have d1 : decide (room < 0) = true := decide_eq_true h1
    have HL : Hid (room < 0 ∨ 4194304 < room) := .inl h1
    clear h1
    go_enter Tryd.func14, Tryd.ntmps14
    go_wp2_with fail
    go_ret2
    exact .inl ⟨HL.out, rfl, rfl⟩
  · have d1 : decide (room < 0) = false := decide_eq_false h1
    by_cases h2 : 4194304 < room
    · have HL : Hid (room < 0 ∨ 4194304 < room) := .inr h2
      clear h1
      go_enter Tryd.func14, Tryd.ntmps14
      go_wp2_with fail
      go_ret2
      exact .inl ⟨HL.out, rfl, rfl⟩
    · have d2 : decide (4194304 < room) = false := decide_eq_false h2
      have HL : Hid (0 ≤ room ∧ room ≤ 4194304) := ⟨by omega, by omega⟩
      have hrt : ((room.toNat : Nat) : Int) = room := Int.toNat_of_nonneg (by omega)
      have HRT := Lib.hid hrt
      have HW := Lib.hid (VfsS.Wf.new (r := room.toNat) (by omega))
      clear h1 h2 hrt
      go_enter Tryd.func14, Tryd.ntmps14
      go_wp2_with fail
      go_ret2
      refine .inr ⟨HL.out, _, rfl, ?_, ?_, ?_⟩
      · omega
      · have m0 : MapG NC ((w.alloc (.map #[] 0)).alloc (.map #[] 0)) w.heap.size 0 (nmF id []) := (MapG.made NC w).alloc _
        have m1 := MapG.made NC (w.alloc (.map #[] 0))
        rw [show (w.alloc (.map #[] 0)).heap.size = w.heap.size + 1 by simp] at m1
        refine ⟨w.heap.size, w.heap.size + 1, .slice none 0 0, id, fun _ => .slice none 0 0, ⟨⟨0, Nat.le_refl _, m0.alloc _⟩, ⟨0, Nat.le_refl _, m1.alloc _⟩, OwnG.nil _ _ _, ?_, by omega, ?_, ?_, ?_, ?_, ?_, ?_, ?_, HW.out, Nat.le_refl _, by decide⟩, ?_, ?_, Nat.le_refl _⟩
        · intro i hi; exact absurd (HW.out.idx i hi) (Nat.not_lt_zero _)
        · intro i j hi; exact absurd (HW.out.idx i hi) (Nat.not_lt_zero _)
        · intro i j k hi; exact absurd (HW.out.idx i hi) (Nat.not_lt_zero _)
        · exact .inr ⟨Nat.le_refl _, by simp; omega⟩
        · exact .inr ⟨by omega, by simp⟩
        · intro k hk; cases hk
        · intro i hi; exact absurd (HW.out.idx i hi) (Nat.not_lt_zero _)
        · intro i k hi; exact absurd (HW.out.idx i hi) (Nat.not_lt_zero _)
        · have := (Go.MapKept.heap_alloc ((w.alloc (.map #[] 0)).alloc (.map #[] 0)) (.cells #[.map (some w.heap.size), .map (some (w.heap.size + 1)), .slice none 0 0, .int .i64 room, .int .i64 0, .int .i64 (-1)] 112)).1
          show _ = some (Obj.cells #[.map (some w.heap.size), .map (some (w.heap.size + 1)), .slice none 0 0, .int .i64 ((room.toNat : Nat) : Int), .int .i64 0, .int .i64 (-1)] 112 (0, 0))
          rw [HRT.out]
          simpa using this
        · exact .inr ⟨by omega, by simp⟩
      · exact (((Below.refl _ w).alloc (Nat.le_refl _) _).alloc (by simp) _).alloc (by simp; omega) _

theorem actElem : Elem Tryd.prog 110 150 (.agg #[.string ByteArray.empty, .string ByteArray.empty, .pointer none]) 3 40 := ⟨by kernel_rfl, by kernel_rfl⟩

set_option maxRecDepth 100000 in
set_option maxHeartbeats 1000000 in
theorem change_c {w : World} {p bn bs n : Nat} {av r1 r2 r3 : Value} {φ : Nat → Nat} {l : Nm} {acts : List Chg} (a : Chg) (hp : w.heap[p]? = some (.cells #[.map (some bn), .map (some bs), av, r1, r2, r3] 112 (0, 0))) (hm : MapG NC w bn n (nmF φ l))
    (ho : OwnG w 150 3 av acts.length (arow φ acts)) (hn : n < 200000000) (hl : acts.length ≤ 200000000) (hs : a.src.size ≤ 10000000) (hd : a.dst.size ≤ 10000000) :
    Calls Tryd.prog 81 #[.pointer (some ⟨p, 0, none⟩), .agg #[.string a.src, .string a.dst, ptrV (a.file.map φ)]] w fun e w' => e = .returned (.tuple #[]) ∧ ∃ av', MapG NC w' bn (n + 1) (nmF φ (doL l a)) ∧ OwnG w' 150 3 av' (acts ++ [a]).length (arow φ (acts ++ [a])) ∧
      w'.heap[p]? = some (.cells #[.map (some bn), .map (some bs), av', r1, r2, r3] 112 (0, 0)) ∧ (∀ k, av'.ownBlock = some k → av.ownBlock = some k ∨ w.heap.size ≤ k) ∧ Only (fun k => k = p ∨ k = bn ∨ av.ownBlock = some k) w w' := by
  obtain ⟨pv, hpv⟩ : ∃ pv, pv = ptrV (a.file.map φ) := ⟨_, rfl⟩
  have hpo : pv.oneCell' = true := by rw [hpv]; unfold ptrV; rfl
  have hplt := (Array.getElem?_eq_some_iff.1 hp).1
  have HDO := Lib.hid (fun (w1 : World) (h : MapG NC w1 bn n (nmF φ l)) => do_c a h hn hs hd)
  have HE : Hid (encA φ a = [.string a.src, .string a.dst, pv]) := by show _ = _; rw [hpv]; rfl
  have HSN : Hid (arow φ (acts ++ [a]) = arow φ acts ++ [.string a.src, .string a.dst, pv]) := by show _ = _; rw [arow_snoc, HE.out]
  rw [← hpv] at HDO ⊢
  have hm0 := hm.alloc (.cells #[.string a.src, .string a.dst, pv] 150)
  have ho0 := ho.alloc (.cells #[.string a.src, .string a.dst, pv] 150)
  have ha0 : (w.alloc (.cells #[.string a.src, .string a.dst, pv] 150)).heap[w.heap.size]? = some (.cells #[.string a.src, .string a.dst, pv] 150 (0, 0)) := (Go.MapKept.heap_alloc w _).1
  have hp0 : (w.alloc (.cells #[.string a.src, .string a.dst, pv] 150)).heap[p]? = _ := ((World.grownBy_alloc w _ none).block p hplt (by simp)).trans hp
  have g0 : w.grownBy (w.alloc (.cells #[.string a.src, .string a.dst, pv] 150)) none := World.grownBy_alloc w _ none
  generalize hW : w.alloc (.cells #[.string a.src, .string a.dst, pv] 150) = W at *
  have k0 : W.cell? ⟨p, 0, none⟩ = some (.map (some bn)) := by rw [cell_of hp0]; rfl
  have k1 : W.cell? ⟨w.heap.size, 0, none⟩ = some (.string a.src) := by rw [cell_of ha0]; rfl
  have k2 : W.cell? ⟨w.heap.size, 1, none⟩ = some (.string a.dst) := by rw [cell_of ha0]; rfl
  have k3 : W.cell? ⟨w.heap.size, 2, none⟩ = some pv := by rw [cell_of ha0]; rfl
  have nb1 : some p ≠ some bn := fun e => by
    injection e with e; subst e
    obtain ⟨es, c, hc⟩ := hm.isMap
    rw [hp] at hc; cases hc
  have nb2 : some w.heap.size ≠ some bn := fun e => by injection e with e; have := hm.lt; omega
  obtain ⟨src, dst, file⟩ := a
  simp only at hs hd HDO HE HSN hW ha0 k1 k2 ⊢
  have hone : ∀ u ∈ [Value.string src, Value.string dst, pv], u.oneCell' = true := by
    intro u hu
    simp only [List.mem_cons, List.mem_nil_iff, or_false] at hu
    rcases hu with rfl | rfl | rfl
    · rfl
    · rfl
    · exact hpo
  have hwl := g0.size
  clear hpv HE hpo hm ho hp
  go_enter Tryd.func81, Tryd.ntmps81
  go_wp2_with fail
  clear hW
  go_region_held3 (fun w' => w'.cell? ⟨p, 0, none⟩ = some (.map (some bn)) ∧ w'.cell? ⟨w.heap.size, 0, none⟩ = some (.string src) ∧ w'.cell? ⟨w.heap.size, 1, none⟩ = some (.string dst) ∧ w'.cell? ⟨w.heap.size, 2, none⟩ = some pv)
    (first | exact ⟨q0, q1, q2, q3⟩ | exact ⟨k0, k1, k2, k3⟩ | go_keep)
    (first | (go_at_call 88; refine (HDO.out _ (hm0.drewN 1)).mono ?_; rintro e w' ⟨rfl, hm1, hg1⟩; have hp1 := (hg1.block p (Array.getElem?_eq_some_iff.1 hp0).1 nb1).trans hp0; have ha1 := (hg1.block w.heap.size (Array.getElem?_eq_some_iff.1 ha0).1 nb2).trans ha0; have q0 : w'.cell? ⟨p, 0, none⟩ = some (.map (some bn)) := (by rw [cell_of hp1]; rfl); have q1 : w'.cell? ⟨w.heap.size, 0, none⟩ = some (.string src) := (by rw [cell_of ha1]; rfl); have q2 : w'.cell? ⟨w.heap.size, 1, none⟩ = some (.string dst) := (by rw [cell_of ha1]; rfl); have q3 : w'.cell? ⟨w.heap.size, 2, none⟩ = some pv := (by rw [cell_of ha1]; rfl)))
  have ho1 := (ho0.drewN 1).kept hg1 (by
    cases hk : av.ownBlock with
    | none => exact .inl rfl
    | some k =>
      right; intro e; injection e with e; subst e
      obtain ⟨cur, hc⟩ := ho0.tag hk
      obtain ⟨es, c, hcm⟩ := hm0.isMap
      rw [hc] at hcm; cases hcm)
  have hp2 : w'.cell? ⟨p, 2, none⟩ = some av := by rw [cell_of hp1]; rfl
  have fz2 := frozen_of hp1 2
  have g01 : w.grownBy w' (some bn) := (World.grownBy.but (c := W.drewN 1) ⟨g0.os, g0.tape, g0.output, g0.size, g0.block⟩ (some bn)).andThen hg1 (fun j hj => .inr hj)
  have nb3 : av.ownBlock ≠ some p := fun e => by
    obtain ⟨cur, hc⟩ := ho1.tag e
    rw [hp1] at hc; injection hc with hc; injection hc with _ hc _; exact absurd hc (by decide)
  have hsrc := Src.ofNew (P := Tryd.prog) (w := w'.drew) (tx := 110) (e := 150) Tryd.underlying110 (show [Value.string src, Value.string dst, pv].length = 3 from rfl) hone
  have hp2b : (w'.alloc (.cells #[.string src, .string dst, pv] 150)).cell? ⟨p, 2, none⟩ = some av := by rw [cell_of (((World.grownBy_alloc w' _ none).block p (Array.getElem?_eq_some_iff.1 hp1).1 (by simp)).trans hp1)]; rfl
  clear hm0 ho0 hp0 ha0 k0 k1 k2 k3 hone g0 HDO
  go_wp2_with fail
  go_region_law (first | (refine step_appG rfl _ _ _ _ rfl actElem rfl rfl ((ho1.drewN 1).alloc _) rfl hsrc (by simp [maxLen]; omega) (by omega) ?_; intro v3 w3 ho3 hg3 hv3; obtain ⟨a3, c3, rfl, -, -, -⟩ := ho3.form; have hp3 := (hg3.block p (by have := (Array.getElem?_eq_some_iff.1 hp1).1; simp; omega) nb3.symm).trans (((World.grownBy_alloc (w'.drewN 1) _ none).block p (Array.getElem?_eq_some_iff.1 hp1).1 (by simp)).trans hp1); have hq3 : w3.cell? ⟨p, 2, none⟩ = some av := (by rw [cell_of hp3]; rfl); have hf3 := frozen_of hp3 2))
  all_goals
    have hg3' : ((w'.alloc (.cells #[.string src, .string dst, pv] 150)).drewN 1).grownBy w3 av.ownBlock := hg3
    have hv3' : ∀ k, (Value.slice a3 (acts.length + 1) c3).ownBlock = some k → av.ownBlock = some k ∨ w'.heap.size + 1 ≤ k := by
      intro k hk
      rcases hv3 k hk with h | h
      · exact .inl h
      · right
        have e : (w'.alloc (.cells #[.string src, .string dst, pv] 150)).drew.heap.size = w'.heap.size + 1 := by simp
        rw [e] at h; exact h
    obtain ⟨s4, g4⟩ := set_block hp3 2 (.slice a3 (acts.length + 1) c3)
    have hsz4 := g01.size
    have hm1lt := hm1.lt
    have hp1lt := (Array.getElem?_eq_some_iff.1 hp1).1
    have nbv : some bn ≠ av.ownBlock := fun e => by
      obtain ⟨cur, hc⟩ := ho1.tag e.symm
      obtain ⟨es, c, hcm⟩ := hm1.isMap
      rw [hc] at hcm; cases hcm
    clear hg3 hv3
    go_end0
    refine ⟨rfl, .slice a3 (acts.length + 1) c3, ?_, ?_, by simpa using s4, fun k hk => ?_, ?_⟩
    · exact (((hm1.alloc _).drewN 1).kept hg3' nbv).kept g4 nb1.symm
    · rw [HSN.out, List.length_append]
      refine ho3.kept g4 ?_
      cases hk : (Value.slice a3 (acts.length + 1) c3).ownBlock with
      | none => exact .inl rfl
      | some k =>
        right; intro e; injection e with e; subst e
        rcases hv3' _ hk with h | h
        · exact nb3 h
        · omega
    · rcases hv3' k hk with h | h
      · exact .inl h
      · right; omega
    · refine ⟨?_, ?_, ?_, ?_, fun k hk hn => ?_⟩
      · exact g4.os.trans (hg3'.os.trans g01.os)
      · exact g4.tape.trans (hg3'.tape.trans g01.tape)
      · exact g4.output.trans (hg3'.output.trans g01.output)
      · have e1 := hg3'.size
        have e2 := g4.size
        have e : ((w'.alloc (.cells #[.string src, .string dst, pv] 150)).drewN 1).heap.size = w'.heap.size + 1 := by simp [World.drewN]
        omega
      · have e : ((w'.alloc (.cells #[.string src, .string dst, pv] 150)).drewN 1).heap.size = w'.heap.size + 1 := by simp [World.drewN]
        have h3 := hg3'.size
        rw [g4.block k (by omega) (fun e => hn (.inl (by injection e))), hg3'.block k (by omega) (fun e => hn (.inr (.inr e.symm)))]
        refine Eq.trans ((World.grownBy_alloc w' _ none).block k (by omega) (by simp)) (g01.block k hk (fun e => hn (.inr (.inl (by injection e)))))
end Go.Proofs.YtfoamcobpfflbaaDoor
