/- Texts of mine, joined: Walks: names made durable; a crash. -/
import Derived.Test.YtfoamcobpfflbaaDoorZ23
namespace Go.Proofs.YtfoamcobpfflbaaDoor
open Go Go.RowKit Go.Maps
open VfsS (File Chg Nm St find doL)

theorem fold_take (l : List Chg) (m : Nm) (j : Nat) (hj : j < l.length) : (l.take (j + 1)).foldl doL m = doL ((l.take j).foldl doL m) l[j] := by
  rw [List.take_succ_eq_append_getElem hj, List.foldl_append]; rfl

/-- Behind the names' being made durable. -/
theorem VX.flushed {w wr : World} {p : Nat} {S : St} {K : Nat → Prop} {N n2 j : Nat} {bn bs : Nat} {av : Value} {φ : Nat → Nat} {ψ : Nat → Value} (h : VX w p S K N bn bs av φ ψ) (hn2 : n2 + S.acts.length ≤ N) (hj : (j : Int) ≤ S.acts.length)
    (hm : MapG NC wr bs (n2 + j) (nmF φ ((S.acts.take j).foldl doL S.sure))) (ho : Only (fun k => k = bs) w wr) (v' : Value) (hv : OwnG wr 150 3 v' (S.acts.drop j).length (arow φ (S.acts.drop j))) (hvb : ∀ k, v'.ownBlock = some k → av.ownBlock = some k) :
    VX (wr.setCell ⟨p, 2, none⟩ v') p (VfsS.flushS S j) (Kx K w.heap.size (wr.setCell ⟨p, 2, none⟩ v').heap.size) N bn bs v' φ ψ ∧ Only K w (wr.setCell ⟨p, 2, none⟩ v') := by
  obtain ⟨hB, hp, hkp, hst⟩ := h
  obtain ⟨n1, hn1, m1⟩ := hB.now
  obtain ⟨n3, hn3, m3⟩ := hB.sure
  obtain ⟨es, cl, b2⟩ := m3.isMap
  have nomap : ∀ (k : Nat) (cs : Array Value) (e : TypeId) (fr : Nat × Nat), w.heap[k]? = some (Obj.cells cs e fr) → wr.heap[k]? = w.heap[k]? := fun k cs e fr hk =>
    ho.block k (Array.getElem?_eq_some_iff.1 hk).1 (fun e2 => by subst e2; rw [b2] at hk; cases hk)
  have hpr := (nomap _ _ _ _ hp).trans hp
  obtain ⟨s4, g4⟩ := set_block hpr 2 v'
  have hB2 : VB wr K N (VfsS.flushS S j) bn bs v' φ ψ := by
    refine ⟨⟨n1, hn1, m1.block (ho.block bn m1.lt hB.ne)⟩, ⟨n2 + j, ?_, hm⟩, hv, fun i hi => ?_, hB.ne, fun i k hi hk => hB.inj i k (VfsS.live_flush hi) (VfsS.live_flush hk), fun i k m hi hk => hB.apart i k m (VfsS.live_flush hi) (VfsS.live_flush hk), hB.kn, hB.ks, fun k hk => hB.ka k (hvb k hk), fun i hi => hB.kf i (VfsS.live_flush hi), fun i k hi => hB.kb i k (VfsS.live_flush hi), hB.wf.flush j, hB.len, hB.big⟩
    · show n2 + j + (S.acts.drop j).length ≤ N
      rw [List.length_drop]; omega
    · obtain ⟨f1, f2⟩ := hB.file i (VfsS.live_flush hi)
      exact ⟨(nomap _ _ _ _ f1).trans f1, f2.block fun k hk => by obtain ⟨cur, hc⟩ := f2.tag hk; exact nomap _ _ _ _ hc⟩
  refine ⟨⟨(hB2.other hpr (by decide) g4).mono (fun k hk => .inl hk) (Nat.le_refl _) hB.big, (by show (wr.setCell ⟨p, 2, none⟩ v').heap[p]? = some (.cells #[.map (some bn), .map (some bs), v', .int .i64 S.room, .int .i64 S.steps, .int .i64 S.limit] 112 (0, 0)); simpa using s4), .inl hkp, hst⟩, ?_⟩
  refine Only.trans' ⟨ho.os, ho.tape, ho.output, ho.size, fun k hk hn => ho.block k hk fun e => hn (by rw [e]; exact hB.ks)⟩ (Only.of_grown g4 (by intro k hk; injection hk with hk; subst hk; exact hkp))

set_option maxRecDepth 100000 in
set_option maxHeartbeats 1000000 in
theorem flush_c {w : World} {p : Nat} {S : St} {K : Nat → Prop} {N : Nat} {bn bs : Nat} {av : Value} {φ : Nat → Nat} {ψ : Nat → Value} (h : VX w p S K N bn bs av φ ψ) (n : Nat) (hn : n ≤ S.acts.length) :
    Calls Tryd.prog 63 #[.pointer (some ⟨p, 0, none⟩), .int .i64 n] w fun e w' => e = .returned (.tuple #[]) ∧ ∃ av', VX w' p (VfsS.flushS S n) (Kx K w.heap.size w'.heap.size) N bn bs av' φ ψ ∧ Only K w w' := by
  obtain ⟨hB, hp, hkp, hst⟩ := h
  have hbig := hB.big
  obtain ⟨n2, hn2, m2⟩ := hB.sure
  obtain ⟨es2, cl2, b2⟩ := m2.isMap
  have hplt := (Array.getElem?_eq_some_iff.1 hp).1
  have hpb : p ≠ bs := fun e => by subst e; rw [hp] at b2; cases b2
  obtain ⟨aa, cc, hav, hac, hcm, hsl⟩ := hB.acts.form
  have c2 : w.cell? ⟨p, 2, none⟩ = some (.slice aa S.acts.length cc) := by rw [cell_of hp, hav]; rfl
  have hnb : ∀ k, av.ownBlock = some k → k ≠ bs := fun k hk e => by
    obtain ⟨cur, hc⟩ := hB.acts.tag hk
    subst e; rw [hc] at b2; cases b2
  have HZA := Lib.hid hB.wf.za
  have HFT := Lib.hid (fold_take S.acts S.sure)
  have HB := Lib.hid hB
  have HP := Lib.hid hp
  have HAV := Lib.hid hav
  have hnc : (n : Int) ≤ cc := by omega
  have hn0 : (0 : Int) ≤ n := by omega
  clear hB b2 hp hav
  go_enter Tryd.func63, Tryd.ntmps63
  go_wp2_with fail
  go_loopw [13] (fun iv wr => ∃ j : Nat, j ≤ n ∧ iv = .int .i64 j ∧ MapG NC wr bs (n2 + j) (nmF φ ((S.acts.take j).foldl doL S.sure)) ∧ Only (fun k => k = bs) w wr) (fun iv _ => n - (intOf iv).toNat)
  case atStart => exact ⟨0, Nat.zero_le _, rfl, by rw [List.take_zero]; exact m2, Only.refl _ _⟩
  case round =>
    obtain ⟨j, hj, rfl, hm, ho⟩ := hrel
    have hpr := (ho.block p hplt hpb).trans HP.out
    by_cases hjn : j < n
    · have hjl : j < S.acts.length := by omega
      obtain ⟨ab, ao, rfl, habl, hcel⟩ := hsl.at (k := j * 3) (by rw [arow_len]; omega)
      obtain ⟨r0, r1, r2⟩ := arow_at φ S.acts j hjl
      have hxb : ab ≠ bs := hnb ab (by rw [HAV.out]; rfl)
      have far : ∀ i u, (arow φ S.acts)[i]? = some u → wr.cell? ⟨ab, ao + i, none⟩ = some u := fun i u hu => by
        rw [World.cell?_of_block (a := ⟨ab, ao + i, none⟩) (ho.block ab habl hxb)]
        obtain ⟨hi, rfl⟩ := List.getElem?_eq_some_iff.1 hu
        exact hcel i hi
      have q0 := far _ _ r0
      have q1 := far _ _ r1
      have q2 := far _ _ r2
      rw [← Nat.add_assoc] at q1 q2
      obtain ⟨z1, z2⟩ := HZA.out _ (List.getElem_mem hjl)
      have HFJ := Lib.hid (HFT.out j hjl)
      have hk1 : wr.cell? ⟨p, 1, none⟩ = some (.map (some bs)) := by rw [cell_of hpr]; rfl
      have hj0 : (0 : Int) ≤ j := by omega
      have hji : (j : Int) < n := by omega
      clear far r0 r1 r2 hcel
      generalize S.acts[j] = a at *
      generalize (S.acts.take j).foldl doL S.sure = cur at *
      have hpo : (ptrV (a.file.map φ)).oneCell' = true := rfl
      have hm1 := hm.alloc (.cells #[.string a.src, .string a.dst, ptrV (a.file.map φ)] 150)
      have HDO := Lib.hid (do_c (w := (wr.alloc (.cells #[.string a.src, .string a.dst, ptrV (a.file.map φ)] 150)).drewN 1) a (hm1.drewN 1) (by omega) z1 z2)
      have hal : Only (fun k => k = bs) wr (wr.alloc (.cells #[.string a.src, .string a.dst, ptrV (a.file.map φ)] 150)) := Only.of_below ((Below.refl _ wr).alloc (Nat.le_refl _) _)
      have ha0 : (wr.alloc (.cells #[.string a.src, .string a.dst, ptrV (a.file.map φ)] 150)).heap[wr.heap.size]? = some (.cells #[.string a.src, .string a.dst, ptrV (a.file.map φ)] 150 (0, 0)) := (Go.MapKept.heap_alloc wr _).1
      have hp0 := (((World.grownBy_alloc wr (.cells #[.string a.src, .string a.dst, ptrV (a.file.map φ)] 150) none).block p (Array.getElem?_eq_some_iff.1 hpr).1 (by simp))).trans hpr
      have hws : wr.heap.size ≠ bs := fun e => by have := hm.lt; omega
      have hsp := fun (W : World) (q : Addr) (m : Mode) => run_store Tryd.prog W q (ptrV (a.file.map φ)) m rfl
      generalize ptrV (a.file.map φ) = pv at *
      generalize hW : wr.alloc (.cells #[.string a.src, .string a.dst, pv] 150) = W at *
      have k1 : W.cell? ⟨p, 1, none⟩ = some (.map (some bs)) := by rw [cell_of hp0]; rfl
      have k2 : W.cell? ⟨wr.heap.size, 0, none⟩ = some (.string a.src) := by rw [cell_of ha0]; rfl
      have k3 : W.cell? ⟨wr.heap.size, 1, none⟩ = some (.string a.dst) := by rw [cell_of ha0]; rfl
      have k4 : W.cell? ⟨wr.heap.size, 2, none⟩ = some pv := by rw [cell_of ha0]; rfl
      have hpl0 := (Array.getElem?_eq_some_iff.1 hp0).1
      have hal0 := (Array.getElem?_eq_some_iff.1 ha0).1
      clear hpr hk1 hm1
      go_wp2_with fail
      clear hW hsp q0 q1 q2
      go_region_held3 (fun w' => w'.cell? ⟨p, 1, none⟩ = some (.map (some bs)) ∧ w'.cell? ⟨wr.heap.size, 0, none⟩ = some (.string a.src) ∧ w'.cell? ⟨wr.heap.size, 1, none⟩ = some (.string a.dst) ∧ w'.cell? ⟨wr.heap.size, 2, none⟩ = some pv)
        (first | exact ⟨q0, q1, q2, q3⟩ | exact ⟨k1, k2, k3, k4⟩ | go_keep)
        (first | (go_at_call 88; refine HDO.out.mono ?_; rintro e w' ⟨rfl, hm1, hg1⟩; have hp1 := (hg1.block p hpl0 (fun e => hpb (by injection e))).trans hp0; have ha1 := (hg1.block wr.heap.size hal0 (fun e => hws (by injection e))).trans ha0; have q0 : w'.cell? ⟨p, 1, none⟩ = some (.map (some bs)) := (by rw [cell_of hp1]; rfl); have q1 : w'.cell? ⟨wr.heap.size, 0, none⟩ = some (.string a.src) := (by rw [cell_of ha1]; rfl); have q2 : w'.cell? ⟨wr.heap.size, 1, none⟩ = some (.string a.dst) := (by rw [cell_of ha1]; rfl); have q3 : w'.cell? ⟨wr.heap.size, 2, none⟩ = some pv := (by rw [cell_of ha1]; rfl)))
      have ho1 : Only (fun k => k = bs) w w' := (ho.trans' hal).trans' ((Only.refl _ W).drewN 1 |>.trans' (Only.of_grown hg1 (by intro k hk; injection hk with hk; exact hk.symm)))
      go_wp2_with fail
      go_roundw
      case rel => exact ⟨j + 1, by omega, by go_num, by rw [HFJ.out]; exact hm1, ho1⟩
      case measure => simp [intOf]; omega
    · obtain rfl : j = n := by omega
      have hji : ¬ (j : Int) < j := by omega
      have k2 : wr.cell? ⟨p, 2, none⟩ = some (.slice aa S.acts.length cc) := by rw [cell_of hpr, HAV.out]; rfl
      have fz := frozen_of hpr 2
      have hja : (j : Int) ≤ S.acts.length := by omega
      have HX := Lib.hid (show VX w p S K N bn bs av φ ψ from ⟨HB.out, HP.out, hkp, hst⟩)
      have HM := Lib.hid hm
      have HA1 : Hid (cc = j → OwnG wr 150 3 (.slice aa (S.acts.length - j) 0) (S.acts.drop j).length (arow φ (S.acts.drop j))) := fun e => by
        have h1 := HB.out.acts.block (w' := wr) (fun k hk => ho.block k (HB.out.acts.lt hk) (hnb k hk))
        rw [HAV.out] at h1
        have := h1.rest1 j (by omega) e
        rw [arow_drop] at this
        rw [List.length_drop]; exact this
      have HA2 : Hid (OwnG wr 150 3 (.slice (Option.map (fun x => x.add (j * 3)) aa) (S.acts.length - j) (cc - j)) (S.acts.drop j).length (arow φ (S.acts.drop j))) := by
        have h1 := HB.out.acts.block (w' := wr) (fun k hk => ho.block k (HB.out.acts.lt hk) (hnb k hk))
        rw [HAV.out] at h1
        have := h1.rest2 j (by omega)
        rw [arow_drop] at this
        rw [List.length_drop]; exact this
      have HNB := Lib.hid hnb
      clear hpr hm hsl m2 c2 hnb
      go_wp2_with fail
      · have hcj : cc = j := by assumption
        go_end0
        obtain ⟨r1, r2⟩ := HX.out.flushed hn2 hja HM.out ho (.slice aa (S.acts.length - j) 0) (HA1.out hcj) (fun k hk => by rw [HAV.out]; cases aa with | none => cases hk | some ad => exact hk)
        exact ⟨rfl, ⟨_, r1⟩, r2⟩
      · go_end0
        obtain ⟨r1, r2⟩ := HX.out.flushed hn2 hja HM.out ho (.slice (Option.map (fun x => x.add (j * 3)) aa) (S.acts.length - j) (cc - j)) HA2.out (fun k hk => by rw [HAV.out]; cases aa with | none => cases hk | some ad => (obtain ⟨bb, oo, sp⟩ := ad; simp [Value.ownBlock, Addr.add] at hk ⊢; split at hk <;> simp_all))
        exact ⟨rfl, ⟨_, r1⟩, r2⟩

set_option maxRecDepth 100000 in
theorem flushAll_c {w : World} {p : Nat} {S : St} {K : Nat → Prop} {N : Nat} (h : VRep w p S K N) (hN : N + 2 ≤ 100000000) :
    Calls Tryd.prog 19 #[.pointer (some ⟨p, 0, none⟩)] w fun e w' => e = .returned (.int .i64 (VfsS.flushAllS S).2) ∧ VRep w' p (VfsS.flushAllS S).1 (Kx K w.heap.size w'.heap.size) (N + 2) ∧ Only K w w' := by
  obtain ⟨bn, bs, av, φ, ψ, hX⟩ := h
  have HST := Lib.hid (step_c hX (by omega))
  have hkp := hX.2.2.1
  by_cases h0 : S.limit = 0
  · have HR : Hid (VfsS.flushAllS S = (S, 190)) := by show _ = _; unfold VfsS.flushAllS; rw [if_pos h0]
    have HSS : Hid (VfsS.stepS S = S) := by show _ = _; unfold VfsS.stepS; rw [if_pos h0]
    rw [if_pos h0] at HST
    rw [HR.out]
    clear hX h0
    go_enter Tryd.func19, Tryd.ntmps19
    go_wp2_with fail
    refine HST.out.mono ?_
    rintro e w1 ⟨rfl, hX1, hg1⟩
    have HX := Lib.hid hX1
    clear hX1
    go_wp2_with fail
    go_ret
    refine ⟨rfl, ?_, Only.of_grown hg1 (by intro k hk; injection hk with hk; subst hk; exact hkp)⟩
    have := HX.out
    rw [HSS.out] at this
    exact VRep.mono ⟨_, _, _, _, _, this⟩ (fun _ h => .inl h) (by omega) hN
  · have HR : Hid (VfsS.flushAllS S = (VfsS.flushS (VfsS.stepS S) S.acts.length, 0)) := by show _ = _; unfold VfsS.flushAllS; rw [if_neg h0]
    rw [if_neg h0] at HST
    rw [HR.out]
    clear hX h0
    go_enter Tryd.func19, Tryd.ntmps19
    go_wp2_with fail
    refine HST.out.mono ?_
    rintro e w1 ⟨rfl, hX1, hg1⟩
    obtain ⟨aa, cc, hav, -, -, -⟩ := hX1.1.acts.form
    have k2 : w1.cell? ⟨p, 2, none⟩ = some (.slice aa S.acts.length cc) := by rw [cell_of hX1.2.1, hav, VfsS.stepS_acts]; rfl
    have HC := Lib.hid (flush_c hX1 S.acts.length (by rw [VfsS.stepS_acts]; exact Nat.le_refl _))
    have hsz := hg1.size
    clear hX1 hav
    go_wp2_with fail
    refine HC.out.mono ?_
    rintro e w2 ⟨rfl, av', hX2, ho2⟩
    have HX2 := Lib.hid hX2
    clear hX2
    go_wp2_with fail
    go_ret
    exact ⟨rfl, VRep.mono ⟨_, _, _, _, _, HX2.out⟩ (fun k hk => hk.mono hsz (Nat.le_refl _)) (by omega) hN, (Only.of_grown hg1 (by intro k hk; injection hk with hk; subst hk; exact hkp)).trans' ho2⟩
end Go.Proofs.YtfoamcobpfflbaaDoor
