/- Texts of mine, joined: Walks: names made durable; a crash. | Walk: a crash. | (*vfs.FS).List: the names, sorted. | A file system that was made in the walk: all its blocks are new since w0. Each call once more, in the words of a law's walk. -/
import Derived.Test.YtfoamcobpfflbaaDoorIterL
import Derived.Sort.KeysCollected
import Derived.Test.YtfoamcobpfflbaaDoorZ4
namespace Go.Proofs.YtfoamcobpfflbaaDoor
open Go Go.RowKit Go.Maps
open VfsS (File Chg Nm St find doL)

theorem fold_take (l : List Chg) (m : Nm) (j : Nat) (hj : j < l.length) : (l.take (j + 1)).foldl doL m = doL ((l.take j).foldl doL m) l[j] := by
  rw [List.take_succ_eq_append_getElem hj, List.foldl_append]; rfl

/-- Behind the names' being made durable. -/
theorem VX.flushed {w wr : World} {p : Nat} {S : St} {K : Nat → Prop} {N n2 j : Nat} {bn bs : Nat} {av : Value} {φ : Nat → Nat} {ψ : Nat → Value} (h : VX w p S K N bn bs av φ ψ) (hn2 : n2 + S.acts.length ≤ N) (hj : (j : Int) ≤ S.acts.length)
    (hm : MapG NC wr bs (n2 + j) (nmF φ ((S.acts.take j).foldl doL S.sure))) (ho : Only (fun k => k = bs) w wr) (v' : Value) (hv : OwnG wr 150 3 v' (S.acts.drop j).length (arow φ (S.acts.drop j))) (hvb : ∀ k, v'.ownBlock = some k → av.ownBlock = some k) :
    VX (wr.setCell ⟨p, 2, none⟩ v') p (VfsS.flushS S j) (Kx K w.heap.size (wr.setCell ⟨p, 2, none⟩ v').heap.size) N bn bs v' φ ψ ∧ Only K w (wr.setCell ⟨p, 2, none⟩ v') := by
  obtain ⟨hB, hp, hkp, hst⟩ := h
  obtain ⟨n1, hn1, m1⟩ := hB.now
  obtain ⟨n3, hn3, m3⟩ := hB.sure
  obtain ⟨es, cl, b2⟩ := m3.isMap
  have nomap : ∀ (k : Nat) (cs : Array Value) (e : TypeId) (fr : Nat × Nat), w.heap[k]? = some (Obj.cells cs e fr) → wr.heap[k]? = w.heap[k]? := fun k cs e fr hk =>
    ho.block k (Array.getElem?_eq_some_iff.1 hk).1 (fun e2 => by subst e2; rw [b2] at hk; cases hk)
  have hpr := (nomap _ _ _ _ hp).trans hp
  obtain ⟨s4, g4⟩ := set_block hpr 2 v'
  have hB2 : VB wr K N (VfsS.flushS S j) bn bs v' φ ψ := by
    refine ⟨⟨n1, hn1, m1.block (ho.block bn m1.lt hB.ne)⟩, ⟨n2 + j, ?_, hm⟩, hv, fun i hi => ?_, hB.ne, fun i k hi hk => hB.inj i k (VfsS.live_flush hi) (VfsS.live_flush hk), fun i k m hi hk => hB.apart i k m (VfsS.live_flush hi) (VfsS.live_flush hk), hB.kn, hB.ks, fun k hk => hB.ka k (hvb k hk), fun i hi => hB.kf i (VfsS.live_flush hi), fun i k hi => hB.kb i k (VfsS.live_flush hi), hB.wf.flush j, hB.len, hB.big⟩
    · show n2 + j + (S.acts.drop j).length ≤ N
      rw [List.length_drop]; omega
    · obtain ⟨f1, f2⟩ := hB.file i (VfsS.live_flush hi)
      exact ⟨(nomap _ _ _ _ f1).trans f1, f2.block fun k hk => by obtain ⟨cur, hc⟩ := f2.tag hk; exact nomap _ _ _ _ hc⟩
  refine ⟨⟨(hB2.other hpr (by decide) g4).mono (fun k hk => .inl hk) (Nat.le_refl _) hB.big, (by show (wr.setCell ⟨p, 2, none⟩ v').heap[p]? = some (.cells #[.map (some bn), .map (some bs), v', .int .i64 S.room, .int .i64 S.steps, .int .i64 S.limit] 112 (0, 0)); simpa using s4), .inl hkp, hst⟩, ?_⟩
  refine Only.trans' ⟨ho.os, ho.tape, ho.output, ho.size, fun k hk hn => ho.block k hk fun e => hn (by rw [e]; exact hB.ks)⟩ (Only.of_grown g4 (by intro k hk; injection hk with hk; subst hk; exact hkp))

set_option maxRecDepth 100000 in
set_option maxHeartbeats 1000000 in
theorem flush_c {w : World} {p : Nat} {S : St} {K : Nat → Prop} {N : Nat} {bn bs : Nat} {av : Value} {φ : Nat → Nat} {ψ : Nat → Value} (h : VX w p S K N bn bs av φ ψ) (n : Nat) (hn : n ≤ S.acts.length) :
    Calls Tryd.prog 63 #[.pointer (some ⟨p, 0, none⟩), .int .i64 n] w fun e w' => e = .returned (.tuple #[]) ∧ ∃ av', VX w' p (VfsS.flushS S n) (Kx K w.heap.size w'.heap.size) N bn bs av' φ ψ ∧ Only K w w' := by
  obtain ⟨hB, hp, hkp, hst⟩ := h
  have hbig := hB.big
  obtain ⟨n2, hn2, m2⟩ := hB.sure
  obtain ⟨es2, cl2, b2⟩ := m2.isMap
  have hplt := (Array.getElem?_eq_some_iff.1 hp).1
  have hpb : p ≠ bs := fun e => by subst e; rw [hp] at b2; cases b2
  obtain ⟨aa, cc, hav, hac, hcm, hsl⟩ := hB.acts.form
  have c2 : w.cell? ⟨p, 2, none⟩ = some (.slice aa S.acts.length cc) := by rw [cell_of hp, hav]; rfl
  have hnb : ∀ k, av.ownBlock = some k → k ≠ bs := fun k hk e => by
    obtain ⟨cur, hc⟩ := hB.acts.tag hk
    subst e; rw [hc] at b2; cases b2
  have HZA := Lib.hid hB.wf.za
  have HFT := Lib.hid (fold_take S.acts S.sure)
  have HB := Lib.hid hB
  have HP := Lib.hid hp
  have HAV := Lib.hid hav
  have hnc : (n : Int) ≤ cc := by omega
  have hn0 : (0 : Int) ≤ n := by omega
  clear hB b2 hp hav
  go_enter Tryd.func63, Tryd.ntmps63
  go_wp2_with fail
  go_loopw [13] (fun iv wr => ∃ j : Nat, j ≤ n ∧ iv = .int .i64 j ∧ MapG NC wr bs (n2 + j) (nmF φ ((S.acts.take j).foldl doL S.sure)) ∧ Only (fun k => k = bs) w wr) (fun iv _ => n - (intOf iv).toNat)
  case atStart => exact ⟨0, Nat.zero_le _, rfl, by rw [List.take_zero]; exact m2, Only.refl _ _⟩
  case round =>
    obtain ⟨j, hj, rfl, hm, ho⟩ := hrel
    have hpr := (ho.block p hplt hpb).trans HP.out
    by_cases hjn : j < n
    · have hjl : j < S.acts.length := by omega
      obtain ⟨ab, ao, rfl, habl, hcel⟩ := hsl.at (k := j * 3) (by rw [arow_len]; omega)
      obtain ⟨r0, r1, r2⟩ := arow_at φ S.acts j hjl
      have hxb : ab ≠ bs := hnb ab (by rw [HAV.out]; rfl)
      have far : ∀ i u, (arow φ S.acts)[i]? = some u → wr.cell? ⟨ab, ao + i, none⟩ = some u := fun i u hu => by
        rw [World.cell?_of_block (a := ⟨ab, ao + i, none⟩) (ho.block ab habl hxb)]
        obtain ⟨hi, rfl⟩ := List.getElem?_eq_some_iff.1 hu
        exact hcel i hi
      have q0 := far _ _ r0
      have q1 := far _ _ r1
      have q2 := far _ _ r2
      rw [← Nat.add_assoc] at q1 q2
      obtain ⟨z1, z2⟩ := HZA.out _ (List.getElem_mem hjl)
      have HFJ := Lib.hid (HFT.out j hjl)
      have hk1 : wr.cell? ⟨p, 1, none⟩ = some (.map (some bs)) := by rw [cell_of hpr]; rfl
      have hj0 : (0 : Int) ≤ j := by omega
      have hji : (j : Int) < n := by omega
      clear far r0 r1 r2 hcel
      generalize S.acts[j] = a at *
      generalize (S.acts.take j).foldl doL S.sure = cur at *
      have hpo : (ptrV (a.file.map φ)).oneCell' = true := rfl
      have hm1 := hm.alloc (.cells #[.string a.src, .string a.dst, ptrV (a.file.map φ)] 150)
      have HDO := Lib.hid (do_c (w := (wr.alloc (.cells #[.string a.src, .string a.dst, ptrV (a.file.map φ)] 150)).drewN 1) a (hm1.drewN 1) (by omega) z1 z2)
      have hal : Only (fun k => k = bs) wr (wr.alloc (.cells #[.string a.src, .string a.dst, ptrV (a.file.map φ)] 150)) := Only.of_below ((Below.refl _ wr).alloc (Nat.le_refl _) _)
      have ha0 : (wr.alloc (.cells #[.string a.src, .string a.dst, ptrV (a.file.map φ)] 150)).heap[wr.heap.size]? = some (.cells #[.string a.src, .string a.dst, ptrV (a.file.map φ)] 150 (0, 0)) := (Go.MapKept.heap_alloc wr _).1
      have hp0 := (((World.grownBy_alloc wr (.cells #[.string a.src, .string a.dst, ptrV (a.file.map φ)] 150) none).block p (Array.getElem?_eq_some_iff.1 hpr).1 (by simp))).trans hpr
      have hws : wr.heap.size ≠ bs := fun e => by have := hm.lt; omega
      have hsp := fun (W : World) (q : Addr) (m : Mode) => run_store Tryd.prog W q (ptrV (a.file.map φ)) m rfl
      generalize ptrV (a.file.map φ) = pv at *
      generalize hW : wr.alloc (.cells #[.string a.src, .string a.dst, pv] 150) = W at *
      have k1 : W.cell? ⟨p, 1, none⟩ = some (.map (some bs)) := by rw [cell_of hp0]; rfl
      have k2 : W.cell? ⟨wr.heap.size, 0, none⟩ = some (.string a.src) := by rw [cell_of ha0]; rfl
      have k3 : W.cell? ⟨wr.heap.size, 1, none⟩ = some (.string a.dst) := by rw [cell_of ha0]; rfl
      have k4 : W.cell? ⟨wr.heap.size, 2, none⟩ = some pv := by rw [cell_of ha0]; rfl
      have hpl0 := (Array.getElem?_eq_some_iff.1 hp0).1
      have hal0 := (Array.getElem?_eq_some_iff.1 ha0).1
      clear hpr hk1 hm1
      go_wp2_with fail
      clear hW hsp q0 q1 q2
      go_region_held3 (fun w' => w'.cell? ⟨p, 1, none⟩ = some (.map (some bs)) ∧ w'.cell? ⟨wr.heap.size, 0, none⟩ = some (.string a.src) ∧ w'.cell? ⟨wr.heap.size, 1, none⟩ = some (.string a.dst) ∧ w'.cell? ⟨wr.heap.size, 2, none⟩ = some pv)
        (first | exact ⟨q0, q1, q2, q3⟩ | exact ⟨k1, k2, k3, k4⟩ | go_keep)
        (first | (go_at_call 88; refine HDO.out.mono ?_; rintro e w' ⟨rfl, hm1, hg1⟩; have hp1 := (hg1.block p hpl0 (fun e => hpb (by injection e))).trans hp0; have ha1 := (hg1.block wr.heap.size hal0 (fun e => hws (by injection e))).trans ha0; have q0 : w'.cell? ⟨p, 1, none⟩ = some (.map (some bs)) := (by rw [cell_of hp1]; rfl); have q1 : w'.cell? ⟨wr.heap.size, 0, none⟩ = some (.string a.src) := (by rw [cell_of ha1]; rfl); have q2 : w'.cell? ⟨wr.heap.size, 1, none⟩ = some (.string a.dst) := (by rw [cell_of ha1]; rfl); have q3 : w'.cell? ⟨wr.heap.size, 2, none⟩ = some pv := (by rw [cell_of ha1]; rfl)))
      have ho1 : Only (fun k => k = bs) w w' := (ho.trans' hal).trans' ((Only.refl _ W).drewN 1 |>.trans' (Only.of_grown hg1 (by intro k hk; injection hk with hk; exact hk.symm)))
      go_wp2_with fail
      go_roundw
      case rel => exact ⟨j + 1, by omega, by go_num, by rw [HFJ.out]; exact hm1, ho1⟩
      case measure => simp [intOf]; omega
    · obtain rfl : j = n := by omega
      have hji : ¬ (j : Int) < j := by omega
      have k2 : wr.cell? ⟨p, 2, none⟩ = some (.slice aa S.acts.length cc) := by rw [cell_of hpr, HAV.out]; rfl
      have fz := frozen_of hpr 2
      have hja : (j : Int) ≤ S.acts.length := by omega
      have HX := Lib.hid (show VX w p S K N bn bs av φ ψ from ⟨HB.out, HP.out, hkp, hst⟩)
      have HM := Lib.hid hm
      have HA1 : Hid (cc = j → OwnG wr 150 3 (.slice aa (S.acts.length - j) 0) (S.acts.drop j).length (arow φ (S.acts.drop j))) := fun e => by
        have h1 := HB.out.acts.block (w' := wr) (fun k hk => ho.block k (HB.out.acts.lt hk) (hnb k hk))
        rw [HAV.out] at h1
        have := h1.rest1 j (by omega) e
        rw [arow_drop] at this
        rw [List.length_drop]; exact this
      have HA2 : Hid (OwnG wr 150 3 (.slice (Option.map (fun x => x.add (j * 3)) aa) (S.acts.length - j) (cc - j)) (S.acts.drop j).length (arow φ (S.acts.drop j))) := by
        have h1 := HB.out.acts.block (w' := wr) (fun k hk => ho.block k (HB.out.acts.lt hk) (hnb k hk))
        rw [HAV.out] at h1
        have := h1.rest2 j (by omega)
        rw [arow_drop] at this
        rw [List.length_drop]; exact this
      have HNB := Lib.hid hnb
      clear hpr hm hsl m2 c2 hnb
      go_wp2_with fail
      · have hcj : cc = j := by assumption
        go_end0
        obtain ⟨r1, r2⟩ := HX.out.flushed hn2 hja HM.out ho (.slice aa (S.acts.length - j) 0) (HA1.out hcj) (fun k hk => by rw [HAV.out]; cases aa with | none => cases hk | some ad => exact hk)
        exact ⟨rfl, ⟨_, r1⟩, r2⟩
      · go_end0
        obtain ⟨r1, r2⟩ := HX.out.flushed hn2 hja HM.out ho (.slice (Option.map (fun x => x.add (j * 3)) aa) (S.acts.length - j) (cc - j)) HA2.out (fun k hk => by rw [HAV.out]; cases aa with | none => cases hk | some ad => (obtain ⟨bb, oo, sp⟩ := ad; simp [Value.ownBlock, Addr.add] at hk ⊢; split at hk <;> simp_all))
        exact ⟨rfl, ⟨_, r1⟩, r2⟩

set_option maxRecDepth 100000 in
theorem flushAll_c {w : World} {p : Nat} {S : St} {K : Nat → Prop} {N : Nat} (h : VRep w p S K N) (hN : N + 2 ≤ 100000000) :
    Calls Tryd.prog 19 #[.pointer (some ⟨p, 0, none⟩)] w fun e w' => e = .returned (.int .i64 (VfsS.flushAllS S).2) ∧ VRep w' p (VfsS.flushAllS S).1 (Kx K w.heap.size w'.heap.size) (N + 2) ∧ Only K w w' := by
  obtain ⟨bn, bs, av, φ, ψ, hX⟩ := h
  have HST := Lib.hid (step_c hX (by omega))
  have hkp := hX.2.2.1
  by_cases h0 : S.limit = 0
  · have HR : Hid (VfsS.flushAllS S = (S, 190)) := by show _ = _; unfold VfsS.flushAllS; rw [if_pos h0]
    have HSS : Hid (VfsS.stepS S = S) := by show _ = _; unfold VfsS.stepS; rw [if_pos h0]
    rw [if_pos h0] at HST
    rw [HR.out]
    clear hX h0
    go_enter Tryd.func19, Tryd.ntmps19
    go_wp2_with fail
    refine HST.out.mono ?_
    rintro e w1 ⟨rfl, hX1, hg1⟩
    have HX := Lib.hid hX1
    clear hX1
    go_wp2_with fail
    go_ret
    refine ⟨rfl, ?_, Only.of_grown hg1 (by intro k hk; injection hk with hk; subst hk; exact hkp)⟩
    have := HX.out
    rw [HSS.out] at this
    exact VRep.mono ⟨_, _, _, _, _, this⟩ (fun _ h => .inl h) (by omega) hN
  · have HR : Hid (VfsS.flushAllS S = (VfsS.flushS (VfsS.stepS S) S.acts.length, 0)) := by show _ = _; unfold VfsS.flushAllS; rw [if_neg h0]
    rw [if_neg h0] at HST
    rw [HR.out]
    clear hX h0
    go_enter Tryd.func19, Tryd.ntmps19
    go_wp2_with fail
    refine HST.out.mono ?_
    rintro e w1 ⟨rfl, hX1, hg1⟩
    obtain ⟨aa, cc, hav, -, -, -⟩ := hX1.1.acts.form
    have k2 : w1.cell? ⟨p, 2, none⟩ = some (.slice aa S.acts.length cc) := by rw [cell_of hX1.2.1, hav, VfsS.stepS_acts]; rfl
    have HC := Lib.hid (flush_c hX1 S.acts.length (by rw [VfsS.stepS_acts]; exact Nat.le_refl _))
    have hsz := hg1.size
    clear hX1 hav
    go_wp2_with fail
    refine HC.out.mono ?_
    rintro e w2 ⟨rfl, av', hX2, ho2⟩
    have HX2 := Lib.hid hX2
    clear hX2
    go_wp2_with fail
    go_ret
    exact ⟨rfl, VRep.mono ⟨_, _, _, _, _, HX2.out⟩ (fun k hk => hk.mono hsz (Nat.le_refl _)) (by omega) hN, (Only.of_grown hg1 (by intro k hk; injection hk with hk; subst hk; exact hkp)).trans' ho2⟩
end Go.Proofs.YtfoamcobpfflbaaDoor
namespace Go.Proofs.YtfoamcobpfflbaaDoor
open Go Go.RowKit Go.Maps
open VfsS (File Chg Nm St find doL)

theorem cutF_idem {f : File} (n : Int) (h : f.dur ≤ f.text.size) : VfsS.cutF n (VfsS.cutF n f) = VfsS.cutF n f := by
  have hs : (VfsS.cutF n f).text.size = (VfsS.cutF n f).dur := by
    unfold VfsS.cutF VfsS.clampN
    simp only [ByteArray.size_extract]; omega
  generalize VfsS.cutF n f = g at *
  obtain ⟨t, d⟩ := g
  simp only at hs
  subst hs
  unfold VfsS.cutF VfsS.clampN
  simp only [Nat.sub_self, Nat.min_zero, Nat.add_zero]
  congr 1
  exact ByteArray.extract_zero_size

def inL (L : List ByteArray) (s : ByteArray) : Bool := L.any fun y => decide (y = s)
theorem inL_iff {L : List ByteArray} {s : ByteArray} : inL L s = true ↔ s ∈ L := by simp [inL]

/-- Has one of a file's names been gone through? -/
def Dn (T : St) (L : List ByteArray) (i : Nat) : Prop := ∃ s, (s, i) ∈ T.sure ∧ s ∉ L

/-- A crash under way: L's names are left. -/
structure CInv (w4 wr : World) (bs bn r n2 : Nat) (T : St) (y : Int) (φ : Nat → Nat) (ψ : Nat → Value) (L : List ByteArray) : Prop where
  rng : RanG NC wr bs r n2 (nmF φ T.sure) L
  new : ∃ nn, nn + wr.rangeLeft bs r ≤ n2 ∧ MapG NC wr bn nn (fun s => if inL L s then none else nmF φ T.sure s)
  fs : ∃ ψ' : Nat → Value, ∀ i, (∃ s, (s, i) ∈ T.sure) → (ψ' i).ownBlock = (ψ i).ownBlock ∧ ∃ f, FileAt wr (φ i) (ψ' i) f ∧ (Dn T L i → f = VfsS.cutF y (VfsS.fl T i)) ∧ (¬ Dn T L i → f = VfsS.fl T i)
  fr : Only (fun k => k = bn ∨ k = r ∨ ∃ i, (∃ s, (s, i) ∈ T.sure) ∧ k = φ i) w4 wr

theorem CInv.step {w4 wr w5 w8 : World} {bs bn r n2 : Nat} {T : St} {y : Int} {φ : Nat → Nat} {ψ ψ' : Nat → Value} {L : List ByteArray} {x : ByteArray} {i nn m q : Nat} {f : File} {fa : Option Addr}
    (h : CInv w4 wr bs bn r n2 T y φ ψ L) (hnd : (T.sure.map (·.1)).Nodup) (hinj : ∀ i j, (∃ s, (s, i) ∈ T.sure) → (∃ s, (s, j) ∈ T.sure) → φ i = φ j → i = j) (hok : (VfsS.fl T i).dur ≤ (VfsS.fl T i).text.size)
    (hx : x ∈ L) (hi : find T.sure x = some i)
    (hps : ∀ i, (∃ s, (s, i) ∈ T.sure) → (ψ' i).ownBlock = (ψ i).ownBlock ∧ ∃ f, FileAt wr (φ i) (ψ' i) f ∧ (Dn T L i → f = VfsS.cutF y (VfsS.fl T i)) ∧ (¬ Dn T L i → f = VfsS.fl T i))
    (hfa : FileAt wr (φ i) (ψ' i) f) (hd1 : Dn T L i → f = VfsS.cutF y (VfsS.fl T i)) (hd2 : ¬ Dn T L i → f = VfsS.fl T i)
    (hr5 : RanG NC w5 bs r n2 (nmF φ T.sure) (lessOne L x)) (hlt : w5.rangeLeft bs r < wr.rangeLeft bs r) (hg5 : wr.grownBy w5 (some r))
    {c : Nat} (hm : m = f.dur + VfsS.clampN y (f.text.size - f.dur)) (hmz : m ≤ f.text.size) (hv : ψ' i = .slice fa f.text.size c) (hfc : f.text.size ≤ c)
    (hnn : nn + wr.rangeLeft bs r ≤ n2)
    (h8 : MapG NC w8 bn (nn + 1) (fun z => if z = x then some (some (φ i)) else if inL L z then none else nmF φ T.sure z))
    (hg8 : (((w5.drewN q).setCell ⟨φ i, 0, none⟩ (.slice fa m m)).setCell ⟨φ i, 1, none⟩ (.int .i64 m)).grownBy w8 (some bn)) (hbn : bn ≠ bs) :
    CInv w4 w8 bs bn r n2 T y φ ψ (lessOne L x) ∧ w8.rangeLeft bs r < wr.rangeLeft bs r := by
  obtain ⟨rng, ⟨nn0, hnn0, mnew⟩, -, fr⟩ := h
  have hsi : (x, i) ∈ T.sure := VfsS.find_mem hi
  obtain ⟨es1, cl1, b1⟩ := rng.map.isMap
  obtain ⟨i1, i2, i3, i4, b2⟩ := rng.iter
  obtain ⟨es3, cl3, b3⟩ := mnew.isMap
  have hfi := hfa.1
  have ne1 : φ i ≠ r := fun e => by rw [e, b2] at hfi; cases hfi
  have ne2 : φ i ≠ bs := fun e => by rw [e, b1] at hfi; cases hfi
  have ne3 : φ i ≠ bn := fun e => by rw [e, b3] at hfi; cases hfi
  have ne4 : r ≠ bs := fun e => by rw [e, b1] at b2; cases b2
  have ne5 : r ≠ bn := fun e => by rw [e, b3] at b2; cases b2
  have f5 : (w5.drewN q).heap[φ i]? = some (.cells #[ψ' i, .int .i64 f.dur] 130 (0, 0)) := (hg5.block _ (Array.getElem?_eq_some_iff.1 hfi).1 (fun e => ne1 (by injection e))).trans hfi
  obtain ⟨s6, g6⟩ := set_block f5 0 (.slice fa m m)
  obtain ⟨s7, g7⟩ := set_block s6 1 (.int .i64 m)
  have g67 : (w5.drewN q).grownBy (((w5.drewN q).setCell ⟨φ i, 0, none⟩ (.slice fa m m)).setCell ⟨φ i, 1, none⟩ (.int .i64 m)) (some (φ i)) := World.grownBy.andThen g6 g7 (fun j hj => .inr hj)
  generalize (((w5.drewN q).setCell ⟨φ i, 0, none⟩ (.slice fa m m)).setCell ⟨φ i, 1, none⟩ (.int .i64 m)) = W7 at *
  have sz5 := hg5.size
  have sz7 : (w5.drewN q).heap.size ≤ W7.heap.size := g67.size
  have e5 : (w5.drewN q).heap.size = w5.heap.size := rfl
  -- a block that is none of the four
  have far : ∀ k, k < wr.heap.size → k ≠ r → k ≠ φ i → k ≠ bn → w8.heap[k]? = wr.heap[k]? := fun k hk h1 h2 h3 => by
    rw [hg8.block k (by omega) (fun e => h3 (by injection e)), g67.block k (by omega) (fun e => h2 (by injection e))]
    exact hg5.block k hk (fun e => h1 (by injection e))
  have hbs8 : w8.heap[bs]? = w5.heap[bs]? := by
    have := hr5.map.lt
    rw [hg8.block bs (by omega) (fun e => hbn (by injection e with e; exact e.symm)), g67.block bs (by omega) (fun e => ne2 (by injection e with e; exact e.symm))]; rfl
  have hr8 : w8.heap[r]? = w5.heap[r]? := by
    have := hr5.lt
    rw [hg8.block r (by omega) (fun e => ne5 (by injection e)), g67.block r (by omega) (fun e => ne1 (by injection e with e; exact e.symm))]; rfl
  have hleft : w8.rangeLeft bs r = w5.rangeLeft bs r := rangeLeft_block hbs8 hr8
  have uniq : ∀ j, (x, j) ∈ T.sure → j = i := fun j hj => by
    have := VfsS.find_of_mem hnd hj
    rw [hi] at this; injection this with this; exact this.symm
  have dn_other : ∀ j, j ≠ i → (Dn T (lessOne L x) j ↔ Dn T L j) := fun j hj => by
    constructor
    · rintro ⟨s, h1, h2⟩
      refine ⟨s, h1, fun h3 => h2 (mem_lessOne.2 ⟨h3, fun e => ?_⟩)⟩
      subst e; exact hj (uniq j h1)
    · rintro ⟨s, h1, h2⟩
      exact ⟨s, h1, fun h3 => h2 (mem_lessOne.1 h3).1⟩
  have dn_self : Dn T (lessOne L x) i := ⟨x, hsi, fun h => (mem_lessOne.1 h).2 rfl⟩
  have hcut : (⟨f.text.extract 0 m, m⟩ : File) = VfsS.cutF y (VfsS.fl T i) := by
    have e1 : (⟨f.text.extract 0 m, m⟩ : File) = VfsS.cutF y f := by unfold VfsS.cutF; rw [← hm]
    rw [e1]
    by_cases hd : Dn T L i
    · rw [hd1 hd, cutF_idem y hok]
    · rw [hd2 hd]
  refine ⟨⟨hr5.block hbs8 hr8, ⟨nn + 1, by rw [hleft]; omega, h8.congr fun z => ?_⟩, ⟨fun j => if j = i then .slice fa m m else ψ' j, fun j hj => ?_⟩, ?_⟩, by rw [hleft]; exact hlt⟩
  · by_cases e : z = x
    · subst e
      rw [if_pos rfl, if_neg (fun h => (mem_lessOne.1 (inL_iff.1 h)).2 rfl)]
      unfold nmF; rw [hi]; rfl
    · rw [if_neg e]
      by_cases h : z ∈ L
      · rw [if_pos (inL_iff.2 h), if_pos (inL_iff.2 (mem_lessOne.2 ⟨h, e⟩))]
      · rw [if_neg (fun h2 => h (inL_iff.1 h2)), if_neg (fun h2 => h (mem_lessOne.1 (inL_iff.1 h2)).1)]
  · by_cases e : j = i
    · subst e
      simp only [if_pos]
      refine ⟨?_, ⟨f.text.extract 0 m, m⟩, ⟨?_, ?_⟩, fun _ => hcut, fun hn => absurd dn_self hn⟩
      · rw [← (hps j hj).1, hv]
        cases fa with
        | none => rfl
        | some ad => rfl
      · rw [hg8.block _ (Array.getElem?_eq_some_iff.1 s7).1 (fun e => ne3 (by injection e))]
        simpa using s7
      · show OwnG w8 _ 1 (.slice fa m m) (f.text.extract 0 m).size (byteCells (f.text.extract 0 m))
        have h2 := hfa.2
        rw [hv] at h2
        have h3 := h2.take m m hmz (Nat.le_refl _) (by omega)
        rw [Nat.mul_one] at h3
        have hex : (f.text.extract 0 m).size = m := by rw [ByteArray.size_extract]; omega
        rw [hex, extract_take]
        refine h3.block fun k hk => ?_
        obtain ⟨cur, hc⟩ := h3.tag hk
        exact far k (h3.lt hk) (fun e => by rw [e, b2] at hc; cases hc) (fun e => by rw [e, hfi] at hc; injection hc with hc; injection hc with _ hc _; exact absurd hc (by decide)) (fun e => by rw [e, b3] at hc; cases hc)
    · simp only [if_neg e]
      obtain ⟨p1, g, p2, p3, p4⟩ := hps j hj
      refine ⟨p1, g, ⟨?_, p2.2.block fun k hk => ?_⟩, fun hd => p3 ((dn_other j e).1 hd), fun hd => p4 (fun h => hd ((dn_other j e).2 h))⟩
      · have hc := p2.1
        rw [far _ (Array.getElem?_eq_some_iff.1 hc).1 (fun e2 => by rw [e2, b2] at hc; cases hc) (fun e2 => e (hinj j i hj ⟨x, hsi⟩ e2)) (fun e2 => by rw [e2, b3] at hc; cases hc)]
        exact hc
      · obtain ⟨cur, hc⟩ := p2.2.tag hk
        exact far k (p2.2.lt hk) (fun e => by rw [e, b2] at hc; cases hc) (fun e => by rw [e, hfi] at hc; injection hc with hc; injection hc with _ hc _; exact absurd hc (by decide)) (fun e => by rw [e, b3] at hc; cases hc)
  · refine fr.trans' ⟨?_, ?_, ?_, ?_, fun k hk hn => far k hk (fun e => hn (.inr (.inl e))) (fun e => hn (.inr (.inr ⟨i, ⟨x, hsi⟩, e⟩))) (fun e => hn (.inl e))⟩
    · exact hg8.os.trans (g67.os.trans hg5.os)
    · exact hg8.tape.trans (g67.tape.trans hg5.tape)
    · exact hg8.output.trans (g67.output.trans hg5.output)
    · have := hg8.size; omega

set_option maxRecDepth 100000 in
set_option maxHeartbeats 2000000 in
theorem crash_c {w : World} {p : Nat} {S : St} {K : Nat → Prop} {N : Nat} (h : VRep w p S K N) (x y : Int) :
    Calls Tryd.prog 25 #[.pointer (some ⟨p, 0, none⟩), .int .i64 x, .int .i64 y] w fun e w' => e = .returned (.tuple #[]) ∧ VRep w' p (VfsS.crashS S x y) (Kx K w.heap.size w'.heap.size) N ∧ Only K w w' := by
  obtain ⟨bn, bs, av, φ, ψ, hX⟩ := h
  obtain ⟨aa, cc, hav, -, -, -⟩ := hX.1.acts.form
  have k2 : w.cell? ⟨p, 2, none⟩ = some (.slice aa S.acts.length cc) := by rw [cell_of hX.2.1, hav]; rfl
  have hcl : min (max x 0) (S.acts.length : Int) = ((VfsS.clampN x S.acts.length : Nat) : Int) := by unfold VfsS.clampN; omega
  have HF := Lib.hid (flush_c hX (VfsS.clampN x S.acts.length) (by unfold VfsS.clampN; omega))
  have HWC := Lib.hid (hX.1.wf.crash x y)
  have hkp := hX.2.2.1
  obtain ⟨T, hT⟩ : ∃ T, T = VfsS.flushS S (VfsS.clampN x S.acts.length) := ⟨_, rfl⟩
  have HC : Hid (VfsS.crashS S x y = { T with acts := [], now := T.sure, files := T.files.map (VfsS.cutF y), limit := -1 }) := by show _ = _; rw [hT]; rfl
  rw [← hT] at HF
  generalize VfsS.clampN x S.acts.length = m at *
  rw [HC.out] at HWC ⊢
  clear hav hX hT HC
  go_enter Tryd.func25, Tryd.ntmps25
  go_wp2_with fail
  refine HF.out.mono ?_
  rintro e w1 ⟨rfl, av1, ⟨hB, hp, -, hst⟩, ho1⟩
  obtain ⟨n2, hn2, m2⟩ := hB.sure
  obtain ⟨es2, cl2, b2⟩ := m2.isMap
  have hplt := (Array.getElem?_eq_some_iff.1 hp).1
  have hpb : p ≠ bs := fun e => by subst e; rw [hp] at b2; cases b2
  have f2 := frozen_of hp 2
  obtain ⟨aa1, cc1, hav1, -, -, -⟩ := hB.acts.form
  have k2' : w1.cell? ⟨p, 2, none⟩ = some (.slice aa1 T.acts.length cc1) := by rw [cell_of hp, hav1]; rfl
  obtain ⟨s3, g3⟩ := set_block hp 2 (.slice none 0 0)
  have hmm := fun (t : TypeId) (w : World) => run_makeMap (P := Tryd.prog) t w
  have s3b := ((World.grownBy_alloc (w1.setCell ⟨p, 2, none⟩ (.slice none 0 0)) (.map #[] 0) none).block p (Array.getElem?_eq_some_iff.1 s3).1 (by simp)).trans s3
  have k0 : ((w1.setCell ⟨p, 2, none⟩ (.slice none 0 0)).alloc (.map #[] 0)).cell? ⟨p, 0, none⟩ = some (.map (some bn)) := by rw [cell_of s3b]; rfl
  have f0 : ((w1.setCell ⟨p, 2, none⟩ (.slice none 0 0)).alloc (.map #[] 0)).frozen? ⟨p, 0, none⟩ = false := by simp only [World.frozen?, s3b]; rfl
  obtain ⟨s4, g4⟩ := set_block s3 0 (.map (some w1.heap.size))
  have hsA : ((w1.setCell ⟨p, 2, none⟩ (.slice none 0 0)).setCell ⟨p, 0, none⟩ (.map (some w1.heap.size))).heap.size = w1.heap.size := by simp [World.setCell]
  have gA : w1.grownBy ((w1.setCell ⟨p, 2, none⟩ (.slice none 0 0)).setCell ⟨p, 0, none⟩ (.map (some w1.heap.size))) (some p) := World.grownBy.andThen g3 g4 (fun j hj => .inr hj)
  have mA := MapG.made NC ((w1.setCell ⟨p, 2, none⟩ (.slice none 0 0)).setCell ⟨p, 0, none⟩ (.map (some w1.heap.size)))
  have mS := (m2.kept gA (fun e => hpb (by injection e with e; exact e.symm))).alloc (.map #[] 0)
  have gB := gA.andThen ((World.grownBy_alloc ((w1.setCell ⟨p, 2, none⟩ (.slice none 0 0)).setCell ⟨p, 0, none⟩ (.map (some w1.heap.size))) (.map #[] 0) none).but (some p)) (fun j hj => .inr hj)
  have s5 := ((World.grownBy_alloc ((w1.setCell ⟨p, 2, none⟩ (.slice none 0 0)).setCell ⟨p, 0, none⟩ (.map (some w1.heap.size))) (.map #[] 0) none).block p (Array.getElem?_eq_some_iff.1 s4).1 (by simp)).trans s4
  have hsB : (((w1.setCell ⟨p, 2, none⟩ (.slice none 0 0)).setCell ⟨p, 0, none⟩ (.map (some w1.heap.size))).alloc (.map #[] 0)).heap.size = w1.heap.size + 1 := by simp [World.setCell]
  rw [hsA] at mA
  have k1 : (((w1.setCell ⟨p, 2, none⟩ (.slice none 0 0)).setCell ⟨p, 0, none⟩ (.map (some w1.heap.size))).alloc (.map #[] 0)).cell? ⟨p, 1, none⟩ = some (.map (some bs)) := by rw [cell_of s5]; rfl
  have hr := fun z => nmF_mem φ T.sure z
  have hnd := hB.wf.ds
  have HB := Lib.hid hB
  have HS5 := Lib.hid s5
  have HP := Lib.hid hp
  clear hcl k2 hav1 hB hp s3 s3b s4 s5 g3 g4 gA hsA m2 b2
  go_wp2_with (at_range; refine wp_rangeG (C := NC) rfl _ rfl rfl mS (T.sure.map (·.1)) hr hnd ?_)
  intro w4 hrg hg4 hsz4 hcnt
  generalize (((w1.setCell ⟨p, 2, none⟩ (.slice none 0 0)).setCell ⟨p, 0, none⟩ (.map (some w1.heap.size))).alloc (.map #[] 0)) = W at *
  have hp5 := hg4.block p (by have := gB.size; omega) (by simp)
  rw [HS5.out] at hp5
  have hp4 : w4.heap[p]? = some (.cells #[.map (some w1.heap.size), .map (some bs), .slice none 0 0, .int .i64 T.room, .int .i64 T.steps, .int .i64 T.limit] 112 (0, 0)) := by simpa using hp5
  have hb14 : ∀ k, k < w1.heap.size → k ≠ p → w4.heap[k]? = w1.heap[k]? := fun k hk hn => by
    have := gB.size
    rw [hg4.block k (by omega) (by simp)]; exact gB.block k hk (fun e => hn (by injection e))
  have hfile : ∀ i, (∃ s, (s, i) ∈ T.sure) → FileAt w4 (φ i) (ψ i) (VfsS.fl T i) := fun i hi => by
    obtain ⟨f1, f2⟩ := HB.out.file i (.inr (.inl hi))
    have hpo : ∀ (k : Nat) (cs : Array Value) (e : TypeId), w1.heap[k]? = some (.cells cs e (0, 0)) → e ≠ 112 → w4.heap[k]? = w1.heap[k]? := fun k cs e hk he =>
      hb14 k (Array.getElem?_eq_some_iff.1 hk).1 (fun e2 => by
        subst e2
        rw [HP.out] at hk; injection hk with hk; injection hk with _ hk _; exact he hk.symm)
    exact ⟨(hpo _ _ _ f1 (by decide)).trans f1, f2.block fun k hk => by obtain ⟨cur, hc⟩ := f2.tag hk; exact hpo _ _ _ hc (by decide)⟩
  have hbl := HB.out.sure
  have hbsl : bs < w1.heap.size := by obtain ⟨_, _, m⟩ := HB.out.sure; exact m.lt
  have m4 : MapG NC w4 w1.heap.size 0 (fun s => if inL (T.sure.map (·.1)) s then none else nmF φ T.sure s) := by
    refine (mA.kept hg4 (by simp)).congr fun s => ?_
    by_cases h : inL (T.sure.map (·.1)) s = true
    · rw [if_pos h]
    · rw [if_neg h]
      cases hz : nmF φ T.sure s with
      | none => rfl
      | some _ => exact absurd (inL_iff.2 ((nmF_mem φ T.sure s).2 (by rw [hz]; rfl))) h
  have HI0 : Hid (CInv w4 w4 bs w1.heap.size (w1.heap.size + 1) n2 T y φ ψ (T.sure.map (·.1))) :=
    ⟨hrg, ⟨0, by omega, m4⟩, ⟨ψ, fun i hi => ⟨rfl, _, hfile i hi, fun ⟨s, h1, h2⟩ => absurd (List.mem_map.2 ⟨(s, i), h1, rfl⟩) h2, fun _ => rfl⟩⟩, Only.refl _ _⟩
  have HP4 := Lib.hid hp4
  have HB14 := Lib.hid hb14
  have HO14 : Hid (Only (fun _ => True) w1 w4) := ⟨hg4.os.trans gB.os, hg4.tape.trans gB.tape, hg4.output.trans gB.output, by have := gB.size; omega, fun k _ hn => absurd trivial hn⟩
  have hinj : Hid (∀ i j, (∃ s, (s, i) ∈ T.sure) → (∃ s, (s, j) ∈ T.sure) → φ i = φ j → i = j) := fun i j hi hj => HB.out.inj i j (.inr (.inl hi)) (.inr (.inl hj))
  have hokf : Hid (∀ i, (∃ s, (s, i) ∈ T.sure) → (VfsS.fl T i).dur ≤ (VfsS.fl T i).text.size ∧ (VfsS.fl T i).text.size ≤ 4194304) := fun i hi => file_ok HB.out.wf (.inr (.inl hi))
  have HND := Lib.hid hnd
  have hbn2 : w1.heap.size ≠ bs := by omega
  have hpw4 : p < w4.heap.size := by omega
  have HPF : Hid (∀ i, (∃ s, (s, i) ∈ T.sure) → p ≠ φ i) := fun i hi e => by
    have h1 := (hfile i hi).1
    rw [← e, HP4.out] at h1; injection h1 with h1; injection h1 with _ h1 _; exact absurd h1 (by decide)
  clear hrg hg4 hsz4 hcnt mA mS gB hsB k1 HS5 hp5 hp4 hb14 hfile m4 hr hnd k0 f0 hmm k2' f2 hbl
  go_wp2_with fail
  go_loopw [8] (fun _ wr => ∃ L, Hid (CInv w4 wr bs w1.heap.size (w1.heap.size + 1) n2 T y φ ψ L)) (fun _ wr => wr.rangeLeft bs (w1.heap.size + 1))
  case atStart => exact ⟨_, HI0⟩
  case round =>
    clear HI0
    obtain ⟨L, HI⟩ := hrel
    obtain ⟨nn, hnn, mnew⟩ := HI.out.new
    have hrn := HI.out.rng
    have hpr : wr.heap[p]? = some (.cells #[.map (some w1.heap.size), .map (some bs), .slice none 0 0, .int .i64 T.room, .int .i64 T.steps, .int .i64 T.limit] 112 (0, 0)) := by
      rw [HI.out.fr.block p hpw4 (fun e => by rcases e with e | e | ⟨i, hi, e⟩; · omega
                                              · omega
                                              · exact HPF.out i hi e)]
      exact HP4.out
    go_wp2_with (at_next; refine wp_nextG (C := NC) rfl _ rfl rfl hrn ?_ ?_)
    · intro hl
      subst hl
      have c5 : wr.cell? ⟨p, 5, none⟩ = some (.int .i64 T.limit) := by rw [cell_of hpr]; rfl
      have f5 := frozen_of hpr 5
      obtain ⟨s6, g6⟩ := set_block hpr 5 (.int .i64 (-1))
      have HS6 := Lib.hid s6
      have HG6 := Lib.hid g6
      have HNN := Lib.hid mnew
      have HRN := Lib.hid hrn
      clear hrn mnew hpr s6 g6
      go_wp2_with fail
      go_end0
      obtain ⟨ψ', hps⟩ := HI.out.fs
      have hwr : w1.heap.size + 1 < wr.heap.size := HRN.out.lt
      have hsz6 : wr.heap.size ≤ (wr.setCell ⟨p, 5, none⟩ (.int .i64 (-1))).heap.size := HG6.out.size
      have hww := ho1.size
      have dn : ∀ i, (∃ s, (s, i) ∈ T.sure) → Dn T [] i := fun i ⟨s, h⟩ => ⟨s, h, List.not_mem_nil⟩
      have hlv : ∀ i, VfsS.Live ({ T with acts := [], now := T.sure, files := T.files.map (VfsS.cutF y), limit := -1 } : St) i → ∃ s, (s, i) ∈ T.sure := by
        intro i hi
        rcases hi with ⟨s, h⟩ | ⟨s, h⟩ | ⟨a, h, _⟩
        · exact ⟨s, h⟩
        · exact ⟨s, h⟩
        · cases h
      have hfl : ∀ i, (∃ s, (s, i) ∈ T.sure) → VfsS.fl ({ T with acts := [], now := T.sure, files := T.files.map (VfsS.cutF y), limit := -1 } : St) i = VfsS.cutF y (VfsS.fl T i) := by
        intro i hi
        have hlt := HB.out.wf.idx i (.inr (.inl hi))
        unfold VfsS.fl
        rw [List.getD_eq_getElem?_getD, List.getD_eq_getElem?_getD, List.getElem?_map, List.getElem?_eq_getElem hlt]; rfl
      have kmono : ∀ k, Kx K w.heap.size w1.heap.size k → Kx K w.heap.size (wr.setCell ⟨p, 5, none⟩ (.int .i64 (-1))).heap.size k := fun k hk => hk.mono (Nat.le_refl _) (by omega)
      have hB6 : VB wr (Kx K w.heap.size (wr.setCell ⟨p, 5, none⟩ (.int .i64 (-1))).heap.size) N ({ T with acts := [], now := T.sure, files := T.files.map (VfsS.cutF y), limit := -1 } : St) w1.heap.size bs (.slice none 0 0) φ ψ' := by
        refine ⟨⟨nn, by omega, HNN.out.congr fun s => rfl⟩, ⟨n2, by show n2 + 0 ≤ N; omega, HRN.out.map⟩, OwnG.nil _ _ _, fun i hi => ?_, hbn2, fun i j hi hj => hinj.out i j (hlv i hi) (hlv j hj), fun i j k hi hj hij => ?_, .inr ⟨hww, by omega⟩, kmono _ HB.out.ks, (fun k hk => by cases hk), fun i hi => kmono _ (HB.out.kf i (.inr (.inl (hlv i hi)))), fun i k hi hk => ?_, HWC.out, ?_, HB.out.big⟩
        · obtain ⟨_, f, hfa, hf, _⟩ := hps i (hlv i hi)
          rw [hfl i (hlv i hi), ← hf (dn i (hlv i hi))]
          exact hfa
        · rw [(hps i (hlv i hi)).1, (hps j (hlv j hj)).1]
          exact HB.out.apart i j k (.inr (.inl (hlv i hi))) (.inr (.inl (hlv j hj))) hij
        · rw [(hps i (hlv i hi)).1] at hk
          exact kmono _ (HB.out.kb i k (.inr (.inl (hlv i hi))) hk)
        · show (T.files.map _).length ≤ N
          rw [List.length_map]; exact HB.out.len
      refine ⟨rfl, ⟨w1.heap.size, bs, .slice none 0 0, φ, ψ', ?_, ?_, .inl hkp, hst⟩, ?_⟩
      · refine hB6.other (p := p) (cs := #[.map (some w1.heap.size), .map (some bs), .slice none 0 0, .int .i64 T.room, .int .i64 T.steps, .int .i64 T.limit]) (e := 112) (fr := (0, 0)) ?_ (by decide) HG6.out
        rw [HI.out.fr.block p hpw4 (fun e => by rcases e with e | e | ⟨i, hi, e⟩; · omega
                                                · omega
                                                · exact HPF.out i hi e)]
        exact HP4.out
      · show (wr.setCell ⟨p, 5, none⟩ (.int .i64 (-1))).heap[p]? = some (.cells #[.map (some w1.heap.size), .map (some bs), .slice none 0 0, .int .i64 T.room, .int .i64 T.steps, .int .i64 (-1)] 112 (0, 0))
        simpa using HS6.out
      · refine ho1.trans ⟨?_, ?_, ?_, by omega, fun k hk hn => ?_⟩
        · exact HG6.out.os.trans (HI.out.fr.os.trans HO14.out.os)
        · exact HG6.out.tape.trans (HI.out.fr.tape.trans HO14.out.tape)
        · exact HG6.out.output.trans (HI.out.fr.output.trans HO14.out.output)
        · have hkp2 : k ≠ p := fun e => hn (.inl (by rw [e]; exact hkp))
          rw [HG6.out.block k (by omega) (fun e => hkp2 (by injection e)), HI.out.fr.block k (by have := HO14.out.size; omega) (fun e => by
            rcases e with e | e | ⟨i, hi, e⟩
            · omega
            · omega
            · exact hn (by rw [e]; exact HB.out.kf i (.inr (.inl hi))))]
          exact HB14.out k hk hkp2
    · intro x c w5 hx hF hxk _ hr5 hlt hg5 hsz5 hen
      obtain ⟨i, hi, rfl⟩ : ∃ i, find T.sure x = some i ∧ c = some (φ i) := by
        unfold nmF at hF
        rw [Option.map_eq_some_iff] at hF
        obtain ⟨i, h1, h2⟩ := hF
        exact ⟨i, h1, h2.symm⟩
      have hsi : ∃ s, (s, i) ∈ T.sure := ⟨x, VfsS.find_mem hi⟩
      have hen2 : (Instr.entry (.pointer (some ⟨w1.heap.size + 1, 0, none⟩))).run Tryd.prog w5 = .ok (.tuple #[.string x, .pointer (some ⟨φ i, 0, none⟩)]) w5 := hen
      obtain ⟨ψ', hps⟩ := HI.out.fs
      obtain ⟨-, f, hfa, hd1, hd2⟩ := hps i hsi
      obtain ⟨fa, fc, hpsi, hfc, -, -⟩ := hfa.2.form
      obtain ⟨i1, i2, i3, i4, bit⟩ := hrn.iter
      have ne1 : φ i ≠ w1.heap.size + 1 := fun e => by have := hfa.1; rw [e, bit] at this; cases this
      have npr : p ≠ w1.heap.size + 1 := by omega
      have f5 : w5.heap[φ i]? = some (.cells #[ψ' i, .int .i64 f.dur] 130 (0, 0)) := (hg5.block _ (Array.getElem?_eq_some_iff.1 hfa.1).1 (fun e => ne1 (by injection e))).trans hfa.1
      have p5 := (hg5.block p (Array.getElem?_eq_some_iff.1 hpr).1 (fun e => npr (by injection e))).trans hpr
      have mn5 : MapG NC w5 w1.heap.size nn (fun s => if inL L s then none else nmF φ T.sure s) := mnew.kept hg5 (fun e => by injection e with e; omega)
      have hfok : f.dur ≤ f.text.size ∧ f.text.size ≤ 4194304 := by
        by_cases hd : Dn T L i
        · rw [hd1 hd]; have := VfsS.cutF_ok (hokf.out i hsi) y; omega
        · rw [hd2 hd]; exact hokf.out i hsi
      obtain ⟨m, hm⟩ : ∃ m, m = f.dur + VfsS.clampN y (f.text.size - f.dur) := ⟨_, rfl⟩
      have hmz : m ≤ f.text.size := by rw [hm]; unfold VfsS.clampN; omega
      have k0 : w5.cell? ⟨φ i, 0, none⟩ = some (.slice fa f.text.size fc) := by rw [cell_of f5, hpsi]; rfl
      have k1 : w5.cell? ⟨φ i, 1, none⟩ = some (.int .i64 f.dur) := by rw [cell_of f5]; rfl
      have hw1 : IntKind.i64.wrap ((f.text.size : Int) - (f.dur : Int)) = ((f.text.size - f.dur : Nat) : Int) := by rw [IntWalk.i64_in _ (by omega)]; omega
      have hcl : min (max y 0) ((f.text.size - f.dur : Nat) : Int) = ((VfsS.clampN y (f.text.size - f.dur) : Nat) : Int) := by unfold VfsS.clampN; omega
      have hw2 : IntKind.i64.wrap ((f.dur : Int) + ((VfsS.clampN y (f.text.size - f.dur) : Nat) : Int)) = (m : Int) := by rw [IntWalk.i64_in _ (by unfold VfsS.clampN; omega)]; omega
      have HPSI := Lib.hid hpsi
      have HM := Lib.hid hm
      have HI2 := Lib.hid hi
      have HD := Lib.hid (And.intro hd1 hd2)
      clear hm hpsi hi hd1 hd2 hF hen bit i1 i2 i3 i4 hrn
      obtain ⟨cl, hcl2⟩ : ∃ cl, cl = VfsS.clampN y (f.text.size - f.dur) := ⟨_, rfl⟩
      rw [← hcl2] at hcl hw2
      clear hcl2
      have hbig := HB.out.big
      have hmc : m ≤ fc := by omega
      have hpfi := HPF.out i hsi
      have mn6 : MapG NC wr w1.heap.size nn (fun s => if inL L s then none else nmF φ T.sure s) := mnew
      have ne3 : φ i ≠ w1.heap.size := fun e => by
        obtain ⟨es, cl3, b3⟩ := mnew.isMap
        have := hfa.1; rw [e, b3] at this; cases this
      have hn28 : nn < maxLen := by simp only [maxLen]; omega
      clear mnew hpr
      go_wp2_with fail
      go_quiet (fail)
      have F5 : (w5.drewN nq).heap[φ i]? = some (.cells #[ψ' i, .int .i64 f.dur] 130 (0, 0)) := f5
      obtain ⟨s6, g6⟩ := set_block F5 0 (.slice fa m m)
      obtain ⟨s7, g7⟩ := set_block s6 1 (.int .i64 m)
      have fz0 := frozen_of F5 0
      have fz1 := frozen_of s6 1
      have kk0 : (w5.drewN nq).cell? ⟨φ i, 0, none⟩ = some (.slice fa f.text.size fc) := k0
      have k1b : ((w5.drewN nq).setCell ⟨φ i, 0, none⟩ (.slice fa m m)).cell? ⟨φ i, 1, none⟩ = some (.int .i64 f.dur) := by rw [cell_of s6]; rfl
      have g67 : (w5.drewN nq).grownBy (((w5.drewN nq).setCell ⟨φ i, 0, none⟩ (.slice fa m m)).setCell ⟨φ i, 1, none⟩ (.int .i64 m)) (some (φ i)) := World.grownBy.andThen g6 g7 (fun j hj => .inr hj)
      have mn7 := (mn5.drewN nq).kept g67 (fun e => ne3 (by injection e with e; exact e.symm))
      have p7 := (g67.block p (show p < (w5.drewN nq).heap.size from (Array.getElem?_eq_some_iff.1 p5).1) (fun e => hpfi (by injection e))).trans (show (w5.drewN nq).heap[p]? = _ from p5)
      have kp7 : (((w5.drewN nq).setCell ⟨φ i, 0, none⟩ (.slice fa m m)).setCell ⟨φ i, 1, none⟩ (.int .i64 m)).cell? ⟨p, 0, none⟩ = some (.map (some w1.heap.size)) := by rw [cell_of p7]; rfl
      clear f5 F5 s6 s7 g6 g7 g67 p7 p5 k0 k1 hw1 hw2 hcl mn5
      go_wp2_with (at_mapUpdate; refine wp_putG (C := NC) rfl _ _ _ rfl rfl mn7 x (some (φ i)) rfl rfl hxk trivial hn28 ?_)
      intro w8 h8 hg8
      obtain ⟨r1, r2⟩ := HI.out.step HND.out hinj.out (hokf.out i hsi).1 hx HI2.out hps hfa HD.out.1 HD.out.2 hr5 hlt hg5 HM.out hmz HPSI.out hfc hnn h8 hg8 hbn2
      have R1 := Lib.hid r1
      clear r1
      go_wp2_with fail
      go_roundw
      case rel => exact ⟨_, R1⟩
      case measure => exact r2
end Go.Proofs.YtfoamcobpfflbaaDoor
namespace Go.Proofs
open Go.RowKit Go.Maps Go.Sort Go.Shelf

theorem Tryd.sorts_s (m : Nat) : AnyZ.SortsIn Tryd.prog Tryd.sorted93_ren Fence.wide m :=
  ⟨fun blk off cap ss W hH hblk hsz => callsIn_wide.2 (AnyM.slices_Sort_string Tryd.sort101 blk off cap ss W hH hblk hsz),
   fun p cap W => callsIn_wide.2 (AnyM.slices_Sort_string_none Tryd.sort101 p cap W)⟩

theorem Tryd.keys_s (mb : Option Nat) (W : World) : CallsIn Fence.wide 5 Tryd.prog 94 #[.map mb] W fun e w' => e = .returned (.func (.func 102) #[] #[.pointer (some ⟨W.heap.size, 0, none⟩)]) ∧ w' = W.alloc (.cells #[.map mb] 109) :=
  AnyZ.keys_in Tryd.keys94 Fence.wide 5 trivial rfl mb W

set_option maxHeartbeats 1000000 in
theorem Tryd.sorted_s {H : Type} (b nn : Nat) (D0 : DataW H) (R : Value → Option (DataW H × List MemPlace)) (w : World) (hown : w.ownsMap Tryd.prog 9 R b nn D0) (hmax : Maps.size D0 ≤ maxLen) (hbytes : Maps.size D0 * 16 ≤ 140737488355328) :
    CallsIn Fence.wide 5 Tryd.prog 93 #[.func (.func 102) #[] #[.pointer (some ⟨w.heap.size, 0, none⟩)]] (w.alloc (.cells #[.map (some b)] 109)) fun e w' => ∃ (v : Value) (ss : List (List UInt8)), e = .returned v ∧ ss.Perm (strKeys D0) ∧
      w'.ownsRow (w.alloc (.cells #[.map (some b)] 109)).heap.size 9 1 v ss.length ((ss.mergeSort (fun x y => decide (x ≤ y))).map encStr) ∧ (v = .slice none 0 0 ↔ ss = []) ∧ Below (w.alloc (.cells #[.map (some b)] 109)).heap.size (w.alloc (.cells #[.map (some b)] 109)) w' := by
  have hbl := hown.lt
  have hseq : SeqGives Fence.wide 2 Tryd.prog 102 #[.pointer (some ⟨w.heap.size, 0, none⟩)] encStr (fun ss => ss.Perm (strKeys D0)) (Maps.size D0) (w.alloc (.cells #[.map (some b)] 109)) :=
    AnyZ.keys_gives (ρ := Tryd.keys94_ren) { Tryd.keys94 with } Fence.wide _ trivial rfl (by omega) w.heap.size b nn D0 _ (by simp) (by simp) (by
      obtain ⟨es, clock, hb, Ft, hs, hD⟩ := hown
      exact ⟨es, clock, (Below.heap_alloc _ _ b hbl).trans hb, Ft, hs, hD⟩)
  exact AnyZ.sorted_in Tryd.sorted93 Fence.wide 5 trivial trivial trivial trivial rfl (by omega) (Tryd.sorts_s _) (enters_of Tryd.func101 (by kernel_rfl) rfl) 102 #[.pointer (some ⟨w.heap.size, 0, none⟩)] trivial (enters_of Tryd.func102 (by kernel_rfl) rfl) _ _ hmax hbytes _ hseq

namespace YtfoamcobpfflbaaDoor

/-- The names as lists of bytes, sorted. -/
def namesL (l : VfsS.Nm) : List (List UInt8) := (l.map fun p => p.1.data.toList).mergeSort leB

theorem namesL_len (l : VfsS.Nm) : (namesL l).length = l.length := by unfold namesL; rw [List.length_mergeSort, List.length_map]

theorem keys_perm {w : World} {b n : Nat} {φ : Nat → Nat} {l : VfsS.Nm} (h : MapG NC w b n (nmF φ l)) (hn : (l.map (·.1)).Nodup) :
    ∃ D, w.ownsMap Tryd.prog 9 NC.R b n D ∧ (l.map fun p => p.1.data.toList).Perm (strKeys D) ∧ Maps.size D = l.length ∧ Maps.size D ≤ n := by
  obtain ⟨D, h1, h2, h3, h4⟩ := h
  have hsz := h1.size_le
  refine ⟨D, h1, ?_⟩
  obtain ⟨es, hD, hpw⟩ := h2
  obtain ⟨es', hD', hko⟩ := h1.keysOf
  obtain rfl : es = es' := by rw [hD] at hD'; simpa using hD'
  subst hD
  have hinj : ∀ x y : ByteArray, x.data.toList = y.data.toList → x = y := fun x y e => by
    cases x; cases y; congr 1; exact Array.toList_inj.1 e
  have hnd : (l.map fun p => p.1.data.toList).Nodup := by
    have := hn
    rw [show (l.map fun p => p.1.data.toList) = (l.map (·.1)).map (fun s => s.data.toList) by rw [List.map_map]; rfl]
    exact List.Pairwise.map _ (fun x y hxy e => hxy (hinj x y e)) this
  have hp : (l.map fun p => p.1.data.toList).Perm (strKeys (DataW.map es)) := by
    refine perm_strKeys hpw (fun p hp => by obtain ⟨v, hv⟩ := hko p hp; obtain ⟨x, _, hx, _⟩ := Maps.keyOf_str Tryd.underlying9 hv; exact ⟨x, hx⟩) hnd (fun x => ?_)
    constructor
    · intro hx
      rw [List.mem_map] at hx
      obtain ⟨p, hp, rfl⟩ := hx
      have hs : (nmF φ l p.1).isSome = true := (nmF_mem φ l p.1).1 (List.mem_map.2 ⟨p, hp, rfl⟩)
      obtain ⟨a, ha⟩ := Option.isSome_iff_exists.1 hs
      have := (h3 p.1 (h4 _ _ ha).1).1
      rw [hs] at this
      exact this
    · intro hx
      rw [has_eq, List.any_eq_true] at hx
      obtain ⟨p, hp, hs⟩ := hx
      obtain ⟨v, hv⟩ := hko p hp
      obtain ⟨y, _, hy, hle⟩ := Maps.keyOf_str Tryd.underlying9 hv
      have e : y = x := by rw [hy] at hs; simpa [Lit.sameKey] using hs
      subst e
      have hok : NC.okK ⟨y.toArray⟩ := by show ByteArray.size _ ≤ maxLen; simpa [ByteArray.size] using hle
      have h5 := (h3 ⟨y.toArray⟩ hok).1
      have h6 : has (DataW.map es) (NC.lit ⟨y.toArray⟩) = true := by
        rw [has_eq, List.any_eq_true]
        exact ⟨p, hp, by rw [hy]; simp [NC, Lit.sameKey]⟩
      rw [h6] at h5
      have h7 := (nmF_mem φ l ⟨y.toArray⟩).2 h5.symm
      rw [List.mem_map] at h7 ⊢
      obtain ⟨q, hq, e⟩ := h7
      exact ⟨q, hq, by rw [e]⟩
  refine ⟨hp, ?_, hsz⟩
  have := hp.length_eq
  rw [List.length_map] at this
  rw [this]
  simp [strKeys, size]

set_option maxHeartbeats 1000000 in
/-- List. -/
theorem list_c {w : World} {p : Nat} {S : VfsS.St} {K : Nat → Prop} {N : Nat} (h : VRep w p S K N) :
    Calls Tryd.prog 79 #[.pointer (some ⟨p, 0, none⟩)] w fun e w' => ∃ v, e = .returned v ∧ w'.ownsRow w.heap.size 9 1 v S.now.length ((namesL S.now).map encStr) ∧ Below w.heap.size w w' := by
  obtain ⟨bn, bs, av, φ, ψ, hB, hp, hkp, hs⟩ := h
  obtain ⟨n1, hn1, m1⟩ := hB.now
  obtain ⟨D, hown, hperm, hsz, hle⟩ := keys_perm m1 hB.wf.dn
  have hbig := hB.big
  have hmax : Maps.size D ≤ maxLen := Nat.le_trans hle (by have : maxLen = 9223372036854775807 := rfl; omega)
  have hbytes : Maps.size D * 16 ≤ 140737488355328 := by omega
  have c0 : w.cell? ⟨p, 0, none⟩ = some (.map (some bn)) := by rw [cell_of hp]; rfl
  clear m1 hB hp
  refine (callsIn_wide (n := 6)).1 ?_
  have hfK : Fence.wide.fn 94 := trivial
  have hfS : Fence.wide.fn 93 := trivial
  refine callsIn_of_wp Tryd.func79 rfl trivial ?_ rfl
  simp only [Tryd.ntmps79, List.size_toArray, List.length_cons, List.length_nil, Nat.reduceAdd, Nat.reduceSub, Array.replicate_succ, Array.replicate_zero, List.push_toArray, List.append_toArray, List.nil_append, List.cons_append]
  gi_wp2_with (first
    | (gi_at_call 94; refine (Tryd.keys_s _ _).mono ?_; rintro e w' ⟨rfl, rfl⟩)
    | (gi_at_call 93; refine (Tryd.sorted_s bn n1 D NC.R w hown hmax hbytes).mono ?_; rintro e w' ⟨v, ss, rfl, hS, hrow, hnil, hb⟩))
  go_ret
  have e1 : ss.mergeSort (fun x y => decide (x ≤ y)) = namesL S.now := mergeSort_of_perm (hS.trans hperm.symm)
  have e2 : ss.length = S.now.length := by rw [(hS.trans hperm.symm).length_eq, List.length_map]
  rw [e1, e2] at hrow
  exact ⟨v, rfl, ownsRow_base_a hrow (by simp), ((Below.refl _ w).alloc (Nat.le_refl _) _).trans (hb.mono (by simp))⟩
end YtfoamcobpfflbaaDoor
end Go.Proofs
namespace Go.Proofs.YtfoamcobpfflbaaDoor
open Go Go.RowKit Go.Maps
open VfsS (St)

/-- Behind p lies S; it was made since w0; nothing older has turned. -/
def VA (w0 w : World) (p : Nat) (S : St) (N : Nat) : Prop :=
  ∃ K, VRep w p S K N ∧ Gl w0 ∧ (∀ k, K k → w0.heap.size ≤ k ∧ k < w.heap.size) ∧ Below w0.heap.size w0 w

theorem VA.below {w0 w w' : World} {p : Nat} {S : St} {N : Nat} (h : VA w0 w p S N) (hb : Below w.heap.size w w') : VA w0 w' p S N := by
  obtain ⟨K, h1, h2, h3, h4⟩ := h
  exact ⟨K, h1.below hb, h2, fun k hk => ⟨(h3 k hk).1, Nat.lt_of_lt_of_le (h3 k hk).2 hb.size⟩, h4.trans (hb.mono h4.size)⟩

theorem VA.drewN {w0 w : World} {p : Nat} {S : St} {N : Nat} (h : VA w0 w p S N) (q : Nat) : VA w0 (w.drewN q) p S N := h.below (below_dN (Below.refl _ _) q)

theorem VA.out {w0 w : World} {p : Nat} {S : St} {N : Nat} (h : VA w0 w p S N) : Below w0.heap.size w0 w := by obtain ⟨_, _, _, _, h⟩ := h; exact h
theorem VA.gl {w0 w : World} {p : Nat} {S : St} {N : Nat} (h : VA w0 w p S N) : Gl w := by obtain ⟨_, _, h2, _, h⟩ := h; exact h2.below h (Nat.le_refl _)
theorem VA.wf {w0 w : World} {p : Nat} {S : St} {N : Nat} (h : VA w0 w p S N) : VfsS.Wf S := by obtain ⟨_, h, _⟩ := h; exact h.wf
theorem VA.big {w0 w : World} {p : Nat} {S : St} {N : Nat} (h : VA w0 w p S N) : N ≤ 100000000 := by obtain ⟨_, h, _⟩ := h; exact h.big
theorem VA.mono {w0 w : World} {p : Nat} {S : St} {N N' : Nat} (h : VA w0 w p S N) (hN : N ≤ N') (hb : N' ≤ 100000000) : VA w0 w p S N' := by
  obtain ⟨K, h1, h2⟩ := h
  exact ⟨K, h1.mono (fun _ h => h) hN hb, h2⟩

/-- What a call of the file system's own makes of it. -/
theorem VA.step {w0 w w' : World} {p : Nat} {S' : St} {N' : Nat} {K : Nat → Prop} (h2 : Gl w0) (h3 : ∀ k, K k → w0.heap.size ≤ k ∧ k < w.heap.size) (h4 : Below w0.heap.size w0 w)
    (h : VRep w' p S' (Kx K w.heap.size w'.heap.size) N') (ho : Only K w w') : VA w0 w' p S' N' :=
  ⟨_, h, h2, fun k hk => hk.elim (fun h => ⟨(h3 k h).1, Nat.lt_of_lt_of_le (h3 k h).2 ho.size⟩) (fun h => ⟨Nat.le_trans h4.size h.1, h.2⟩),
    h4.trans ⟨ho.os, ho.tape, ho.output, ho.size, fun k hk => ho.block k (Nat.lt_of_lt_of_le hk h4.size) (fun e => by have := (h3 k e).1; omega)⟩⟩

/-- A slice that doesn't lie in the file system. -/
def SlA (w0 w1 w : World) (a : Option Addr) (xs : List Value) : Prop :=
  xs = [] ∨ ∃ b o, a = some ⟨b, o, none⟩ ∧ b < w.heap.size ∧ (b < w0.heap.size ∨ w1.heap.size ≤ b) ∧ ∀ i u, xs[i]? = some u → w.cell? ⟨b, o + i, none⟩ = some u

theorem new_a (room : Int) (w : World) (hg : Gl w) :
    Calls Tryd.prog 14 #[.int .i64 room] w fun e w' => ((room < 0 ∨ 4194304 < room) ∧ e = .returned (.tuple #[.pointer none, .int .i64 1]) ∧ w' = w) ∨
      ((0 ≤ room ∧ room ≤ 4194304) ∧ ∃ p, e = .returned (.tuple #[.pointer (some ⟨p, 0, none⟩), .int .i64 0]) ∧ VA w w' p (VfsS.newS room.toNat) 0) := by
  refine (new_c room w).mono ?_
  rintro e w' (h | ⟨h1, p, h2, h3, h4, h5⟩)
  · exact .inl h
  · exact .inr ⟨h1, p, h2, _, h4, hg, fun k hk => hk.elim False.elim fun h => h, h5⟩

section
variable {w0 w : World} {p : Nat} {S : St} {N : Nat}

theorem create_a (h : VA w0 w p S N) (s : ByteArray) (hs : s.size ≤ 10000000) (hN : N + 3 ≤ 100000000) :
    Calls Tryd.prog 45 #[.pointer (some ⟨p, 0, none⟩), .string s] w fun e w' => e = .returned (.int .i64 (VfsS.createS S s).2) ∧ VA w0 w' p (VfsS.createS S s).1 (N + 3) := by
  have hg := h.gl
  obtain ⟨K, h1, h2, h3, h4⟩ := h
  refine (create_c h1 s hs hN hg).mono ?_
  rintro e w' ⟨r1, r2, r3⟩
  exact ⟨r1, VA.step h2 h3 h4 r2 r3⟩

theorem append_a {w1 : World} (h : VA w0 w1 p S N) (hb : Below w1.heap.size w1 w) (s b : ByteArray) (a : Option Addr) (c : Nat) (hs : s.size ≤ 10000000) (hbs : b.size ≤ 10000000) (hsl : SlA w0 w1 w a (byteCells b)) (hN : N + 2 ≤ 100000000) :
    Calls Tryd.prog 27 #[.pointer (some ⟨p, 0, none⟩), .string s, .slice a b.size c] w fun e w' => e = .returned (.int .i64 (VfsS.appendS S s b).2) ∧ VA w0 w' p (VfsS.appendS S s b).1 (N + 2) := by
  have h' := h.below hb
  obtain ⟨K, h1, h2, h3, h4⟩ := h
  have h4' := h4.trans (hb.mono h4.size)
  have hk : SlK K w a (byteCells b) := by
    rcases hsl with h | ⟨x, o, r1, r2, r3, r4⟩
    · exact .inl h
    · exact .inr ⟨x, o, r1, r2, fun e => by have := h3 x e; omega, r4⟩
  refine (append_c (h1.below hb) s b a c hs hbs hk hN).mono ?_
  rintro e w' ⟨r1, r2, r3⟩
  exact ⟨r1, VA.step h2 (fun k hk => ⟨(h3 k hk).1, Nat.lt_of_lt_of_le (h3 k hk).2 hb.size⟩) h4' r2 r3⟩

theorem sync_a (h : VA w0 w p S N) (s : ByteArray) (hs : s.size ≤ 10000000) (hN : N + 2 ≤ 100000000) :
    Calls Tryd.prog 46 #[.pointer (some ⟨p, 0, none⟩), .string s] w fun e w' => e = .returned (.int .i64 (VfsS.syncS S s).2) ∧ VA w0 w' p (VfsS.syncS S s).1 (N + 2) := by
  obtain ⟨K, h1, h2, h3, h4⟩ := h
  refine (sync_c h1 s hs hN).mono ?_
  rintro e w' ⟨r1, r2, r3⟩
  exact ⟨r1, VA.step h2 h3 h4 r2 r3⟩

theorem cut_a (h : VA w0 w p S N) (s : ByteArray) (n : Int) (hs : s.size ≤ 10000000) (hN : N + 2 ≤ 100000000) :
    Calls Tryd.prog 49 #[.pointer (some ⟨p, 0, none⟩), .string s, .int .i64 n] w fun e w' => e = .returned (.int .i64 (VfsS.cutS S s n).2) ∧ VA w0 w' p (VfsS.cutS S s n).1 (N + 2) := by
  obtain ⟨K, h1, h2, h3, h4⟩ := h
  refine (cut_c h1 s n hs hN).mono ?_
  rintro e w' ⟨r1, r2, r3⟩
  exact ⟨r1, VA.step h2 h3 h4 r2 r3⟩

theorem remove_a (h : VA w0 w p S N) (s : ByteArray) (hs : s.size ≤ 10000000) (hN : N + 2 ≤ 100000000) :
    Calls Tryd.prog 51 #[.pointer (some ⟨p, 0, none⟩), .string s] w fun e w' => e = .returned (.int .i64 (VfsS.removeS S s).2) ∧ VA w0 w' p (VfsS.removeS S s).1 (N + 2) := by
  obtain ⟨K, h1, h2, h3, h4⟩ := h
  refine (remove_c h1 s hs hN).mono ?_
  rintro e w' ⟨r1, r2, r3⟩
  exact ⟨r1, VA.step h2 h3 h4 r2 r3⟩

theorem rename_a (h : VA w0 w p S N) (s t : ByteArray) (hs : s.size ≤ 10000000) (ht : t.size ≤ 10000000) (hN : N + 2 ≤ 100000000) :
    Calls Tryd.prog 48 #[.pointer (some ⟨p, 0, none⟩), .string s, .string t] w fun e w' => e = .returned (.int .i64 (VfsS.renameS S s t).2) ∧ VA w0 w' p (VfsS.renameS S s t).1 (N + 2) := by
  have hg := h.gl
  obtain ⟨K, h1, h2, h3, h4⟩ := h
  refine (rename_c h1 s t hs ht hN hg).mono ?_
  rintro e w' ⟨r1, r2, r3⟩
  exact ⟨r1, VA.step h2 h3 h4 r2 r3⟩

theorem flush_a (h : VA w0 w p S N) (hN : N + 2 ≤ 100000000) :
    Calls Tryd.prog 19 #[.pointer (some ⟨p, 0, none⟩)] w fun e w' => e = .returned (.int .i64 (VfsS.flushAllS S).2) ∧ VA w0 w' p (VfsS.flushAllS S).1 (N + 2) := by
  obtain ⟨K, h1, h2, h3, h4⟩ := h
  refine (flushAll_c h1 hN).mono ?_
  rintro e w' ⟨r1, r2, r3⟩
  exact ⟨r1, VA.step h2 h3 h4 r2 r3⟩

theorem crash_a (h : VA w0 w p S N) (x y : Int) :
    Calls Tryd.prog 25 #[.pointer (some ⟨p, 0, none⟩), .int .i64 x, .int .i64 y] w fun e w' => e = .returned (.tuple #[]) ∧ VA w0 w' p (VfsS.crashS S x y) N := by
  obtain ⟨K, h1, h2, h3, h4⟩ := h
  refine (crash_c h1 x y).mono ?_
  rintro e w' ⟨r1, r2, r3⟩
  exact ⟨r1, VA.step h2 h3 h4 r2 r3⟩

theorem stop_a (h : VA w0 w p S N) (n : Int) (hn : -9223372036854775808 ≤ n ∧ n ≤ 9223372036854775807) :
    Calls Tryd.prog 47 #[.pointer (some ⟨p, 0, none⟩), .int .i64 n] w fun e w' => e = .returned (.tuple #[]) ∧ VA w0 w' p { S with limit := n } N := by
  obtain ⟨K, h1, h2, h3, h4⟩ := h
  have hp : K p := by obtain ⟨_, _, _, _, _, _, _, hk, _⟩ := h1; exact hk
  refine (stop_c h1 n hn).mono ?_
  rintro e w' ⟨r1, r2, r3⟩
  refine ⟨r1, VA.step h2 h3 h4 (r2.mono (fun k hk => .inl hk) (Nat.le_refl _) h1.big) (Only.of_grown r3 fun k e => ?_)⟩
  injection e with e; subst e; exact hp

theorem read_a (h : VA w0 w p S N) (s : ByteArray) (hs : s.size ≤ 10000000) :
    Calls Tryd.prog 34 #[.pointer (some ⟨p, 0, none⟩), .string s] w fun e w' => ∃ a c, e = .returned (.tuple #[.slice a ((VfsS.readS S s).getD ByteArray.empty).size c, .int .i64 (if (VfsS.readS S s).isSome then 0 else 4)]) ∧
      SlA w0 w w' a (byteCells ((VfsS.readS S s).getD ByteArray.empty)) ∧ Below w.heap.size w w' ∧ VA w0 w' p S N := by
  have h' := h
  obtain ⟨K, h1, h2, h3, h4⟩ := h
  refine (read_c h1 s hs).mono ?_
  rintro e w' ⟨v, r1, r2, r3, r4⟩
  obtain ⟨a, c, rfl, -, -, hsl⟩ := r2.form
  refine ⟨a, c, r1, ?_, r4, h'.below r4⟩
  rcases hsl with h | ⟨x, o, e1, e2, e3⟩
  · exact .inl h
  · subst e1
    by_cases hx : byteCells ((VfsS.readS S s).getD ByteArray.empty) = []
    · exact .inl hx
    · refine .inr ⟨x, o, rfl, e2, .inr (r3 x ?_), e3⟩
      rfl

theorem used_a (h : VA w0 w p S N) : Calls Tryd.prog 42 #[.pointer (some ⟨p, 0, none⟩)] w fun e w' => e = .returned (.int .i64 (VfsS.used S : Nat)) ∧ VA w0 w' p S N := by
  have h' := h
  obtain ⟨K, h1, h2, h3, h4⟩ := h
  refine (used_c h1).mono ?_
  rintro e w' ⟨r1, r2⟩
  exact ⟨r1, h'.below r2⟩

theorem left_a (h : VA w0 w p S N) : Calls Tryd.prog 50 #[.pointer (some ⟨p, 0, none⟩)] w fun e w' => e = .returned (.int .i64 ((S.room : Int) - VfsS.used S)) ∧ VA w0 w' p S N := by
  have h' := h
  obtain ⟨K, h1, h2, h3, h4⟩ := h
  refine (left_c h1).mono ?_
  rintro e w' ⟨r1, r2⟩
  exact ⟨r1, h'.below r2⟩

theorem steps_a (h : VA w0 w p S N) : Calls Tryd.prog 54 #[.pointer (some ⟨p, 0, none⟩)] w fun e w' => e = .returned (.int .i64 S.steps) ∧ w' = w := by
  obtain ⟨K, h1, h2, h3, h4⟩ := h
  exact steps_c h1

theorem list_a (h : VA w0 w p S N) : Calls Tryd.prog 79 #[.pointer (some ⟨p, 0, none⟩)] w fun e w' => ∃ a c, e = .returned (.slice a S.now.length c) ∧ Sl w' a ((namesL S.now).map Go.Proofs.encStr) ∧ Below w.heap.size w w' ∧ VA w0 w' p S N := by
  have h' := h
  obtain ⟨K, h1, h2, h3, h4⟩ := h
  refine (list_c h1).mono ?_
  rintro e w' ⟨v, r1, r2, r3⟩
  obtain ⟨a, c, rfl, -, -, hsl⟩ := (OwnG.of_own r2).form
  exact ⟨a, c, r1, hsl, r3, h'.below r3⟩
end
end Go.Proofs.YtfoamcobpfflbaaDoor
