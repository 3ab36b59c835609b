/- Texts of mine, joined: Walk: a crash. -/
import Derived.Test.YtfoamcobpfflbaaDoorZ24
namespace Go.Proofs.YtfoamcobpfflbaaDoor
open Go Go.RowKit Go.Maps
open VfsS (File Chg Nm St find doL)

theorem cutF_idem {f : File} (n : Int) (h : f.dur ≤ f.text.size) : VfsS.cutF n (VfsS.cutF n f) = VfsS.cutF n f := by
  have hs : (VfsS.cutF n f).text.size = (VfsS.cutF n f).dur := by
    unfold VfsS.cutF VfsS.clampN
    simp only [ByteArray.size_extract]; omega
  generalize VfsS.cutF n f = g at *
  obtain ⟨t, d⟩ := g
  simp only at hs
  subst hs
  unfold VfsS.cutF VfsS.clampN
  simp only [Nat.sub_self, Nat.min_zero, Nat.add_zero]
  congr 1
  exact ByteArray.extract_zero_size

def inL (L : List ByteArray) (s : ByteArray) : Bool := L.any fun y => decide (y = s)
theorem inL_iff {L : List ByteArray} {s : ByteArray} : inL L s = true ↔ s ∈ L := by simp [inL]

/-- Has one of a file's names been gone through? -/
def Dn (T : St) (L : List ByteArray) (i : Nat) : Prop := ∃ s, (s, i) ∈ T.sure ∧ s ∉ L

/-- A crash under way: L's names are left. -/
structure CInv (w4 wr : World) (bs bn r n2 : Nat) (T : St) (y : Int) (φ : Nat → Nat) (ψ : Nat → Value) (L : List ByteArray) : Prop where
  rng : RanG NC wr bs r n2 (nmF φ T.sure) L
  new : ∃ nn, nn + wr.rangeLeft bs r ≤ n2 ∧ MapG NC wr bn nn (fun s => if inL L s then none else nmF φ T.sure s)
  fs : ∃ ψ' : Nat → Value, ∀ i, (∃ s, (s, i) ∈ T.sure) → (ψ' i).ownBlock = (ψ i).ownBlock ∧ ∃ f, FileAt wr (φ i) (ψ' i) f ∧ (Dn T L i → f = VfsS.cutF y (VfsS.fl T i)) ∧ (¬ Dn T L i → f = VfsS.fl T i)
  fr : Only (fun k => k = bn ∨ k = r ∨ ∃ i, (∃ s, (s, i) ∈ T.sure) ∧ k = φ i) w4 wr

theorem CInv.step {w4 wr w5 w8 : World} {bs bn r n2 : Nat} {T : St} {y : Int} {φ : Nat → Nat} {ψ ψ' : Nat → Value} {L : List ByteArray} {x : ByteArray} {i nn m q : Nat} {f : File} {fa : Option Addr}
    (h : CInv w4 wr bs bn r n2 T y φ ψ L) (hnd : (T.sure.map (·.1)).Nodup) (hinj : ∀ i j, (∃ s, (s, i) ∈ T.sure) → (∃ s, (s, j) ∈ T.sure) → φ i = φ j → i = j) (hok : (VfsS.fl T i).dur ≤ (VfsS.fl T i).text.size)
    (hx : x ∈ L) (hi : find T.sure x = some i)
    (hps : ∀ i, (∃ s, (s, i) ∈ T.sure) → (ψ' i).ownBlock = (ψ i).ownBlock ∧ ∃ f, FileAt wr (φ i) (ψ' i) f ∧ (Dn T L i → f = VfsS.cutF y (VfsS.fl T i)) ∧ (¬ Dn T L i → f = VfsS.fl T i))
    (hfa : FileAt wr (φ i) (ψ' i) f) (hd1 : Dn T L i → f = VfsS.cutF y (VfsS.fl T i)) (hd2 : ¬ Dn T L i → f = VfsS.fl T i)
    (hr5 : RanG NC w5 bs r n2 (nmF φ T.sure) (lessOne L x)) (hlt : w5.rangeLeft bs r < wr.rangeLeft bs r) (hg5 : wr.grownBy w5 (some r))
    {c : Nat} (hm : m = f.dur + VfsS.clampN y (f.text.size - f.dur)) (hmz : m ≤ f.text.size) (hv : ψ' i = .slice fa f.text.size c) (hfc : f.text.size ≤ c)
    (hnn : nn + wr.rangeLeft bs r ≤ n2)
    (h8 : MapG NC w8 bn (nn + 1) (fun z => if z = x then some (some (φ i)) else if inL L z then none else nmF φ T.sure z))
    (hg8 : (((w5.drewN q).setCell ⟨φ i, 0, none⟩ (.slice fa m m)).setCell ⟨φ i, 1, none⟩ (.int .i64 m)).grownBy w8 (some bn)) (hbn : bn ≠ bs) :
    CInv w4 w8 bs bn r n2 T y φ ψ (lessOne L x) ∧ w8.rangeLeft bs r < wr.rangeLeft bs r := by
  obtain ⟨rng, ⟨nn0, hnn0, mnew⟩, -, fr⟩ := h
  have hsi : (x, i) ∈ T.sure := VfsS.find_mem hi
  obtain ⟨es1, cl1, b1⟩ := rng.map.isMap
  obtain ⟨i1, i2, i3, i4, b2⟩ := rng.iter
  obtain ⟨es3, cl3, b3⟩ := mnew.isMap
  have hfi := hfa.1
  have ne1 : φ i ≠ r := fun e => by rw [e, b2] at hfi; cases hfi
  have ne2 : φ i ≠ bs := fun e => by rw [e, b1] at hfi; cases hfi
  have ne3 : φ i ≠ bn := fun e => by rw [e, b3] at hfi; cases hfi
  have ne4 : r ≠ bs := fun e => by rw [e, b1] at b2; cases b2
  have ne5 : r ≠ bn := fun e => by rw [e, b3] at b2; cases b2
  have f5 : (w5.drewN q).heap[φ i]? = some (.cells #[ψ' i, .int .i64 f.dur] 130 (0, 0)) := (hg5.block _ (Array.getElem?_eq_some_iff.1 hfi).1 (fun e => ne1 (by injection e))).trans hfi
  obtain ⟨s6, g6⟩ := set_block f5 0 (.slice fa m m)
  obtain ⟨s7, g7⟩ := set_block s6 1 (.int .i64 m)
  have g67 : (w5.drewN q).grownBy (((w5.drewN q).setCell ⟨φ i, 0, none⟩ (.slice fa m m)).setCell ⟨φ i, 1, none⟩ (.int .i64 m)) (some (φ i)) := World.grownBy.andThen g6 g7 (fun j hj => .inr hj)
  generalize (((w5.drewN q).setCell ⟨φ i, 0, none⟩ (.slice fa m m)).setCell ⟨φ i, 1, none⟩ (.int .i64 m)) = W7 at *
  have sz5 := hg5.size
  have sz7 : (w5.drewN q).heap.size ≤ W7.heap.size := g67.size
  have e5 : (w5.drewN q).heap.size = w5.heap.size := rfl
  -- a block that is none of the four
  have far : ∀ k, k < wr.heap.size → k ≠ r → k ≠ φ i → k ≠ bn → w8.heap[k]? = wr.heap[k]? := fun k hk h1 h2 h3 => by
    rw [hg8.block k (by omega) (fun e => h3 (by injection e)), g67.block k (by omega) (fun e => h2 (by injection e))]
    exact hg5.block k hk (fun e => h1 (by injection e))
  have hbs8 : w8.heap[bs]? = w5.heap[bs]? := by
    have := hr5.map.lt
    rw [hg8.block bs (by omega) (fun e => hbn (by injection e with e; exact e.symm)), g67.block bs (by omega) (fun e => ne2 (by injection e with e; exact e.symm))]; rfl
  have hr8 : w8.heap[r]? = w5.heap[r]? := by
    have := hr5.lt
    rw [hg8.block r (by omega) (fun e => ne5 (by injection e)), g67.block r (by omega) (fun e => ne1 (by injection e with e; exact e.symm))]; rfl
  have hleft : w8.rangeLeft bs r = w5.rangeLeft bs r := rangeLeft_block hbs8 hr8
  have uniq : ∀ j, (x, j) ∈ T.sure → j = i := fun j hj => by
    have := VfsS.find_of_mem hnd hj
    rw [hi] at this; injection this with this; exact this.symm
  have dn_other : ∀ j, j ≠ i → (Dn T (lessOne L x) j ↔ Dn T L j) := fun j hj => by
    constructor
    · rintro ⟨s, h1, h2⟩
      refine ⟨s, h1, fun h3 => h2 (mem_lessOne.2 ⟨h3, fun e => ?_⟩)⟩
      subst e; exact hj (uniq j h1)
    · rintro ⟨s, h1, h2⟩
      exact ⟨s, h1, fun h3 => h2 (mem_lessOne.1 h3).1⟩
  have dn_self : Dn T (lessOne L x) i := ⟨x, hsi, fun h => (mem_lessOne.1 h).2 rfl⟩
  have hcut : (⟨f.text.extract 0 m, m⟩ : File) = VfsS.cutF y (VfsS.fl T i) := by
    have e1 : (⟨f.text.extract 0 m, m⟩ : File) = VfsS.cutF y f := by unfold VfsS.cutF; rw [← hm]
    rw [e1]
    by_cases hd : Dn T L i
    · rw [hd1 hd, cutF_idem y hok]
    · rw [hd2 hd]
  refine ⟨⟨hr5.block hbs8 hr8, ⟨nn + 1, by rw [hleft]; omega, h8.congr fun z => ?_⟩, ⟨fun j => if j = i then .slice fa m m else ψ' j, fun j hj => ?_⟩, ?_⟩, by rw [hleft]; exact hlt⟩
  · by_cases e : z = x
    · subst e
      rw [if_pos rfl, if_neg (fun h => (mem_lessOne.1 (inL_iff.1 h)).2 rfl)]
      unfold nmF; rw [hi]; rfl
    · rw [if_neg e]
      by_cases h : z ∈ L
      · rw [if_pos (inL_iff.2 h), if_pos (inL_iff.2 (mem_lessOne.2 ⟨h, e⟩))]
      · rw [if_neg (fun h2 => h (inL_iff.1 h2)), if_neg (fun h2 => h (mem_lessOne.1 (inL_iff.1 h2)).1)]
  · by_cases e : j = i
    · subst e
      simp only [if_pos]
      refine ⟨?_, ⟨f.text.extract 0 m, m⟩, ⟨?_, ?_⟩, fun _ => hcut, fun hn => absurd dn_self hn⟩
      · rw [← (hps j hj).1, hv]
        cases fa with
        | none => rfl
        | some ad => rfl
      · rw [hg8.block _ (Array.getElem?_eq_some_iff.1 s7).1 (fun e => ne3 (by injection e))]
        simpa using s7
      · show OwnG w8 _ 1 (.slice fa m m) (f.text.extract 0 m).size (byteCells (f.text.extract 0 m))
        have h2 := hfa.2
        rw [hv] at h2
        have h3 := h2.take m m hmz (Nat.le_refl _) (by omega)
        rw [Nat.mul_one] at h3
        have hex : (f.text.extract 0 m).size = m := by rw [ByteArray.size_extract]; omega
        rw [hex, extract_take]
        refine h3.block fun k hk => ?_
        obtain ⟨cur, hc⟩ := h3.tag hk
        exact far k (h3.lt hk) (fun e => by rw [e, b2] at hc; cases hc) (fun e => by rw [e, hfi] at hc; injection hc with hc; injection hc with _ hc _; exact absurd hc (by decide)) (fun e => by rw [e, b3] at hc; cases hc)
    · simp only [if_neg e]
      obtain ⟨p1, g, p2, p3, p4⟩ := hps j hj
      refine ⟨p1, g, ⟨?_, p2.2.block fun k hk => ?_⟩, fun hd => p3 ((dn_other j e).1 hd), fun hd => p4 (fun h => hd ((dn_other j e).2 h))⟩
      · have hc := p2.1
        rw [far _ (Array.getElem?_eq_some_iff.1 hc).1 (fun e2 => by rw [e2, b2] at hc; cases hc) (fun e2 => e (hinj j i hj ⟨x, hsi⟩ e2)) (fun e2 => by rw [e2, b3] at hc; cases hc)]
        exact hc
      · obtain ⟨cur, hc⟩ := p2.2.tag hk
        exact far k (p2.2.lt hk) (fun e => by rw [e, b2] at hc; cases hc) (fun e => by rw [e, hfi] at hc; injection hc with hc; injection hc with _ hc _; exact absurd hc (by decide)) (fun e => by rw [e, b3] at hc; cases hc)
  · refine fr.trans' ⟨?_, ?_, ?_, ?_, fun k hk hn => far k hk (fun e => hn (.inr (.inl e))) (fun e => hn (.inr (.inr ⟨i, ⟨x, hsi⟩, e⟩))) (fun e => hn (.inl e))⟩
    · exact hg8.os.trans (g67.os.trans hg5.os)
    · exact hg8.tape.trans (g67.tape.trans hg5.tape)
    · exact hg8.output.trans (g67.output.trans hg5.output)
    · have := hg8.size; omega

set_option maxRecDepth 100000 in
set_option maxHeartbeats 2000000 in
theorem crash_c {w : World} {p : Nat} {S : St} {K : Nat → Prop} {N : Nat} (h : VRep w p S K N) (x y : Int) :
    Calls Tryd.prog 25 #[.pointer (some ⟨p, 0, none⟩), .int .i64 x, .int .i64 y] w fun e w' => e = .returned (.tuple #[]) ∧ VRep w' p (VfsS.crashS S x y) (Kx K w.heap.size w'.heap.size) N ∧ Only K w w' := by
  obtain ⟨bn, bs, av, φ, ψ, hX⟩ := h
  obtain ⟨aa, cc, hav, -, -, -⟩ := hX.1.acts.form
  have k2 : w.cell? ⟨p, 2, none⟩ = some (.slice aa S.acts.length cc) := by rw [cell_of hX.2.1, hav]; rfl
  have hcl : min (max x 0) (S.acts.length : Int) = ((VfsS.clampN x S.acts.length : Nat) : Int) := by unfold VfsS.clampN; omega
  have HF := Lib.hid (flush_c hX (VfsS.clampN x S.acts.length) (by unfold VfsS.clampN; omega))
  have HWC := Lib.hid (hX.1.wf.crash x y)
  have hkp := hX.2.2.1
  obtain ⟨T, hT⟩ : ∃ T, T = VfsS.flushS S (VfsS.clampN x S.acts.length) := ⟨_, rfl⟩
  have HC : Hid (VfsS.crashS S x y = { T with acts := [], now := T.sure, files := T.files.map (VfsS.cutF y), limit := -1 }) := by show _ = _; rw [hT]; rfl
  rw [← hT] at HF
  generalize VfsS.clampN x S.acts.length = m at *
  rw [HC.out] at HWC ⊢
  clear hav hX hT HC
  go_enter Tryd.func25, Tryd.ntmps25
  go_wp2_with fail
  refine HF.out.mono ?_
  rintro e w1 ⟨rfl, av1, ⟨hB, hp, -, hst⟩, ho1⟩
  obtain ⟨n2, hn2, m2⟩ := hB.sure
  obtain ⟨es2, cl2, b2⟩ := m2.isMap
  have hplt := (Array.getElem?_eq_some_iff.1 hp).1
  have hpb : p ≠ bs := fun e => by subst e; rw [hp] at b2; cases b2
  have f2 := frozen_of hp 2
  obtain ⟨aa1, cc1, hav1, -, -, -⟩ := hB.acts.form
  have k2' : w1.cell? ⟨p, 2, none⟩ = some (.slice aa1 T.acts.length cc1) := by rw [cell_of hp, hav1]; rfl
  obtain ⟨s3, g3⟩ := set_block hp 2 (.slice none 0 0)
  have hmm := fun (t : TypeId) (w : World) => run_makeMap (P := Tryd.prog) t w
  have s3b := ((World.grownBy_alloc (w1.setCell ⟨p, 2, none⟩ (.slice none 0 0)) (.map #[] 0) none).block p (Array.getElem?_eq_some_iff.1 s3).1 (by simp)).trans s3
  have k0 : ((w1.setCell ⟨p, 2, none⟩ (.slice none 0 0)).alloc (.map #[] 0)).cell? ⟨p, 0, none⟩ = some (.map (some bn)) := by rw [cell_of s3b]; rfl
  have f0 : ((w1.setCell ⟨p, 2, none⟩ (.slice none 0 0)).alloc (.map #[] 0)).frozen? ⟨p, 0, none⟩ = false := by simp only [World.frozen?, s3b]; rfl
  obtain ⟨s4, g4⟩ := set_block s3 0 (.map (some w1.heap.size))
  have hsA : ((w1.setCell ⟨p, 2, none⟩ (.slice none 0 0)).setCell ⟨p, 0, none⟩ (.map (some w1.heap.size))).heap.size = w1.heap.size := by simp [World.setCell]
  have gA : w1.grownBy ((w1.setCell ⟨p, 2, none⟩ (.slice none 0 0)).setCell ⟨p, 0, none⟩ (.map (some w1.heap.size))) (some p) := World.grownBy.andThen g3 g4 (fun j hj => .inr hj)
  have mA := MapG.made NC ((w1.setCell ⟨p, 2, none⟩ (.slice none 0 0)).setCell ⟨p, 0, none⟩ (.map (some w1.heap.size)))
  have mS := (m2.kept gA (fun e => hpb (by injection e with e; exact e.symm))).alloc (.map #[] 0)
  have gB := gA.andThen ((World.grownBy_alloc ((w1.setCell ⟨p, 2, none⟩ (.slice none 0 0)).setCell ⟨p, 0, none⟩ (.map (some w1.heap.size))) (.map #[] 0) none).but (some p)) (fun j hj => .inr hj)
  have s5 := ((World.grownBy_alloc ((w1.setCell ⟨p, 2, none⟩ (.slice none 0 0)).setCell ⟨p, 0, none⟩ (.map (some w1.heap.size))) (.map #[] 0) none).block p (Array.getElem?_eq_some_iff.1 s4).1 (by simp)).trans s4
  have hsB : (((w1.setCell ⟨p, 2, none⟩ (.slice none 0 0)).setCell ⟨p, 0, none⟩ (.map (some w1.heap.size))).alloc (.map #[] 0)).heap.size = w1.heap.size + 1 := by simp [World.setCell]
  rw [hsA] at mA
  have k1 : (((w1.setCell ⟨p, 2, none⟩ (.slice none 0 0)).setCell ⟨p, 0, none⟩ (.map (some w1.heap.size))).alloc (.map #[] 0)).cell? ⟨p, 1, none⟩ = some (.map (some bs)) := by rw [cell_of s5]; rfl
  have hr := fun z => nmF_mem φ T.sure z
  have hnd := hB.wf.ds
  have HB := Lib.hid hB
  have HS5 := Lib.hid s5
  have HP := Lib.hid hp
  clear hcl k2 hav1 hB hp s3 s3b s4 s5 g3 g4 gA hsA m2 b2
  go_wp2_with (at_range; refine wp_rangeG (C := NC) rfl _ rfl rfl mS (T.sure.map (·.1)) hr hnd ?_)
  intro w4 hrg hg4 hsz4 hcnt
  generalize (((w1.setCell ⟨p, 2, none⟩ (.slice none 0 0)).setCell ⟨p, 0, none⟩ (.map (some w1.heap.size))).alloc (.map #[] 0)) = W at *
  have hp5 := hg4.block p (by have := gB.size; omega) (by simp)
  rw [HS5.out] at hp5
  have hp4 : w4.heap[p]? = some (.cells #[.map (some w1.heap.size), .map (some bs), .slice none 0 0, .int .i64 T.room, .int .i64 T.steps, .int .i64 T.limit] 112 (0, 0)) := by simpa using hp5
  have hb14 : ∀ k, k < w1.heap.size → k ≠ p → w4.heap[k]? = w1.heap[k]? := fun k hk hn => by
    have := gB.size
    rw [hg4.block k (by omega) (by simp)]; exact gB.block k hk (fun e => hn (by injection e))
  have hfile : ∀ i, (∃ s, (s, i) ∈ T.sure) → FileAt w4 (φ i) (ψ i) (VfsS.fl T i) := fun i hi => by
    obtain ⟨f1, f2⟩ := HB.out.file i (.inr (.inl hi))
    have hpo : ∀ (k : Nat) (cs : Array Value) (e : TypeId), w1.heap[k]? = some (.cells cs e (0, 0)) → e ≠ 112 → w4.heap[k]? = w1.heap[k]? := fun k cs e hk he =>
      hb14 k (Array.getElem?_eq_some_iff.1 hk).1 (fun e2 => by
        subst e2
        rw [HP.out] at hk; injection hk with hk; injection hk with _ hk _; exact he hk.symm)
    exact ⟨(hpo _ _ _ f1 (by decide)).trans f1, f2.block fun k hk => by obtain ⟨cur, hc⟩ := f2.tag hk; exact hpo _ _ _ hc (by decide)⟩
  have hbl := HB.out.sure
  have hbsl : bs < w1.heap.size := by obtain ⟨_, _, m⟩ := HB.out.sure; exact m.lt
  have m4 : MapG NC w4 w1.heap.size 0 (fun s => if inL (T.sure.map (·.1)) s then none else nmF φ T.sure s) := by
    refine (mA.kept hg4 (by simp)).congr fun s => ?_
    by_cases h : inL (T.sure.map (·.1)) s = true
    · rw [if_pos h]
    · rw [if_neg h]
      cases hz : nmF φ T.sure s with
      | none => rfl
      | some _ => exact absurd (inL_iff.2 ((nmF_mem φ T.sure s).2 (by rw [hz]; rfl))) h
  have HI0 : Hid (CInv w4 w4 bs w1.heap.size (w1.heap.size + 1) n2 T y φ ψ (T.sure.map (·.1))) :=
    ⟨hrg, ⟨0, by omega, m4⟩, ⟨ψ, fun i hi => ⟨rfl, _, hfile i hi, fun ⟨s, h1, h2⟩ => absurd (List.mem_map.2 ⟨(s, i), h1, rfl⟩) h2, fun _ => rfl⟩⟩, Only.refl _ _⟩
  have HP4 := Lib.hid hp4
  have HB14 := Lib.hid hb14
  have HO14 : Hid (Only (fun _ => True) w1 w4) := ⟨hg4.os.trans gB.os, hg4.tape.trans gB.tape, hg4.output.trans gB.output, by have := gB.size; omega, fun k _ hn => absurd trivial hn⟩
  have hinj : Hid (∀ i j, (∃ s, (s, i) ∈ T.sure) → (∃ s, (s, j) ∈ T.sure) → φ i = φ j → i = j) := fun i j hi hj => HB.out.inj i j (.inr (.inl hi)) (.inr (.inl hj))
  have hokf : Hid (∀ i, (∃ s, (s, i) ∈ T.sure) → (VfsS.fl T i).dur ≤ (VfsS.fl T i).text.size ∧ (VfsS.fl T i).text.size ≤ 4194304) := fun i hi => file_ok HB.out.wf (.inr (.inl hi))
  have HND := Lib.hid hnd
  have hbn2 : w1.heap.size ≠ bs := by omega
  have hpw4 : p < w4.heap.size := by omega
  have HPF : Hid (∀ i, (∃ s, (s, i) ∈ T.sure) → p ≠ φ i) := fun i hi e => by
    have h1 := (hfile i hi).1
    rw [← e, HP4.out] at h1; injection h1 with h1; injection h1 with _ h1 _; exact absurd h1 (by decide)
  clear hrg hg4 hsz4 hcnt mA mS gB hsB k1 HS5 hp5 hp4 hb14 hfile m4 hr hnd k0 f0 hmm k2' f2 hbl
  go_wp2_with fail
  go_loopw [8] (fun _ wr => ∃ L, Hid (CInv w4 wr bs w1.heap.size (w1.heap.size + 1) n2 T y φ ψ L)) (fun _ wr => wr.rangeLeft bs (w1.heap.size + 1))
  case atStart => exact ⟨_, HI0⟩
  case round =>
    clear HI0
    obtain ⟨L, HI⟩ := hrel
    obtain ⟨nn, hnn, mnew⟩ := HI.out.new
    have hrn := HI.out.rng
    have hpr : wr.heap[p]? = some (.cells #[.map (some w1.heap.size), .map (some bs), .slice none 0 0, .int .i64 T.room, .int .i64 T.steps, .int .i64 T.limit] 112 (0, 0)) := by
      rw [HI.out.fr.block p hpw4 (fun e => by rcases e with e | e | ⟨i, hi, e⟩; · omega
                                              · omega
                                              · exact HPF.out i hi e)]
      exact HP4.out
    go_wp2_with (at_next; refine wp_nextG (C := NC) rfl _ rfl rfl hrn ?_ ?_)
    · intro hl
      subst hl
      have c5 : wr.cell? ⟨p, 5, none⟩ = some (.int .i64 T.limit) := by rw [cell_of hpr]; rfl
      have f5 := frozen_of hpr 5
      obtain ⟨s6, g6⟩ := set_block hpr 5 (.int .i64 (-1))
      have HS6 := Lib.hid s6
      have HG6 := Lib.hid g6
      have HNN := Lib.hid mnew
      have HRN := Lib.hid hrn
      clear hrn mnew hpr s6 g6
      go_wp2_with fail
      go_end0
      obtain ⟨ψ', hps⟩ := HI.out.fs
      have hwr : w1.heap.size + 1 < wr.heap.size := HRN.out.lt
      have hsz6 : wr.heap.size ≤ (wr.setCell ⟨p, 5, none⟩ (.int .i64 (-1))).heap.size := HG6.out.size
      have hww := ho1.size
      have dn : ∀ i, (∃ s, (s, i) ∈ T.sure) → Dn T [] i := fun i ⟨s, h⟩ => ⟨s, h, List.not_mem_nil⟩
      have hlv : ∀ i, VfsS.Live ({ T with acts := [], now := T.sure, files := T.files.map (VfsS.cutF y), limit := -1 } : St) i → ∃ s, (s, i) ∈ T.sure := by
        intro i hi
        rcases hi with ⟨s, h⟩ | ⟨s, h⟩ | ⟨a, h, _⟩
        · exact ⟨s, h⟩
        · exact ⟨s, h⟩
        · cases h
      have hfl : ∀ i, (∃ s, (s, i) ∈ T.sure) → VfsS.fl ({ T with acts := [], now := T.sure, files := T.files.map (VfsS.cutF y), limit := -1 } : St) i = VfsS.cutF y (VfsS.fl T i) := by
        intro i hi
        have hlt := HB.out.wf.idx i (.inr (.inl hi))
        unfold VfsS.fl
        rw [List.getD_eq_getElem?_getD, List.getD_eq_getElem?_getD, List.getElem?_map, List.getElem?_eq_getElem hlt]; rfl
      have kmono : ∀ k, Kx K w.heap.size w1.heap.size k → Kx K w.heap.size (wr.setCell ⟨p, 5, none⟩ (.int .i64 (-1))).heap.size k := fun k hk => hk.mono (Nat.le_refl _) (by omega)
      have hB6 : VB wr (Kx K w.heap.size (wr.setCell ⟨p, 5, none⟩ (.int .i64 (-1))).heap.size) N ({ T with acts := [], now := T.sure, files := T.files.map (VfsS.cutF y), limit := -1 } : St) w1.heap.size bs (.slice none 0 0) φ ψ' := by
        refine ⟨⟨nn, by omega, HNN.out.congr fun s => rfl⟩, ⟨n2, by show n2 + 0 ≤ N; omega, HRN.out.map⟩, OwnG.nil _ _ _, fun i hi => ?_, hbn2, fun i j hi hj => hinj.out i j (hlv i hi) (hlv j hj), fun i j k hi hj hij => ?_, .inr ⟨hww, by omega⟩, kmono _ HB.out.ks, (fun k hk => by cases hk), fun i hi => kmono _ (HB.out.kf i (.inr (.inl (hlv i hi)))), fun i k hi hk => ?_, HWC.out, ?_, HB.out.big⟩
        · obtain ⟨_, f, hfa, hf, _⟩ := hps i (hlv i hi)
          rw [hfl i (hlv i hi), ← hf (dn i (hlv i hi))]
          exact hfa
        · rw [(hps i (hlv i hi)).1, (hps j (hlv j hj)).1]
          exact HB.out.apart i j k (.inr (.inl (hlv i hi))) (.inr (.inl (hlv j hj))) hij
        · rw [(hps i (hlv i hi)).1] at hk
          exact kmono _ (HB.out.kb i k (.inr (.inl (hlv i hi))) hk)
        · show (T.files.map _).length ≤ N
          rw [List.length_map]; exact HB.out.len
      refine ⟨rfl, ⟨w1.heap.size, bs, .slice none 0 0, φ, ψ', ?_, ?_, .inl hkp, hst⟩, ?_⟩
      · refine hB6.other (p := p) (cs := #[.map (some w1.heap.size), .map (some bs), .slice none 0 0, .int .i64 T.room, .int .i64 T.steps, .int .i64 T.limit]) (e := 112) (fr := (0, 0)) ?_ (by decide) HG6.out
        rw [HI.out.fr.block p hpw4 (fun e => by rcases e with e | e | ⟨i, hi, e⟩; · omega
                                                · omega
                                                · exact HPF.out i hi e)]
        exact HP4.out
      · show (wr.setCell ⟨p, 5, none⟩ (.int .i64 (-1))).heap[p]? = some (.cells #[.map (some w1.heap.size), .map (some bs), .slice none 0 0, .int .i64 T.room, .int .i64 T.steps, .int .i64 (-1)] 112 (0, 0))
        simpa using HS6.out
      · refine ho1.trans ⟨?_, ?_, ?_, by omega, fun k hk hn => ?_⟩
        · exact HG6.out.os.trans (HI.out.fr.os.trans HO14.out.os)
        · exact HG6.out.tape.trans (HI.out.fr.tape.trans HO14.out.tape)
        · exact HG6.out.output.trans (HI.out.fr.output.trans HO14.out.output)
        · have hkp2 : k ≠ p := fun e => hn (.inl (by rw [e]; exact hkp))
          rw [HG6.out.block k (by omega) (fun e => hkp2 (by injection e)), HI.out.fr.block k (by have := HO14.out.size; omega) (fun e => by
            rcases e with e | e | ⟨i, hi, e⟩
            · omega
            · omega
            · exact hn (by rw [e]; exact HB.out.kf i (.inr (.inl hi))))]
          exact HB14.out k hk hkp2
    · intro x c w5 hx hF hxk _ hr5 hlt hg5 hsz5 hen
      obtain ⟨i, hi, rfl⟩ : ∃ i, find T.sure x = some i ∧ c = some (φ i) := by
        unfold nmF at hF
        rw [Option.map_eq_some_iff] at hF
        obtain ⟨i, h1, h2⟩ := hF
        exact ⟨i, h1, h2.symm⟩
      have hsi : ∃ s, (s, i) ∈ T.sure := ⟨x, VfsS.find_mem hi⟩
      have hen2 : (Instr.entry (.pointer (some ⟨w1.heap.size + 1, 0, none⟩))).run Tryd.prog w5 = .ok (.tuple #[.string x, .pointer (some ⟨φ i, 0, none⟩)]) w5 := hen
      obtain ⟨ψ', hps⟩ := HI.out.fs
      obtain ⟨-, f, hfa, hd1, hd2⟩ := hps i hsi
      obtain ⟨fa, fc, hpsi, hfc, -, -⟩ := hfa.2.form
      obtain ⟨i1, i2, i3, i4, bit⟩ := hrn.iter
      have ne1 : φ i ≠ w1.heap.size + 1 := fun e => by have := hfa.1; rw [e, bit] at this; cases this
      have npr : p ≠ w1.heap.size + 1 := by omega
      have f5 : w5.heap[φ i]? = some (.cells #[ψ' i, .int .i64 f.dur] 130 (0, 0)) := (hg5.block _ (Array.getElem?_eq_some_iff.1 hfa.1).1 (fun e => ne1 (by injection e))).trans hfa.1
      have p5 := (hg5.block p (Array.getElem?_eq_some_iff.1 hpr).1 (fun e => npr (by injection e))).trans hpr
      have mn5 : MapG NC w5 w1.heap.size nn (fun s => if inL L s then none else nmF φ T.sure s) := mnew.kept hg5 (fun e => by injection e with e; omega)
      have hfok : f.dur ≤ f.text.size ∧ f.text.size ≤ 4194304 := by
        by_cases hd : Dn T L i
        · rw [hd1 hd]; have := VfsS.cutF_ok (hokf.out i hsi) y; omega
        · rw [hd2 hd]; exact hokf.out i hsi
      obtain ⟨m, hm⟩ : ∃ m, m = f.dur + VfsS.clampN y (f.text.size - f.dur) := ⟨_, rfl⟩
      have hmz : m ≤ f.text.size := by rw [hm]; unfold VfsS.clampN; omega
      have k0 : w5.cell? ⟨φ i, 0, none⟩ = some (.slice fa f.text.size fc) := by rw [cell_of f5, hpsi]; rfl
      have k1 : w5.cell? ⟨φ i, 1, none⟩ = some (.int .i64 f.dur) := by rw [cell_of f5]; rfl
      have hw1 : IntKind.i64.wrap ((f.text.size : Int) - (f.dur : Int)) = ((f.text.size - f.dur : Nat) : Int) := by rw [IntWalk.i64_in _ (by omega)]; omega
      have hcl : min (max y 0) ((f.text.size - f.dur : Nat) : Int) = ((VfsS.clampN y (f.text.size - f.dur) : Nat) : Int) := by unfold VfsS.clampN; omega
      have hw2 : IntKind.i64.wrap ((f.dur : Int) + ((VfsS.clampN y (f.text.size - f.dur) : Nat) : Int)) = (m : Int) := by rw [IntWalk.i64_in _ (by unfold VfsS.clampN; omega)]; omega
      have HPSI := Lib.hid hpsi
      have HM := Lib.hid hm
      have HI2 := Lib.hid hi
      have HD := Lib.hid (And.intro hd1 hd2)
      clear hm hpsi hi hd1 hd2 hF hen bit i1 i2 i3 i4 hrn
      obtain ⟨cl, hcl2⟩ : ∃ cl, cl = VfsS.clampN y (f.text.size - f.dur) := ⟨_, rfl⟩
      rw [← hcl2] at hcl hw2
      clear hcl2
      have hbig := HB.out.big
      have hmc : m ≤ fc := by omega
      have hpfi := HPF.out i hsi
      have mn6 : MapG NC wr w1.heap.size nn (fun s => if inL L s then none else nmF φ T.sure s) := mnew
      have ne3 : φ i ≠ w1.heap.size := fun e => by
        obtain ⟨es, cl3, b3⟩ := mnew.isMap
        have := hfa.1; rw [e, b3] at this; cases this
      have hn28 : nn < maxLen := by simp only [maxLen]; omega
      clear mnew hpr
      go_wp2_with fail
      go_quiet (fail)
      have F5 : (w5.drewN nq).heap[φ i]? = some (.cells #[ψ' i, .int .i64 f.dur] 130 (0, 0)) := f5
      obtain ⟨s6, g6⟩ := set_block F5 0 (.slice fa m m)
      obtain ⟨s7, g7⟩ := set_block s6 1 (.int .i64 m)
      have fz0 := frozen_of F5 0
      have fz1 := frozen_of s6 1
      have kk0 : (w5.drewN nq).cell? ⟨φ i, 0, none⟩ = some (.slice fa f.text.size fc) := k0
      have k1b : ((w5.drewN nq).setCell ⟨φ i, 0, none⟩ (.slice fa m m)).cell? ⟨φ i, 1, none⟩ = some (.int .i64 f.dur) := by rw [cell_of s6]; rfl
      have g67 : (w5.drewN nq).grownBy (((w5.drewN nq).setCell ⟨φ i, 0, none⟩ (.slice fa m m)).setCell ⟨φ i, 1, none⟩ (.int .i64 m)) (some (φ i)) := World.grownBy.andThen g6 g7 (fun j hj => .inr hj)
      have mn7 := (mn5.drewN nq).kept g67 (fun e => ne3 (by injection e with e; exact e.symm))
      have p7 := (g67.block p (show p < (w5.drewN nq).heap.size from (Array.getElem?_eq_some_iff.1 p5).1) (fun e => hpfi (by injection e))).trans (show (w5.drewN nq).heap[p]? = _ from p5)
      have kp7 : (((w5.drewN nq).setCell ⟨φ i, 0, none⟩ (.slice fa m m)).setCell ⟨φ i, 1, none⟩ (.int .i64 m)).cell? ⟨p, 0, none⟩ = some (.map (some w1.heap.size)) := by rw [cell_of p7]; rfl
      clear f5 F5 s6 s7 g6 g7 g67 p7 p5 k0 k1 hw1 hw2 hcl mn5
      go_wp2_with (at_mapUpdate; refine wp_putG (C := NC) rfl _ _ _ rfl rfl mn7 x (some (φ i)) rfl rfl hxk trivial hn28 ?_)
      intro w8 h8 hg8
      obtain ⟨r1, r2⟩ := HI.out.step HND.out hinj.out (hokf.out i hsi).1 hx HI2.out hps hfa HD.out.1 HD.out.2 hr5 hlt hg5 HM.out hmz HPSI.out hfc hnn h8 hg8 hbn2
      have R1 := Lib.hid r1
      clear r1
      go_wp2_with fail
      go_roundw
      case rel => exact ⟨_, R1⟩
      case measure => exact r2
end Go.Proofs.YtfoamcobpfflbaaDoor
