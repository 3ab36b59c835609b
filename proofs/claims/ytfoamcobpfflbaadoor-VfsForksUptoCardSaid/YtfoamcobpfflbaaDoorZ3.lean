/- Texts of mine, joined: How a file system lies in memory; its small helpers walked. | Walks of the file system's inner functions: a change of names, a copy of bytes, reading. | A one-element append as a step of a region that draws its order. Of every program. | Walks of what a file system tells: how many bytes there are, how many are left, a file's bytes. | Walks: a new file system; a change of names. -/
import Derived.BigQuiet
import Derived.Deep.QuietTactic
import Derived.Lib.Bytes
import Derived.Deep.RegionHeld3
import Derived.Deep.RegionLaw
import Derived.Test.YtfoamcobpfflbaaDoorZ2
namespace Go.Proofs.YtfoamcobpfflbaaDoor
open Go Go.RowKit Go.Maps
open VfsS (File Chg Nm St find doL)

def ptrV (o : Option Nat) : Value := .pointer (o.map fun b => ⟨b, 0, none⟩)
def ptrD (o : Option Nat) : DataW Unit := match o with | none => .nil | some b => .lit (.int .i64 b)
def ptrR (v : Value) : Option (DataW Unit × List MemPlace) := match v with
  | .pointer none => some (.nil, [])
  | .pointer (some ⟨b, 0, none⟩) => some (.lit (.int .i64 b), [])
  | _ => none

theorem ptrR_mk (o : Option Nat) : ptrR (ptrV o) = some (ptrD o, []) := by cases o <;> rfl
theorem ptrR_inv {v : Value} {y : DataW Unit × List MemPlace} (h : ptrR v = some y) : ∃ o, v = ptrV o ∧ y = (ptrD o, []) := by
  unfold ptrR at h
  split at h
  · injection h with h; exact ⟨none, rfl, h.symm⟩
  · rename_i b; injection h with h; exact ⟨some b, rfl, h.symm⟩
  · cases h
theorem ptrD_inj {a b : Option Nat} (h : ptrD a = ptrD b) : a = b := by
  cases a <;> cases b <;> simp [ptrD] at h
  · rfl
  · rw [show _ = _ from Int.ofNat_inj.1 h]

theorem str_lit_inj {x y : ByteArray} (h : Lit.string x.data.toList = .string y.data.toList) : x = y := by
  injection h with h
  exact PathS.ba_ext h

/-- Maps from names to files. -/
def NC : MC Tryd.prog 109 9 128 ByteArray (Option Nat) where
  mkK := Value.string
  lit s := .string s.data.toList
  okK s := s.size ≤ maxLen
  mkE := ptrV
  dt := ptrD
  ok _ := True
  z0 := none
  R := ptrR
  keyed := string_keyed Tryd.underlying9
  under := Tryd.underlying109
  key x hx := WideMaps.keyOf_string_mk Tryd.underlying9 hx
  keyInv v l h := by
    obtain ⟨s, h1, h2, h3⟩ := WideMaps.string_of_keyOf Tryd.underlying9 h
    exact ⟨s, h1, h2, h3⟩
  litInj _ _ _ _ h := str_lit_inj h
  el a _ := ptrR_mk a
  elInv v y h := by obtain ⟨o, h1, h2⟩ := ptrR_inv h; exact ⟨o, h1, h2, trivial⟩
  dtInj _ _ _ _ h := ptrD_inj h
  zero w := Tryd.zeroValue128 w
  okz := trivial

/-- Names as a function. -/
def nmF (φ : Nat → Nat) (l : Nm) (s : ByteArray) : Option (Option Nat) := (find l s).map fun i => some (φ i)

theorem nmF_mem (φ : Nat → Nat) (l : Nm) (s : ByteArray) : s ∈ l.map (·.1) ↔ (nmF φ l s).isSome = true := by
  rw [← VfsS.find_some_iff, nmF, Option.isSome_map]

/-- A change of names as cells. -/
def encA (φ : Nat → Nat) (a : Chg) : List Value := [.string a.src, .string a.dst, ptrV (a.file.map φ)]
def arow (φ : Nat → Nat) (l : List Chg) : List Value := l.flatMap (encA φ)

theorem arow_len (φ : Nat → Nat) (l : List Chg) : (arow φ l).length = l.length * 3 := by
  induction l with
  | nil => rfl
  | cons x l ih => rw [arow, List.flatMap_cons, List.length_append, show (encA φ x).length = 3 from rfl, show (l.flatMap (encA φ)).length = _ from ih, List.length_cons]; omega

theorem arow_snoc (φ : Nat → Nat) (l : List Chg) (a : Chg) : arow φ (l ++ [a]) = arow φ l ++ encA φ a := by simp [arow]

theorem arow_drop (φ : Nat → Nat) (l : List Chg) (n : Nat) : (arow φ l).drop (n * 3) = arow φ (l.drop n) := by
  induction l generalizing n with
  | nil => simp [arow]
  | cons x l ih =>
    cases n with
    | zero => simp
    | succ n =>
      rw [List.drop_succ_cons, ← ih n, show arow φ (x :: l) = encA φ x ++ arow φ l from rfl, show (n + 1) * 3 = (encA φ x).length + n * 3 by rw [show (encA φ x).length = 3 from rfl]; omega, List.drop_append, List.drop_eq_nil_of_le (by omega), List.nil_append]
      congr 1; omega

theorem arow_at (φ : Nat → Nat) (l : List Chg) (j : Nat) (hj : j < l.length) : (arow φ l)[j * 3]? = some (.string l[j].src) ∧ (arow φ l)[j * 3 + 1]? = some (.string l[j].dst) ∧ (arow φ l)[j * 3 + 2]? = some (ptrV (l[j].file.map φ)) := by
  have h : (arow φ l).drop (j * 3) = encA φ l[j] ++ arow φ (l.drop (j + 1)) := by
    rw [arow_drop, List.drop_eq_getElem_cons hj, arow, List.flatMap_cons]; rfl
  have g : ∀ i, (arow φ l)[j * 3 + i]? = (encA φ l[j] ++ arow φ (l.drop (j + 1)))[i]? := fun i => by rw [← h, List.getElem?_drop]
  exact ⟨by have := g 0; simpa [encA] using this, by have := g 1; simpa [encA] using this, by have := g 2; simpa [encA] using this⟩

theorem arow_congr {φ χ : Nat → Nat} {l : List Chg} (h : ∀ a ∈ l, ∀ i, a.file = some i → φ i = χ i) : arow φ l = arow χ l := by
  induction l with
  | nil => rfl
  | cons x l ih =>
    have e : encA φ x = encA χ x := by
      unfold encA
      cases hx : x.file with
      | none => rfl
      | some i => simp only [Option.map_some, h x (by simp) i hx]
    rw [arow, List.flatMap_cons, e, show l.flatMap (encA φ) = l.flatMap (encA χ) from ih fun a ha => h a (by simp [ha])]; rfl

theorem nmF_congr {φ χ : Nat → Nat} {l : Nm} (h : ∀ s i, (s, i) ∈ l → φ i = χ i) (x : ByteArray) : nmF φ l x = nmF χ l x := by
  unfold nmF
  cases hx : find l x with
  | none => rfl
  | some i => simp only [Option.map_some, h x i (VfsS.find_mem hx)]

/-- A file's cells and its bytes. -/
def FileAt (w : World) (b : Nat) (v : Value) (f : File) : Prop :=
  w.heap[b]? = some (.cells #[v, .int .i64 f.dur] 130 (0, 0)) ∧ OwnG w 5 1 v f.text.size (byteCells f.text)

/-- The parts of a file system that lie behind its own block. -/
structure VB (w : World) (K : Nat → Prop) (N : Nat) (S : St) (bn bs : Nat) (av : Value) (φ : Nat → Nat) (ψ : Nat → Value) : Prop where
  now : ∃ n, n ≤ N ∧ MapG NC w bn n (nmF φ S.now)
  sure : ∃ n, n + S.acts.length ≤ N ∧ MapG NC w bs n (nmF φ S.sure)
  acts : OwnG w 150 3 av S.acts.length (arow φ S.acts)
  file : ∀ i, VfsS.Live S i → FileAt w (φ i) (ψ i) (VfsS.fl S i)
  ne : bn ≠ bs
  inj : ∀ i j, VfsS.Live S i → VfsS.Live S j → φ i = φ j → i = j
  apart : ∀ i j k, VfsS.Live S i → VfsS.Live S j → i ≠ j → (ψ i).ownBlock = some k → (ψ j).ownBlock ≠ some k
  kn : K bn
  ks : K bs
  ka : ∀ k, av.ownBlock = some k → K k
  kf : ∀ i, VfsS.Live S i → K (φ i)
  kb : ∀ i k, VfsS.Live S i → (ψ i).ownBlock = some k → K k
  wf : VfsS.Wf S
  len : S.files.length ≤ N
  big : N ≤ 100000000

/-- Behind the pointer to block p lies the file system S; all its blocks are in K. -/
def VX (w : World) (p : Nat) (S : St) (K : Nat → Prop) (N : Nat) (bn bs : Nat) (av : Value) (φ : Nat → Nat) (ψ : Nat → Value) : Prop :=
  VB w K N S bn bs av φ ψ ∧ w.heap[p]? = some (.cells #[.map (some bn), .map (some bs), av, .int .i64 S.room, .int .i64 S.steps, .int .i64 S.limit] 112 (0, 0)) ∧ K p ∧ (S.steps ≤ N)

/-- .. whatever its parts. -/
def VRep (w : World) (p : Nat) (S : St) (K : Nat → Prop) (N : Nat) : Prop := ∃ bn bs av φ ψ, VX w p S K N bn bs av φ ψ

/-- Nothing but K's blocks and new ones has turned. -/
structure Only (K : Nat → Prop) (w w' : World) : Prop where
  os : w'.os = w.os
  tape : w'.tape = w.tape
  output : w'.output = w.output
  size : w.heap.size ≤ w'.heap.size
  block : ∀ k, k < w.heap.size → ¬ K k → w'.heap[k]? = w.heap[k]?

theorem Only.refl (K : Nat → Prop) (w : World) : Only K w w := ⟨rfl, rfl, rfl, Nat.le_refl _, fun _ _ _ => rfl⟩
theorem Only.of_below {K : Nat → Prop} {w w' : World} (h : Below w.heap.size w w') : Only K w w' := ⟨h.os, h.tape, h.output, h.size, fun k hk _ => h.block k hk⟩
theorem Only.of_grown {K : Nat → Prop} {w w' : World} {row : Option Nat} (h : w.grownBy w' row) (hr : ∀ k, row = some k → K k) : Only K w w' :=
  ⟨h.os, h.tape, h.output, h.size, fun k hk hn => h.block k hk (fun e => hn (hr k e.symm))⟩
theorem Only.drewN {K : Nat → Prop} {w w' : World} (h : Only K w w') (q : Nat) : Only K w (w'.drewN q) := ⟨h.os, h.tape, h.output, h.size, h.block⟩

/-- What the walk owns grows by what is new. -/
def Kx (K : Nat → Prop) (a b : Nat) : Nat → Prop := fun k => K k ∨ (a ≤ k ∧ k < b)

theorem Only.trans {K : Nat → Prop} {a b c : World} (h : Only K a b) (k : Only (Kx K a.heap.size b.heap.size) b c) : Only K a c :=
  ⟨k.os.trans h.os, k.tape.trans h.tape, k.output.trans h.output, Nat.le_trans h.size k.size, fun i hi hn => by
    rw [k.block i (Nat.lt_of_lt_of_le hi h.size) (fun e => e.elim hn fun e => by omega)]
    exact h.block i hi hn⟩

theorem Only.trans' {K : Nat → Prop} {a b c : World} (h : Only K a b) (k : Only K b c) : Only K a c :=
  ⟨k.os.trans h.os, k.tape.trans h.tape, k.output.trans h.output, Nat.le_trans h.size k.size, fun i hi hn => (k.block i (Nat.lt_of_lt_of_le hi h.size) hn).trans (h.block i hi hn)⟩

theorem VB.blocks {w w' : World} {K : Nat → Prop} {N : Nat} {S : St} {bn bs : Nat} {av : Value} {φ : Nat → Nat} {ψ : Nat → Value} (h : VB w K N S bn bs av φ ψ)
    (h1 : w'.heap[bn]? = w.heap[bn]?) (h2 : w'.heap[bs]? = w.heap[bs]?) (h3 : ∀ k, av.ownBlock = some k → w'.heap[k]? = w.heap[k]?) (h4 : ∀ i, VfsS.Live S i → w'.heap[φ i]? = w.heap[φ i]?) (h5 : ∀ i k, VfsS.Live S i → (ψ i).ownBlock = some k → w'.heap[k]? = w.heap[k]?) : VB w' K N S bn bs av φ ψ :=
  { h with
    now := by obtain ⟨n, hn, hm⟩ := h.now; exact ⟨n, hn, hm.block h1⟩
    sure := by obtain ⟨n, hn, hm⟩ := h.sure; exact ⟨n, hn, hm.block h2⟩
    acts := h.acts.block h3
    file := fun i hi => ⟨(h4 i hi).trans (h.file i hi).1, (h.file i hi).2.block fun k hk => h5 i k hi hk⟩ }

theorem VB.lt {w : World} {K : Nat → Prop} {N : Nat} {S : St} {bn bs : Nat} {av : Value} {φ : Nat → Nat} {ψ : Nat → Value} (h : VB w K N S bn bs av φ ψ) {i : Nat} (hi : VfsS.Live S i) : φ i < w.heap.size := (Array.getElem?_eq_some_iff.1 (h.file i hi).1).1

/-- Where a block p of cells of another type is turned, all stays. -/
theorem VB.other {w w' : World} {K : Nat → Prop} {N : Nat} {S : St} {bn bs : Nat} {av : Value} {φ : Nat → Nat} {ψ : Nat → Value} (h : VB w K N S bn bs av φ ψ) {p : Nat} {cs : Array Value} {e : TypeId} {fr : Nat × Nat} (hp : w.heap[p]? = some (.cells cs e fr))
    (he : e ≠ 150 ∧ e ≠ 130 ∧ e ≠ 5) (hg : w.grownBy w' (some p)) : VB w' K N S bn bs av φ ψ := by
  obtain ⟨n1, -, m1⟩ := h.now
  obtain ⟨n2, -, m2⟩ := h.sure
  obtain ⟨es1, c1, b1⟩ := m1.isMap
  obtain ⟨es2, c2, b2⟩ := m2.isMap
  have key : ∀ k o, w.heap[k]? = some o → (∀ (cs' : Array Value) (fr' : Nat × Nat), o ≠ Obj.cells cs' e fr') → w'.heap[k]? = w.heap[k]? := fun k o hk ho =>
    hg.block k (Array.getElem?_eq_some_iff.1 hk).1 (fun e1 => by injection e1 with e1; subst e1; rw [hp] at hk; injection hk with hk; exact ho _ _ hk.symm)
  refine h.blocks (key _ _ b1 (by intros; simp)) (key _ _ b2 (by intros; simp)) (fun k hk => ?_) (fun i hi => key _ _ (h.file i hi).1 (by intro _ _ e1; injection e1 with _ e1 _; exact he.2.1 e1.symm)) (fun i k hi hk => ?_)
  · obtain ⟨cur, hc⟩ := h.acts.tag hk
    exact key _ _ hc (by intro _ _ e1; injection e1 with _ e1 _; exact he.1 e1.symm)
  · obtain ⟨cur, hc⟩ := (h.file i hi).2.tag hk
    exact key _ _ hc (by intro _ _ e1; injection e1 with _ e1 _; exact he.2.2 e1.symm)

theorem VB.grown0 {w w' : World} {K : Nat → Prop} {N : Nat} {S : St} {bn bs : Nat} {av : Value} {φ : Nat → Nat} {ψ : Nat → Value} (h : VB w K N S bn bs av φ ψ) (hb : Below w.heap.size w w') : VB w' K N S bn bs av φ ψ := by
  obtain ⟨n1, -, m1⟩ := h.now
  obtain ⟨n2, -, m2⟩ := h.sure
  exact h.blocks (hb.block _ m1.lt) (hb.block _ m2.lt) (fun k hk => hb.block k (h.acts.lt hk)) (fun i hi => hb.block _ (h.lt hi)) (fun i k hi hk => hb.block k ((h.file i hi).2.lt hk))

theorem VB.mono {w : World} {K K' : Nat → Prop} {N N' : Nat} {S : St} {bn bs : Nat} {av : Value} {φ : Nat → Nat} {ψ : Nat → Value} (h : VB w K N S bn bs av φ ψ) (hK : ∀ k, K k → K' k) (hN : N ≤ N') (hb : N' ≤ 100000000) : VB w K' N' S bn bs av φ ψ :=
  { h with
    now := by obtain ⟨n, hn, hm⟩ := h.now; exact ⟨n, by omega, hm⟩
    sure := by obtain ⟨n, hn, hm⟩ := h.sure; exact ⟨n, by omega, hm⟩
    kn := hK _ h.kn
    ks := hK _ h.ks
    ka := fun k hk => hK _ (h.ka k hk)
    kf := fun i hi => hK _ (h.kf i hi)
    kb := fun i k hi hk => hK _ (h.kb i k hi hk)
    len := by have := h.len; omega
    big := hb }

theorem VX.keep {w w' : World} {p : Nat} {S : St} {K : Nat → Prop} {N : Nat} {bn bs : Nat} {av : Value} {φ : Nat → Nat} {ψ : Nat → Value} (h : VX w p S K N bn bs av φ ψ) (hk : ∀ k, k < w.heap.size → K k → w'.heap[k]? = w.heap[k]?) : VX w' p S K N bn bs av φ ψ := by
  obtain ⟨hB, hp, hkp, hs⟩ := h
  obtain ⟨n1, -, m1⟩ := hB.now
  obtain ⟨n2, -, m2⟩ := hB.sure
  refine ⟨hB.blocks (hk _ m1.lt hB.kn) (hk _ m2.lt hB.ks) (fun k h1 => hk k (hB.acts.lt h1) (hB.ka k h1)) (fun i hi => hk _ (hB.lt hi) (hB.kf i hi)) (fun i k hi h1 => hk k ((hB.file i hi).2.lt h1) (hB.kb i k hi h1)), ?_, hkp, hs⟩
  rw [hk p (Array.getElem?_eq_some_iff.1 hp).1 hkp]; exact hp

theorem VX.below {w w' : World} {p : Nat} {S : St} {K : Nat → Prop} {N : Nat} {bn bs : Nat} {av : Value} {φ : Nat → Nat} {ψ : Nat → Value} (h : VX w p S K N bn bs av φ ψ) (hb : Below w.heap.size w w') : VX w' p S K N bn bs av φ ψ := h.keep fun k hk _ => hb.block k hk

/-- With K's blocks untouched the file system is as it was. -/
theorem VRep.keep {w w' : World} {p : Nat} {S : St} {K : Nat → Prop} {N : Nat} (h : VRep w p S K N) (hk : ∀ k, k < w.heap.size → K k → w'.heap[k]? = w.heap[k]?) : VRep w' p S K N := by
  obtain ⟨bn, bs, av, φ, ψ, hB, hp, hkp, hs⟩ := h
  obtain ⟨n1, -, m1⟩ := hB.now
  obtain ⟨n2, -, m2⟩ := hB.sure
  refine ⟨bn, bs, av, φ, ψ, hB.blocks (hk _ m1.lt hB.kn) (hk _ m2.lt hB.ks) (fun k h1 => hk k (hB.acts.lt h1) (hB.ka k h1)) (fun i hi => hk _ (hB.lt hi) (hB.kf i hi)) (fun i k hi h1 => hk k ((hB.file i hi).2.lt h1) (hB.kb i k hi h1)), ?_, hkp, hs⟩
  rw [hk p (Array.getElem?_eq_some_iff.1 hp).1 hkp]; exact hp

theorem VRep.below {w w' : World} {p : Nat} {S : St} {K : Nat → Prop} {N : Nat} (h : VRep w p S K N) (hb : Below w.heap.size w w') : VRep w' p S K N := h.keep fun k hk _ => hb.block k hk

theorem VRep.drewN {w : World} {p : Nat} {S : St} {K : Nat → Prop} {N : Nat} (h : VRep w p S K N) (q : Nat) : VRep (w.drewN q) p S K N := h.below (below_dN (Below.refl _ _) q)

theorem VRep.mono {w : World} {p : Nat} {S : St} {K K' : Nat → Prop} {N N' : Nat} (h : VRep w p S K N) (hK : ∀ k, K k → K' k) (hN : N ≤ N') (hb : N' ≤ 100000000) : VRep w p S K' N' := by
  obtain ⟨bn, bs, av, φ, ψ, hB, hp, hkp, hs⟩ := h
  exact ⟨bn, bs, av, φ, ψ, hB.mono hK hN hb, hp, hK _ hkp, by omega⟩

theorem VRep.wf {w : World} {p : Nat} {S : St} {K : Nat → Prop} {N : Nat} (h : VRep w p S K N) : VfsS.Wf S := by obtain ⟨_, _, _, _, _, hB, _⟩ := h; exact hB.wf
theorem VRep.big {w : World} {p : Nat} {S : St} {K : Nat → Prop} {N : Nat} (h : VRep w p S K N) : N ≤ 100000000 := by obtain ⟨_, _, _, _, _, hB, _⟩ := h; exact hB.big

theorem cell_of {w : World} {p : Nat} {cs : Array Value} {e : TypeId} {fr : Nat × Nat} (h : w.heap[p]? = some (.cells cs e fr)) (j : Nat) : w.cell? ⟨p, j, none⟩ = cs[j]? := by simp [World.cell?, h]

/-- A cell of a block of the walk's own is stored. -/
theorem set_block {w : World} {p : Nat} {cs : Array Value} {e : TypeId} {fr : Nat × Nat} (h : w.heap[p]? = some (.cells cs e fr)) (j : Nat) (v : Value) :
    (w.setCell ⟨p, j, none⟩ v).heap[p]? = some (.cells (cs.setIfInBounds j v) e fr) ∧ w.grownBy (w.setCell ⟨p, j, none⟩ v) (some p) := by
  refine ⟨by simp [World.setCell, Array.getElem?_modify, h], rfl, rfl, rfl, by simp [World.setCell], fun k hk hne => ?_⟩
  simp only [World.setCell]
  rw [Array.getElem?_modify, if_neg (fun e1 => hne (by rw [e1]))]

theorem frozen_of {w : World} {p : Nat} {cs : Array Value} {e : TypeId} (h : w.heap[p]? = some (.cells cs e (0, 0))) (j : Nat) : w.frozen? ⟨p, j, none⟩ = false := by simp [World.frozen?, h]

set_option maxRecDepth 100000 in
theorem step_c {w : World} {p : Nat} {S : St} {K : Nat → Prop} {N : Nat} {bn bs : Nat} {av : Value} {φ : Nat → Nat} {ψ : Nat → Value} (h : VX w p S K N bn bs av φ ψ) (hN : N + 1 ≤ 100000000) :
    Calls Tryd.prog 62 #[.pointer (some ⟨p, 0, none⟩)] w fun e w' => e = .returned (.int .i64 (if S.limit = 0 then 190 else 0)) ∧ VX w' p (VfsS.stepS S) K (N + 1) bn bs av φ ψ ∧ w.grownBy w' (some p) := by
  obtain ⟨hB, hp, hkp, hs⟩ := h
  have hl := hB.wf.lim
  have c4 : w.cell? ⟨p, 4, none⟩ = some (.int .i64 S.steps) := by rw [cell_of hp]; rfl
  have c5 : w.cell? ⟨p, 5, none⟩ = some (.int .i64 S.limit) := by rw [cell_of hp]; rfl
  have f4 := frozen_of hp 4
  have f5 := frozen_of hp 5
  have hw1 : IntKind.i64.wrap ((S.steps : Int) + 1) = ((S.steps + 1 : Nat) : Int) := IntWalk.i64_in _ (by omega)
  have hlt := (Array.getElem?_eq_some_iff.1 hp).1
  by_cases h0 : S.limit = 0
  · have HS : Hid (VfsS.stepS S = S) := by show _ = _; unfold VfsS.stepS; rw [if_pos h0]
    have hd : (S.limit == 0) = true := by rw [h0]; rfl
    have HB := Lib.hid (hB.mono (K' := K) (N' := N + 1) (fun _ h => h) (by omega) hN)
    rw [if_pos h0]
    have HP := Lib.hid hp
    clear h0 hB hp
    go_enter Tryd.func62, Tryd.ntmps62
    go_wp2_with fail
    go_ret
    refine ⟨rfl, ?_, ⟨rfl, rfl, rfl, Nat.le_refl _, fun _ _ _ => rfl⟩⟩
    rw [HS.out]
    exact ⟨HB.out, HP.out, hkp, by omega⟩
  · have hd : (S.limit == 0) = false := by rw [beq_eq_false_iff_ne]; exact h0
    rw [if_neg h0]
    by_cases h1 : 0 < S.limit
    · have HS : Hid (VfsS.stepS S = { S with limit := S.limit - 1, steps := S.steps + 1 }) := by show _ = _; unfold VfsS.stepS; rw [if_neg h0, if_pos h1]
      have hw2 : IntKind.i64.wrap (S.limit - 1) = S.limit - 1 := IntWalk.i64_in _ (by omega)
      obtain ⟨s1, g1⟩ := set_block hp 5 (.int .i64 (S.limit - 1))
      obtain ⟨s2, g2⟩ := set_block s1 4 (.int .i64 ((S.steps + 1 : Nat) : Int))
      have g12 : w.grownBy ((w.setCell ⟨p, 5, none⟩ (.int .i64 (S.limit - 1))).setCell ⟨p, 4, none⟩ (.int .i64 ((S.steps + 1 : Nat) : Int))) (some p) := World.grownBy.andThen g1 g2 (fun j hj => .inr hj)
      have HB2 := Lib.hid (((hB.other hp (by decide) g12).mono (K' := K) (N' := N + 1) (fun _ h => h) (by omega) hN))
      have HW := Lib.hid hB.wf.step
      have c4' : (w.setCell ⟨p, 5, none⟩ (.int .i64 (S.limit - 1))).cell? ⟨p, 4, none⟩ = some (.int .i64 S.steps) := by rw [cell_of s1]; rfl
      have f4' := frozen_of s1 4
      have HS2 := Lib.hid s2
      have HG := Lib.hid g12
      clear h0 hB hp s1 s2 g1 g2 g12
      go_enter Tryd.func62, Tryd.ntmps62
      go_wp2_with fail
      go_ret
      refine ⟨rfl, ?_, HG.out⟩
      have hw := HW.out
      rw [HS.out] at hw ⊢
      exact ⟨{ HB2.out with wf := hw }, HS2.out, hkp, by show S.steps + 1 ≤ N + 1; omega⟩
    · have HS : Hid (VfsS.stepS S = { S with steps := S.steps + 1 }) := by show _ = _; unfold VfsS.stepS; rw [if_neg h0, if_neg h1]
      obtain ⟨s2, g2⟩ := set_block hp 4 (.int .i64 ((S.steps + 1 : Nat) : Int))
      have HB2 := Lib.hid (((hB.other hp (by decide) g2).mono (K' := K) (N' := N + 1) (fun _ h => h) (by omega) hN))
      have HW := Lib.hid hB.wf.step
      have HS2 := Lib.hid s2
      have HG := Lib.hid g2
      clear h0 hB hp s2 g2
      go_enter Tryd.func62, Tryd.ntmps62
      go_wp2_with fail
      go_ret
      refine ⟨rfl, ?_, HG.out⟩
      have hw := HW.out
      rw [HS.out] at hw ⊢
      exact ⟨{ HB2.out with wf := hw }, HS2.out, hkp, by show S.steps + 1 ≤ N + 1; omega⟩
end Go.Proofs.YtfoamcobpfflbaaDoor
namespace Go.Proofs.YtfoamcobpfflbaaDoor
open Go Go.RowKit Go.Maps
open VfsS (File Chg Nm St find doL)

theorem nm_max {s : ByteArray} (h : s.size ≤ 10000000) : NC.okK s := by show s.size ≤ maxLen; simp only [maxLen]; omega

theorem nmF_do (φ : Nat → Nat) (l : Nm) (a : Chg) (x : ByteArray) : nmF φ (doL l a) x =
    match a.file with
    | none => if a.src.size ≠ 0 ∧ x = a.src then none else nmF φ l x
    | some i => if x = a.dst then some (some (φ i)) else if a.src.size ≠ 0 ∧ x = a.src then none else nmF φ l x := by
  unfold nmF
  rw [VfsS.find_doL]
  cases a.file with
  | none => simp only; split <;> rfl
  | some i => simp only; split; · rfl
              · split <;> rfl

set_option maxRecDepth 100000 in
theorem do_c {w : World} {b n : Nat} {φ : Nat → Nat} {l : Nm} (a : Chg) (h : MapG NC w b n (nmF φ l)) (hn : n < 200000000) (hs : a.src.size ≤ 10000000) (hd : a.dst.size ≤ 10000000) :
    Calls Tryd.prog 88 #[.map (some b), .agg #[.string a.src, .string a.dst, ptrV (a.file.map φ)]] w fun e w' => e = .returned (.tuple #[]) ∧ MapG NC w' b (n + 1) (nmF φ (doL l a)) ∧ w.grownBy w' (some b) := by
  have HF := Lib.hid (fun x => nmF_do φ l a x)
  obtain ⟨src, dst, file⟩ := a
  simp only at HF hs hd ⊢
  have hblt := h.lt
  have hmn : n < maxLen := by simp only [maxLen]; omega
  have hks : NC.okK src := nm_max hs
  have hkd : NC.okK dst := nm_max hd
  have al := fun v : Value => h.alloc (.cells #[.string src, .string dst, v] 150)
  have ga := fun v : Value => (World.grownBy_alloc w (.cells #[.string src, .string dst, v] 150) none).but (some b)
  have hc := fun v : Value => show (w.alloc (.cells #[.string src, .string dst, v] 150)).heap[w.heap.size]? = some (.cells #[.string src, .string dst, v] 150 (0, 0)) from (Go.MapKept.heap_alloc w _).1
  have hbn : some w.heap.size ≠ some b := fun e => by injection e with e; omega
  by_cases he : src.size = 0
  · have e1 : src.toList.isEmpty = true := by rw [isEmpty_iff]; simpa using he
    have HFE : Hid (∀ x, (if src.size ≠ 0 ∧ x = src then (none : Option (Option Nat)) else nmF φ l x) = nmF φ l x) := fun x => if_neg (fun e => e.1 he)
    clear he hks
    cases file with
    | none =>
      have HM := Lib.hid (((al (.pointer none)).mono (Nat.le_succ n)).congr (G := nmF φ (doL l ⟨src, dst, none⟩)) fun x => by rw [HF.out x]; exact (HFE.out x).symm)
      have HG := Lib.hid (ga (.pointer none))
      show Calls _ _ #[.map (some b), .agg #[.string src, .string dst, .pointer none]] _ _
      clear al ga hc h
      go_enter Tryd.func88, Tryd.ntmps88
      go_wp2_with fail
      go_end0
      exact ⟨rfl, HM.out, HG.out⟩
    | some i =>
      have hm := al (.pointer (some ⟨φ i, 0, none⟩))
      have HG := Lib.hid (ga (.pointer (some ⟨φ i, 0, none⟩)))
      have HF2 : Hid (∀ x, (if x = dst then some (some (φ i)) else nmF φ l x) = nmF φ (doL l ⟨src, dst, some i⟩) x) := fun x => by rw [HF.out x]; simp only; rw [HFE.out x]
      show Calls _ _ #[.map (some b), .agg #[.string src, .string dst, .pointer (some ⟨φ i, 0, none⟩)]] _ _
      clear al ga hc h HF HFE
      go_enter Tryd.func88, Tryd.ntmps88
      go_wp2_with (at_mapUpdate; refine wp_putG (C := NC) rfl _ _ _ rfl rfl hm dst (some (φ i)) rfl rfl hkd trivial hmn ?_)
      intro w1 hm1 hg1
      go_wp2_with fail
      go_end0
      exact ⟨rfl, hm1.congr HF2.out, HG.out.andThen hg1 (fun j hj => .inr hj)⟩
  · have e1 : src.toList.isEmpty = false := by rw [isEmpty_iff]; simpa using he
    have HFE : Hid (∀ x, (if src.size ≠ 0 ∧ x = src then (none : Option (Option Nat)) else nmF φ l x) = if x = src then none else nmF φ l x) := fun x => by
      by_cases e : x = src
      · rw [if_pos ⟨he, e⟩, if_pos e]
      · rw [if_neg (fun e2 => e e2.2), if_neg e]
    clear he
    cases file with
    | none =>
      have hm := al (.pointer none)
      have HG := Lib.hid (ga (.pointer none))
      have hcc := hc (.pointer none)
      have HF2 : Hid (∀ x, (if x = src then none else nmF φ l x) = nmF φ (doL l ⟨src, dst, none⟩) x) := fun x => by rw [HF.out x]; simp only; rw [HFE.out x]
      show Calls _ _ #[.map (some b), .agg #[.string src, .string dst, .pointer none]] _ _
      clear al ga hc h HF HFE
      go_enter Tryd.func88, Tryd.ntmps88
      go_wp2_with (at_delete; refine wp_delG (C := NC) rfl _ _ rfl rfl hm src rfl hks ?_)
      intro w1 hm1 hg1
      have hc1 := (hg1.block _ (Array.getElem?_eq_some_iff.1 hcc).1 hbn).trans hcc
      have c2 : w1.cell? ⟨w.heap.size, 2, none⟩ = some (.pointer none) := by rw [cell_of hc1]; rfl
      go_wp2_with fail
      go_end0
      exact ⟨rfl, (hm1.congr HF2.out).mono (Nat.le_succ n), HG.out.andThen hg1 (fun j hj => .inr hj)⟩
    | some i =>
      have hm := al (.pointer (some ⟨φ i, 0, none⟩))
      have HG := Lib.hid (ga (.pointer (some ⟨φ i, 0, none⟩)))
      have hcc := hc (.pointer (some ⟨φ i, 0, none⟩))
      have HF2 : Hid (∀ x, (if x = dst then some (some (φ i)) else if x = src then none else nmF φ l x) = nmF φ (doL l ⟨src, dst, some i⟩) x) := fun x => by rw [HF.out x]; simp only; rw [HFE.out x]
      show Calls _ _ #[.map (some b), .agg #[.string src, .string dst, .pointer (some ⟨φ i, 0, none⟩)]] _ _
      clear al ga hc h HF HFE
      go_enter Tryd.func88, Tryd.ntmps88
      go_wp2_with (at_delete; refine wp_delG (C := NC) rfl _ _ rfl rfl hm src rfl hks ?_)
      intro w1 hm1 hg1
      have hc1 := (hg1.block _ (Array.getElem?_eq_some_iff.1 hcc).1 hbn).trans hcc
      have c1 : w1.cell? ⟨w.heap.size, 1, none⟩ = some (.string dst) := by rw [cell_of hc1]; rfl
      have c2 : w1.cell? ⟨w.heap.size, 2, none⟩ = some (.pointer (some ⟨φ i, 0, none⟩)) := by rw [cell_of hc1]; rfl
      go_wp2_with (at_mapUpdate; refine wp_putG (C := NC) rfl _ _ _ rfl rfl hm1 dst (some (φ i)) rfl rfl hkd trivial hmn ?_)
      intro w2 hm2 hg2
      go_wp2_with fail
      go_end0
      exact ⟨rfl, hm2.congr HF2.out, (HG.out.andThen hg1 (fun j hj => .inr hj)).andThen hg2 (fun j hj => .inr hj)⟩

/-- The bytes behind a slice as a source of what is appended. -/
theorem src_own {w : World} {v : Value} {n : Nat} {xs : List Value} (h : OwnG w 5 1 v n xs) (h1 : ∀ u ∈ xs, u.oneCell' = true) : Src Tryd.prog 1 43 v n xs w := by
  have hl := h.1
  obtain ⟨a, c, rfl, -, -, hs⟩ := h.form
  rcases hs with e | ⟨g, o, rfl, _, hc⟩
  · subst e
    have e2 : n = 0 := by simp at hl; omega
    subst e2
    rcases h.2 with ⟨e3, _⟩ | ⟨g, o, cap, cur, e3, _⟩
    · injection e3 with e3 _ _; subst e3; exact Src.ofNil w Tryd.underlying43 c
    · injection e3 with e3 _ _; subst e3; exact Src.ofSlice w Tryd.underlying43 _ 0 c [] (by simp) (fun j u hu => by cases hu) (fun u hu => by cases hu)
  · exact Src.ofSlice w Tryd.underlying43 _ n c xs hl (fun j u hu => by rw [Addr.add_lit]; exact hc j u hu) h1

theorem one_bytes (s : ByteArray) : ∀ u ∈ byteCells s, u.oneCell' = true := fun u hu => by
  obtain ⟨_, _, rfl⟩ := List.mem_map.1 hu; rfl

theorem byteElem : Elem Tryd.prog 43 5 (.int .u8 0) 1 1 := ⟨by kernel_rfl, by kernel_rfl⟩

set_option maxRecDepth 100000 in
theorem clone_c {w : World} {v : Value} {n : Nat} {s : ByteArray} (h : OwnG w 5 1 v n (byteCells s)) (hn : n ≤ 100000000) :
    Calls Tryd.prog 76 #[v] w fun e w' => ∃ v', e = .returned v' ∧ OwnG w' 5 1 v' n (byteCells s) ∧ (∀ k, v'.ownBlock = some k → w.heap.size ≤ k) ∧ Below w.heap.size w w' := by
  have hfrm := h
  obtain ⟨a, c, rfl, -, -, -⟩ := hfrm.form
  rcases h.2 with ⟨e3, hn0⟩ | ⟨g, o, cap, cur, e3, _⟩
  · injection e3 with e3 e4 e5
    subst e3 e5
    have HE := Lib.hid h
    subst hn0
    have hq := fun w => Lib.run_eql_slice_nil (P := Tryd.prog) w 43 5 none 0 0 0 0 Tryd.underlying43
    clear h hfrm
    go_enter Tryd.func76, Tryd.ntmps76
    go_wp2_with fail
    go_ret
    exact ⟨_, rfl, HE.out, (fun k hk => by cases hk), Below.refl _ _⟩
  · injection e3 with e3 e4 e5
    subst e3 e5
    have ho0 : OwnG (w.alloc (.cells #[] 5)) 5 1 (.slice (some ⟨w.heap.size, 0, none⟩) 0 0) 0 [] := ⟨by simp, .inr ⟨_, 0, 0, #[], rfl, (Go.MapKept.heap_alloc w _).1, Nat.le_refl _, Nat.zero_le _, by simp, fun j u hu => by cases hu⟩⟩
    have hsrc := src_own (h.alloc (.cells #[] 5)) (one_bytes s)
    have hq := fun w => Lib.run_eql_slice_nil (P := Tryd.prog) w 43 5 (some ⟨g, o, none⟩) n c 0 0 Tryd.underlying43
    have hb0 : Below w.heap.size w (w.alloc (.cells #[] 5)) := (Below.refl _ _).alloc (Nat.le_refl _) _
    clear h hfrm
    go_enter Tryd.func76, Tryd.ntmps76
    go_wp2_with (at_builtin; refine wp_appG rfl _ _ _ _ rfl byteElem rfl rfl ho0 rfl hsrc (by simp [maxLen]; omega) (by omega) ?_)
    intro v1 w1 ho1 hg1 hv1
    have hb1 : Below w.heap.size w w1 := hb0.grown hg1 hb0.size (by intro k hk; simp [Value.ownBlock] at hk; omega)
    go_wp2_with fail
    go_ret
    refine ⟨_, rfl, ho1, fun k hk => ?_, hb1⟩
    rcases hv1 k hk with e | e
    · simp [Value.ownBlock] at e; omega
    · omega
end Go.Proofs.YtfoamcobpfflbaaDoor
namespace Go.Proofs.YtfoamcobpfflbaaDoor
open Go Go.RowKit

theorem step_appN {P : Program} {ops : Array Oper} {o : Oper} {a : Act} {K : Act → World → Prop} {Q : Exit → Act → World → Prop} {E : Prop} {w : World} (hgd : o.guard = none) (s x : Operand) (t : TypeId)
    (ho : o.op = .call { callee := .builtin .append, args := #[s, x], argTypes := #[t, t] })
    {e : TypeId} {z : Value} {size bytes : Nat} (L : Elem P t e z size bytes) (hzs : z.cells.size = size) (hsz : 0 < size) {base : Nat} {v : Value} {n : Nat} {xs : List Value} {news : List Value}
    (hs : a.eval s = v) (hown : w.ownsRow base e size v n xs) (hx : a.eval x = .slice (some ⟨w.heap.size, 0, none⟩) 1 1) (hl : news.length = size) (h1 : ∀ u ∈ news, u.oneCell' = true)
    (hn : (n + 1) * bytes ≤ 140737488355328) (h63 : n + 1 ≤ maxLen) (hbase : base ≤ w.heap.size)
    (h : ∀ v' w', w'.ownsRow base e size v' (n + 1) (xs ++ news) → w.grownBy w' v.ownBlock → Below base w w' → K (a.put o.dst v') w') :
    if Region.wanted o (yielded ops a.tmps) = true then Oper.wp P o a (w.alloc (.cells news.toArray e)) K Q else E := by
  obtain ⟨i, hi, g1, g2, g3⟩ := info_parts L.info
  refine step_append_lies _ hgd s x t ho base e i z size bytes L.under hi g1 g2 g3 hzs hsz v n xs hs (hown.alloc _) ⟨w.heap.size, 0, none⟩ 1 1 news hx (by omega) (fun j u hu => ?_) h1 (by decide) h63 hn ?_ _ rfl ?_
  · exact World.news_of_block (Go.MapKept.heap_alloc w _).1 j u hu
  · have : (w.alloc (.cells news.toArray e)).heap.size = w.heap.size + 1 := by simp
    omega
  · intro g cap w' h4 h5 _ _
    have h6 : w.grownBy w' v.ownBlock := (World.grownBy_alloc w _ _).trans h5
    exact h _ w' h4 h6 (below_of_grown hown h6 hbase)
end Go.Proofs.YtfoamcobpfflbaaDoor
namespace Go.Proofs.YtfoamcobpfflbaaDoor
open Go Go.RowKit Go.Maps
open VfsS (File Chg Nm St find doL)

/-- The bytes of the files that some names mean. -/
def sumN (S : St) (l : List ByteArray) : Nat := (l.map fun s => match find S.now s with | some i => (VfsS.fl S i).text.size | none => 0).sum

theorem sumN_erase (S : St) {l : List ByteArray} {x : ByteArray} (hn : l.Nodup) (h : x ∈ l) : sumN S l = sumN S [x] + sumN S (lessOne l x) := by
  have hp := (perm_lessOne hn h).map (fun s => match find S.now s with | some i => (VfsS.fl S i).text.size | none => 0)
  unfold sumN
  rw [hp.sum_nat]
  simp

theorem sumN_names {S : St} (h : VfsS.Wf S) : sumN S (S.now.map (·.1)) = VfsS.used S := by
  unfold sumN VfsS.used
  rw [List.map_map]
  congr 1
  apply List.map_congr_left
  intro p hp
  simp only [Function.comp]
  rw [VfsS.find_of_mem h.dn hp]

theorem used_le {S : St} {N : Nat} (h : VfsS.Wf S) (hl : S.now.length ≤ N) : VfsS.used S ≤ N * 4194304 := by
  have : ∀ l : Nm, (∀ p ∈ l, p ∈ S.now) → (l.map fun p => (VfsS.fl S p.2).text.size).sum ≤ l.length * 4194304 := by
    intro l
    induction l with
    | nil => intro _; simp
    | cons p l ih =>
      intro hs
      have h1 := ih (fun q hq => hs q (by simp [hq]))
      have h2 : (VfsS.fl S p.2).text.size ≤ 4194304 := by
        have hi := h.idx p.2 (.inl ⟨p.1, hs p (by simp)⟩)
        unfold VfsS.fl
        rw [List.getD_eq_getElem?_getD, List.getElem?_eq_getElem hi]
        exact (h.dur _ (List.getElem_mem hi)).2
      simp only [List.map_cons, List.sum_cons, List.length_cons]
      omega
  exact Nat.le_trans (this S.now (fun _ h => h)) (Nat.mul_le_mul_right _ hl)

theorem live_of_find {S : St} {s : ByteArray} {i : Nat} (h : find S.now s = some i) : VfsS.Live S i := .inl ⟨s, VfsS.find_mem h⟩

theorem VB.names_le {w : World} {K : Nat → Prop} {N : Nat} {S : St} {bn bs : Nat} {av : Value} {φ : Nat → Nat} {ψ : Nat → Value} (h : VB w K N S bn bs av φ ψ) : S.now.length ≤ N := by
  obtain ⟨n, hn, D, ⟨es, clock, h1, h2, h3, h4⟩, h5, h6, h7⟩ := h.now
  subst h4
  have hsz := World.ownsMap.size_le (P := Tryd.prog) (⟨es, clock, h1, h2, h3, rfl⟩ : w.ownsMap Tryd.prog 9 NC.R bn n (.map ((es.toList.map (Go.WideElems.rg Tryd.prog 9 NC.R)).foldr DataW.insert [])))
  generalize hD : (es.toList.map (Go.WideElems.rg Tryd.prog 9 NC.R)).foldr DataW.insert [] = L at *
  have hsub : ∀ p ∈ S.now, NC.lit p.1 ∈ L.map (·.1) := by
    intro p hp
    have hx := (h6 p.1 (nm_max (h.wf.zn p hp))).1
    have : (nmF φ S.now p.1).isSome = true := (nmF_mem φ S.now p.1).1 (List.mem_map.2 ⟨p, hp, rfl⟩)
    rw [this] at hx
    obtain ⟨q, hq, hk⟩ := List.any_eq_true.1 hx
    exact List.mem_map.2 ⟨q, hq, WideAt.sameKey_eq hk⟩
  have hnd : ((S.now.map (·.1)).map NC.lit).Nodup := by
    rw [List.nodup_iff_pairwise_ne, List.pairwise_map]
    refine List.Pairwise.imp (fun {x y} hne e => hne (str_lit_inj e)) (List.nodup_iff_pairwise_ne.1 h.wf.dn)
  have hsp : ((S.now.map (·.1)).map NC.lit) ⊆ L.map (·.1) := by
    intro y hy
    obtain ⟨x, hx, rfl⟩ := List.mem_map.1 hy
    obtain ⟨p, hp, rfl⟩ := List.mem_map.1 hx
    exact hsub p hp
  have := nodup_le hnd (fun y hy => hsp hy)
  simp only [List.length_map] at this
  have hz : Maps.size (DataW.map L) = L.length := rfl
  rw [hz] at hsz
  omega

set_option maxRecDepth 100000 in
theorem used_c {w : World} {p : Nat} {S : St} {K : Nat → Prop} {N : Nat} (h : VRep w p S K N) :
    Calls Tryd.prog 42 #[.pointer (some ⟨p, 0, none⟩)] w fun e w' => e = .returned (.int .i64 (VfsS.used S : Nat)) ∧ Below w.heap.size w w' := by
  obtain ⟨bn, bs, av, φ, ψ, hB, hp, hkp, hs⟩ := h
  have hnl := hB.names_le
  have hul := used_le hB.wf hnl
  have hbig := hB.big
  obtain ⟨n, hn, hm⟩ := hB.now
  have c0 : w.cell? ⟨p, 0, none⟩ = some (.map (some bn)) := by rw [cell_of hp]; rfl
  have hbl := hm.lt
  have HW := Lib.hid hB.wf
  have HU := Lib.hid (sumN_names hB.wf)
  have HF := Lib.hid (fun i (hi : VfsS.Live S i) => hB.file i hi)
  have HL := Lib.hid (fun i (hi : VfsS.Live S i) => hB.lt hi)
  have hr := fun x => nmF_mem φ S.now x
  have hnd := hB.wf.dn
  have HUL : Hid (VfsS.used S ≤ 100000000 * 4194304) := Nat.le_trans hul (Nat.mul_le_mul_right _ hbig)
  clear hB hp hs hul
  go_enter Tryd.func42, Tryd.ntmps42
  go_wp2_with (at_range; refine wp_rangeG (C := NC) rfl _ rfl rfl hm (S.now.map (·.1)) hr hnd ?_)
  intro w1 hrg hg1 hsz1 _
  have hb1 : Below w.heap.size w w1 := ⟨hg1.os, hg1.tape, hg1.output, hg1.size, fun k hk => hg1.block k hk (by simp)⟩
  clear hm hr hnd hg1 c0
  go_wp2_with fail
  go_loopw [3] (fun nv wr => ∃ (acc : Nat) (l : List ByteArray), RanG NC wr bn w.heap.size n (nmF φ S.now) l ∧ nv = .int .i64 acc ∧ Hid (acc + sumN S l = VfsS.used S) ∧ Below w.heap.size w wr) (fun _ wr => wr.rangeLeft bn w.heap.size)
  case atStart => exact ⟨0, _, hrg, rfl, by show _ = _; rw [HU.out, Nat.zero_add], hb1⟩
  case round =>
    clear hrg hb1
    obtain ⟨acc, l, hrg, rfl, HA, hb⟩ := hrel
    go_wp2_with (at_next; refine wp_nextG (C := NC) rfl _ rfl rfl hrg ?_ ?_)
    · intro hl
      have HE : Hid (acc = VfsS.used S) := by show _ = _; rw [← HA.out, hl]; rfl
      go_wp2_with fail
      go_ret
      exact ⟨ret_i64 (by rw [HE.out]), hb⟩
    · intro x c w2 hx hF _ _ hrg2 hlt hg2 _ hen
      obtain ⟨i, hi, rfl⟩ : ∃ i, find S.now x = some i ∧ c = some (φ i) := by
        unfold nmF at hF
        rw [Option.map_eq_some_iff] at hF
        obtain ⟨i, h1, h2⟩ := hF
        exact ⟨i, h1, h2.symm⟩
      have hlive := live_of_find hi
      obtain ⟨hf1, hf2⟩ := HF.out i hlive
      obtain ⟨fa, fc, hpsi, -, -, -⟩ := hf2.form
      have hen2 : (Instr.entry (.pointer (some ⟨w.heap.size, 0, none⟩))).run Tryd.prog w2 = .ok (.tuple #[.string x, .pointer (some ⟨φ i, 0, none⟩)]) w2 := hen
      have hb2 := hb.grown hg2 hb.size (by intro k hk; injection hk with hk; omega)
      have hc2 : w2.cell? ⟨φ i, 0, none⟩ = some (.slice fa (VfsS.fl S i).text.size fc) := by
        rw [cell_of ((hb2.block _ (HL.out i hlive)).trans hf1)]; rw [hpsi]; rfl
      have HN : Hid ((acc + (VfsS.fl S i).text.size) + sumN S (lessOne l x) = VfsS.used S) := by
        show _ = _
        rw [← HA.out, sumN_erase S hrg.nodup hx]
        simp [sumN, hi]; omega
      have hle : acc + (VfsS.fl S i).text.size ≤ 100000000 * 4194304 := by have := HN.out; have := HUL.out; omega
      generalize (VfsS.fl S i).text.size = z at *
      have hw : IntKind.i64.wrap ((acc : Int) + (z : Int)) = ((acc + z : Nat) : Int) := by rw [← Int.natCast_add]; exact IntWalk.i64_in _ (by omega)
      clear hen hf1 hf2 hpsi hF hlive hi HA hg2
      go_wp2_with fail
      go_roundw
      case rel => exact ⟨acc + z, lessOne l x, hrg2, by first | rfl | go_num, HN, hb2⟩
      case measure => exact hlt

set_option maxRecDepth 100000 in
theorem left_c {w : World} {p : Nat} {S : St} {K : Nat → Prop} {N : Nat} (h : VRep w p S K N) :
    Calls Tryd.prog 50 #[.pointer (some ⟨p, 0, none⟩)] w fun e w' => e = .returned (.int .i64 ((S.room : Int) - VfsS.used S)) ∧ Below w.heap.size w w' := by
  have HU := Lib.hid (fun q => used_c (h.drewN q))
  obtain ⟨bn, bs, av, φ, ψ, hB, hp, hkp, hs⟩ := h
  have hul := used_le hB.wf hB.names_le
  have hbig := hB.big
  have hroom := hB.wf.room
  have c3 : w.cell? ⟨p, 3, none⟩ = some (.int .i64 S.room) := by rw [cell_of hp]; rfl
  have hm : N * 4194304 ≤ 100000000 * 4194304 := Nat.mul_le_mul_right _ hbig
  have hw : IntKind.i64.wrap ((S.room : Int) - (VfsS.used S : Int)) = (S.room : Int) - (VfsS.used S : Int) := IntWalk.i64_in _ (by omega)
  have hplt := (Array.getElem?_eq_some_iff.1 hp).1
  clear hB hp hs hul
  generalize VfsS.used S = u at *
  go_enter Tryd.func50, Tryd.ntmps50
  go_wp2_with fail
  go_region_held3 (fun w' => w'.cell? ⟨p, 3, none⟩ = some (.int .i64 S.room)) (first | exact cell_later hb' c3 | exact c3 | go_keep)
    (first | (go_at_call 42; refine (HU.out 1).mono ?_; rintro e w' ⟨rfl, hb'⟩))
  go_wp2_with fail
  go_ret
  exact ⟨rfl, (below_dN (Below.refl _ w) 1).trans hb'⟩

theorem file_get {S : St} {i : Nat} (h : i < S.files.length) : VfsS.fl S i = S.files[i] := by
  unfold VfsS.fl; rw [List.getD_eq_getElem?_getD, List.getElem?_eq_getElem h]; rfl

theorem file_ok {S : St} (h : VfsS.Wf S) {i : Nat} (hi : VfsS.Live S i) : (VfsS.fl S i).dur ≤ (VfsS.fl S i).text.size ∧ (VfsS.fl S i).text.size ≤ 4194304 := by
  rw [file_get (h.idx i hi)]; exact h.dur _ (List.getElem_mem _)

/-- A name's look-up. -/
theorem VB.look {w : World} {K : Nat → Prop} {N : Nat} {S : St} {bn bs : Nat} {av : Value} {φ : Nat → Nat} {ψ : Nat → Value} (h : VB w K N S bn bs av φ ψ) (s : ByteArray) (hs : s.size ≤ 10000000) :
    (Instr.lookup 109 (.map (some bn)) (.string s) false).run Tryd.prog w = .ok (match find S.now s with | some i => .pointer (some ⟨φ i, 0, none⟩) | none => .pointer none) w := by
  obtain ⟨n, _, hm⟩ := h.now
  have := hm.look s (nm_max hs)
  refine Eq.trans this ?_
  unfold nmF
  cases find S.now s <;> rfl

set_option maxRecDepth 100000 in
theorem read_c {w : World} {p : Nat} {S : St} {K : Nat → Prop} {N : Nat} (h : VRep w p S K N) (s : ByteArray) (hs : s.size ≤ 10000000) :
    Calls Tryd.prog 34 #[.pointer (some ⟨p, 0, none⟩), .string s] w fun e w' => ∃ v, e = .returned (.tuple #[v, .int .i64 (if (VfsS.readS S s).isSome then 0 else 4)]) ∧
      OwnG w' 5 1 v ((VfsS.readS S s).getD ByteArray.empty).size (byteCells ((VfsS.readS S s).getD ByteArray.empty)) ∧ (∀ k, v.ownBlock = some k → w.heap.size ≤ k) ∧ Below w.heap.size w w' := by
  obtain ⟨bn, bs, av, φ, ψ, hB, hp, hkp, hst⟩ := h
  have c0 : w.cell? ⟨p, 0, none⟩ = some (.map (some bn)) := by rw [cell_of hp]; rfl
  have hlk := hB.look s hs
  cases hf : find S.now s with
  | none =>
    have HR : Hid (VfsS.readS S s = none) := by show _ = _; unfold VfsS.readS; rw [hf]; rfl
    rw [hf] at hlk
    clear hf hB hp
    rw [HR.out]
    simp only [Option.isSome_none, Option.getD_none, Bool.false_eq_true, if_false]
    go_enter Tryd.func34, Tryd.ntmps34
    go_wp2_with fail
    go_ret2
    exact ⟨_, rfl, OwnG.nil _ _ _, (fun k hk => by cases hk), Below.refl _ _⟩
  | some i =>
    have hl := live_of_find hf
    have hok := file_ok hB.wf hl
    obtain ⟨hf1, hf2⟩ := hB.file i hl
    have c1 : w.cell? ⟨φ i, 0, none⟩ = some (ψ i) := by rw [cell_of hf1]; rfl
    have HC := Lib.hid (clone_c hf2 (by omega))
    have HR : Hid (VfsS.readS S s = some (VfsS.fl S i).text) := by show _ = _; unfold VfsS.readS; rw [hf]; rfl
    rw [hf] at hlk
    simp only at hlk
    clear hf hB hp hl hok hf1 hf2
    rw [HR.out]
    simp only [Option.isSome_some, Option.getD_some, if_true]
    clear HR
    generalize (VfsS.fl S i).text = tx at *
    go_enter Tryd.func34, Tryd.ntmps34
    go_wp2_with fail
    refine HC.out.mono ?_
    rintro e w1 ⟨v1, rfl, ho, hk, hb⟩
    go_wp2_with fail
    go_ret2
    exact ⟨_, rfl, ho, hk, hb⟩

set_option maxRecDepth 100000 in
theorem stop_c {w : World} {p : Nat} {S : St} {K : Nat → Prop} {N : Nat} (h : VRep w p S K N) (n : Int) (hn : -9223372036854775808 ≤ n ∧ n ≤ 9223372036854775807) :
    Calls Tryd.prog 47 #[.pointer (some ⟨p, 0, none⟩), .int .i64 n] w fun e w' => e = .returned (.tuple #[]) ∧ VRep w' p { S with limit := n } K N ∧ w.grownBy w' (some p) := by
  obtain ⟨bn, bs, av, φ, ψ, hB, hp, hkp, hst⟩ := h
  have c5 : w.cell? ⟨p, 5, none⟩ = some (.int .i64 S.limit) := by rw [cell_of hp]; rfl
  have f5 := frozen_of hp 5
  obtain ⟨s1, g1⟩ := set_block hp 5 (.int .i64 n)
  have HB := Lib.hid (hB.other hp (by decide) g1)
  have HS := Lib.hid s1
  have HG := Lib.hid g1
  clear hB hp s1 g1
  go_enter Tryd.func47, Tryd.ntmps47
  go_wp2_with fail
  go_end0
  exact ⟨rfl, ⟨bn, bs, av, φ, ψ, { HB.out with wf := { HB.out.wf with lim := hn } }, HS.out, hkp, hst⟩, HG.out⟩

set_option maxRecDepth 100000 in
theorem steps_c {w : World} {p : Nat} {S : St} {K : Nat → Prop} {N : Nat} (h : VRep w p S K N) :
    Calls Tryd.prog 54 #[.pointer (some ⟨p, 0, none⟩)] w fun e w' => e = .returned (.int .i64 S.steps) ∧ w' = w := by
  obtain ⟨bn, bs, av, φ, ψ, hB, hp, hkp, hst⟩ := h
  have c4 : w.cell? ⟨p, 4, none⟩ = some (.int .i64 S.steps) := by rw [cell_of hp]; rfl
  clear hB hp
  go_enter Tryd.func54, Tryd.ntmps54
  go_wp2_with fail
  go_ret
  exact ⟨rfl, rfl⟩
end Go.Proofs.YtfoamcobpfflbaaDoor
namespace Go.Proofs.YtfoamcobpfflbaaDoor
open Go Go.RowKit Go.Maps
open VfsS (File Chg Nm St find doL)

set_option maxRecDepth 100000 in
theorem new_c (room : Int) (w : World) :
    Calls Tryd.prog 14 #[.int .i64 room] w fun e w' => ((room < 0 ∨ 4194304 < room) ∧ e = .returned (.tuple #[.pointer none, .int .i64 1]) ∧ w' = w) ∨
      ((0 ≤ room ∧ room ≤ 4194304) ∧ ∃ p, e = .returned (.tuple #[.pointer (some ⟨p, 0, none⟩), .int .i64 0]) ∧ w.heap.size ≤ p ∧ VRep w' p (VfsS.newS room.toNat) (Kx (fun _ => False) w.heap.size w'.heap.size) 0 ∧ Below w.heap.size w w') := by
  have hmm := fun (t : TypeId) (w : World) => run_makeMap (P := Tryd.prog) t w
  by_cases h1 : room < 0
  · have d1 : decide (room < 0) = true := decide_eq_true h1
    have HL : Hid (room < 0 ∨ 4194304 < room) := .inl h1
    clear h1
    go_enter Tryd.func14, Tryd.ntmps14
    go_wp2_with fail
    go_ret2
    exact .inl ⟨HL.out, rfl, rfl⟩
  · have d1 : decide (room < 0) = false := decide_eq_false h1
    by_cases h2 : 4194304 < room
    · have HL : Hid (room < 0 ∨ 4194304 < room) := .inr h2
      clear h1
      go_enter Tryd.func14, Tryd.ntmps14
      go_wp2_with fail
      go_ret2
      exact .inl ⟨HL.out, rfl, rfl⟩
    · have d2 : decide (4194304 < room) = false := decide_eq_false h2
      have HL : Hid (0 ≤ room ∧ room ≤ 4194304) := ⟨by omega, by omega⟩
      have hrt : ((room.toNat : Nat) : Int) = room := Int.toNat_of_nonneg (by omega)
      have HRT := Lib.hid hrt
      have HW := Lib.hid (VfsS.Wf.new (r := room.toNat) (by omega))
      clear h1 h2 hrt
      go_enter Tryd.func14, Tryd.ntmps14
      go_wp2_with fail
      go_ret2
      refine .inr ⟨HL.out, _, rfl, ?_, ?_, ?_⟩
      · omega
      · have m0 : MapG NC ((w.alloc (.map #[] 0)).alloc (.map #[] 0)) w.heap.size 0 (nmF id []) := (MapG.made NC w).alloc _
        have m1 := MapG.made NC (w.alloc (.map #[] 0))
        rw [show (w.alloc (.map #[] 0)).heap.size = w.heap.size + 1 by simp] at m1
        refine ⟨w.heap.size, w.heap.size + 1, .slice none 0 0, id, fun _ => .slice none 0 0, ⟨⟨0, Nat.le_refl _, m0.alloc _⟩, ⟨0, Nat.le_refl _, m1.alloc _⟩, OwnG.nil _ _ _, ?_, by omega, ?_, ?_, ?_, ?_, ?_, ?_, ?_, HW.out, Nat.le_refl _, by decide⟩, ?_, ?_, Nat.le_refl _⟩
        · intro i hi; exact absurd (HW.out.idx i hi) (Nat.not_lt_zero _)
        · intro i j hi; exact absurd (HW.out.idx i hi) (Nat.not_lt_zero _)
        · intro i j k hi; exact absurd (HW.out.idx i hi) (Nat.not_lt_zero _)
        · exact .inr ⟨Nat.le_refl _, by simp; omega⟩
        · exact .inr ⟨by omega, by simp⟩
        · intro k hk; cases hk
        · intro i hi; exact absurd (HW.out.idx i hi) (Nat.not_lt_zero _)
        · intro i k hi; exact absurd (HW.out.idx i hi) (Nat.not_lt_zero _)
        · have := (Go.MapKept.heap_alloc ((w.alloc (.map #[] 0)).alloc (.map #[] 0)) (.cells #[.map (some w.heap.size), .map (some (w.heap.size + 1)), .slice none 0 0, .int .i64 room, .int .i64 0, .int .i64 (-1)] 112)).1
          show _ = some (Obj.cells #[.map (some w.heap.size), .map (some (w.heap.size + 1)), .slice none 0 0, .int .i64 ((room.toNat : Nat) : Int), .int .i64 0, .int .i64 (-1)] 112 (0, 0))
          rw [HRT.out]
          simpa using this
        · exact .inr ⟨by omega, by simp⟩
      · exact (((Below.refl _ w).alloc (Nat.le_refl _) _).alloc (by simp) _).alloc (by simp; omega) _

theorem actElem : Elem Tryd.prog 110 150 (.agg #[.string ByteArray.empty, .string ByteArray.empty, .pointer none]) 3 40 := ⟨by kernel_rfl, by kernel_rfl⟩

set_option maxRecDepth 100000 in
set_option maxHeartbeats 1000000 in
theorem change_c {w : World} {p bn bs n : Nat} {av r1 r2 r3 : Value} {φ : Nat → Nat} {l : Nm} {acts : List Chg} (a : Chg) (hp : w.heap[p]? = some (.cells #[.map (some bn), .map (some bs), av, r1, r2, r3] 112 (0, 0))) (hm : MapG NC w bn n (nmF φ l))
    (ho : OwnG w 150 3 av acts.length (arow φ acts)) (hn : n < 200000000) (hl : acts.length ≤ 200000000) (hs : a.src.size ≤ 10000000) (hd : a.dst.size ≤ 10000000) :
    Calls Tryd.prog 81 #[.pointer (some ⟨p, 0, none⟩), .agg #[.string a.src, .string a.dst, ptrV (a.file.map φ)]] w fun e w' => e = .returned (.tuple #[]) ∧ ∃ av', MapG NC w' bn (n + 1) (nmF φ (doL l a)) ∧ OwnG w' 150 3 av' (acts ++ [a]).length (arow φ (acts ++ [a])) ∧
      w'.heap[p]? = some (.cells #[.map (some bn), .map (some bs), av', r1, r2, r3] 112 (0, 0)) ∧ (∀ k, av'.ownBlock = some k → av.ownBlock = some k ∨ w.heap.size ≤ k) ∧ Only (fun k => k = p ∨ k = bn ∨ av.ownBlock = some k) w w' := by
  obtain ⟨pv, hpv⟩ : ∃ pv, pv = ptrV (a.file.map φ) := ⟨_, rfl⟩
  have hpo : pv.oneCell' = true := by rw [hpv]; unfold ptrV; rfl
  have hplt := (Array.getElem?_eq_some_iff.1 hp).1
  have HDO := Lib.hid (fun (w1 : World) (h : MapG NC w1 bn n (nmF φ l)) => do_c a h hn hs hd)
  have HE : Hid (encA φ a = [.string a.src, .string a.dst, pv]) := by show _ = _; rw [hpv]; rfl
  have HSN : Hid (arow φ (acts ++ [a]) = arow φ acts ++ [.string a.src, .string a.dst, pv]) := by show _ = _; rw [arow_snoc, HE.out]
  rw [← hpv] at HDO ⊢
  have hm0 := hm.alloc (.cells #[.string a.src, .string a.dst, pv] 150)
  have ho0 := ho.alloc (.cells #[.string a.src, .string a.dst, pv] 150)
  have ha0 : (w.alloc (.cells #[.string a.src, .string a.dst, pv] 150)).heap[w.heap.size]? = some (.cells #[.string a.src, .string a.dst, pv] 150 (0, 0)) := (Go.MapKept.heap_alloc w _).1
  have hp0 : (w.alloc (.cells #[.string a.src, .string a.dst, pv] 150)).heap[p]? = _ := ((World.grownBy_alloc w _ none).block p hplt (by simp)).trans hp
  have g0 : w.grownBy (w.alloc (.cells #[.string a.src, .string a.dst, pv] 150)) none := World.grownBy_alloc w _ none
  generalize hW : w.alloc (.cells #[.string a.src, .string a.dst, pv] 150) = W at *
  have k0 : W.cell? ⟨p, 0, none⟩ = some (.map (some bn)) := by rw [cell_of hp0]; rfl
  have k1 : W.cell? ⟨w.heap.size, 0, none⟩ = some (.string a.src) := by rw [cell_of ha0]; rfl
  have k2 : W.cell? ⟨w.heap.size, 1, none⟩ = some (.string a.dst) := by rw [cell_of ha0]; rfl
  have k3 : W.cell? ⟨w.heap.size, 2, none⟩ = some pv := by rw [cell_of ha0]; rfl
  have nb1 : some p ≠ some bn := fun e => by
    injection e with e; subst e
    obtain ⟨es, c, hc⟩ := hm.isMap
    rw [hp] at hc; cases hc
  have nb2 : some w.heap.size ≠ some bn := fun e => by injection e with e; have := hm.lt; omega
  obtain ⟨src, dst, file⟩ := a
  simp only at hs hd HDO HE HSN hW ha0 k1 k2 ⊢
  have hone : ∀ u ∈ [Value.string src, Value.string dst, pv], u.oneCell' = true := by
    intro u hu
    simp only [List.mem_cons, List.mem_nil_iff, or_false] at hu
    rcases hu with rfl | rfl | rfl
    · rfl
    · rfl
    · exact hpo
  have hwl := g0.size
  clear hpv HE hpo hm ho hp
  go_enter Tryd.func81, Tryd.ntmps81
  go_wp2_with fail
  clear hW
  go_region_held3 (fun w' => w'.cell? ⟨p, 0, none⟩ = some (.map (some bn)) ∧ w'.cell? ⟨w.heap.size, 0, none⟩ = some (.string src) ∧ w'.cell? ⟨w.heap.size, 1, none⟩ = some (.string dst) ∧ w'.cell? ⟨w.heap.size, 2, none⟩ = some pv)
    (first | exact ⟨q0, q1, q2, q3⟩ | exact ⟨k0, k1, k2, k3⟩ | go_keep)
    (first | (go_at_call 88; refine (HDO.out _ (hm0.drewN 1)).mono ?_; rintro e w' ⟨rfl, hm1, hg1⟩; have hp1 := (hg1.block p (Array.getElem?_eq_some_iff.1 hp0).1 nb1).trans hp0; have ha1 := (hg1.block w.heap.size (Array.getElem?_eq_some_iff.1 ha0).1 nb2).trans ha0; have q0 : w'.cell? ⟨p, 0, none⟩ = some (.map (some bn)) := (by rw [cell_of hp1]; rfl); have q1 : w'.cell? ⟨w.heap.size, 0, none⟩ = some (.string src) := (by rw [cell_of ha1]; rfl); have q2 : w'.cell? ⟨w.heap.size, 1, none⟩ = some (.string dst) := (by rw [cell_of ha1]; rfl); have q3 : w'.cell? ⟨w.heap.size, 2, none⟩ = some pv := (by rw [cell_of ha1]; rfl)))
  have ho1 := (ho0.drewN 1).kept hg1 (by
    cases hk : av.ownBlock with
    | none => exact .inl rfl
    | some k =>
      right; intro e; injection e with e; subst e
      obtain ⟨cur, hc⟩ := ho0.tag hk
      obtain ⟨es, c, hcm⟩ := hm0.isMap
      rw [hc] at hcm; cases hcm)
  have hp2 : w'.cell? ⟨p, 2, none⟩ = some av := by rw [cell_of hp1]; rfl
  have fz2 := frozen_of hp1 2
  have g01 : w.grownBy w' (some bn) := (World.grownBy.but (c := W.drewN 1) ⟨g0.os, g0.tape, g0.output, g0.size, g0.block⟩ (some bn)).andThen hg1 (fun j hj => .inr hj)
  have nb3 : av.ownBlock ≠ some p := fun e => by
    obtain ⟨cur, hc⟩ := ho1.tag e
    rw [hp1] at hc; injection hc with hc; injection hc with _ hc _; exact absurd hc (by decide)
  have hsrc := Src.ofNew (P := Tryd.prog) (w := w'.drew) (tx := 110) (e := 150) Tryd.underlying110 (show [Value.string src, Value.string dst, pv].length = 3 from rfl) hone
  have hp2b : (w'.alloc (.cells #[.string src, .string dst, pv] 150)).cell? ⟨p, 2, none⟩ = some av := by rw [cell_of (((World.grownBy_alloc w' _ none).block p (Array.getElem?_eq_some_iff.1 hp1).1 (by simp)).trans hp1)]; rfl
  clear hm0 ho0 hp0 ha0 k0 k1 k2 k3 hone g0 HDO
  go_wp2_with fail
  go_region_law (first | (refine step_appG rfl _ _ _ _ rfl actElem rfl rfl ((ho1.drewN 1).alloc _) rfl hsrc (by simp [maxLen]; omega) (by omega) ?_; intro v3 w3 ho3 hg3 hv3; obtain ⟨a3, c3, rfl, -, -, -⟩ := ho3.form; have hp3 := (hg3.block p (by have := (Array.getElem?_eq_some_iff.1 hp1).1; simp; omega) nb3.symm).trans (((World.grownBy_alloc (w'.drewN 1) _ none).block p (Array.getElem?_eq_some_iff.1 hp1).1 (by simp)).trans hp1); have hq3 : w3.cell? ⟨p, 2, none⟩ = some av := (by rw [cell_of hp3]; rfl); have hf3 := frozen_of hp3 2))
  all_goals
    have hg3' : ((w'.alloc (.cells #[.string src, .string dst, pv] 150)).drewN 1).grownBy w3 av.ownBlock := hg3
    have hv3' : ∀ k, (Value.slice a3 (acts.length + 1) c3).ownBlock = some k → av.ownBlock = some k ∨ w'.heap.size + 1 ≤ k := by
      intro k hk
      rcases hv3 k hk with h | h
      · exact .inl h
      · right
        have e : (w'.alloc (.cells #[.string src, .string dst, pv] 150)).drew.heap.size = w'.heap.size + 1 := by simp
        rw [e] at h; exact h
    obtain ⟨s4, g4⟩ := set_block hp3 2 (.slice a3 (acts.length + 1) c3)
    have hsz4 := g01.size
    have hm1lt := hm1.lt
    have hp1lt := (Array.getElem?_eq_some_iff.1 hp1).1
    have nbv : some bn ≠ av.ownBlock := fun e => by
      obtain ⟨cur, hc⟩ := ho1.tag e.symm
      obtain ⟨es, c, hcm⟩ := hm1.isMap
      rw [hc] at hcm; cases hcm
    clear hg3 hv3
    go_end0
    refine ⟨rfl, .slice a3 (acts.length + 1) c3, ?_, ?_, by simpa using s4, fun k hk => ?_, ?_⟩
    · exact (((hm1.alloc _).drewN 1).kept hg3' nbv).kept g4 nb1.symm
    · rw [HSN.out, List.length_append]
      refine ho3.kept g4 ?_
      cases hk : (Value.slice a3 (acts.length + 1) c3).ownBlock with
      | none => exact .inl rfl
      | some k =>
        right; intro e; injection e with e; subst e
        rcases hv3' _ hk with h | h
        · exact nb3 h
        · omega
    · rcases hv3' k hk with h | h
      · exact .inl h
      · right; omega
    · refine ⟨?_, ?_, ?_, ?_, fun k hk hn => ?_⟩
      · exact g4.os.trans (hg3'.os.trans g01.os)
      · exact g4.tape.trans (hg3'.tape.trans g01.tape)
      · exact g4.output.trans (hg3'.output.trans g01.output)
      · have e1 := hg3'.size
        have e2 := g4.size
        have e : ((w'.alloc (.cells #[.string src, .string dst, pv] 150)).drewN 1).heap.size = w'.heap.size + 1 := by simp [World.drewN]
        omega
      · have e : ((w'.alloc (.cells #[.string src, .string dst, pv] 150)).drewN 1).heap.size = w'.heap.size + 1 := by simp [World.drewN]
        have h3 := hg3'.size
        rw [g4.block k (by omega) (fun e => hn (.inl (by injection e))), hg3'.block k (by omega) (fun e => hn (.inr (.inr e.symm)))]
        refine Eq.trans ((World.grownBy_alloc w' _ none).block k (by omega) (by simp)) (g01.block k hk (fun e => hn (.inr (.inl (by injection e)))))
end Go.Proofs.YtfoamcobpfflbaaDoor
