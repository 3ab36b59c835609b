/- Texts of mine, joined: How a file system lies in memory; its small helpers walked. | Walks: numbers turned, moved; tables. -/
import Derived.BigQuiet
import Derived.Deep.QuietTactic
import Derived.Lib.Bytes
import Derived.Laws.Bits64
import Derived.Laws.Bits64b
import Derived.Laws.ShiftsVar
import Derived.Test.YtfoamcobpfflbaaDoorZ5
namespace Go.Proofs.YtfoamcobpfflbaaDoor
open Go Go.RowKit Go.Maps
open VfsS (File Chg Nm St find doL)

def ptrV (o : Option Nat) : Value := .pointer (o.map fun b => ⟨b, 0, none⟩)
def ptrD (o : Option Nat) : DataW Unit := match o with | none => .nil | some b => .lit (.int .i64 b)
def ptrR (v : Value) : Option (DataW Unit × List MemPlace) := match v with
  | .pointer none => some (.nil, [])
  | .pointer (some ⟨b, 0, none⟩) => some (.lit (.int .i64 b), [])
  | _ => none

theorem ptrR_mk (o : Option Nat) : ptrR (ptrV o) = some (ptrD o, []) := by cases o <;> rfl
theorem ptrR_inv {v : Value} {y : DataW Unit × List MemPlace} (h : ptrR v = some y) : ∃ o, v = ptrV o ∧ y = (ptrD o, []) := by
  unfold ptrR at h
  split at h
  · injection h with h; exact ⟨none, rfl, h.symm⟩
  · rename_i b; injection h with h; exact ⟨some b, rfl, h.symm⟩
  · cases h
theorem ptrD_inj {a b : Option Nat} (h : ptrD a = ptrD b) : a = b := by
  cases a <;> cases b <;> simp [ptrD] at h
  · rfl
  · rw [show _ = _ from Int.ofNat_inj.1 h]

theorem str_lit_inj {x y : ByteArray} (h : Lit.string x.data.toList = .string y.data.toList) : x = y := by
  injection h with h
  exact PathS.ba_ext h

/-- Maps from names to files. -/
def NC : MC Tryd.prog 109 9 128 ByteArray (Option Nat) where
  mkK := Value.string
  lit s := .string s.data.toList
  okK s := s.size ≤ maxLen
  mkE := ptrV
  dt := ptrD
  ok _ := True
  z0 := none
  R := ptrR
  keyed := string_keyed Tryd.underlying9
  under := Tryd.underlying109
  key x hx := WideMaps.keyOf_string_mk Tryd.underlying9 hx
  keyInv v l h := by
    obtain ⟨s, h1, h2, h3⟩ := WideMaps.string_of_keyOf Tryd.underlying9 h
    exact ⟨s, h1, h2, h3⟩
  litInj _ _ _ _ h := str_lit_inj h
  el a _ := ptrR_mk a
  elInv v y h := by obtain ⟨o, h1, h2⟩ := ptrR_inv h; exact ⟨o, h1, h2, trivial⟩
  dtInj _ _ _ _ h := ptrD_inj h
  zero w := Tryd.zeroValue128 w
  okz := trivial

/-- Names as a function. -/
def nmF (φ : Nat → Nat) (l : Nm) (s : ByteArray) : Option (Option Nat) := (find l s).map fun i => some (φ i)

theorem nmF_mem (φ : Nat → Nat) (l : Nm) (s : ByteArray) : s ∈ l.map (·.1) ↔ (nmF φ l s).isSome = true := by
  rw [← VfsS.find_some_iff, nmF, Option.isSome_map]

/-- A change of names as cells. -/
def encA (φ : Nat → Nat) (a : Chg) : List Value := [.string a.src, .string a.dst, ptrV (a.file.map φ)]
def arow (φ : Nat → Nat) (l : List Chg) : List Value := l.flatMap (encA φ)

theorem arow_len (φ : Nat → Nat) (l : List Chg) : (arow φ l).length = l.length * 3 := by
  induction l with
  | nil => rfl
  | cons x l ih => rw [arow, List.flatMap_cons, List.length_append, show (encA φ x).length = 3 from rfl, show (l.flatMap (encA φ)).length = _ from ih, List.length_cons]; omega

theorem arow_snoc (φ : Nat → Nat) (l : List Chg) (a : Chg) : arow φ (l ++ [a]) = arow φ l ++ encA φ a := by simp [arow]

theorem arow_drop (φ : Nat → Nat) (l : List Chg) (n : Nat) : (arow φ l).drop (n * 3) = arow φ (l.drop n) := by
  induction l generalizing n with
  | nil => simp [arow]
  | cons x l ih =>
    cases n with
    | zero => simp
    | succ n =>
      rw [List.drop_succ_cons, ← ih n, show arow φ (x :: l) = encA φ x ++ arow φ l from rfl, show (n + 1) * 3 = (encA φ x).length + n * 3 by rw [show (encA φ x).length = 3 from rfl]; omega, List.drop_append, List.drop_eq_nil_of_le (by omega), List.nil_append]
      congr 1; omega

theorem arow_at (φ : Nat → Nat) (l : List Chg) (j : Nat) (hj : j < l.length) : (arow φ l)[j * 3]? = some (.string l[j].src) ∧ (arow φ l)[j * 3 + 1]? = some (.string l[j].dst) ∧ (arow φ l)[j * 3 + 2]? = some (ptrV (l[j].file.map φ)) := by
  have h : (arow φ l).drop (j * 3) = encA φ l[j] ++ arow φ (l.drop (j + 1)) := by
    rw [arow_drop, List.drop_eq_getElem_cons hj, arow, List.flatMap_cons]; rfl
  have g : ∀ i, (arow φ l)[j * 3 + i]? = (encA φ l[j] ++ arow φ (l.drop (j + 1)))[i]? := fun i => by rw [← h, List.getElem?_drop]
  exact ⟨by have := g 0; simpa [encA] using this, by have := g 1; simpa [encA] using this, by have := g 2; simpa [encA] using this⟩

theorem arow_congr {φ χ : Nat → Nat} {l : List Chg} (h : ∀ a ∈ l, ∀ i, a.file = some i → φ i = χ i) : arow φ l = arow χ l := by
  induction l with
  | nil => rfl
  | cons x l ih =>
    have e : encA φ x = encA χ x := by
      unfold encA
      cases hx : x.file with
      | none => rfl
      | some i => simp only [Option.map_some, h x (by simp) i hx]
    rw [arow, List.flatMap_cons, e, show l.flatMap (encA φ) = l.flatMap (encA χ) from ih fun a ha => h a (by simp [ha])]; rfl

theorem nmF_congr {φ χ : Nat → Nat} {l : Nm} (h : ∀ s i, (s, i) ∈ l → φ i = χ i) (x : ByteArray) : nmF φ l x = nmF χ l x := by
  unfold nmF
  cases hx : find l x with
  | none => rfl
  | some i => simp only [Option.map_some, h x i (VfsS.find_mem hx)]

/-- A file's cells and its bytes. -/
def FileAt (w : World) (b : Nat) (v : Value) (f : File) : Prop :=
  w.heap[b]? = some (.cells #[v, .int .i64 f.dur] 130 (0, 0)) ∧ OwnG w 5 1 v f.text.size (byteCells f.text)

/-- The parts of a file system that lie behind its own block. -/
structure VB (w : World) (K : Nat → Prop) (N : Nat) (S : St) (bn bs : Nat) (av : Value) (φ : Nat → Nat) (ψ : Nat → Value) : Prop where
  now : ∃ n, n ≤ N ∧ MapG NC w bn n (nmF φ S.now)
  sure : ∃ n, n + S.acts.length ≤ N ∧ MapG NC w bs n (nmF φ S.sure)
  acts : OwnG w 150 3 av S.acts.length (arow φ S.acts)
  file : ∀ i, VfsS.Live S i → FileAt w (φ i) (ψ i) (VfsS.fl S i)
  ne : bn ≠ bs
  inj : ∀ i j, VfsS.Live S i → VfsS.Live S j → φ i = φ j → i = j
  apart : ∀ i j k, VfsS.Live S i → VfsS.Live S j → i ≠ j → (ψ i).ownBlock = some k → (ψ j).ownBlock ≠ some k
  kn : K bn
  ks : K bs
  ka : ∀ k, av.ownBlock = some k → K k
  kf : ∀ i, VfsS.Live S i → K (φ i)
  kb : ∀ i k, VfsS.Live S i → (ψ i).ownBlock = some k → K k
  wf : VfsS.Wf S
  len : S.files.length ≤ N
  big : N ≤ 100000000

/-- Behind the pointer to block p lies the file system S; all its blocks are in K. -/
def VX (w : World) (p : Nat) (S : St) (K : Nat → Prop) (N : Nat) (bn bs : Nat) (av : Value) (φ : Nat → Nat) (ψ : Nat → Value) : Prop :=
  VB w K N S bn bs av φ ψ ∧ w.heap[p]? = some (.cells #[.map (some bn), .map (some bs), av, .int .i64 S.room, .int .i64 S.steps, .int .i64 S.limit] 112 (0, 0)) ∧ K p ∧ (S.steps ≤ N)

/-- .. whatever its parts. -/
def VRep (w : World) (p : Nat) (S : St) (K : Nat → Prop) (N : Nat) : Prop := ∃ bn bs av φ ψ, VX w p S K N bn bs av φ ψ

/-- Nothing but K's blocks and new ones has turned. -/
structure Only (K : Nat → Prop) (w w' : World) : Prop where
  os : w'.os = w.os
  tape : w'.tape = w.tape
  output : w'.output = w.output
  size : w.heap.size ≤ w'.heap.size
  block : ∀ k, k < w.heap.size → ¬ K k → w'.heap[k]? = w.heap[k]?

theorem Only.refl (K : Nat → Prop) (w : World) : Only K w w := ⟨rfl, rfl, rfl, Nat.le_refl _, fun _ _ _ => rfl⟩
theorem Only.of_below {K : Nat → Prop} {w w' : World} (h : Below w.heap.size w w') : Only K w w' := ⟨h.os, h.tape, h.output, h.size, fun k hk _ => h.block k hk⟩
theorem Only.of_grown {K : Nat → Prop} {w w' : World} {row : Option Nat} (h : w.grownBy w' row) (hr : ∀ k, row = some k → K k) : Only K w w' :=
  ⟨h.os, h.tape, h.output, h.size, fun k hk hn => h.block k hk (fun e => hn (hr k e.symm))⟩
theorem Only.drewN {K : Nat → Prop} {w w' : World} (h : Only K w w') (q : Nat) : Only K w (w'.drewN q) := ⟨h.os, h.tape, h.output, h.size, h.block⟩

/-- What the walk owns grows by what is new. -/
def Kx (K : Nat → Prop) (a b : Nat) : Nat → Prop := fun k => K k ∨ (a ≤ k ∧ k < b)

theorem Only.trans {K : Nat → Prop} {a b c : World} (h : Only K a b) (k : Only (Kx K a.heap.size b.heap.size) b c) : Only K a c :=
  ⟨k.os.trans h.os, k.tape.trans h.tape, k.output.trans h.output, Nat.le_trans h.size k.size, fun i hi hn => by
    rw [k.block i (Nat.lt_of_lt_of_le hi h.size) (fun e => e.elim hn fun e => by omega)]
    exact h.block i hi hn⟩

theorem Only.trans' {K : Nat → Prop} {a b c : World} (h : Only K a b) (k : Only K b c) : Only K a c :=
  ⟨k.os.trans h.os, k.tape.trans h.tape, k.output.trans h.output, Nat.le_trans h.size k.size, fun i hi hn => (k.block i (Nat.lt_of_lt_of_le hi h.size) hn).trans (h.block i hi hn)⟩

theorem VB.blocks {w w' : World} {K : Nat → Prop} {N : Nat} {S : St} {bn bs : Nat} {av : Value} {φ : Nat → Nat} {ψ : Nat → Value} (h : VB w K N S bn bs av φ ψ)
    (h1 : w'.heap[bn]? = w.heap[bn]?) (h2 : w'.heap[bs]? = w.heap[bs]?) (h3 : ∀ k, av.ownBlock = some k → w'.heap[k]? = w.heap[k]?) (h4 : ∀ i, VfsS.Live S i → w'.heap[φ i]? = w.heap[φ i]?) (h5 : ∀ i k, VfsS.Live S i → (ψ i).ownBlock = some k → w'.heap[k]? = w.heap[k]?) : VB w' K N S bn bs av φ ψ :=
  { h with
    now := by obtain ⟨n, hn, hm⟩ := h.now; exact ⟨n, hn, hm.block h1⟩
    sure := by obtain ⟨n, hn, hm⟩ := h.sure; exact ⟨n, hn, hm.block h2⟩
    acts := h.acts.block h3
    file := fun i hi => ⟨(h4 i hi).trans (h.file i hi).1, (h.file i hi).2.block fun k hk => h5 i k hi hk⟩ }

theorem VB.lt {w : World} {K : Nat → Prop} {N : Nat} {S : St} {bn bs : Nat} {av : Value} {φ : Nat → Nat} {ψ : Nat → Value} (h : VB w K N S bn bs av φ ψ) {i : Nat} (hi : VfsS.Live S i) : φ i < w.heap.size := (Array.getElem?_eq_some_iff.1 (h.file i hi).1).1

/-- Where a block p of cells of another type is turned, all stays. -/
theorem VB.other {w w' : World} {K : Nat → Prop} {N : Nat} {S : St} {bn bs : Nat} {av : Value} {φ : Nat → Nat} {ψ : Nat → Value} (h : VB w K N S bn bs av φ ψ) {p : Nat} {cs : Array Value} {e : TypeId} {fr : Nat × Nat} (hp : w.heap[p]? = some (.cells cs e fr))
    (he : e ≠ 150 ∧ e ≠ 130 ∧ e ≠ 5) (hg : w.grownBy w' (some p)) : VB w' K N S bn bs av φ ψ := by
  obtain ⟨n1, -, m1⟩ := h.now
  obtain ⟨n2, -, m2⟩ := h.sure
  obtain ⟨es1, c1, b1⟩ := m1.isMap
  obtain ⟨es2, c2, b2⟩ := m2.isMap
  have key : ∀ k o, w.heap[k]? = some o → (∀ (cs' : Array Value) (fr' : Nat × Nat), o ≠ Obj.cells cs' e fr') → w'.heap[k]? = w.heap[k]? := fun k o hk ho =>
    hg.block k (Array.getElem?_eq_some_iff.1 hk).1 (fun e1 => by injection e1 with e1; subst e1; rw [hp] at hk; injection hk with hk; exact ho _ _ hk.symm)
  refine h.blocks (key _ _ b1 (by intros; simp)) (key _ _ b2 (by intros; simp)) (fun k hk => ?_) (fun i hi => key _ _ (h.file i hi).1 (by intro _ _ e1; injection e1 with _ e1 _; exact he.2.1 e1.symm)) (fun i k hi hk => ?_)
  · obtain ⟨cur, hc⟩ := h.acts.tag hk
    exact key _ _ hc (by intro _ _ e1; injection e1 with _ e1 _; exact he.1 e1.symm)
  · obtain ⟨cur, hc⟩ := (h.file i hi).2.tag hk
    exact key _ _ hc (by intro _ _ e1; injection e1 with _ e1 _; exact he.2.2 e1.symm)

theorem VB.grown0 {w w' : World} {K : Nat → Prop} {N : Nat} {S : St} {bn bs : Nat} {av : Value} {φ : Nat → Nat} {ψ : Nat → Value} (h : VB w K N S bn bs av φ ψ) (hb : Below w.heap.size w w') : VB w' K N S bn bs av φ ψ := by
  obtain ⟨n1, -, m1⟩ := h.now
  obtain ⟨n2, -, m2⟩ := h.sure
  exact h.blocks (hb.block _ m1.lt) (hb.block _ m2.lt) (fun k hk => hb.block k (h.acts.lt hk)) (fun i hi => hb.block _ (h.lt hi)) (fun i k hi hk => hb.block k ((h.file i hi).2.lt hk))

theorem VB.mono {w : World} {K K' : Nat → Prop} {N N' : Nat} {S : St} {bn bs : Nat} {av : Value} {φ : Nat → Nat} {ψ : Nat → Value} (h : VB w K N S bn bs av φ ψ) (hK : ∀ k, K k → K' k) (hN : N ≤ N') (hb : N' ≤ 100000000) : VB w K' N' S bn bs av φ ψ :=
  { h with
    now := by obtain ⟨n, hn, hm⟩ := h.now; exact ⟨n, by omega, hm⟩
    sure := by obtain ⟨n, hn, hm⟩ := h.sure; exact ⟨n, by omega, hm⟩
    kn := hK _ h.kn
    ks := hK _ h.ks
    ka := fun k hk => hK _ (h.ka k hk)
    kf := fun i hi => hK _ (h.kf i hi)
    kb := fun i k hi hk => hK _ (h.kb i k hi hk)
    len := by have := h.len; omega
    big := hb }

theorem VX.keep {w w' : World} {p : Nat} {S : St} {K : Nat → Prop} {N : Nat} {bn bs : Nat} {av : Value} {φ : Nat → Nat} {ψ : Nat → Value} (h : VX w p S K N bn bs av φ ψ) (hk : ∀ k, k < w.heap.size → K k → w'.heap[k]? = w.heap[k]?) : VX w' p S K N bn bs av φ ψ := by
  obtain ⟨hB, hp, hkp, hs⟩ := h
  obtain ⟨n1, -, m1⟩ := hB.now
  obtain ⟨n2, -, m2⟩ := hB.sure
  refine ⟨hB.blocks (hk _ m1.lt hB.kn) (hk _ m2.lt hB.ks) (fun k h1 => hk k (hB.acts.lt h1) (hB.ka k h1)) (fun i hi => hk _ (hB.lt hi) (hB.kf i hi)) (fun i k hi h1 => hk k ((hB.file i hi).2.lt h1) (hB.kb i k hi h1)), ?_, hkp, hs⟩
  rw [hk p (Array.getElem?_eq_some_iff.1 hp).1 hkp]; exact hp

theorem VX.below {w w' : World} {p : Nat} {S : St} {K : Nat → Prop} {N : Nat} {bn bs : Nat} {av : Value} {φ : Nat → Nat} {ψ : Nat → Value} (h : VX w p S K N bn bs av φ ψ) (hb : Below w.heap.size w w') : VX w' p S K N bn bs av φ ψ := h.keep fun k hk _ => hb.block k hk

/-- With K's blocks untouched the file system is as it was. -/
theorem VRep.keep {w w' : World} {p : Nat} {S : St} {K : Nat → Prop} {N : Nat} (h : VRep w p S K N) (hk : ∀ k, k < w.heap.size → K k → w'.heap[k]? = w.heap[k]?) : VRep w' p S K N := by
  obtain ⟨bn, bs, av, φ, ψ, hB, hp, hkp, hs⟩ := h
  obtain ⟨n1, -, m1⟩ := hB.now
  obtain ⟨n2, -, m2⟩ := hB.sure
  refine ⟨bn, bs, av, φ, ψ, hB.blocks (hk _ m1.lt hB.kn) (hk _ m2.lt hB.ks) (fun k h1 => hk k (hB.acts.lt h1) (hB.ka k h1)) (fun i hi => hk _ (hB.lt hi) (hB.kf i hi)) (fun i k hi h1 => hk k ((hB.file i hi).2.lt h1) (hB.kb i k hi h1)), ?_, hkp, hs⟩
  rw [hk p (Array.getElem?_eq_some_iff.1 hp).1 hkp]; exact hp

theorem VRep.below {w w' : World} {p : Nat} {S : St} {K : Nat → Prop} {N : Nat} (h : VRep w p S K N) (hb : Below w.heap.size w w') : VRep w' p S K N := h.keep fun k hk _ => hb.block k hk

theorem VRep.drewN {w : World} {p : Nat} {S : St} {K : Nat → Prop} {N : Nat} (h : VRep w p S K N) (q : Nat) : VRep (w.drewN q) p S K N := h.below (below_dN (Below.refl _ _) q)

theorem VRep.mono {w : World} {p : Nat} {S : St} {K K' : Nat → Prop} {N N' : Nat} (h : VRep w p S K N) (hK : ∀ k, K k → K' k) (hN : N ≤ N') (hb : N' ≤ 100000000) : VRep w p S K' N' := by
  obtain ⟨bn, bs, av, φ, ψ, hB, hp, hkp, hs⟩ := h
  exact ⟨bn, bs, av, φ, ψ, hB.mono hK hN hb, hp, hK _ hkp, by omega⟩

theorem VRep.wf {w : World} {p : Nat} {S : St} {K : Nat → Prop} {N : Nat} (h : VRep w p S K N) : VfsS.Wf S := by obtain ⟨_, _, _, _, _, hB, _⟩ := h; exact hB.wf
theorem VRep.big {w : World} {p : Nat} {S : St} {K : Nat → Prop} {N : Nat} (h : VRep w p S K N) : N ≤ 100000000 := by obtain ⟨_, _, _, _, _, hB, _⟩ := h; exact hB.big

theorem cell_of {w : World} {p : Nat} {cs : Array Value} {e : TypeId} {fr : Nat × Nat} (h : w.heap[p]? = some (.cells cs e fr)) (j : Nat) : w.cell? ⟨p, j, none⟩ = cs[j]? := by simp [World.cell?, h]

/-- A cell of a block of the walk's own is stored. -/
theorem set_block {w : World} {p : Nat} {cs : Array Value} {e : TypeId} {fr : Nat × Nat} (h : w.heap[p]? = some (.cells cs e fr)) (j : Nat) (v : Value) :
    (w.setCell ⟨p, j, none⟩ v).heap[p]? = some (.cells (cs.setIfInBounds j v) e fr) ∧ w.grownBy (w.setCell ⟨p, j, none⟩ v) (some p) := by
  refine ⟨by simp [World.setCell, Array.getElem?_modify, h], rfl, rfl, rfl, by simp [World.setCell], fun k hk hne => ?_⟩
  simp only [World.setCell]
  rw [Array.getElem?_modify, if_neg (fun e1 => hne (by rw [e1]))]

theorem frozen_of {w : World} {p : Nat} {cs : Array Value} {e : TypeId} (h : w.heap[p]? = some (.cells cs e (0, 0))) (j : Nat) : w.frozen? ⟨p, j, none⟩ = false := by simp [World.frozen?, h]

set_option maxRecDepth 100000 in
theorem step_c {w : World} {p : Nat} {S : St} {K : Nat → Prop} {N : Nat} {bn bs : Nat} {av : Value} {φ : Nat → Nat} {ψ : Nat → Value} (h : VX w p S K N bn bs av φ ψ) (hN : N + 1 ≤ 100000000) :
    Calls Tryd.prog 62 #[.pointer (some ⟨p, 0, none⟩)] w fun e w' => e = .returned (.int .i64 (if S.limit = 0 then 190 else 0)) ∧ VX w' p (VfsS.stepS S) K (N + 1) bn bs av φ ψ ∧ w.grownBy w' (some p) := by
  obtain ⟨hB, hp, hkp, hs⟩ := h
  have hl := hB.wf.lim
  have c4 : w.cell? ⟨p, 4, none⟩ = some (.int .i64 S.steps) := by rw [cell_of hp]; rfl
  have c5 : w.cell? ⟨p, 5, none⟩ = some (.int .i64 S.limit) := by rw [cell_of hp]; rfl
  have f4 := frozen_of hp 4
  have f5 := frozen_of hp 5
  have hw1 : IntKind.i64.wrap ((S.steps : Int) + 1) = ((S.steps + 1 : Nat) : Int) := IntWalk.i64_in _ (by omega)
  have hlt := (Array.getElem?_eq_some_iff.1 hp).1
  by_cases h0 : S.limit = 0
  · have HS : Hid (VfsS.stepS S = S) := by show _ = _; unfold VfsS.stepS; rw [if_pos h0]
    have hd : (S.limit == 0) = true := by rw [h0]; rfl
    have HB := Lib.hid (hB.mono (K' := K) (N' := N + 1) (fun _ h => h) (by omega) hN)
    rw [if_pos h0]
    have HP := Lib.hid hp
    clear h0 hB hp
    go_enter Tryd.func62, Tryd.ntmps62
    go_wp2_with fail
    go_ret
    refine ⟨rfl, ?_, ⟨rfl, rfl, rfl, Nat.le_refl _, fun _ _ _ => rfl⟩⟩
    rw [HS.out]
    exact ⟨HB.out, HP.out, hkp, by omega⟩
  · have hd : (S.limit == 0) = false := by rw [beq_eq_false_iff_ne]; exact h0
    rw [if_neg h0]
    by_cases h1 : 0 < S.limit
    · have HS : Hid (VfsS.stepS S = { S with limit := S.limit - 1, steps := S.steps + 1 }) := by show _ = _; unfold VfsS.stepS; rw [if_neg h0, if_pos h1]
      have hw2 : IntKind.i64.wrap (S.limit - 1) = S.limit - 1 := IntWalk.i64_in _ (by omega)
      obtain ⟨s1, g1⟩ := set_block hp 5 (.int .i64 (S.limit - 1))
      obtain ⟨s2, g2⟩ := set_block s1 4 (.int .i64 ((S.steps + 1 : Nat) : Int))
      have g12 : w.grownBy ((w.setCell ⟨p, 5, none⟩ (.int .i64 (S.limit - 1))).setCell ⟨p, 4, none⟩ (.int .i64 ((S.steps + 1 : Nat) : Int))) (some p) := World.grownBy.andThen g1 g2 (fun j hj => .inr hj)
      have HB2 := Lib.hid (((hB.other hp (by decide) g12).mono (K' := K) (N' := N + 1) (fun _ h => h) (by omega) hN))
      have HW := Lib.hid hB.wf.step
      have c4' : (w.setCell ⟨p, 5, none⟩ (.int .i64 (S.limit - 1))).cell? ⟨p, 4, none⟩ = some (.int .i64 S.steps) := by rw [cell_of s1]; rfl
      have f4' := frozen_of s1 4
      have HS2 := Lib.hid s2
      have HG := Lib.hid g12
      clear h0 hB hp s1 s2 g1 g2 g12
      go_enter Tryd.func62, Tryd.ntmps62
      go_wp2_with fail
      go_ret
      refine ⟨rfl, ?_, HG.out⟩
      have hw := HW.out
      rw [HS.out] at hw ⊢
      exact ⟨{ HB2.out with wf := hw }, HS2.out, hkp, by show S.steps + 1 ≤ N + 1; omega⟩
    · have HS : Hid (VfsS.stepS S = { S with steps := S.steps + 1 }) := by show _ = _; unfold VfsS.stepS; rw [if_neg h0, if_neg h1]
      obtain ⟨s2, g2⟩ := set_block hp 4 (.int .i64 ((S.steps + 1 : Nat) : Int))
      have HB2 := Lib.hid (((hB.other hp (by decide) g2).mono (K' := K) (N' := N + 1) (fun _ h => h) (by omega) hN))
      have HW := Lib.hid hB.wf.step
      have HS2 := Lib.hid s2
      have HG := Lib.hid g2
      clear h0 hB hp s2 g2
      go_enter Tryd.func62, Tryd.ntmps62
      go_wp2_with fail
      go_ret
      refine ⟨rfl, ?_, HG.out⟩
      have hw := HW.out
      rw [HS.out] at hw ⊢
      exact ⟨{ HB2.out with wf := hw }, HS2.out, hkp, by show S.steps + 1 ≤ N + 1; omega⟩
end Go.Proofs.YtfoamcobpfflbaaDoor
namespace Go.Proofs.YtfoamcobpfflbaaDoor
open Go Go.RowKit

theorem wrap_u32n (n : Nat) : IntKind.u32.wrap (n : Int) = ((n % 4294967296 : Nat) : Int) := by
  simp [IntKind.wrap, IntKind.bits, IntKind.signed]
theorem wrap_u64n (n : Nat) (h : n < 18446744073709551616) : IntKind.u64.wrap (n : Int) = (n : Int) := by
  rw [IntKind.wrap_u64]; omega

theorem bits_u32 (a b : Nat) (ha : a < 4294967296) (hb : b < 4294967296) :
    bits .xor .u32 (a : Int) (b : Int) = ((a ^^^ b : Nat) : Int) ∧ bits .and .u32 (a : Int) (b : Int) = ((a &&& b : Nat) : Int) ∧ bits .or .u32 (a : Int) (b : Int) = ((a ||| b : Nat) : Int) := by
  have h1 : (BitVec.ofInt 32 (a : Int)).toNat = a := by
    rw [BitVec.ofInt_natCast, BitVec.toNat_ofNat]; exact Nat.mod_eq_of_lt (by omega)
  have h2 : (BitVec.ofInt 32 (b : Int)).toNat = b := by
    rw [BitVec.ofInt_natCast, BitVec.toNat_ofNat]; exact Nat.mod_eq_of_lt (by omega)
  have hx : a ^^^ b < 2 ^ 32 := Nat.xor_lt_two_pow (by omega) (by omega)
  have hn : a &&& b < 2 ^ 32 := Nat.lt_of_le_of_lt Nat.and_le_left (by omega)
  have ho : a ||| b < 2 ^ 32 := Nat.or_lt_two_pow (by omega) (by omega)
  refine ⟨?_, ?_, ?_⟩
  · show IntKind.u32.wrap ((BitVec.ofInt 32 (a : Int) ^^^ BitVec.ofInt 32 (b : Int)).toNat : Int) = _
    rw [BitVec.toNat_xor, h1, h2, wrap_u32n, Nat.mod_eq_of_lt hx]
  · show IntKind.u32.wrap ((BitVec.ofInt 32 (a : Int) &&& BitVec.ofInt 32 (b : Int)).toNat : Int) = _
    rw [BitVec.toNat_and, h1, h2, wrap_u32n, Nat.mod_eq_of_lt hn]
  · show IntKind.u32.wrap ((BitVec.ofInt 32 (a : Int) ||| BitVec.ofInt 32 (b : Int)).toNat : Int) = _
    rw [BitVec.toNat_or, h1, h2, wrap_u32n, Nat.mod_eq_of_lt ho]

set_option maxRecDepth 100000 in
theorem rot_c {w : World} {x : Nat} (hx : x < 4294967296) (n : Nat) (hn : 0 < n ∧ n < 32) :
    Calls Tryd.prog 91 #[.int .u32 x, .int .i64 (-(n : Int))] w fun e w' => e = .returned (.int .u32 (Sha.rotr x n)) ∧ w' = w := by
  have hk : bits .and .u64 (IntKind.u64.wrap (-(n : Int))) 31 = ((32 - n : Nat) : Int) := by
    have e : IntKind.u64.wrap (-(n : Int)) = ((18446744073709551616 - n : Nat) : Int) := by rw [IntKind.wrap_u64]; omega
    rw [e, show (31 : Int) = ((31 : Nat) : Int) from rfl, bits_and_u64_nat _ _ (by omega) (by decide), show (31 : Nat) = 2 ^ 5 - 1 from rfl, Nat.and_two_pow_sub_one_eq_mod]
    omega
  have hk2 : IntKind.u64.wrap (32 - ((32 - n : Nat) : Int)) = (n : Int) := by rw [IntKind.wrap_u64]; omega
  go_enter Tryd.func91, Tryd.ntmps91
  go_wp2_with fail
  go_ret
  have e1 : (x : Int) * 2 ^ (32 - n) % 4294967296 = ((x * 2 ^ (32 - n) % 4294967296 : Nat) : Int) := by
    rw [Int.natCast_emod, Int.natCast_mul, Int.natCast_pow]; rfl
  have e2 : (x : Int) / 2 ^ n = ((x / 2 ^ n : Nat) : Int) := by rw [Int.natCast_ediv, Int.natCast_pow]; rfl
  have e3 : bits .or .u32 ((x : Int) * 2 ^ (32 - n) % 4294967296) ((x : Int) / 2 ^ n) = ((Sha.rotr x n : Nat) : Int) := by
    rw [e1, e2, (bits_u32 _ _ (Nat.mod_lt _ (by omega)) (Nat.lt_of_le_of_lt (Nat.div_le_self _ _) hx)).2.2, Sha.rotl_or hx hn]
  exact ⟨by simp [e3], rfl⟩

set_option maxRecDepth 100000 in
theorem drop_c {w : World} {x : Nat} (hx : x < 18446744073709551616) (n : Nat) (hn : n ≤ 64) :
    Calls Tryd.prog 75 #[.int .u64 x, .int .i64 n] w fun e w' => e = .returned (.int .u64 (x / 2 ^ n : Nat)) ∧ w' = w := by
  go_enter Tryd.func75, Tryd.ntmps75
  go_wp2_with fail
  go_loopw [0, 5] (fun v i wr => ∃ k : Nat, k ≤ n ∧ i = .int .i64 k ∧ v = .int .u64 (x / 2 ^ k : Nat) ∧ wr = w) (fun _ i _ => (n - intOf i).toNat)
  case atStart => exact ⟨0, Nat.zero_le _, rfl, by simp, rfl⟩
  case round =>
    obtain ⟨k, hk, rfl, rfl, rfl⟩ := hrel
    have hw : IntKind.i64.wrap ((k : Int) + 1) = (k : Int) + 1 := IntWalk.i64_in _ (by omega)
    by_cases h : k < n
    · have hd : decide ((k : Int) < (n : Int)) = true := decide_eq_true (by omega)
      have hx2 : IntKind.u64.wrap (((x : Int) / 2 ^ k).tdiv 2) = ((x / 2 ^ (k + 1) : Nat) : Int) := by
        have e : ((x : Int) / 2 ^ k) = ((x / 2 ^ k : Nat) : Int) := by rw [Int.natCast_ediv, Int.natCast_pow]; rfl
        generalize hz : x / 2 ^ k = z at *
        have h3 : x / 2 ^ k / 2 ≤ x := Nat.le_trans (Nat.div_le_self _ _) (Nat.div_le_self _ _)
        rw [e, Int.tdiv_eq_ediv_of_nonneg (by omega), show (z : Int) / 2 = ((z / 2 : Nat) : Int) by omega, Nat.pow_succ, ← Nat.div_div_eq_div_mul, hz, wrap_u64n _ (by omega)]
      go_wp2_with fail
      go_roundw
      case rel => exact ⟨k + 1, by omega, by go_num, by first | rfl | rw [hx2] | simp [hx2], by first | rfl | trivial⟩
      case measure => simp [intOf]; omega
    · have hd : decide ((k : Int) < (n : Int)) = false := decide_eq_false (by omega)
      go_wp2_with fail
      go_ret
      obtain rfl : k = n := by omega
      exact ⟨by simp, rfl⟩

theorem turn_num {x n : Nat} (hx : x < 4294967296) (hn : n ≤ 32) : IntKind.u64.wrap (((x / 2 ^ n : Nat) : Int) + IntKind.u64.wrap (((x % 2 ^ n : Nat) : Int) * ((2 ^ (32 - n) : Nat) : Int))) = ((Sha.rotr x n : Nat) : Int) := by
  have h := Sha.rotr_lt hx hn
  unfold Sha.rotr at *
  rw [← Int.natCast_mul]
  generalize x / 2 ^ n = a at *
  generalize x % 2 ^ n * 2 ^ (32 - n) = c at *
  rw [wrap_u64n _ (by omega), ← Int.natCast_add, wrap_u64n _ (by omega)]

set_option maxRecDepth 100000 in
theorem turn_c {w : World} {x : Nat} (hx : x < 4294967296) (n : Nat) (hn : n ≤ 32) :
    Calls Tryd.prog 74 #[.int .u64 x, .int .i64 n] w fun e w' => e = .returned (.int .u64 (Sha.rotr x n)) ∧ ∃ q, w' = w.drewN q := by
  go_enter Tryd.func74, Tryd.ntmps74
  go_wp2_with fail
  go_loopw [5, 6] (fun v i wr => ∃ k : Nat, k ≤ n ∧ i = .int .i64 k ∧ v = .int .u64 (2 ^ k : Nat) ∧ wr = w) (fun _ i _ => (n - intOf i).toNat)
  case atStart => exact ⟨0, Nat.zero_le _, rfl, by simp, rfl⟩
  case round =>
    obtain ⟨k, hk, rfl, rfl, rfl⟩ := hrel
    have hw : IntKind.i64.wrap ((k : Int) + 1) = (k : Int) + 1 := IntWalk.i64_in _ (by omega)
    by_cases h : k < n
    · have hd : decide ((k : Int) < (n : Int)) = true := decide_eq_true (by omega)
      have hp : 2 ^ (k + 1) ≤ 2 ^ 32 := Nat.pow_le_pow_right (by omega) (by omega)
      have hx2 : IntKind.u64.wrap (((2 ^ k : Nat) : Int) * 2) = ((2 ^ (k + 1) : Nat) : Int) := by
        rw [Nat.pow_succ] at *
        rw [show ((2 ^ k : Nat) : Int) * 2 = ((2 ^ k * 2 : Nat) : Int) by omega, wrap_u64n _ (by omega)]
      generalize hz : 2 ^ k = z at *
      go_wp2_with fail
      go_roundw
      case rel => exact ⟨k + 1, by omega, by go_num, by first | rfl | rw [hx2] | simp [hx2], by first | rfl | trivial⟩
      case measure => simp [intOf]; omega
    · have hd : decide ((k : Int) < (n : Int)) = false := decide_eq_false (by omega)
      obtain rfl : k = n := by omega
      have h2 := turn_num hx hn
      have hpos : 0 < 2 ^ k := Nat.two_pow_pos k
      have h1 : 2 ^ k * 2 ^ (32 - k) = 4294967296 := by rw [← Nat.pow_add, show k + (32 - k) = 32 by omega]
      have e3 : Int.tdiv 4294967296 ((2 ^ k : Nat) : Int) = ((2 ^ (32 - k) : Nat) : Int) := by
        rw [Int.tdiv_eq_ediv_of_nonneg (by omega), show (4294967296 : Int) = ((2 ^ k * 2 ^ (32 - k) : Nat) : Int) by rw [h1]; rfl, ← Int.natCast_ediv, Nat.mul_div_cancel_left _ hpos]
      have e1 : Int.tdiv (x : Int) ((2 ^ k : Nat) : Int) = ((x / 2 ^ k : Nat) : Int) := by rw [Int.tdiv_eq_ediv_of_nonneg (by omega), ← Int.natCast_ediv]
      have e2 : Int.tmod (x : Int) ((2 ^ k : Nat) : Int) = ((x % 2 ^ k : Nat) : Int) := by rw [Int.tmod_eq_emod_of_nonneg (by omega), ← Int.natCast_emod]
      have l1 : x / 2 ^ k < 18446744073709551616 := Nat.lt_of_le_of_lt (Nat.div_le_self _ _) (by omega)
      have l2 : x % 2 ^ k < 18446744073709551616 := Nat.lt_of_le_of_lt (Nat.mod_le _ _) (by omega)
      have l3 : 2 ^ (32 - k) < 18446744073709551616 := Nat.lt_of_le_of_lt (Nat.pow_le_pow_right (by omega) (show 32 - k ≤ 32 by omega)) (by decide)
      have w1 := wrap_u64n _ l1
      have w2 := wrap_u64n _ l2
      have w3 := wrap_u64n _ l3
      have HT := Lib.hid h2
      clear h2
      generalize hz1 : x / 2 ^ k = z1 at *
      generalize hz2 : x % 2 ^ k = z2 at *
      generalize hz3 : 2 ^ (32 - k) = z3 at *
      generalize hz : 2 ^ k = z at *
      have hne : (z : Int) ≠ 0 := by omega
      go_wp2_with fail
      go_quiet (fail)
      go_wp2_with fail
      go_ret
      exact ⟨by simp [HT.out], _, rfl⟩

end Go.Proofs.YtfoamcobpfflbaaDoor
