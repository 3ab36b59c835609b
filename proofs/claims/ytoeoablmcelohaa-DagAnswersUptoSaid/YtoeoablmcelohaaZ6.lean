/- Texts of mine, joined: Walks over the document's answer: Ancestors, Comes, Missing. | Maps from names to numbers, and to slices of names. | How a graph lies in memory: New, Len, Parents. | The heap of a graph's walk, sorted by the nodes' places. | The walk of a graph in plain Lean: heaps of names. No program in sight. -/
import Derived.Sort.KeysCollected
import Derived.Lib.OwnBridge
import Derived.BigQuiet
import Derived.Test.YtoeoablmcelohaaZ5
namespace Go.Proofs.Ytoeoablmcelohaa
open Go Go.RowKit
open DagS (Nd nm pars par ids Wf ancS ancL upto)
open Classical

/-- v is the list l of texts, in a row of its own. -/
def TV (w : World) (v : Value) (l : List ByteArray) : Prop := OwnG w 9 1 v l.length (trow l)
theorem TV.nil (w : World) : TV w (.slice none 0 0) [] := OwnG.nil _ _ _
theorem TV.below {w w' : World} {v : Value} {l : List ByteArray} (h : TV w v l) (hb : Below w.heap.size w w') : TV w' v l := OwnG.below h hb
theorem TV.form {w : World} {v : Value} {l : List ByteArray} (h : TV w v l) : ∃ a c, v = .slice a l.length c ∧ l.length ≤ c ∧ Sl w a (trow l) := by
  obtain ⟨a, c, e, h1, -, h2⟩ := OwnG.form h
  exact ⟨a, c, e, h1, h2⟩
/-- A row that lies in a new block. -/
def New (n : Nat) (v : Value) : Prop := ∀ k, v.ownBlock = some k → n ≤ k
theorem New.nil (n : Nat) : New n (.slice none 0 0) := fun _ h => by cases h

theorem upto_succ (n : Nat) (P : Nat → Prop) : upto (n + 1) P = upto n P ++ (if P n then [n] else []) := by
  unfold upto
  rw [List.range_succ, List.filter_append]
  congr 1
  by_cases h : P n
  · rw [if_pos h, List.filter_cons_of_pos (by simpa using h), List.filter_nil]
  · rw [if_neg h, List.filter_cons_of_neg (by simpa using h), List.filter_nil]
theorem upto_len (n : Nat) (P : Nat → Prop) : (upto n P).length ≤ n := by
  unfold upto
  have := List.length_filter_le (fun i => decide (P i)) (List.range n)
  rwa [List.length_range] at this
theorem text_max {n : Nat} (h : n ≤ 20000000) : n + 1 ≤ maxLen ∧ (n + 1) * 16 ≤ 140737488355328 := ⟨by rw [show maxLen = 9223372036854775807 from rfl]; omega, by omega⟩

set_option maxRecDepth 100000 in
set_option maxHeartbeats 1000000 in
theorem ranc_c {w : World} {a : Option Addr} {c : Nat} {g : List Nd} (h : GR w a g) (hl : g.length ≤ 1000) (hw : Wf g) {fa : Option Addr} {fc : Nat} {l : List ByteArray} (hf : Sl w fa (trow l)) (hfl : l.length ≤ 9000000) :
    Calls Try.prog 20 #[.slice a g.length c, .slice fa l.length fc] w fun e w' => ∃ v, e = .returned v ∧ TV w' v (ancL g l) ∧ New w.heap.size v ∧ Below w.heap.size w w' := by
  have HR := Lib.hid h
  have HRE := Lib.hid (reached_c (c := c) (fc := fc) h hl hw hf hfl)
  clear h hf hw
  go_enter Try.func20, Try.ntmps20
  go_wp2_with (go_at_call 43; refine HRE.out.mono ?_; rintro e w1 ⟨b, cs, rfl, ha, hb1⟩)
  have HA := Lib.hid ha
  have HB := Lib.hid hb1
  clear ha hb1 HRE
  go_loopw [6, 7] (fun ov iv wx => ∃ i : Nat, i ≤ g.length ∧ iv = .int .i64 i ∧ TV wx ov ((upto i (ancS g l)).map (nm g)) ∧ New w1.heap.size ov ∧ Below w1.heap.size w1 wx) (fun _ iv _ => (g.length - intOf iv).toNat)
  case atStart => exact ⟨0, Nat.zero_le _, rfl, TV.nil _, New.nil _, Below.refl _ _⟩
  case round =>
    obtain ⟨i, hi, rfl, ho, hn, hb2⟩ := hrel
    have HO := Lib.hid ho
    have HN := Lib.hid hn
    have HB2 := Lib.hid hb2
    clear ho hn hb2
    by_cases hil : i < g.length
    · have hd : decide ((i : Int) < (g.length : Int)) = true := decide_eq_true (by omega)
      obtain ⟨b1, o1, pa, pc, rfl, hbl, q0, -, -⟩ := HR.out.at hil
      have p0 := ((HB.out.trans (HB2.out.mono HB.out.size)).cell (p := ⟨b1, o1 + i * 2, none⟩) hbl).trans q0
      have hc := (HA.out.below HB2.out).c i hil
      have hnm := DagS.nm_get hil
      have hsx := upto_succ i (ancS g l)
      have hlen := upto_len i (ancS g l)
      obtain ⟨t, ht⟩ : ∃ t, decide (ancS g l i) = t := ⟨_, rfl⟩
      rw [ht] at hc
      have hi0 : (0 : Int) ≤ i := by omega
      have hi1 : (i : Int) < g.length := by omega
      have hw1 : IntKind.i64.wrap ((i : Int) + 1) = ((i + 1 : Nat) : Int) := IntWalk.i64_in _ (by omega)
      generalize g[i] = x at *
      clear q0
      cases t with
      | true =>
        have HX : Hid ((upto (i + 1) (ancS g l)).map (nm g) = (upto i (ancS g l)).map (nm g) ++ [x.name]) := by
          show _ = _
          rw [hsx, if_pos (of_decide_eq_true ht), List.map_append, List.map_singleton, hnm]
        clear hsx ht hnm
        obtain ⟨L, hL⟩ : ∃ L, (upto i (ancS g l)).map (nm g) = L := ⟨_, rfl⟩
        have hLl : L.length ≤ 1000 := by rw [← hL, List.length_map]; omega
        rw [hL] at HX HO
        clear hL hlen
        obtain ⟨hm1, hm2⟩ := text_max (n := L.length) (by omega)
        have ho2 := OwnG.alloc HO.out (.cells #[.string x.name] 9)
        go_wp2_with (at_builtin; refine wp_appG rfl _ _ _ _ rfl textElem rfl rfl ho2 rfl (Src.ofNew (P := Try.prog) (w := wr) (tx := 32) (e := 9) Try.underlying32 (show [Value.string x.name].length = 1 from rfl) (by intro u hu; simp at hu; subst hu; rfl)) hm1 hm2 ?_; intro v4 w4 ho4 hg4 hv4)
        have hb4 : Below w1.heap.size w1 w4 := (HB2.out.alloc HB2.out.size _).grown hg4 (HB2.out.alloc HB2.out.size _).size HN.out
        have HB4 := Lib.hid hb4
        have HN4 : Hid (New w1.heap.size v4) := fun k hk => by
          rcases hv4 k hk with e | e
          · exact HN.out k e
          · have := HB2.out.size; simp at e; omega
        have HO4 : Hid (TV w4 v4 ((upto (i + 1) (ancS g l)).map (nm g))) := by
          show OwnG _ _ _ _ _ _
          rw [HX.out, List.length_append, List.length_singleton, trow_append]
          exact ho4
        clear hb4 ho4 hg4 hv4
        go_wp2_with fail
        go_roundw
        case rel => exact ⟨i + 1, by omega, by first | rfl | go_num, HO4.out, HN4.out, HB4.out⟩
        case measure => simp [intOf]; omega
      | false =>
        have HX : Hid ((upto (i + 1) (ancS g l)).map (nm g) = (upto i (ancS g l)).map (nm g)) := by
          show _ = _
          rw [hsx, if_neg (of_decide_eq_false ht), List.append_nil]
        clear hsx ht hnm
        go_wp2_with fail
        go_roundw
        case rel => exact ⟨i + 1, by omega, by first | rfl | go_num, by rw [HX.out]; exact HO.out, HN.out, HB2.out⟩
        case measure => simp [intOf]; omega
    · obtain rfl : i = g.length := by omega
      have hd : decide ((g.length : Int) < (g.length : Int)) = false := decide_eq_false (by omega)
      go_wp2_with fail
      go_ret
      exact ⟨_, rfl, HO.out, fun k hk => Nat.le_trans HB.out.size (HN.out k hk), HB.out.trans (HB2.out.mono HB.out.size)⟩

set_option maxRecDepth 100000 in
theorem rcomes_c {w : World} {a : Option Addr} {c : Nat} {g : List Nd} (h : GR w a g) (hl : g.length ≤ 1000) (hw : Wf g) (x y : ByteArray) :
    Calls Try.prog 21 #[.slice a g.length c, .string x, .string y] w fun e w' => e = .returned (.bool (decide (DagS.Comes g x y))) ∧ Below w.heap.size w w' := by
  have hb : Below w.heap.size w (w.alloc (.cells #[.string x] 9)) := (Below.refl _ w).alloc (Nat.le_refl _) _
  have HAN := Lib.hid (ranc_c (c := c) (fc := 1) (h.below hb) hl hw (l := [x]) (sl_new w [.string x] 9 (0, 0)) (by simp))
  have HB := Lib.hid hb
  have HM := Lib.hid (hw.mem_anc1 (a := x) (x := y))
  have HL : Hid ((ancL g [x]).length ≤ 1000) := by
    show _ ≤ _
    unfold ancL
    rw [List.length_map]
    exact Nat.le_trans (upto_len _ _) hl
  clear h hb hw
  have HIN : Hid (∀ (W : World) (fa : Option Addr) (fc : Nat), Sl W fa (trow (ancL g [x])) → Calls Try.prog 44 #[.slice fa (ancL g [x]).length fc, .string y] W fun e w' => e = .returned (.bool (decide (y ∈ ancL g [x]))) ∧ w' = W) := fun W fa fc hs => in_c hs (by have := HL.out; omega) y
  go_enter Try.func21, Try.ntmps21
  go_wp2_with (first
    | (go_at_call 20; refine HAN.out.mono ?_; rintro e w1 ⟨v, rfl, hv, -, hb1⟩; obtain ⟨va, vc, rfl, -, hs⟩ := hv.form)
    | (go_at_call 44; refine (HIN.out _ _ _ hs).mono ?_; rintro e w2 ⟨rfl, hw2⟩; obtain rfl := hw2.symm))
  go_ret
  refine ⟨?_, HB.out.trans (hb1.mono HB.out.size)⟩
  show Ending.returned (.bool (decide (y ∈ ancL g [x]))) = _
  rw [decide_eq_decide.2 HM.out]
end Go.Proofs.Ytoeoablmcelohaa
namespace Go.Proofs.Ytoeoablmcelohaa
open Go Go.RowKit Go.Maps Go.Sort

def numV (z : Int) : Value := .int .i64 z
def numR (v : Value) : Option (DataW Unit × List MemPlace) := match v with
  | .int .i64 z => some (.lit (.int .i64 z), [])
  | _ => none
def slV (p : Option Addr × Nat × Nat) : Value := .slice p.1 p.2.1 p.2.2
def slD (p : Option Addr × Nat × Nat) : DataW Unit := match p with
  | (none, n, c) => .agg [.lit (.int .i64 n), .lit (.int .i64 c)]
  | (some ⟨b, o, _⟩, n, c) => .agg [.lit (.int .i64 n), .lit (.int .i64 c), .lit (.int .i64 b), .lit (.int .i64 o)]
def slR (v : Value) : Option (DataW Unit × List MemPlace) := match v with
  | .slice none n c => some (slD (none, n, c), [])
  | .slice (some ⟨b, o, none⟩) n c => some (slD (some ⟨b, o, none⟩, n, c), [])
  | _ => none
def slOk (p : Option Addr × Nat × Nat) : Prop := ∀ a, p.1 = some a → a.spot = none
theorem slR_mk {p : Option Addr × Nat × Nat} (h : slOk p) : slR (slV p) = some (slD p, []) := by
  obtain ⟨a, n, c⟩ := p
  cases a with
  | none => rfl
  | some a =>
    obtain ⟨b, o, s⟩ := a
    have : s = none := h _ rfl
    subst this
    rfl
theorem slR_inv {v : Value} {y : DataW Unit × List MemPlace} (h : slR v = some y) : ∃ p, v = slV p ∧ y = (slD p, []) ∧ slOk p := by
  unfold slR at h
  split at h
  · rename_i n c; injection h with h; exact ⟨(none, n, c), rfl, h.symm, fun a e => by cases e⟩
  · rename_i b o n c; injection h with h; exact ⟨(some ⟨b, o, none⟩, n, c), rfl, h.symm, fun a e => by injection e with e; subst e; rfl⟩
  · cases h
theorem slD_inj {p q : Option Addr × Nat × Nat} (hp : slOk p) (hq : slOk q) (h : slD p = slD q) : p = q := by
  obtain ⟨a, n, c⟩ := p
  obtain ⟨a', n', c'⟩ := q
  cases a with
  | none =>
    cases a' with
    | none => simp [slD] at h; obtain ⟨h1, h2⟩ := h; simp; exact ⟨by omega, by omega⟩
    | some a' => simp [slD] at h
  | some a =>
    cases a' with
    | none => simp [slD] at h
    | some a' =>
      obtain ⟨b, o, s⟩ := a
      obtain ⟨b', o', s'⟩ := a'
      have e1 : s = none := hp _ rfl
      have e2 : s' = none := hq _ rfl
      subst e1 e2
      simp [slD] at h
      obtain ⟨h1, h2, h3, h4⟩ := h
      obtain rfl : b = b' := by omega
      obtain rfl : o = o' := by omega
      obtain rfl : n = n' := by omega
      obtain rfl : c = c' := by omega
      rfl

theorem ba_lit_inj {x y : ByteArray} (h : Lit.string x.data.toList = .string y.data.toList) : x = y := by
  injection h with h
  exact DagS.ba_eq h

/-- Maps from names to numbers. -/
def OC : MC Try.prog 61 9 3 ByteArray Int where
  mkK := Value.string
  lit s := .string s.data.toList
  okK s := s.size ≤ maxLen
  mkE := numV
  dt z := .lit (.int .i64 z)
  ok _ := True
  z0 := 0
  R := numR
  keyed := string_keyed Try.underlying9
  under := Try.underlying61
  key x hx := WideMaps.keyOf_string_mk Try.underlying9 hx
  keyInv v l h := by
    obtain ⟨s, h1, h2, h3⟩ := WideMaps.string_of_keyOf Try.underlying9 h
    exact ⟨s, h1, h2, h3⟩
  litInj _ _ _ _ h := ba_lit_inj h
  el a _ := rfl
  elInv v y h := by
    unfold numR at h
    split at h
    · rename_i z; injection h with h; exact ⟨z, rfl, h.symm, trivial⟩
    · cases h
  dtInj a b _ _ h := by injection h with h; injection h
  zero w := Try.zeroValue3 w
  okz := trivial

/-- Maps from names to slices of names. -/
def PC : MC Try.prog 60 9 32 ByteArray (Option Addr × Nat × Nat) where
  mkK := Value.string
  lit s := .string s.data.toList
  okK s := s.size ≤ maxLen
  mkE := slV
  dt := slD
  ok := slOk
  z0 := (none, 0, 0)
  R := slR
  keyed := string_keyed Try.underlying9
  under := Try.underlying60
  key x hx := WideMaps.keyOf_string_mk Try.underlying9 hx
  keyInv v l h := by
    obtain ⟨s, h1, h2, h3⟩ := WideMaps.string_of_keyOf Try.underlying9 h
    exact ⟨s, h1, h2, h3⟩
  litInj _ _ _ _ h := ba_lit_inj h
  el a ha := slR_mk ha
  elInv v y h := by obtain ⟨p, h1, h2, h3⟩ := slR_inv h; exact ⟨p, h1, h2, h3⟩
  dtInj a b ha hb h := slD_inj ha hb h
  zero w := Try.zeroValue32 w
  okz := fun a e => by cases e

/-- How many entries a map has whose keys are texts. -/
theorem MapG.count {α : Type} {t e : TypeId} {C : MC Try.prog t 9 e ByteArray α} (hlit : ∀ s, C.lit s = .string s.data.toList) (hok : ∀ s, C.okK s ↔ s.size ≤ maxLen) {w : World} {b n : Nat} {F : ByteArray → Option α} (h : MapG C w b n F) {l : List ByteArray} (hl : l.Nodup) (hm : ∀ s, s ∈ l ↔ (F s).isSome = true) (ty : TypeId) :
    (Builtin.len_ #[t] ty #[.map (some b)]).run Try.prog w = .ok (.int .i64 l.length) w := by
  obtain ⟨D, h1, h2, h3, h4⟩ := h
  rw [h1.len C.under ty]
  obtain ⟨es, hD, hpw⟩ := h2
  obtain ⟨es', hD', hko⟩ := h1.keysOf
  obtain rfl : es = es' := by rw [hD] at hD'; simpa using hD'
  subst hD
  have hnd : (l.map fun s => s.data.toList).Nodup := List.Pairwise.map _ (fun x y hxy e => hxy (DagS.ba_eq e)) hl
  have hp : (l.map fun s => s.data.toList).Perm (strKeys (DataW.map es)) := by
    refine perm_strKeys hpw (fun p hp => by obtain ⟨v, hv⟩ := hko p hp; obtain ⟨x, _, hx, _⟩ := Maps.keyOf_str Try.underlying9 hv; exact ⟨x, hx⟩) hnd (fun x => ?_)
    constructor
    · intro hx
      rw [List.mem_map] at hx
      obtain ⟨s, hs, rfl⟩ := hx
      have hs := (hm s).1 hs
      obtain ⟨a, ha⟩ := Option.isSome_iff_exists.1 hs
      have := (h3 s (h4 _ _ ha).1).1
      rw [hs, hlit] at this
      exact this
    · intro hx
      rw [has_eq, List.any_eq_true] at hx
      obtain ⟨p, hp, hs⟩ := hx
      obtain ⟨v, hv⟩ := hko p hp
      obtain ⟨y, _, hy, hle⟩ := Maps.keyOf_str Try.underlying9 hv
      have e : y = x := by rw [hy] at hs; simpa [Lit.sameKey] using hs
      subst e
      have hokk : C.okK ⟨y.toArray⟩ := (hok _).2 (by simpa [ByteArray.size] using hle)
      have h5 := (h3 ⟨y.toArray⟩ hokk).1
      have h6 : has (DataW.map es) (C.lit ⟨y.toArray⟩) = true := by
        rw [has_eq, List.any_eq_true]
        exact ⟨p, hp, by rw [hy, hlit]; simp [Lit.sameKey]⟩
      rw [h6] at h5
      have h7 := (hm ⟨y.toArray⟩).2 h5.symm
      rw [List.mem_map]
      exact ⟨_, h7, rfl⟩
  have := hp.length_eq
  rw [List.length_map] at this
  rw [this]
  congr 2
  simp [strKeys, Maps.size]
end Go.Proofs.Ytoeoablmcelohaa
namespace Go.Proofs.Ytoeoablmcelohaa
open Go Go.RowKit Go.Maps
open DagS (Nd nm pars par ids Wf)

/-- A node's place as the program counts it: 0 for what isn't there. -/
def ord (g : List Nd) (s : ByteArray) : Int := (((DagS.find g s).getD 0 : Nat) : Int)
def oF (g : List Nd) (s : ByteArray) : Option Int := (DagS.find g s).map fun i => (i : Int)
def pF (φ : Nat → Option Addr × Nat × Nat) (g : List Nd) (s : ByteArray) : Option (Option Addr × Nat × Nat) := (DagS.find g s).map φ
theorem oF_ord (g : List Nd) (s : ByteArray) : (oF g s).getD 0 = ord g s := by
  unfold oF ord; cases DagS.find g s <;> rfl

/-- Block p is the graph g: its two maps; each node's parents. -/
structure GB (w : World) (p m1 m2 : Nat) (g : List Nd) (φ : Nat → Option Addr × Nat × Nat) : Prop where
  blk : w.heap[p]? = some (.cells #[.map (some m1), .map (some m2)] 63 (0, 0))
  mp : MapG PC w m1 g.length (pF φ g)
  mo : MapG OC w m2 g.length (oF g)
  sl : ∀ i, i < g.length → (φ i).2.1 = (pars g i).length ∧ Sl w (φ i).1 (trow (pars g i)) ∧ ((φ i).1 = none → (φ i).2.2 = 0) ∧ ∀ a, (φ i).1 = some a → a.block ≠ m1 ∧ a.block ≠ m2
  ne : m1 ≠ m2
  wf : Wf g
  len : g.length ≤ 1000
  sz : ∀ i, i < g.length → (nm g i).size ≤ 10000000

/-- .. and its blocks are K's. -/
def GM (K : Nat → Prop) (w : World) (p : Nat) (g : List Nd) : Prop :=
  ∃ m1 m2 φ, GB w p m1 m2 g φ ∧ K p ∧ K m1 ∧ K m2 ∧ (∀ i, i < g.length → ∀ a, (φ i).1 = some a → K a.block) ∧ ∀ k, K k → k < w.heap.size

theorem sl_block {w w' : World} {a : Option Addr} {xs : List Value} (h : Sl w a xs) (hs : w.heap.size ≤ w'.heap.size) (hk : ∀ x, a = some x → w'.heap[x.block]? = w.heap[x.block]?) : Sl w' a xs := by
  rcases h with h | ⟨b, o, ha, hlt, hc⟩
  · exact .inl h
  · refine .inr ⟨b, o, ha, Nat.lt_of_lt_of_le hlt hs, fun i u hu => ?_⟩
    rw [← hc i u hu]
    have := hk _ ha
    simp only [World.cell?]
    rw [show w'.heap[b]? = w.heap[b]? from this]

section
variable {K : Nat → Prop} {w w' : World} {p : Nat} {g : List Nd}
theorem GM.keep (h : GM K w p g) (hs : w.heap.size ≤ w'.heap.size) (hk : ∀ k, K k → w'.heap[k]? = w.heap[k]?) : GM K w' p g := by
  obtain ⟨m1, m2, φ, hb, k1, k2, k3, k4, k5⟩ := h
  exact ⟨m1, m2, φ, ⟨(hk p k1).trans hb.blk, hb.mp.block (hk m1 k2), hb.mo.block (hk m2 k3), fun i hi => ⟨(hb.sl i hi).1, sl_block (hb.sl i hi).2.1 hs fun x hx => hk _ (k4 i hi x hx), (hb.sl i hi).2.2⟩, hb.ne, hb.wf, hb.len, hb.sz⟩, k1, k2, k3, k4, fun k hk => Nat.lt_of_lt_of_le (k5 k hk) hs⟩
theorem GM.lt (h : GM K w p g) {k : Nat} (hk : K k) : k < w.heap.size := by obtain ⟨m1, m2, φ, hb, k1, k2, k3, k4, k5⟩ := h; exact k5 k hk
theorem GM.below (h : GM K w p g) (hb : Below w.heap.size w w') : GM K w' p g := h.keep hb.size fun _ hk => hb.block _ (h.lt hk)
theorem GM.wf (h : GM K w p g) : Wf g := by obtain ⟨m1, m2, φ, hb, _⟩ := h; exact hb.wf
theorem GM.len (h : GM K w p g) : g.length ≤ 1000 := by obtain ⟨m1, m2, φ, hb, _⟩ := h; exact hb.len
theorem GM.sz (h : GM K w p g) {i : Nat} (hi : i < g.length) : (nm g i).size ≤ 10000000 := by obtain ⟨m1, m2, φ, hb, _⟩ := h; exact hb.sz i hi
theorem GM.psz (h : GM K w p g) (i : Nat) : ∀ s ∈ pars g i, s.size ≤ 10000000 := fun s hs => by
  obtain ⟨j, hj, e⟩ := h.wf.back i s hs
  rw [← DagS.find_nm e]
  exact h.sz (DagS.find_lt e)
theorem GM.sub {K' : Nat → Prop} (h : GM K w p g) (hk : ∀ k, K k → K' k) (hlt : ∀ k, K' k → k < w.heap.size) : GM K' w p g := by
  obtain ⟨m1, m2, φ, hb, k1, k2, k3, k4, k5⟩ := h
  exact ⟨m1, m2, φ, hb, hk _ k1, hk _ k2, hk _ k3, fun i hi a ha => hk _ (k4 i hi a ha), hlt⟩
end

theorem name_max {s : ByteArray} (h : s.size ≤ 10000000) : s.size ≤ maxLen := Nat.le_trans h (by decide)
section
variable {w : World} {p m1 m2 : Nat} {g : List Nd} {φ : Nat → Option Addr × Nat × Nat}
theorem GB.c0 (h : GB w p m1 m2 g φ) : w.cell? ⟨p, 0, none⟩ = some (.map (some m1)) := by simp [World.cell?, h.blk]
theorem GB.c1 (h : GB w p m1 m2 g φ) : w.cell? ⟨p, 1, none⟩ = some (.map (some m2)) := by simp [World.cell?, h.blk]
theorem GB.look (h : GB w p m1 m2 g φ) {s : ByteArray} (hs : s.size ≤ 10000000) : (Instr.lookup 61 (.map (some m2)) (.string s) false).run Try.prog w = .ok (.int .i64 (ord g s)) w := by
  have := h.mo.look s (name_max hs)
  rw [show (oF g s).getD OC.z0 = ord g s from oF_ord g s] at this
  exact this
theorem GB.there (h : GB w p m1 m2 g φ) {s : ByteArray} (hs : s.size ≤ 10000000) : ∃ v, (Instr.lookup 60 (.map (some m1)) (.string s) true).run Try.prog w = .ok (.tuple #[v, .bool (DagS.find g s).isSome]) w := by
  have := h.mp.look_ok s (name_max hs)
  rw [show (pF φ g s).isSome = (DagS.find g s).isSome from Option.isSome_map] at this
  exact ⟨_, this⟩
/-- 'g.parents[s]'. -/
theorem GB.plook (h : GB w p m1 m2 g φ) {s : ByteArray} (hs : s.size ≤ 10000000) : ∃ a c, (Instr.lookup 60 (.map (some m1)) (.string s) false).run Try.prog w = .ok (.slice a (DagS.parsL g s).length c) w ∧ Sl w a (trow (DagS.parsL g s)) ∧ (a = none → c = 0) := by
  have := h.mp.look s (name_max hs)
  unfold DagS.parsL
  unfold pF at this
  cases e : DagS.find g s with
  | none => rw [e] at this; exact ⟨none, 0, this, .inl rfl, fun _ => rfl⟩
  | some i =>
    rw [e] at this
    obtain ⟨h1, h2, h3, -⟩ := h.sl i (DagS.find_lt e)
    refine ⟨(φ i).1, (φ i).2.2, ?_, h2, h3⟩
    refine this.trans ?_
    show Result.ok (slV (φ i)) w = _
    unfold slV
    rw [h1]
    rfl
end

theorem mem_names {g : List Nd} {s : ByteArray} : s ∈ g.map Nd.name ↔ (DagS.find g s).isSome = true := by
  constructor
  · intro h
    cases e : DagS.find g s with
    | some i => rfl
    | none =>
      obtain ⟨x, hx, rfl⟩ := List.mem_map.1 h
      obtain ⟨i, hi, rfl⟩ := List.getElem_of_mem hx
      have := DagS.find_none.1 e i hi
      rw [DagS.nm_get hi] at this
      exact absurd rfl this
  · intro h
    obtain ⟨i, e⟩ := Option.isSome_iff_exists.1 h
    have hi := DagS.find_lt e
    rw [← DagS.find_nm e, DagS.nm_get hi]
    exact List.mem_map.2 ⟨_, List.getElem_mem hi, rfl⟩

theorem gnew_c (w : World) : Calls Try.prog 25 #[] w fun e w' => ∃ p, e = .returned (.pointer (some ⟨p, 0, none⟩)) ∧ GM (fun k => w.heap.size ≤ k ∧ k < w'.heap.size) w' p [] ∧ Below w.heap.size w w' := by
  have hmm := fun (t : TypeId) (w : World) => run_makeMap (P := Try.prog) t w
  go_enter Try.func25, Try.ntmps25
  go_wp2_with fail
  go_ret
  have hb1 : Below w.heap.size w (w.alloc (.map #[] 0)) := (Below.refl _ w).alloc (Nat.le_refl _) _
  have hb2 := hb1.alloc hb1.size (.map #[] 0)
  have hb3 := hb2.alloc hb2.size (.cells #[.map (some w.heap.size), .map (some (w.heap.size + 1))] 63)
  refine ⟨_, rfl, ⟨w.heap.size, w.heap.size + 1, fun _ => (none, 0, 0), ⟨?_, ?_, ?_, fun i hi => (nomatch hi), by omega, Wf.nil, Nat.zero_le _, fun i hi => (nomatch hi)⟩, ⟨by first | omega | (simp; omega) | (simp; done), by first | omega | (simp; omega) | (simp; done)⟩, ⟨by first | omega | (simp; omega) | (simp; done), by first | omega | (simp; omega) | (simp; done)⟩, ⟨by first | omega | (simp; omega) | (simp; done), by first | omega | (simp; omega) | (simp; done)⟩, fun i hi => (nomatch hi), fun k hk => hk.2⟩, hb3⟩
  · have hs : ((w.alloc (.map #[] 0)).alloc (.map #[] 0)).heap.size = w.heap.size + 1 + 1 := by simp
    rw [← hs]
    exact Array.getElem?_push_size
  · exact ((MapG.made PC w).alloc _).alloc _
  · have := (MapG.made OC (w.alloc (.map #[] 0))).alloc (.cells #[.map (some w.heap.size), .map (some (w.heap.size + 1))] 63)
    simp only [World.size_alloc] at this
    exact this.congr fun _ => rfl

theorem glen_c {K : Nat → Prop} {w : World} {p : Nat} {g : List Nd} (h : GM K w p g) : Calls Try.prog 26 #[.pointer (some ⟨p, 0, none⟩)] w fun e w' => e = .returned (.int .i64 g.length) ∧ w' = w := by
  obtain ⟨m1, m2, φ, hb, -⟩ := h
  have c0 := hb.c0
  have hl := MapG.count (fun _ => rfl) (fun _ => Iff.rfl) hb.mp (l := g.map Nd.name) hb.wf.dist (fun s => by rw [mem_names]; unfold pF; rw [Option.isSome_map])
  rw [List.length_map] at hl
  clear hb
  go_enter Try.func26, Try.ntmps26
  go_wp2_with fail
  go_ret
  exact ⟨rfl, rfl⟩
end Go.Proofs.Ytoeoablmcelohaa
namespace Go.Proofs.Ytoeoablmcelohaa
open Go Go.RowKit Go.Maps Go.Sort
open DagS (Nd nm pars par ids Wf)

/-- A name that is no longer than the walks take. -/
structure Nm where
  val : ByteArray
  ok : val.size ≤ 10000000
instance : Inhabited Nm := ⟨⟨ByteArray.empty, by decide⟩⟩
def encN (x : Nm) : Value := .string x.val
def cmpN (g : List Nd) (x y : Nm) : Int := ord g x.val - ord g y.val
theorem ltN {g : List Nd} {x y : Nm} : ltOf (cmpN g) x y = true ↔ ord g x.val < ord g y.val := by
  show decide (cmpN g x y < 0) = true ↔ _
  rw [decide_eq_true_iff]
  unfold cmpN
  omega
theorem ltN_not {g : List Nd} {x y : Nm} : ltOf (cmpN g) x y = false ↔ ¬ ord g x.val < ord g y.val := by rw [← ltN]; simp
theorem swoN (g : List Nd) : SWO (ltOf (cmpN g)) where
  irrefl x := ltN_not.2 (by omega)
  trans x y z h1 h2 := ltN.2 (by have := ltN.1 h1; have := ltN.1 h2; omega)
  ntrans x y z h1 h2 := by
    have h1 := ltN_not.1 h1
    have h2 := ltN_not.1 h2
    exact ltN_not.2 (by omega)
theorem grown_sortWorld {α : Type} [Inhabited α] (enc : α → Value) (w : World) (blk off m : Nat) (dk : Array α) (os : Array Obj) : w.grownBy (sortWorld enc w blk off m dk os) (some blk) := by
  refine ⟨rfl, rfl, rfl, ?_, fun k hk hne => ?_⟩
  · simp [sortWorld, grow, putRow, mapBlock, Sort.ahead]
  · show ((Array.modify w.heap blk _) ++ os)[k]? = w.heap[k]?
    rw [Array.getElem?_append, if_pos (by simp; omega), Array.getElem?_modify, if_neg (fun e => hne (by rw [e]))]
theorem own_grow {w : World} {base : Nat} {e : TypeId} {size : Nat} {v : Value} {n : Nat} {xs : List Value} (h : w.ownsRow base e size v n xs) (os : Array Obj) : (grow w os).ownsRow base e size v n xs :=
  h.kept (row := none) ⟨rfl, rfl, rfl, by simp [grow], fun k hk _ => by show (w.heap ++ os)[k]? = w.heap[k]?; rw [Array.getElem?_append_left hk]⟩ (by cases v.ownBlock <;> simp)

def packN : (l : List ByteArray) → (∀ s ∈ l, s.size ≤ 10000000) → List Nm
  | [], _ => []
  | s :: l, h => ⟨s, h s (by simp)⟩ :: packN l (fun x hx => h x (by simp [hx]))
theorem packN_val : ∀ (l : List ByteArray) (hz : ∀ s ∈ l, s.size ≤ 10000000), (packN l hz).map (·.val) = l
  | [], _ => rfl
  | s :: l, h => by rw [packN, List.map_cons, packN_val l]

set_option maxRecDepth 100000 in
theorem cmpk_c {W : World} {bx p m2 : Nat} {g : List Nd} (hx : W.cell? ⟨bx, 0, none⟩ = some (.pointer (some ⟨p, 0, none⟩))) (h1 : W.cell? ⟨p, 1, none⟩ = some (.map (some m2))) (hm : MapG OC W m2 g.length (oF g)) (hl : g.length ≤ 1000) {a b : ByteArray} (ha : a.size ≤ 10000000) (hb : b.size ≤ 10000000) :
    Calls Try.prog 47 #[.string a, .string b, .pointer (some ⟨bx, 0, none⟩)] W fun e w' => e = .returned (.int .i64 (ord g a - ord g b)) ∧ ∃ q, w' = W.drewN q := by
  have hlk : ∀ (q : Nat) (s : ByteArray), s.size ≤ 10000000 → (Instr.lookup 61 (.map (some m2)) (.string s) false).run Try.prog (W.drewN q) = .ok (.int .i64 (ord g s)) (W.drewN q) := fun q s hs => by
    have := (hm.drewN q).look s (name_max hs)
    rw [show (oF g s).getD OC.z0 = ord g s from oF_ord g s] at this
    exact this
  have hla := fun q => hlk q a ha
  have hlb := fun q => hlk q b hb
  have hw1 : IntKind.i64.wrap (ord g a - ord g b) = ord g a - ord g b := by
    have hbd : ∀ s, 0 ≤ ord g s ∧ ord g s ≤ 1000 := fun s => by
      unfold ord
      cases e : DagS.find g s with
      | none => exact ⟨by simp, by simp⟩
      | some i => have := DagS.find_lt e; simp; omega
    have := hbd a
    have := hbd b
    exact IntWalk.i64_in _ (by omega)
  clear hlk hm
  generalize ord g a = x at *
  generalize ord g b = y at *
  go_enter Try.func47, Try.ntmps47
  go_wp2_with fail
  go_quiet (fail)
  go_wp2_with fail
  go_ret
  exact ⟨rfl, _, rfl⟩

set_option maxRecDepth 100000 in
/-- The heap sorted: the same names, by their places. -/
theorem hsort_c {K : Nat → Prop} {w : World} {p : Nat} {g : List Nd} (hG : GM K w p g) {base bx gb c : Nat} {l : List ByteArray} (hK : ∀ k, K k → k < base) (hbx : bx < base) (hx : w.cell? ⟨bx, 0, none⟩ = some (.pointer (some ⟨p, 0, none⟩)))
    (hown : w.ownsRow base 9 1 (.slice (some ⟨gb, 0, none⟩) l.length c) l.length (trow l)) (hz : ∀ s ∈ l, s.size ≤ 10000000) (hl : l.length ≤ 20000000) :
    Calls Try.prog 46 #[.slice (some ⟨gb, 0, none⟩) l.length c, .func (.func 47) #[] #[.pointer (some ⟨bx, 0, none⟩)]] w fun e w' => e = .returned (.tuple #[]) ∧ ∃ s : List ByteArray, s.Perm l ∧ s.Pairwise (fun a b => ord g a ≤ ord g b) ∧
      w'.ownsRow base 9 1 (.slice (some ⟨gb, 0, none⟩) l.length c) l.length (trow s) ∧ w.grownBy w' (some gb) := by
  have hgb := hown.lt gb rfl
  have hlen : (packN l hz).toArray.size = l.length := by have := congrArg List.length (packN_val l hz); simpa using this
  have hmap : (packN l hz).map encN = trow l := by
    have := congrArg (List.map Value.string) (packN_val l hz)
    rw [List.map_map] at this
    exact this
  have hown2 : w.ownsRow base 9 1 (.slice (some ⟨gb, 0, none⟩) l.length c) l.length ((packN l hz).map encN) := by rw [hmap]; exact hown
  obtain ⟨g', cap', e, -, -, -, -, -, hH⟩ := Lib.holds_of_ownsRow hown2 (by simp)
  injection e with e1 _ _
  injection e1 with e1
  injection e1 with e1
  subst e1
  obtain ⟨m1, m2, φ, hB, k1, k2, k3, -, -⟩ := hG
  have hcmp : CmpLays1 Try.prog 47 #[.pointer (some ⟨bx, 0, none⟩)] encN (cmpN g) gb 0 (packN l hz).toArray.size w := by
    intro m os dk _ x y
    have hg := grown_sortWorld encN w gb 0 m dk os
    have hkeep : ∀ k, k < base → (sortWorld encN w gb 0 m dk os).heap[k]? = w.heap[k]? := fun k hk => hg.block k (by omega) (fun e => by injection e with e; omega)
    refine (cmpk_c (p := p) (g := g) ?_ ?_ (hB.mo.block (hkeep _ (hK _ k3))) hB.len x.ok y.ok).mono ?_
    · rw [← hx]; simp only [World.cell?]; rw [hkeep _ hbx]
    · rw [← hB.c1]; simp only [World.cell?]; rw [hkeep _ (hK _ k1)]
    · rintro e w' ⟨rfl, q, rfl⟩
      exact ⟨rfl, q, #[], (grow_empty _).symm⟩
  have h := Try.slices_SortFunc encN (fun _ => rfl) (cmpN g) (swoN g) 47 #[.pointer (some ⟨bx, 0, none⟩)] gb 0 c (packN l hz).toArray w (enters_of Try.func47 (by kernel_rfl) rfl) hcmp hH hgb.2 (by rw [hlen]; omega)
  rw [hlen] at h
  refine h.mono ?_
  rintro e w' ⟨rfl, d', n, os, hperm, hsort, rfl⟩
  have hsz : d'.size = l.length := by rw [hperm.1, hlen]
  have hpl : d'.toList.Perm (packN l hz) := by
    have := hperm.2.2
    have e1 : d'.extract 0 l.length = d' := by rw [← hsz]; exact Array.extract_size
    have e2 : (packN l hz).toArray.extract 0 l.length = (packN l hz).toArray := by rw [← hlen]; exact Array.extract_size
    rw [e1, e2] at this
    simpa using this
  refine ⟨rfl, d'.toList.map (·.val), ?_, ?_, ?_, grown_sortWorld _ _ _ _ _ _ _⟩
  · have := hpl.map (·.val)
    rwa [packN_val] at this
  · rw [List.pairwise_map, List.pairwise_iff_getElem]
    intro i j hi hj hij
    have hi' : i < d'.size := by simpa using hi
    have hj' : j < d'.size := by simpa using hj
    have h1 := hsort i j (Nat.zero_le _) hij (by omega)
    rw [getElem!_pos _ i hi', getElem!_pos _ j hj'] at h1
    have := ltN_not.1 h1
    simp only [Array.getElem_toList]
    omega
  · have := Lib.ownsRow_putRow (q := n) (k := l.length) hown2 (ys := d'.toList) (by rw [Array.length_toList]; exact hsz) (Nat.le_refl _)
    rw [List.take_of_length_le (by rw [Array.length_toList]; omega)] at this
    have e : d'.toList.map encN = trow (d'.toList.map (·.val)) := by unfold trow; rw [List.map_map]; rfl
    rw [e] at this
    exact own_grow this os
end Go.Proofs.Ytoeoablmcelohaa
namespace Go.Proofs.Ytoeoablmcelohaa
open DagS (Nd nm pars par ids Wf)

/-- Where a walk stands: 'H' the heap, 'V' what was told, 'v' the least of it. -/
structure WS (g : List Nd) (d : Nat → Bool) (from' : List Nat) (H : List ByteArray) (V : List Nat) (v : Nat) : Prop where
  st : DagS.St d (par g) from' (ids g H) v
  told : DagS.Told d (par g) from' V v

theorem ids_append (g : List Nd) (a b : List ByteArray) : ids g (a ++ b) = ids g a ++ ids g b := List.filterMap_append
theorem mem_ids_perm {g : List Nd} {a b : List ByteArray} (h : a.Perm b) (x : Nat) : x ∈ ids g a ↔ x ∈ ids g b := (h.filterMap _).mem_iff
theorem ord_some {g : List Nd} {s : ByteArray} {m : Nat} (h : DagS.find g s = some m) : ord g s = m := by unfold ord; rw [h]; rfl

section
variable {g : List Nd} {d : Nat → Bool} {from' : List Nat} {H L : List ByteArray} {V : List Nat} {v m : Nat} {x : ByteArray}
theorem WS.start (hw : Wf g) (l : List ByteArray) : WS g d (ids g l) l [] g.length :=
  ⟨DagS.St.start DagS.ids_lt, DagS.Told.start hw.par_lt DagS.ids_lt⟩
theorem WS.perm (h : WS g d from' H V v) (hp : L.Perm H) : WS g d from' L V v := ⟨h.st.perm fun y => mem_ids_perm hp y, h.told⟩
theorem WS.none (h : WS g d from' (L ++ [x]) V v) (hx : DagS.find g x = none) : WS g d from' L V v := by
  refine ⟨?_, h.told⟩
  have := h.st
  rw [ids_append] at this
  rwa [show ids g [x] = [] by unfold ids; rw [List.filterMap_cons, hx]; rfl, List.append_nil] at this
theorem WS.ids_snoc (hx : DagS.find g x = some m) (y : Nat) : y ∈ m :: ids g L ↔ y ∈ ids g (L ++ [x]) := by
  rw [ids_append, show ids g [x] = [m] by unfold ids; rw [List.filterMap_cons, hx]; rfl, List.mem_append, List.mem_singleton, List.mem_cons]
  exact Or.comm
theorem WS.all (h : WS g d from' (L ++ [x]) V v) (hx : DagS.find g x = some m) : DagS.W d (par g) from' m ∧ m ≤ v :=
  h.st.all m ((WS.ids_snoc hx m).1 (.head _))
theorem WS.seen (h : WS g d from' (L ++ [x]) V v) (hx : DagS.find g x = some m) (hm : m ∈ V) : WS g d from' L V v := by
  have h1 := ((h.told.mem m).1 hm).2
  have h2 := (h.all hx).2
  obtain rfl : m = v := by omega
  exact ⟨(h.st.perm fun y => WS.ids_snoc hx y).skip, h.told⟩
theorem WS.lt (h : WS g d from' (L ++ [x]) V v) (hx : DagS.find g x = some m) (hm : m ∉ V) : m < v := by
  obtain ⟨h1, h2⟩ := h.all hx
  have := mt (h.told.mem m).2 hm
  by_cases e : v ≤ m
  · exact absurd ⟨h1, e⟩ this
  · omega
theorem WS.top (hs : ∀ y ∈ L, ord g y ≤ ord g x) (hx : DagS.find g x = some m) : ∀ k ∈ ids g L, k ≤ m := fun k hk => by
  obtain ⟨s, h1, h2⟩ := DagS.mem_ids.1 hk
  have := hs s h1
  rw [ord_some hx, ord_some h2] at this
  omega
theorem WS.ahead (hw : Wf g) (h : WS g d from' (L ++ [x]) V v) (hx : DagS.find g x = some m) (hs : ∀ y ∈ L, ord g y ≤ ord g x) (hm : m ∉ V) (j : Nat) : j ∈ V ↔ DagS.W d (par g) from' j ∧ m < j := by
  have h1 := h.st.perm fun y => WS.ids_snoc (L := L) hx y
  have h2 := h.lt hx hm
  rw [h.told.mem j]
  constructor
  · exact fun hj => ⟨hj.1, by omega⟩
  · exact fun hj => ⟨hj.1, h1.gap hw.par_lt (WS.top hs hx) hj.1 hj.2⟩
theorem WS.take (hw : Wf g) (h : WS g d from' (L ++ [x]) V v) (hx : DagS.find g x = some m) (hs : ∀ y ∈ L, ord g y ≤ ord g x) (hm : m ∉ V) : WS g d from' (L ++ (if d m then pars g m else [])) (V ++ [m]) m := by
  have h1 := h.st.perm fun y => WS.ids_snoc (L := L) hx y
  refine ⟨(h1.take hw.par_lt (WS.top hs hx) (h.lt hx hm)).perm fun y => ?_, h.told.take hw.par_lt h1 (WS.top hs hx) (h.lt hx hm)⟩
  rw [ids_append, List.mem_append, List.mem_append]
  have : ids g (if d m = true then pars g m else []) = if d m = true then par g m else [] := by split <;> rfl
  rw [this]
  exact Or.comm
theorem WS.done (h : WS g d from' [] V v) : DagS.Told d (par g) from' V 0 :=
  ⟨h.told.desc, fun i => by
    rw [h.told.mem i]
    exact ⟨fun hi => ⟨hi.1, Nat.zero_le _⟩, fun hi => ⟨hi.1, h.st.done hi.1⟩⟩⟩
end

/-- How much may still come into the heap. -/
def pot (g : List Nd) : Nat → Nat
  | 0 => 0
  | v + 1 => pot g v + (pars g v).length
theorem pot_mono (g : List Nd) : ∀ {a b : Nat}, a ≤ b → pot g a ≤ pot g b
  | a, 0, h => by
    obtain rfl : a = 0 := by omega
    exact Nat.le_refl _
  | a, b + 1, h => by
    by_cases e : a = b + 1
    · subst e; exact Nat.le_refl _
    · have := pot_mono g (a := a) (b := b) (by omega)
      show pot g a ≤ pot g b + (pars g b).length
      omega
theorem pot_take (g : List Nd) {m v : Nat} (h : m < v) : pot g m + (pars g m).length ≤ pot g v := pot_mono g (a := m + 1) h
theorem pot_le {g : List Nd} (hw : Wf g) (hl : g.length ≤ 1000) : pot g g.length ≤ 1000000 := by
  have : ∀ v, v ≤ g.length → pot g v ≤ v * 1000 := by
    intro v
    induction v with
    | zero => exact fun _ => Nat.le_refl _
    | succ v ih =>
      intro hv
      have h1 := ih (by omega)
      have h2 := pars_len hw v
      show pot g v + (pars g v).length ≤ _
      omega
  have := this g.length (Nat.le_refl _)
  omega
end Go.Proofs.Ytoeoablmcelohaa
