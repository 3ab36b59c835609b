/- Texts of mine, joined: Small laws for walks: readable slices, owned rows, one-element appends; each holds of every program. | Rows that the call owns, at any place of their block, with a capacity of their own: reading, cutting, appending. Of every program. | Maps that the call owns, as functions from keys to elements: whatever the keys' and the elements' types. Of every program. | Paths in plain Lean: no program in sight. | Walks of the reference's path functions. -/
import Derived.WalkKit
import Derived.WalkSpells
import Derived.WalkLawsBesides
import Derived.Lib.Hide
import Derived.Deep.AppendLies
import Derived.Deep.Onto
import Derived.Lib.Strings
import Derived.Sort.Grow
import Derived.Deep.Draws
import Derived.Deep.Upon
import Derived.Maps.Own
import Derived.Maps.Views
import Derived.Maps.OwnOps
import Derived.Maps.OwnSet
import Derived.Maps.Range
import Derived.Maps.RangeWalk
import Derived.Test.YtfoamcobpfflbaaDoorRows
namespace Go.Proofs.YtfoamcobpfflbaaDoor
open Go Go.RowKit

/-- A slice's address a: behind it the list xs of one-cell values lies. -/
def Sl (w : World) (a : Option Addr) (xs : List Value) : Prop :=
  xs = [] ∨ ∃ b o, a = some ⟨b, o, none⟩ ∧ b < w.heap.size ∧ ∀ i u, xs[i]? = some u → w.cell? ⟨b, o + i, none⟩ = some u

theorem Sl.nil (w : World) (a : Option Addr) : Sl w a [] := .inl rfl

theorem Sl.below {w w' : World} {a : Option Addr} {xs : List Value} (h : Sl w a xs) (hb : Below w.heap.size w w') : Sl w' a xs := by
  rcases h with h | ⟨b, o, ha, hlt, hc⟩
  · exact .inl h
  · exact .inr ⟨b, o, ha, Nat.lt_of_lt_of_le hlt hb.size, fun i u hu => by rw [hb.cell (p := ⟨b, o + i, none⟩) hlt]; exact hc i u hu⟩

theorem Sl.drew {w : World} {a : Option Addr} {xs : List Value} (h : Sl w a xs) : Sl w.drew a xs := h

theorem Sl.at {w : World} {a : Option Addr} {xs : List Value} (h : Sl w a xs) {k : Nat} (hk : k < xs.length) :
    ∃ b o, a = some ⟨b, o, none⟩ ∧ b < w.heap.size ∧ ∀ i (hi : i < xs.length), w.cell? ⟨b, o + i, none⟩ = some xs[i] := by
  rcases h with h | ⟨b, o, ha, hlt, hc⟩
  · subst h; simp at hk
  · exact ⟨b, o, ha, hlt, fun i hi => hc i _ (List.getElem?_eq_getElem hi)⟩

/-- The part of a slice from i on up to j. -/
theorem Sl.part {w : World} {b o : Nat} {xs : List Value} (h : Sl w (some ⟨b, o, none⟩) xs) (i j : Nat) : Sl w (some ⟨b, o + i, none⟩) ((xs.take j).drop i) := by
  rcases h with h | ⟨b', o', ha, hlt, hc⟩
  · subst h; simp [Sl]
  · cases ha
    refine .inr ⟨b, o + i, rfl, hlt, fun k u hu => ?_⟩
    rw [Nat.add_assoc]
    refine hc (i + k) u ?_
    rw [List.getElem?_drop, List.getElem?_take] at hu
    split at hu
    · exact hu
    · cases hu

theorem Sl.take {w : World} {a : Option Addr} {xs : List Value} (h : Sl w a xs) (j : Nat) : Sl w a (xs.take j) := by
  rcases h with h | ⟨b, o, ha, hlt, hc⟩
  · subst h; simp [Sl]
  · refine .inr ⟨b, o, ha, hlt, fun i u hu => hc i u ?_⟩
    rw [List.getElem?_take] at hu
    split at hu
    · exact hu
    · cases hu

/-- What is owned can be read. -/
theorem own_sl {w : World} {base : Nat} {e : TypeId} {v : Value} {xs : List Value} {n : Nat} (h : w.ownsRow base e 1 v n xs) :
    ∃ a c, v = .slice a n c ∧ n = xs.length ∧ n ≤ c ∧ Sl w a xs := by
  have hl := h.1
  rcases h.2 with ⟨rfl, rfl⟩ | ⟨g, cap, cur, rfl, hb, hg, h1, h2, h3, h4⟩
  · have : xs = [] := List.eq_nil_of_length_eq_zero (by omega)
    subst this
    exact ⟨none, 0, rfl, rfl, Nat.le_refl _, .nil _ _⟩
  · refine ⟨_, cap, rfl, by omega, h1, .inr ⟨g, 0, rfl, (Array.getElem?_eq_some_iff.1 hg).1, fun i u hu => ?_⟩⟩
    have := h.cells (g := g) rfl i u hu
    rwa [show (⟨g, 0, none⟩ : Addr).add i = ⟨g, 0 + i, none⟩ from by unfold Addr.add; split <;> simp_all] at this

theorem own_some {w : World} {base : Nat} {e : TypeId} {v : Value} {xs : List Value} {n : Nat} (h : w.ownsRow base e 1 v n xs) (hv : v ≠ .slice none 0 0) :
    ∃ g c, v = .slice (some ⟨g, 0, none⟩) n c ∧ n ≤ c ∧ base ≤ g ∧ g < w.heap.size ∧ Sl w (some ⟨g, 0, none⟩) xs := by
  obtain ⟨a, c, rfl, _, hc, hs⟩ := own_sl h
  rcases h.2 with ⟨h1, _⟩ | ⟨g, cap, cur, h1, hb, hg, _⟩
  · exact absurd h1 hv
  · injection h1 with h1 h2 h3
    subst h1
    exact ⟨g, c, rfl, hc, hb, (Array.getElem?_eq_some_iff.1 hg).1, hs⟩

theorem own_ne {w : World} {base : Nat} {e : TypeId} {s : Nat} {v : Value} {xs : List Value} {n : Nat} (h : w.ownsRow base e s v n xs) (hn : 0 < n) : v ≠ .slice none 0 0 := by
  rintro rfl
  rcases h.2 with ⟨_, h0⟩ | ⟨_, _, _, h0, _⟩
  · omega
  · cases h0

theorem own_slc {w : World} {base : Nat} {e : TypeId} {v : Value} {xs : List Value} {n : Nat} (h : w.ownsRow base e 1 v n xs) :
    ∃ a c, v = .slice a n c ∧ n ≤ c ∧ (a = none → c = 0) ∧ Sl w a xs := by
  obtain ⟨a, c, rfl, _, hc, hs⟩ := own_sl h
  refine ⟨a, c, rfl, hc, ?_, hs⟩
  rintro rfl
  rcases h.2 with ⟨h1, _⟩ | ⟨_, _, _, h1, _⟩
  · injection h1
  · injection h1 with h1 _ _; cases h1

/-- An owned row stays owned where nothing below a later heap's end has turned. -/
theorem own_below {w w' : World} {base : Nat} {e : TypeId} {s : Nat} {v : Value} {n : Nat} {xs : List Value} (h : w.ownsRow base e s v n xs) (hb : Below w.heap.size w w') : w'.ownsRow base e s v n xs := by
  refine h.kept (row := none) ⟨hb.os, hb.tape, hb.output, hb.size, fun k hk _ => hb.block k hk⟩ ?_
  cases hv : v.ownBlock <;> simp

/-- An element type's row of the program's table, under one name. -/
structure Elem (P : Program) (t e : TypeId) (z : Value) (size bytes : Nat) : Prop where
  under : P.underlying t = some (.slice e)
  info : (P.info? e).map (fun i => (i.zero, i.size, i.bytes)) = some (some z, size, bytes)

theorem below_of_grown {w w' : World} {base : Nat} {v : Value} {row : List Value} {e : TypeId} {s n : Nat} (h : w.ownsRow base e s v n row) (hg : w.grownBy w' v.ownBlock) (hb : base ≤ w.heap.size) : Below base w w' :=
  (Below.refl base w).grown hg hb fun k hk => (h.lt k hk).1

/-- 'append(s, x)' of one element of one cell, s the call's own. -/
theorem wp_app1 {P : Program} {ops : Array Oper} {rest : List Oper} {o : Oper} {a : Act} {Q : Exit → Act → World → Prop} {w : World} (hgd : o.guard = none) (s x : Operand) (t : TypeId)
    (ho : o.op = .call { callee := .builtin .append, args := #[s, x], argTypes := #[t, t] })
    {e : TypeId} {z : Value} {bytes : Nat} (E : Elem P t e z 1 bytes) (hz : z.oneCell' = true) {base : Nat} {v : Value} {n : Nat} {xs : List Value} {u : Value}
    (hs : a.eval s = v) (hown : w.ownsRow base e 1 v n xs) (hx : a.eval x = .slice (some ⟨w.heap.size, 0, none⟩) 1 1) (hu : u.oneCell' = true)
    (hn : (n + 1) * bytes ≤ 140737488355328) (h63 : n + 1 ≤ maxLen) (hbase : base ≤ w.heap.size)
    (h : ∀ v' w', w'.ownsRow base e 1 v' (n + 1) (xs ++ [u]) → w.grownBy w' v.ownBlock → Below base w w' → wpList P ops Q rest (a.put o.dst v') w') :
    wpList P ops Q (o :: rest) a (w.alloc (.cells #[u] e)) := by
  obtain ⟨i, hi, h1, h2, h3⟩ := info_parts E.info
  refine wpList_append_own _ hgd s x t ho base e i z 1 bytes E.under hi h1 h2 h3 ?_ (by decide) v n xs hs (hown.alloc _) _ 1 1 [u] hx rfl (cell_one_new _ _ _) ?_ h63 hn ?_ ?_
  · cases z <;> first | rfl | cases hz
  · intro y hy
    rw [List.mem_singleton] at hy
    subst hy
    exact hu
  · have : (w.alloc (.cells #[u] e)).heap.size = w.heap.size + 1 := by simp
    omega
  · intro v' w' h4 h5 _
    have h6 : w.grownBy w' v.ownBlock := (World.grownBy_alloc w _ _).trans h5
    exact h v' w' h4 h6 (below_of_grown hown h6 hbase)

/-- Nothing old has turned, and no draw is taken back. -/
def Gr (w w' : World) : Prop := Below w.heap.size w w' ∧ w.drawn ≤ w'.drawn

theorem Gr.refl (w : World) : Gr w w := ⟨Below.refl _ _, Nat.le_refl _⟩
theorem Gr.trans {a b c : World} (h : Gr a b) (k : Gr b c) : Gr a c := ⟨h.1.trans (k.1.mono h.1.size), Nat.le_trans h.2 k.2⟩
theorem Gr.alloc {a w : World} (h : Gr a w) (o : Obj) : Gr a (w.alloc o) := ⟨h.1.alloc h.1.size o, h.2⟩
theorem Gr.drew {a w : World} (h : Gr a w) : Gr a w.drew := ⟨h.1.drew, Nat.le_trans h.2 (Nat.le_succ _)⟩

theorem Gr.form {w w' : World} (h : Gr w w') : ∃ q os', w' = Go.Sort.grow (w.drewN q) os' := by
  obtain ⟨hb, hd⟩ := h
  refine ⟨w'.drawn - w.drawn, w'.heap.extract w.heap.size w'.heap.size, ?_⟩
  have hh : w'.heap = w.heap ++ w'.heap.extract w.heap.size w'.heap.size := by
    apply Array.ext_getElem?
    intro i
    rw [Array.getElem?_append]
    split
    · rename_i hi; exact hb.block i hi
    · rename_i hi
      rw [Array.getElem?_extract]
      split
      · congr 1; omega
      · rename_i h2
        have := hb.size
        rw [Array.getElem?_eq_none (by omega)]
  cases w
  cases w'
  obtain ⟨h1, h2, h3, h4, h5⟩ := hb
  simp only at h1 h2 h3 hd hh
  subst h1 h2 h3
  simp only [Go.Sort.grow, World.drewN]
  congr 1
  omega

theorem below_dN {B : Nat} {a w : World} (h : Below B a w) (q : Nat) : Below B a (w.drewN q) := ⟨h.os, h.tape, h.output, h.size, h.block⟩

theorem isEmpty_iff (s : ByteArray) : s.toList.isEmpty = decide (s.size = 0) := by
  rw [Lib.toList_data, Lib.size_eq]
  cases s.data.toList <;> simp

theorem byte_eq (c : UInt8) (n : UInt8) : ((c.toNat : Int) == (n.toNat : Int)) = decide (c = n) := by
  rw [Bool.eq_iff_iff]
  simp [Int.ofNat_inj, UInt8.toNat_inj]

theorem ret_bool {a b : Bool} (h : b = a) : Ending.returned (.bool a) = .returned (.bool b) := by rw [h]
theorem ret_str {a b : ByteArray} (h : b = a) : Ending.returned (.string a) = .returned (.string b) := by rw [h]
theorem ret_i64 {k : IntKind} {a b : Int} (h : b = a) : Ending.returned (.int k a) = .returned (.int k b) := by rw [h]
theorem ret_pair {x : ByteArray × ByteArray} {a b : ByteArray} (h : x = (a, b)) : Ending.returned (.tuple #[.string a, .string b]) = .returned (.tuple #[.string x.1, .string x.2]) := by rw [h]
theorem ret_congr {a b : Value} (h : a = b) : Ending.returned a = .returned b := by rw [h]

end Go.Proofs.YtfoamcobpfflbaaDoor
namespace Go.Proofs.YtfoamcobpfflbaaDoor
open Go Go.RowKit

/-- The value v is a row of n elements of the type e, of so many cells each, that hold xs; nobody else's. -/
def OwnG (w : World) (e : TypeId) (size : Nat) (v : Value) (n : Nat) (xs : List Value) : Prop :=
  xs.length = n * size ∧ ((v = .slice none 0 0 ∧ n = 0) ∨ ∃ g o cap cur, v = .slice (some ⟨g, o, none⟩) n cap ∧ w.heap[g]? = some (.cells cur e (0, 0)) ∧ n ≤ cap ∧ cap ≤ maxLen ∧ o + cap * size ≤ cur.size ∧ ∀ j u, xs[j]? = some u → cur[o + j]? = some u)

theorem OwnG.nil (w : World) (e : TypeId) (size : Nat) : OwnG w e size (.slice none 0 0) 0 [] := ⟨by simp, .inl ⟨rfl, rfl⟩⟩

theorem OwnG.of_own {w : World} {base : Nat} {e : TypeId} {size : Nat} {v : Value} {n : Nat} {xs : List Value} (h : w.ownsRow base e size v n xs) : OwnG w e size v n xs := by
  obtain ⟨h1, h2⟩ := h
  refine ⟨h1, ?_⟩
  rcases h2 with h2 | ⟨g, cap, cur, rfl, hb, hg, hn, hc, hs, ht⟩
  · exact .inl h2
  · refine .inr ⟨g, 0, cap, cur, rfl, hg, hn, hc, by omega, fun j u hu => ?_⟩
    rw [← ht, List.getElem?_take] at hu
    split at hu
    · rw [Nat.zero_add]; simpa using hu
    · cases hu

theorem OwnG.lt {w : World} {e : TypeId} {size : Nat} {v : Value} {n : Nat} {xs : List Value} (h : OwnG w e size v n xs) {k : Nat} (hk : v.ownBlock = some k) : k < w.heap.size := by
  rcases h.2 with ⟨rfl, _⟩ | ⟨g, o, cap, cur, rfl, hg, _⟩
  · cases hk
  · simp [Value.ownBlock] at hk; subst hk; exact (Array.getElem?_eq_some_iff.1 hg).1

theorem OwnG.tag {w : World} {e : TypeId} {size : Nat} {v : Value} {n : Nat} {xs : List Value} (h : OwnG w e size v n xs) {k : Nat} (hk : v.ownBlock = some k) : ∃ cur, w.heap[k]? = some (.cells cur e (0, 0)) := by
  rcases h.2 with ⟨rfl, _⟩ | ⟨g, o, cap, cur, rfl, hg, _⟩
  · cases hk
  · simp [Value.ownBlock] at hk; subst hk; exact ⟨cur, hg⟩

theorem OwnG.form {w : World} {e : TypeId} {size : Nat} {v : Value} {n : Nat} {xs : List Value} (h : OwnG w e size v n xs) : ∃ a c, v = .slice a n c ∧ n ≤ c ∧ c ≤ maxLen ∧ Sl w a xs := by
  have hl := h.1
  rcases h.2 with ⟨rfl, rfl⟩ | ⟨g, o, cap, cur, rfl, hg, hn, hc, hs, ht⟩
  · rw [Nat.zero_mul] at hl
    exact ⟨none, 0, rfl, Nat.le_refl _, Nat.zero_le _, .inl (List.eq_nil_of_length_eq_zero hl)⟩
  · refine ⟨_, cap, rfl, hn, hc, .inr ⟨g, o, rfl, (Array.getElem?_eq_some_iff.1 hg).1, fun j u hu => ?_⟩⟩
    simp [World.cell?, hg, ht j u hu]

theorem OwnG.block {w w' : World} {e : TypeId} {size : Nat} {v : Value} {n : Nat} {xs : List Value} (h : OwnG w e size v n xs) (hk : ∀ k, v.ownBlock = some k → w'.heap[k]? = w.heap[k]?) : OwnG w' e size v n xs := by
  refine ⟨h.1, ?_⟩
  rcases h.2 with h2 | ⟨g, o, cap, cur, rfl, hg, hr⟩
  · exact .inl h2
  · exact .inr ⟨g, o, cap, cur, rfl, by rw [hk g rfl]; exact hg, hr⟩

theorem OwnG.kept {w w' : World} {e : TypeId} {size : Nat} {v : Value} {n : Nat} {xs : List Value} {row : Option Nat} (h : OwnG w e size v n xs) (hg : w.grownBy w' row) (hne : v.ownBlock = none ∨ v.ownBlock ≠ row) : OwnG w' e size v n xs :=
  h.block fun k hk => hg.block k (h.lt hk) (by
    rw [← hk]
    rcases hne with h1 | h1
    · rw [hk] at h1; cases h1
    · exact h1)

theorem OwnG.below {w w' : World} {e : TypeId} {size : Nat} {v : Value} {n : Nat} {xs : List Value} (h : OwnG w e size v n xs) (hb : Below w.heap.size w w') : OwnG w' e size v n xs :=
  h.block fun k hk => hb.block k (h.lt hk)

theorem OwnG.alloc {w : World} {e : TypeId} {size : Nat} {v : Value} {n : Nat} {xs : List Value} (h : OwnG w e size v n xs) (o : Obj) : OwnG (w.alloc o) e size v n xs := h.kept (World.grownBy_alloc w o none) (by cases v.ownBlock <;> simp)

theorem OwnG.drewN {w : World} {e : TypeId} {size : Nat} {v : Value} {n : Nat} {xs : List Value} (h : OwnG w e size v n xs) (q : Nat) : OwnG (w.drewN q) e size v n xs := h

/-- The first k elements, with any capacity that there is. -/
theorem OwnG.take {w : World} {e : TypeId} {size : Nat} {a : Option Addr} {n c : Nat} {xs : List Value} (h : OwnG w e size (.slice a n c) n xs) (k c' : Nat) (hk : k ≤ n) (hc' : k ≤ c') (hc : c' ≤ c) : OwnG w e size (.slice a k c') k (xs.take (k * size)) := by
  have hle : k * size ≤ n * size := Nat.mul_le_mul_right _ hk
  refine ⟨by rw [List.length_take, h.1]; omega, ?_⟩
  rcases h.2 with ⟨h1, h2⟩ | ⟨g, o, cap, cur, h1, hg, hn, hcm, hs, ht⟩
  · injection h1 with h1 h3 h4
    subst h1
    left
    have e1 : k = 0 := by omega
    have e2 : c' = 0 := by omega
    rw [e1, e2]; exact ⟨rfl, rfl⟩
  · injection h1 with h1 h3 h4
    subst h1 h4
    refine .inr ⟨g, o, c', cur, rfl, hg, hc', by omega, ?_, fun j u hu => ht j u ?_⟩
    · have := Nat.mul_le_mul_right size hc; omega
    · rw [List.getElem?_take] at hu
      split at hu
      · exact hu
      · cases hu

/-- Nothing, behind what there is. -/
theorem OwnG.rest {w : World} {e : TypeId} {size : Nat} {a : Option Addr} {n c : Nat} {xs : List Value} (h : OwnG w e size (.slice a n c) n xs) (k : Nat) (hk : k ≤ n) : OwnG w e size (.slice (if c = k then a else a.map fun x => ⟨x.block, x.off + k * size, x.spot⟩) (n - k) (c - k)) (n - k) (xs.drop (k * size)) := by
  refine ⟨by rw [List.length_drop, h.1, Nat.sub_mul], ?_⟩
  rcases h.2 with ⟨h1, h2⟩ | ⟨g, o, cap, cur, h1, hg, hn, hcm, hs, ht⟩
  · injection h1 with h1 h3 h4
    subst h1 h4
    left
    have e1 : n - k = 0 := by omega
    rw [e1]; simp
  · injection h1 with h1 h3 h4
    subst h1 h4
    by_cases e : c = k
    · rw [if_pos e]
      have e1 : n - k = 0 := by omega
      refine .inr ⟨g, o, c - k, cur, rfl, hg, by omega, by omega, ?_, fun j u hu => ?_⟩
      · have := Nat.mul_le_mul_right size (show c - k ≤ c by omega); omega
      · have := (List.getElem?_eq_some_iff.1 hu).1
        rw [List.length_drop, h.1, ← Nat.sub_mul, e1] at this
        omega
    · rw [if_neg e]
      refine .inr ⟨g, o + k * size, c - k, cur, rfl, hg, by omega, by omega, ?_, fun j u hu => ?_⟩
      · rw [Nat.sub_mul]
        have := Nat.mul_le_mul_right size (show k ≤ c by omega); omega
      · rw [List.getElem?_drop] at hu
        rw [Nat.add_assoc]; exact ht _ u hu

theorem OwnG.rest1 {w : World} {e : TypeId} {size : Nat} {a : Option Addr} {n c : Nat} {xs : List Value} (h : OwnG w e size (.slice a n c) n xs) (k : Nat) (hk : k ≤ n) (hc : c = k) : OwnG w e size (.slice a (n - k) 0) (n - k) (xs.drop (k * size)) := by
  have := h.rest k hk
  rw [if_pos hc, hc, Nat.sub_self] at this
  exact this

theorem OwnG.rest2 {w : World} {e : TypeId} {size : Nat} {a : Option Addr} {n c : Nat} {xs : List Value} (h : OwnG w e size (.slice a n c) n xs) (k : Nat) (hk : k ≤ n) : OwnG w e size (.slice (Option.map (fun x => x.add (k * size)) a) (n - k) (c - k)) (n - k) (xs.drop (k * size)) := by
  refine ⟨by rw [List.length_drop, h.1, Nat.sub_mul], ?_⟩
  rcases h.2 with ⟨h1, h2⟩ | ⟨g, o, cap, cur, h1, hg, hn, hcm, hs, ht⟩
  · injection h1 with h1 h3 h4
    subst h1 h4
    left
    have e1 : n - k = 0 := by omega
    rw [e1]; simp
  · injection h1 with h1 h3 h4
    subst h1 h4
    refine .inr ⟨g, o + k * size, c - k, cur, by simp [Addr.add_lit], hg, by omega, by omega, ?_, fun j u hu => ?_⟩
    · rw [Nat.sub_mul]
      have := Nat.mul_le_mul_right size (show k ≤ c by omega); omega
    · rw [List.getElem?_drop] at hu
      rw [Nat.add_assoc]; exact ht _ u hu

theorem setCells_block (g : Nat) : ∀ (vs : List Value) (o : Nat) (w : World) (cur : Array Value) (e : TypeId) (fr : Nat × Nat), w.heap[g]? = some (.cells cur e fr) → o + vs.length ≤ cur.size →
    ∃ cur', (w.setCells g o vs).heap[g]? = some (.cells cur' e fr) ∧ cur'.size = cur.size ∧ ∀ j, cur'[j]? = if o ≤ j ∧ j < o + vs.length then vs[j - o]? else cur[j]?
  | [], o, w, cur, e, fr, h, _ => ⟨cur, h, rfl, fun j => by rw [if_neg]; simp⟩
  | v :: r, o, w, cur, e, fr, h, hl => by
    rw [List.length_cons] at hl
    have h1 : (w.setCell ⟨g, o, none⟩ v).heap[g]? = some (.cells (cur.setIfInBounds o v) e fr) := by
      simp [World.setCell, Array.getElem?_modify, h]
    obtain ⟨cur', h2, h3, h4⟩ := setCells_block g r (o + 1) _ _ e fr h1 (by simp; omega)
    refine ⟨cur', h2, by rw [h3]; simp, fun j => ?_⟩
    rw [h4, List.length_cons]
    by_cases e1 : o + 1 ≤ j ∧ j < o + 1 + r.length
    · rw [if_pos e1, if_pos (by omega), show j - o = (j - (o + 1)) + 1 by omega, List.getElem?_cons_succ]
    · rw [if_neg e1]
      by_cases e2 : j = o
      · subst e2
        rw [if_pos (by omega), Nat.sub_self, List.getElem?_cons_zero, Array.getElem?_setIfInBounds_self, if_pos (by omega)]
      · rw [if_neg (by omega), Array.getElem?_setIfInBounds_ne (by omega)]

theorem setCells_grown (w : World) (g o : Nat) (vs : List Value) : w.grownBy (w.setCells g o vs) (some g) := by
  obtain ⟨h1, h2, _⟩ := World.keptBut_setCells g (may := fun _ => True) vs o w (fun _ _ => trivial)
  have hs : ∀ (vs : List Value) (o : Nat) (w : World), (w.setCells g o vs).heap.size = w.heap.size ∧ (w.setCells g o vs).tape = w.tape := by
    intro vs
    induction vs with
    | nil => intro o w; exact ⟨rfl, rfl⟩
    | cons v r ih => intro o w; rw [World.setCells]; obtain ⟨a1, a2⟩ := ih (o + 1) (w.setCell ⟨g, o, none⟩ v); rw [a1, a2]; simp [World.setCell]
  obtain ⟨s1, s2⟩ := hs vs o w
  refine ⟨h1, s2, h2, by omega, fun k hk hne => World.heap_setCells_other w g o vs hk (fun e => hne (by rw [e]))⟩

/-- 'append(v, ..)': whatever is appended. -/
theorem OwnG.app {P : Program} {w : World} {t tx ty e : TypeId} {z : Value} {size bytes : Nat} (E : Elem P t e z size bytes) (hzs : z.cells.size = size) {v : Value} {n : Nat} {xs : List Value} (h : OwnG w e size v n xs)
    {x : Value} {m : Nat} {news : List Value} (hs : Src P size tx x m news w) (h63 : n + m ≤ maxLen) (hbytes : (n + m) * bytes ≤ 140737488355328) :
    ∃ v' w', (Builtin.append_ #[t, tx] ty #[v, x]).run P w = .ok v' w' ∧ OwnG w' e size v' (n + m) (xs ++ news) ∧ w.grownBy w' v.ownBlock ∧ (∀ k, v'.ownBlock = some k → v.ownBlock = some k ∨ w.heap.size ≤ k) := by
  obtain ⟨i, hi, g1, g2, g3⟩ := info_parts E.info
  subst g2 g3
  have hnl := hs.newsLen
  have hlen : (xs ++ news).length = (n + m) * i.size := by rw [List.length_append, h.1, hnl, Nat.add_mul]
  have hsmall : n + m ≤ 9223372036854775807 := by simp only [maxLen] at h63; omega
  have grow : ∀ (bs : Option Addr) (sc : Nat), v = .slice bs n sc → sc < n + m → (Builtin.firstCells i.size n (.slice bs n sc)).run P w.drew = .ok xs.toArray w.drew →
      ∃ v' w', (Builtin.append_ #[t, tx] ty #[v, x]).run P w = .ok v' w' ∧ OwnG w' e i.size v' (n + m) (xs ++ news) ∧ w.grownBy w' v.ownBlock ∧ (∀ k, v'.ownBlock = some k → v.ownBlock = some k ∨ w.heap.size ≤ k) := by
    rintro bs sc rfl hgt hold
    have hrun := run_append_grow_src (P := P) w t tx ty e i z E.under hi g1 bs n sc xs hold x m news hs hgt (by omega) (growslice_fits hgt hbytes)
    have hge := grownCap_ge w (n + m) sc e
    have hcm := grownCap_le_maxLen w (n + m) sc e h63
    refine ⟨_, _, hrun, ⟨hlen, .inr ⟨w.heap.size, 0, _, _, rfl, heap_alloc_new w.drew _, hge, hcm, ?_, fun j u hu => ?_⟩⟩, ⟨rfl, rfl, rfl, by simp, fun k hk _ => Below.heap_alloc w.drew _ k hk⟩, fun k hk => .inr ?_⟩
    · rw [Array.size_append, List.size_toArray, hlen, size_zeroCells, hzs, ← Nat.add_mul, Nat.zero_add]
      apply Nat.mul_le_mul_right
      omega
    · rw [Nat.zero_add, Array.getElem?_append_left (by rw [List.size_toArray]; exact (List.getElem?_eq_some_iff.1 hu).1), List.getElem?_toArray]
      exact hu
    · simp [Value.ownBlock] at hk; omega
  rcases h.2 with ⟨h1, h2⟩ | ⟨g, o, cap, cur, rfl, hg, hn, hcm, hcs, ht⟩
  · subst h1 h2
    have hx0 : xs = [] := List.eq_nil_of_length_eq_zero (by rw [h.1, Nat.zero_mul])
    subst hx0
    by_cases hm : m = 0
    · subst hm
      have hn0 : news = [] := List.eq_nil_of_length_eq_zero (by rw [hnl, Nat.zero_mul])
      subst hn0
      exact ⟨_, w, run_append_nothing w t tx ty e i E.under hi none 0 0 (Nat.le_refl _) x hs, ⟨by simp, .inl ⟨rfl, rfl⟩⟩, ⟨rfl, rfl, rfl, Nat.le_refl _, fun _ _ _ => rfl⟩, fun k hk => .inl hk⟩
    · exact grow none 0 rfl (by omega) (run_firstCells_none w.drew i.size 0 0 0)
  · by_cases hfit : n + m ≤ cap
    · have hmul : (n + m) * i.size ≤ cap * i.size := Nat.mul_le_mul_right _ hfit
      rw [Nat.add_mul] at hmul
      have hin : o + n * i.size + news.length ≤ cur.size := by rw [hnl]; omega
      obtain ⟨cur', c1, c2, c3⟩ := setCells_block g news (o + n * i.size) w cur e (0, 0) hg hin
      refine ⟨_, _, run_append_room_src w t tx ty e i E.under hi g o n cap x m news hs hfit (fun j hj => ?_) (fun j hj => ?_), ⟨hlen, .inr ⟨g, o, cap, cur', rfl, c1, hfit, hcm, by rw [c2]; exact hcs, fun j u hu => ?_⟩⟩, setCells_grown w g _ news, fun k hk => .inl hk⟩
      · have : o + n * i.size + j < cur.size := by omega
        simp [World.cell?, hg, this]
      · simp [World.frozen?, hg]
      · rw [c3]
        by_cases hj : j < xs.length
        · rw [List.getElem?_append_left hj] at hu
          rw [if_neg (by rw [h.1] at hj; omega)]
          exact ht j u hu
        · rw [List.getElem?_append_right (by omega)] at hu
          have hju := (List.getElem?_eq_some_iff.1 hu).1
          have hx1 := h.1
          rw [if_pos (by omega), show o + j - (o + n * i.size) = j - xs.length by omega]
          exact hu
    · exact grow _ cap rfl (by omega) (run_firstCells_some w.drew i.size n _ n cap xs h.1 (fun j u hu => by
        rw [Addr.add_lit]
        show w.cell? ⟨g, o + j, none⟩ = some u
        simp [World.cell?, hg, ht j u hu]))

/-- .. at the operation, for the walk. -/
theorem wp_appG {P : Program} {ops : Array Oper} {rest : List Oper} {o : Oper} {a : Act} {Q : Exit → Act → World → Prop} {w : World} (hgd : o.guard = none) (s x : Operand) (t tx : TypeId)
    (ho : o.op = .call { callee := .builtin .append, args := #[s, x], argTypes := #[t, tx] })
    {e : TypeId} {z : Value} {size bytes : Nat} (E : Elem P t e z size bytes) (hzs : z.cells.size = size) {v xv : Value} {n m : Nat} {xs news : List Value}
    (hs : a.eval s = v) (hown : OwnG w e size v n xs) (hx : a.eval x = xv) (hsrc : Src P size tx xv m news w) (h63 : n + m ≤ maxLen) (hbytes : (n + m) * bytes ≤ 140737488355328)
    (h : ∀ v' w', OwnG w' e size v' (n + m) (xs ++ news) → w.grownBy w' v.ownBlock → (∀ k, v'.ownBlock = some k → v.ownBlock = some k ∨ w.heap.size ≤ k) → wpList P ops Q rest (a.put o.dst v') w') :
    wpList P ops Q (o :: rest) a w := by
  refine wpList_plain hgd fun K hK => ?_
  obtain ⟨v', w', hr, h2, h3, h4⟩ := hown.app (ty := o.type) E hzs hsrc h63 hbytes
  unfold Oper.wp execOp
  simp only [ho, resolve, invoke, builtin, Sem.run_bind, Sem.run_pure, Result.andThen_ok, List.map_toArray, List.map_cons, List.map_nil, hs, hx, hr]
  exact hK _ _ (h v' w' h2 h3 h4)

/-- .. as a step of a region that draws its order. -/
theorem step_appG {P : Program} {ops : Array Oper} {o : Oper} {a : Act} {K : Act → World → Prop} {Q : Exit → Act → World → Prop} {E : Prop} {w : World} (hgd : o.guard = none) (s x : Operand) (t tx : TypeId)
    (ho : o.op = .call { callee := .builtin .append, args := #[s, x], argTypes := #[t, tx] })
    {e : TypeId} {z : Value} {size bytes : Nat} (L : Elem P t e z size bytes) (hzs : z.cells.size = size) {v xv : Value} {n m : Nat} {xs news : List Value}
    (hs : a.eval s = v) (hown : OwnG w e size v n xs) (hx : a.eval x = xv) (hsrc : Src P size tx xv m news w) (h63 : n + m ≤ maxLen) (hbytes : (n + m) * bytes ≤ 140737488355328)
    (h : ∀ v' w', OwnG w' e size v' (n + m) (xs ++ news) → w.grownBy w' v.ownBlock → (∀ k, v'.ownBlock = some k → v.ownBlock = some k ∨ w.heap.size ≤ k) → K (a.put o.dst v') w') :
    if Region.wanted o (yielded ops a.tmps) = true then Oper.wp P o a w K Q else E := by
  have hw : Region.wanted o (yielded ops a.tmps) = true := by simp [Region.wanted, hgd]
  rw [if_pos hw]
  obtain ⟨v', w', hr, h2, h3, h4⟩ := hown.app (ty := o.type) L hzs hsrc h63 hbytes
  unfold Oper.wp execOp
  simp only [ho, resolve, invoke, builtin, Sem.run_bind, Sem.run_pure, Result.andThen_ok, List.map_toArray, List.map_cons, List.map_nil, hs, hx, hr]
  exact h v' w' h2 h3 h4

/-- What a slice of one new element yields. -/
theorem Src.ofNew {P : Program} {w : World} {size : Nat} {tx e' e : TypeId} (hk : P.underlying tx = some (.slice e')) {news : List Value} (hl : news.length = size) (h1 : ∀ u ∈ news, u.oneCell' = true) : Src P size tx (.slice (some ⟨w.heap.size, 0, none⟩) 1 1) 1 news (w.alloc (.cells news.toArray e)) :=
  Src.ofSlice _ hk _ 1 1 news (by omega) (fun j u hu => World.news_of_block (Go.MapKept.heap_alloc w _).1 j u hu) h1
end Go.Proofs.YtfoamcobpfflbaaDoor
namespace Go.Proofs.YtfoamcobpfflbaaDoor
open Go Go.RowKit Go.Maps

/-- How a map's keys and elements are written: x's value is mkK x, a's is mkE a. -/
structure MC (P : Program) (t k e : TypeId) (κ α : Type) where
  mkK : κ → Value
  lit : κ → Lit
  okK : κ → Prop
  mkE : α → Value
  dt : α → DataW Unit
  ok : α → Prop
  z0 : α
  R : Value → Option (DataW Unit × List MemPlace)
  keyed : Keyed P k
  under : P.underlying t = some (.map k e)
  key : ∀ x, okK x → keyOf P k (mkK x) = some (lit x)
  keyInv : ∀ v l, keyOf P k v = some l → ∃ x, v = mkK x ∧ l = lit x ∧ okK x
  litInj : ∀ x y, okK x → okK y → lit x = lit y → x = y
  el : ∀ a, ok a → R (mkE a) = some (dt a, [])
  elInv : ∀ v y, R v = some y → ∃ a, v = mkE a ∧ y = (dt a, []) ∧ ok a
  dtInj : ∀ a b, ok a → ok b → dt a = dt b → a = b
  zero : ∀ w, (zeroValue e).run P w = .ok (mkE z0) w
  okz : ok z0

/-- A list without one. -/
def lessOne {κ : Type} [DecidableEq κ] (l : List κ) (x : κ) : List κ := l.filter fun y => !decide (y = x)

theorem mem_lessOne {κ : Type} [DecidableEq κ] {l : List κ} {x y : κ} : y ∈ lessOne l x ↔ y ∈ l ∧ y ≠ x := by simp [lessOne]

theorem perm_lessOne {κ : Type} [DecidableEq κ] : ∀ {l : List κ} {x : κ}, l.Nodup → x ∈ l → l.Perm (x :: lessOne l x)
  | y :: l, x, hn, h => by
    rw [List.nodup_cons] at hn
    by_cases e : y = x
    · subst e
      have : lessOne (y :: l) y = l := by
        unfold lessOne
        rw [List.filter_cons_of_neg (by simp), List.filter_eq_self]
        intro z hz
        have : z ≠ y := fun e => hn.1 (e ▸ hz)
        simpa using this
      rw [this]
    · have hx : x ∈ l := (List.mem_cons.1 h).resolve_left (fun e2 => e e2.symm)
      have e3 : lessOne (y :: l) x = y :: lessOne l x := by unfold lessOne; rw [List.filter_cons_of_pos (by simpa using e)]
      rw [e3]
      exact ((perm_lessOne hn.2 hx).cons y).trans (List.Perm.swap x y _)

theorem nodup_le {κ : Type} : ∀ {l m : List κ}, l.Nodup → (∀ x ∈ l, x ∈ m) → l.length ≤ m.length
  | [], m, _, _ => Nat.zero_le _
  | x :: l, m, hn, h => by
    rw [List.nodup_cons] at hn
    obtain ⟨a, b, rfl⟩ := List.append_of_mem (h x (by simp))
    have := nodup_le (m := a ++ b) hn.2 fun y hy => by
      have := h y (by simp [hy])
      rw [List.mem_append, List.mem_cons] at this
      rw [List.mem_append]
      rcases this with h1 | h1 | h1
      · exact .inl h1
      · subst h1; exact absurd hy hn.1
      · exact .inr h1
    simp only [List.length_append, List.length_cons] at this ⊢
    omega

section
variable {P : Program} {t k e : TypeId} {κ α : Type} {C : MC P t k e κ α} {w w' : World} {b n : Nat} {F : κ → Option α}

/-- Block b is a map of at most n entries that has F's element at each key. -/
def MapG (C : MC P t k e κ α) (w : World) (b n : Nat) (F : κ → Option α) : Prop :=
  ∃ D, w.ownsMap P k C.R b n D ∧ Tidy D ∧ (∀ x, C.okK x → has D (C.lit x) = (F x).isSome ∧ ∀ zd, D.atKey (C.lit x) zd = match F x with | some a => C.dt a | none => zd) ∧ ∀ x a, F x = some a → C.okK x ∧ C.ok a

theorem MapG.made (C : MC P t k e κ α) (w : World) : MapG C (w.alloc (.map #[] 0)) w.heap.size 0 fun _ => none :=
  ⟨.map [], World.ownsMap_made _ _ _ _, tidy_empty, fun _ _ => ⟨rfl, fun _ => rfl⟩, fun _ _ h => by cases h⟩

theorem MapG.lt (h : MapG C w b n F) : b < w.heap.size := by obtain ⟨D, h1, _⟩ := h; exact h1.lt

theorem MapG.block (h : MapG C w b n F) (hb : w'.heap[b]? = w.heap[b]?) : MapG C w' b n F := by
  obtain ⟨D, ⟨es, clock, hc, h1, h2⟩, h3⟩ := h
  exact ⟨D, ⟨es, clock, hb.trans hc, h1, h2⟩, h3⟩

theorem MapG.kept {row : Option Nat} (h : MapG C w b n F) (hg : w.grownBy w' row) (hne : some b ≠ row) : MapG C w' b n F := h.block (hg.block b h.lt hne)

theorem MapG.below (h : MapG C w b n F) (hb : Below w.heap.size w w') : MapG C w' b n F := h.block (hb.block b h.lt)

theorem MapG.alloc (h : MapG C w b n F) (o : Obj) : MapG C (w.alloc o) b n F := h.kept (World.grownBy_alloc w o none) (by simp)

theorem MapG.drewN (h : MapG C w b n F) (q : Nat) : MapG C (w.drewN q) b n F := h

theorem MapG.mono (h : MapG C w b n F) {n' : Nat} (hn : n ≤ n') : MapG C w b n' F := by
  obtain ⟨D, h1, h2⟩ := h
  exact ⟨D, h1.mono hn, h2⟩

theorem MapG.isMap (h : MapG C w b n F) : ∃ es clock, w.heap[b]? = some (.map es clock) := by
  obtain ⟨D, ⟨es, clock, hc, _⟩, _⟩ := h
  exact ⟨es, clock, hc⟩

theorem MapG.congr {G : κ → Option α} (h : MapG C w b n F) (e : ∀ x, F x = G x) : MapG C w b n G := by
  rw [← show F = G from funext e]; exact h

theorem MC.read (C : MC P t k e κ α) {v : Value} {a : α} {ps : List MemPlace} (h : C.R v = some (C.dt a, ps)) (ha : C.ok a) : v = C.mkE a := by
  obtain ⟨c, h1, h2, h3⟩ := C.elInv v _ h
  injection h2 with h2 _
  rw [h1, C.dtInj a c ha h3 h2]

/-- 'm[k]'. -/
theorem MapG.look (h : MapG C w b n F) (x : κ) (hx : C.okK x) : (Instr.lookup t (.map (some b)) (C.mkK x) false).run P w = .ok (C.mkE ((F x).getD C.z0)) w := by
  obtain ⟨D, h1, h2, h3, h4⟩ := h
  obtain ⟨v, ps, hrun, hR⟩ := h1.lookup C.keyed C.under (C.zero w) (C.el _ C.okz) (C.key x hx)
  rw [(h3 x hx).2] at hR
  rw [hrun]
  congr 1
  cases hF : F x with
  | none => rw [hF] at hR; exact C.read hR C.okz
  | some a => rw [hF] at hR; exact C.read hR (h4 x a hF).2

/-- 'v, ok := m[k]'. -/
theorem MapG.look_ok (h : MapG C w b n F) (x : κ) (hx : C.okK x) : (Instr.lookup t (.map (some b)) (C.mkK x) true).run P w = .ok (.tuple #[C.mkE ((F x).getD C.z0), .bool (F x).isSome]) w := by
  obtain ⟨D, h1, h2, h3, h4⟩ := h
  obtain ⟨v, ps, hrun, hR⟩ := h1.look_ok C.keyed C.under (C.zero w) (C.el _ C.okz) (C.key x hx)
  rw [(h3 x hx).2] at hR
  rw [hrun, (h3 x hx).1]
  have : v = C.mkE ((F x).getD C.z0) := by
    cases hF : F x with
    | none => rw [hF] at hR; exact C.read hR C.okz
    | some a => rw [hF] at hR; exact C.read hR (h4 x a hF).2
  rw [this]

/-- 'm[k] = v'. -/
theorem MapG.put [DecidableEq κ] (h : MapG C w b n F) (x : κ) (hx : C.okK x) (a : α) (ha : C.ok a) (hn : n < maxLen) :
    ∃ w', (Instr.mapUpdate t (.map (some b)) (C.mkK x) (C.mkE a)).run P w = .ok () w' ∧ MapG C w' b (n + 1) (fun y => if y = x then some a else F y) ∧ w.grownBy w' (some b) := by
  obtain ⟨D, h1, h2, h3, h4⟩ := h
  obtain ⟨w', hrun, hown, hg⟩ := h1.update C.keyed C.under hn (C.key x hx) (C.el a ha)
  have hk := C.keyed.key (C.key x hx)
  refine ⟨w', hrun, ⟨_, hown, h2.put hk _, fun y hy => ?_, fun y c hc => ?_⟩, hg⟩
  · by_cases e : y = x
    · subst e
      simp only [if_pos]
      exact ⟨has_put_same h2.isMap hk _, fun zd => atKey_put_same h2.isMap hk _ zd⟩
    · have hne : C.lit y ≠ C.lit x := fun h => e (C.litInj y x hy hx h)
      simp only [if_neg e]
      exact ⟨by rw [has_put_other hne]; exact (h3 y hy).1, fun zd => by rw [atKey_put_other hne]; exact (h3 y hy).2 zd⟩
  · by_cases e : y = x
    · subst e; simp only [if_pos] at hc; injection hc with hc; subst hc; exact ⟨hx, ha⟩
    · simp only [if_neg e] at hc; exact h4 y c hc

/-- 'delete(m, k)'. -/
theorem MapG.del [DecidableEq κ] (h : MapG C w b n F) (x : κ) (hx : C.okK x) (ty : TypeId) :
    ∃ w', (Builtin.delete_ #[t, k] ty #[.map (some b), C.mkK x]).run P w = .ok (.tuple #[]) w' ∧ MapG C w' b n (fun y => if y = x then none else F y) ∧ w.grownBy w' (some b) := by
  obtain ⟨D, h1, h2, h3, h4⟩ := h
  obtain ⟨w', hrun, hown, hg⟩ := h1.drop C.keyed C.under (C.key x hx) ty
  refine ⟨w', hrun, ⟨_, hown, h2.del _, fun y hy => ?_, fun y c hc => ?_⟩, hg.grown⟩
  · by_cases e : y = x
    · subst e
      simp only [if_pos]
      exact ⟨has_del_same, fun zd => atKey_del_same zd⟩
    · have hne : C.lit y ≠ C.lit x := fun h => e (C.litInj y x hy hx h)
      simp only [if_neg e]
      exact ⟨by rw [has_del_other hne]; exact (h3 y hy).1, fun zd => by rw [atKey_del_other hne]; exact (h3 y hy).2 zd⟩
  · by_cases e : y = x
    · simp only [if_pos e] at hc; cases hc
    · simp only [if_neg e] at hc; exact h4 y c hc

/-- 'for k, v := range m' under way: l is left. -/
def RanG (C : MC P t k e κ α) (w : World) (b r n : Nat) (F : κ → Option α) (l : List κ) : Prop :=
  ∃ D left, w.ranges P k C.R b r n D left (w.rangeLeft b r) ∧ Tidy D ∧ (∀ x, C.okK x → has D (C.lit x) = (F x).isSome ∧ ∀ zd, D.atKey (C.lit x) zd = match F x with | some a => C.dt a | none => zd) ∧ (∀ x a, F x = some a → C.okK x ∧ C.ok a) ∧
    (∀ x, C.okK x → (left (C.lit x) = true ↔ x ∈ l)) ∧ (∀ x ∈ l, (F x).isSome = true) ∧ l.Nodup

theorem RanG.nodup {r : Nat} {l : List κ} (h : RanG C w b r n F l) : l.Nodup := by
  obtain ⟨D, left, h1, h2, h3, h4, h5, h6, h7⟩ := h
  exact h7

theorem RanG.map {r : Nat} {l : List κ} (h : RanG C w b r n F l) : MapG C w b n F := by
  obtain ⟨D, left, h1, h2, h3, h4, _⟩ := h
  exact ⟨D, h1.owns, h2, h3, h4⟩

theorem rangeLeft_block {r : Nat} (hb : w'.heap[b]? = w.heap[b]?) (hr : w'.heap[r]? = w.heap[r]?) : w'.rangeLeft b r = w.rangeLeft b r := by
  unfold World.rangeLeft; rw [hb, hr]

theorem RanG.block {r : Nat} {l : List κ} (h : RanG C w b r n F l) (hb : w'.heap[b]? = w.heap[b]?) (hr : w'.heap[r]? = w.heap[r]?) : RanG C w' b r n F l := by
  obtain ⟨D, left, ⟨es, clock, since, seen, c0, h1, h2, h3, h4, h5, h6⟩, h⟩ := h
  refine ⟨D, left, ⟨es, clock, since, seen, c0, hb.trans h1, h2, h3, h4, hr.trans h5, ?_⟩, h⟩
  rw [rangeLeft_block hb hr]; exact h6

theorem RanG.lt {r : Nat} {l : List κ} (h : RanG C w b r n F l) : r < w.heap.size := by
  obtain ⟨D, left, h1, _⟩ := h
  exact h1.lt

theorem RanG.iter {r : Nat} {l : List κ} (h : RanG C w b r n F l) : ∃ m s q c, w.heap[r]? = some (.mapIter m s q c) := by
  obtain ⟨D, left, ⟨es, clock, since, seen, c0, h1, h2, h3, h4, h5, h6⟩, h⟩ := h
  exact ⟨_, _, _, _, h5⟩

theorem RanG.kept {r : Nat} {l : List κ} {row : Option Nat} (h : RanG C w b r n F l) (hg : w.grownBy w' row) (h1 : some b ≠ row) (h2 : some r ≠ row) : RanG C w' b r n F l :=
  h.block (hg.block b h.map.lt h1) (hg.block r h.lt h2)

theorem RanG.below {r : Nat} {l : List κ} (h : RanG C w b r n F l) (hb : Below w.heap.size w w') : RanG C w' b r n F l := h.block (hb.block b h.map.lt) (hb.block r h.lt)

/-- 'range m'. -/
theorem MapG.range (h : MapG C w b n F) (l : List κ) (hl : ∀ x, x ∈ l ↔ (F x).isSome = true) (hn : l.Nodup) :
    ∃ w', (Instr.range t (.map (some b))).run P w = .ok (.pointer (some ⟨w.heap.size, 0, none⟩)) w' ∧ RanG C w' b w.heap.size n F l ∧ w.grownBy w' none ∧ w'.heap.size = w.heap.size + 1 ∧ w'.rangeLeft b w.heap.size ≤ n := by
  obtain ⟨D, h1, h2, h3, h4⟩ := h
  obtain ⟨w', hrun, hr, hg, hs⟩ := h1.range C.keyed C.under
  refine ⟨w', hrun, ⟨D, has D, ?_, h2, h3, h4, fun x hx => ?_, fun x hx => (hl x).1 hx, hn⟩, hg, hs, by rw [hr.left_eq]; exact h1.size_le⟩
  · rw [hr.left_eq]; exact hr
  · rw [(h3 x hx).1, hl]

/-- The step. -/
theorem RanG.next [DecidableEq κ] {r : Nat} {l : List κ} (h : RanG C w b r n F l) (ty : TypeId) :
    (l = [] ∧ (Instr.next (.pointer (some ⟨r, 0, none⟩)) false ty).run P w = .ok (.tuple #[.bool false]) w) ∨
    ∃ x a w', x ∈ l ∧ F x = some a ∧ C.okK x ∧ C.ok a ∧ (Instr.next (.pointer (some ⟨r, 0, none⟩)) false ty).run P w = .ok (.tuple #[.bool true, C.mkK x, C.mkE a]) w' ∧ RanG C w' b r n F (lessOne l x) ∧ w'.rangeLeft b r < w.rangeLeft b r ∧ w.grownBy w' (some r) ∧ w'.heap.size = w.heap.size ∧
      (Instr.entry (.pointer (some ⟨r, 0, none⟩))).run P w' = .ok (.tuple #[C.mkK x, C.mkE a]) w' := by
  obtain ⟨D, left, h1, h2, h3, h4, h5, h6, h7⟩ := h
  rcases h1.next C.keyed ty with ⟨_, hl, hrun⟩ | ⟨key, v, kl, y, w', cnt', hkey, hlk, hv, hat, hrun, hrg, hlt, hgr, hsz, hen⟩
  · left
    refine ⟨?_, hrun⟩
    cases l with
    | nil => rfl
    | cons x l =>
      have hs := h6 x (by simp)
      obtain ⟨a, ha⟩ := Option.isSome_iff_exists.1 hs
      have := (h5 x (h4 x a ha).1).2 (by simp)
      rw [hl] at this; cases this
  · right
    obtain ⟨x, rfl, rfl, hx⟩ := C.keyInv key kl hkey
    have hxl := (h5 x hx).1 hlk
    obtain ⟨a, ha⟩ := Option.isSome_iff_exists.1 (h6 x hxl)
    have ha4 := h4 x a ha
    obtain ⟨c, rfl, hy, hc⟩ := C.elInv v y hv
    have e1 := hat .nil
    rw [(h3 x hx).2, ha, hy] at e1
    obtain rfl := C.dtInj a c ha4.2 hc e1
    refine ⟨x, a, w', hxl, ha, hx, ha4.2, hrun, ⟨D, fun z => left z && !z.sameKey (C.lit x), ?_, h2, h3, h4, fun z hz => ?_, fun z hz => h6 z (mem_lessOne.1 hz).1, h7.filter _⟩, by rw [hrg.left_eq]; exact hlt, hgr, hsz, hen⟩
    · rw [hrg.left_eq]; exact hrg
    · rw [mem_lessOne, Bool.and_eq_true, h5 z hz]
      have hk := C.keyed.key (C.key x hx)
      constructor
      · rintro ⟨p1, p2⟩
        refine ⟨p1, fun e => ?_⟩
        subst e
        rw [WideAt.sameKey_self hk] at p2; cases p2
      · rintro ⟨p2, p1⟩
        exact ⟨p2, by rw [sameKey_ne (fun e => p1 (C.litInj z x hz hx e))]; rfl⟩
end

section
variable {P : Program} {ops : Array Oper} {rest : List Oper} {o : Oper} {a : Act} {Q : Exit → Act → World → Prop} {w : World} {t k e : TypeId} {κ α : Type} {C : MC P t k e κ α} {b n : Nat} {F : κ → Option α}

/-- 'm[k] = v' at the operation. -/
theorem wp_putG [DecidableEq κ] (hg : o.guard = none) (m x v : Operand) (hop : o.op = Op.mapUpdate t m x v) (hm : a.eval m = .map (some b)) (h : MapG C w b n F) (y : κ) (c : α) (hx : a.eval x = C.mkK y) (hv : a.eval v = C.mkE c) (hy : C.okK y) (hc : C.ok c) (hn : n < maxLen)
    (hK : ∀ w', MapG C w' b (n + 1) (fun z => if z = y then some c else F z) → w.grownBy w' (some b) → wpList P ops Q rest (a.put o.dst undef) w') : wpList P ops Q (o :: rest) a w := by
  refine wpList_plain hg fun K' hK' => ?_
  obtain ⟨w', hrun, r1, r2⟩ := h.put y hy c hc hn
  unfold Oper.wp
  simp [execOp, hop, hm, hx, hv, hrun, Result.andThen]
  exact hK' _ _ (hK w' r1 r2)

/-- 'delete(m, k)' at the operation. -/
theorem wp_delG [DecidableEq κ] (hg : o.guard = none) (m x : Operand) (hop : o.op = Op.call { callee := Callee.builtin Builtin.delete, args := #[m, x], argTypes := #[t, k] }) (hm : a.eval m = .map (some b)) (h : MapG C w b n F) (y : κ) (hx : a.eval x = C.mkK y) (hy : C.okK y)
    (hK : ∀ w', MapG C w' b n (fun z => if z = y then none else F z) → w.grownBy w' (some b) → wpList P ops Q rest (a.put o.dst (.tuple #[])) w') : wpList P ops Q (o :: rest) a w := by
  refine wpList_plain hg fun K' hK' => ?_
  obtain ⟨w', hrun, r1, r2⟩ := h.del y hy o.type
  unfold Oper.wp
  simp [execOp, hop, resolve, invoke, builtin, hm, hx, hrun, Result.andThen]
  exact hK' _ _ (hK w' r1 r2)

/-- 'range m' at the operation. -/
theorem wp_rangeG (hg : o.guard = none) (m : Operand) (hop : o.op = Op.range t m) (hm : a.eval m = .map (some b)) (h : MapG C w b n F) (l : List κ) (hl : ∀ x, x ∈ l ↔ (F x).isSome = true) (hnd : l.Nodup)
    (hK : ∀ w', RanG C w' b w.heap.size n F l → w.grownBy w' none → w'.heap.size = w.heap.size + 1 → w'.rangeLeft b w.heap.size ≤ n → wpList P ops Q rest (a.put o.dst (.pointer (some ⟨w.heap.size, 0, none⟩))) w') : wpList P ops Q (o :: rest) a w := by
  refine wpList_plain hg fun K' hK' => ?_
  obtain ⟨w', hrun, r1, r2, r3, r4⟩ := h.range l hl hnd
  unfold Oper.wp
  simp [execOp, hop, hm, hrun, Result.andThen]
  exact hK' _ _ (hK w' r1 r2 r3 r4)

/-- The step at the operation. -/
theorem wp_nextG [DecidableEq κ] {r : Nat} {l : List κ} (hg : o.guard = none) (it : Operand) (hop : o.op = Op.next it false) (hit : a.eval it = .pointer (some ⟨r, 0, none⟩)) (h : RanG C w b r n F l)
    (hDone : l = [] → wpList P ops Q rest (a.put o.dst (.tuple #[.bool false])) w)
    (hMore : ∀ (x : κ) (c : α) (w' : World), x ∈ l → F x = some c → C.okK x → C.ok c → RanG C w' b r n F (lessOne l x) → w'.rangeLeft b r < w.rangeLeft b r → w.grownBy w' (some r) → w'.heap.size = w.heap.size →
      (Instr.entry (.pointer (some ⟨r, 0, none⟩))).run P w' = .ok (.tuple #[C.mkK x, C.mkE c]) w' → wpList P ops Q rest (a.put o.dst (.tuple #[.bool true, C.mkK x, C.mkE c])) w') : wpList P ops Q (o :: rest) a w := by
  refine wpList_plain hg fun K' hK' => ?_
  unfold Oper.wp
  rcases h.next o.type with ⟨hl, hrun⟩ | ⟨x, c, w', hxl, hF, hx, hc, hrun, hr, hlt, hgr, hsz, hen⟩
  · simp [execOp, hop, hit, hrun, Result.andThen]
    exact hK' _ _ (hDone hl)
  · simp [execOp, hop, hit, hrun, Result.andThen]
    exact hK' _ _ (hMore x c w' hxl hF hx hc hr hlt hgr hsz hen)
end
end Go.Proofs.YtfoamcobpfflbaaDoor
namespace Go.Proofs.YtfoamcobpfflbaaDoor
namespace PathS

/-- Pieces so far, and where the next one begins (the reference's Split, k rounds). -/
def splitTo (s : ByteArray) : Nat → List ByteArray × Nat
  | 0 => ([], 0)
  | k + 1 => if k = s.size ∨ s[k]! = 47 then ((splitTo s k).1 ++ [s.extract (splitTo s k).2 k], k + 1) else splitTo s k

def split (s : ByteArray) : List ByteArray := if s.size = 0 then [] else (splitTo s (s.size + 1)).1

theorem splitTo_le (s : ByteArray) (k : Nat) : (splitTo s k).2 ≤ k := by
  induction k with
  | zero => simp [splitTo]
  | succ k ih => unfold splitTo; split <;> (try simp) <;> omega

theorem splitTo_len (s : ByteArray) (k : Nat) : (splitTo s k).1.length ≤ k := by
  induction k with
  | zero => simp [splitTo]
  | succ k ih => unfold splitTo; split <;> (try simp) <;> omega

def okB (c : UInt8) : Bool := !(decide (c < 32) || c == 127 || c == 47)

def nameL (l : List UInt8) : Bool := l != [] && l != [46] && l != [46, 46] && decide (l.length ≤ 64) && l.all okB

def name (s : ByteArray) : Bool := nameL s.data.toList

theorem nameL_no {l : List UInt8} (h : l = [] ∨ l = [46] ∨ l = [46, 46] ∨ 64 < l.length) : nameL l = false := by
  unfold nameL
  rcases h with h | h | h | h
  · simp [h]
  · simp [h]
  · simp [h]
  · have : decide (l.length ≤ 64) = false := by simpa using h
    rw [this]; simp

theorem nameL_rest {l : List UInt8} (h1 : ¬ l = []) (h2 : ¬ l = [46]) (h3 : ¬ l = [46, 46]) (h4 : l.length ≤ 64) : nameL l = (l.drop 0).all okB := by
  simp [nameL, h1, h2, h3, h4]

theorem name_no {s : ByteArray} (h : s.data.toList = [] ∨ s.data.toList = [46] ∨ s.data.toList = [46, 46] ∨ 64 < s.data.toList.length) : name s = false := nameL_no h
theorem name_rest {s : ByteArray} (h1 : ¬ s.data.toList = []) (h2 : ¬ s.data.toList = [46]) (h3 : ¬ s.data.toList = [46, 46]) (h4 : s.data.toList.length ≤ 64) : name s = (s.data.toList.drop 0).all okB := nameL_rest h1 h2 h3 h4

theorem drop_at (s : ByteArray) (k : Nat) (h : k < s.size) : s.data.toList.drop k = s[k] :: s.data.toList.drop (k + 1) := by
  rw [List.drop_eq_getElem_cons (by simpa using h)]; rfl

/-- Join: names with / between. -/
def joinTo (l : List ByteArray) : Nat → ByteArray
  | 0 => ByteArray.empty
  | k + 1 => (if 0 < k then joinTo l k ++ ⟨#[47]⟩ else joinTo l k) ++ l.getD k ByteArray.empty

def check (s : ByteArray) : Int := if 255 < s.size ∨ 16 < (split s).length then 2 else if (split s).all name then (if (split s).length = 0 then 50 else 0) else 50

def cmpB (a b : ByteArray) : Int := if a.data.toList < b.data.toList then -1 else if a.data.toList = b.data.toList then 0 else 1

def cmpL : List ByteArray → List ByteArray → Int
  | [], [] => 0
  | [], _ :: _ => -1
  | _ :: _, [] => 1
  | a :: x, b :: y => if cmpB a b = 0 then cmpL x y else cmpB a b

def cmp (a b : ByteArray) : Int := cmpL (split a) (split b)

def under (p f : ByteArray) : Bool := if f.size = 0 then decide (p.size ≠ 0) else (f.data.toList ++ [47]).isPrefixOf p.data.toList

def parent (s : ByteArray) : ByteArray := if (split s).length < 2 then ByteArray.empty else joinTo ((split s).dropLast) ((split s).length - 1)

end PathS
end Go.Proofs.YtfoamcobpfflbaaDoor
namespace Go.Proofs.YtfoamcobpfflbaaDoor
open Go Go.RowKit

theorem ES : Elem Tryd.prog 42 9 (.string ByteArray.empty) 1 16 := ⟨by kernel_rfl, by kernel_rfl⟩

set_option maxRecDepth 100000 in
set_option maxHeartbeats 400000 in
theorem ref_split (s : ByteArray) (w : World) (hs : s.size ≤ 10000000) :
    Calls Tryd.prog 85 #[.string s] w fun e w' => ∃ v, e = .returned v ∧ Below w.heap.size w w' ∧ w'.ownsRow w.heap.size 9 1 v (PathS.split s).length ((PathS.split s).map Value.string) := by
  go_enter Tryd.func85, Tryd.ntmps85
  by_cases he : s.size = 0
  · have h1 : s.toList.isEmpty = true := by rw [isEmpty_iff]; simpa using he
    go_wp2_with fail
    go_ret
    exact ⟨_, rfl, Below.refl _ _, by simp only [PathS.split, he, if_true]; exact World.ownsRow_nil _ _ _ _⟩
  · have h1 : s.toList.isEmpty = false := by rw [isEmpty_iff]; simpa using he
    have hl : (PathS.splitTo s (s.size + 1)).1 = PathS.split s := by simp [PathS.split, he]
    have HL := Lib.hid hl; clear hl
    go_wp2_with fail
    go_loopw [3, 4, 5] (fun out fr i wr => ∃ k : Nat, k ≤ s.size + 1 ∧ i = .int .i64 k ∧ fr = .int .i64 (PathS.splitTo s k).2 ∧ wr.ownsRow w.heap.size 9 1 out (PathS.splitTo s k).1.length ((PathS.splitTo s k).1.map Value.string) ∧ Below w.heap.size w wr) (fun _ _ i _ => s.size + 1 - (intOf i).toNat)
    case atStart => exact ⟨0, by omega, rfl, rfl, World.ownsRow_made w #[] 0 (Nat.le_refl _) (by simp [maxLen]) rfl, (Below.refl _ _).alloc (Nat.le_refl _) _⟩
    case round =>
      obtain ⟨k, hk, rfl, rfl, hown, hb⟩ := hrel
      have hle := PathS.splitTo_le s k
      have hln := PathS.splitTo_len s k
      have HS : Hid (PathS.splitTo s (k + 1) = if k = s.size ∨ s[k]! = 47 then ((PathS.splitTo s k).1 ++ [s.extract (PathS.splitTo s k).2 k], k + 1) else PathS.splitTo s k) := by show _ = _; rfl
      generalize hA : (PathS.splitTo s k).1 = acc at hown hln HS
      have HA := Lib.hid hA; clear hA
      generalize hF : (PathS.splitTo s k).2 = f at hle HS
      have HF := Lib.hid hF; clear hF
      by_cases h2 : k = s.size + 1
      · have h3 : ¬ (k ≤ s.size) := by omega
        subst h2
        go_wp2_with fail
        go_ret
        exact ⟨_, rfl, hb, by rw [← HL.out, HA.out]; exact hown⟩
      · have h3 : k ≤ s.size := by omega
        by_cases h4 : k = s.size
        · have h5 : ((k : Int) == (s.size : Int)) = true := by simp [h4]
          have h5 : f ≤ s.size := by omega
          have HS' : Hid (PathS.splitTo s (k + 1) = (acc ++ [s.extract f k], k + 1)) := by show _ = _; rw [HS.out, if_pos (.inl h4)]
          go_wp2_with (at_builtin; refine wp_app1 rfl _ _ _ rfl ES rfl rfl hown rfl rfl (by omega) (by simp [maxLen]; omega) hb.size ?_)
          intro v' w' hown' _ hb'
          go_wp2_with fail
          go_roundw
          case rel => exact ⟨k + 1, by omega, by go_num, by rw [HS'.out]; go_num, by rw [HS'.out]; simpa [h4] using hown', hb.trans hb'⟩
          case measure => simp [intOf]; omega
        · have h5 : ((k : Int) == (s.size : Int)) = false := beq_eq_false_iff_ne.2 (by omega)
          have h6 : k < s.size := by omega
          have hget : s[k]! = s[k] := getElem!_pos s k h6
          by_cases h7 : s[k] = 47
          · have h8 : ((s[k].toNat : Int) == 47) = true := by rw [h7]; rfl
            have HS' : Hid (PathS.splitTo s (k + 1) = (acc ++ [s.extract f k], k + 1)) := by show _ = _; rw [HS.out, if_pos (.inr (by rw [hget]; exact h7))]
            clear h7 hget
            go_wp2_with (at_builtin; refine wp_app1 rfl _ _ _ rfl ES rfl rfl hown rfl rfl (by omega) (by simp [maxLen]; omega) hb.size ?_)
            intro v' w' hown' _ hb'
            go_wp2_with fail
            go_roundw
            case rel => exact ⟨k + 1, by omega, by go_num, by rw [HS'.out]; go_num, by rw [HS'.out]; simpa using hown', hb.trans hb'⟩
            case measure => simp [intOf]; omega
          · have h8 : ((s[k].toNat : Int) == 47) = false := by
              rw [beq_eq_false_iff_ne]; intro h; exact h7 (UInt8.toNat_inj.1 (by simpa using Int.ofNat.inj h))
            have HS' : Hid (PathS.splitTo s (k + 1) = PathS.splitTo s k) := by show _ = _; rw [HS.out, if_neg (by rw [hget]; simp [h4, h7])]
            clear h7 hget
            go_wp2_with fail
            go_roundw
            case rel => exact ⟨k + 1, by omega, by go_num, by rw [HS'.out, HF.out], by rw [HS'.out, HA.out]; exact hown, hb⟩
            case measure => simp [intOf]; omega
end Go.Proofs.YtfoamcobpfflbaaDoor
