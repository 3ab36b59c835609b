/- Small laws for walks: readable slices, owned rows, one-element appends; each holds of every program. -/
import Derived.WalkKit
import Derived.WalkSpells
import Derived.WalkLawsBesides
import Derived.Lib.Hide
import Derived.Deep.AppendLies
import Derived.Deep.Onto
import Derived.Lib.Strings
import Derived.Sort.Grow
import Derived.Deep.Draws
namespace Go.Proofs.YtfoamcobpfflbaaDoor
open Go Go.RowKit

/-- A slice's address a: behind it the list xs of one-cell values lies. -/
def Sl (w : World) (a : Option Addr) (xs : List Value) : Prop :=
  xs = [] ∨ ∃ b o, a = some ⟨b, o, none⟩ ∧ b < w.heap.size ∧ ∀ i u, xs[i]? = some u → w.cell? ⟨b, o + i, none⟩ = some u

theorem Sl.nil (w : World) (a : Option Addr) : Sl w a [] := .inl rfl

theorem Sl.below {w w' : World} {a : Option Addr} {xs : List Value} (h : Sl w a xs) (hb : Below w.heap.size w w') : Sl w' a xs := by
  rcases h with h | ⟨b, o, ha, hlt, hc⟩
  · exact .inl h
  · exact .inr ⟨b, o, ha, Nat.lt_of_lt_of_le hlt hb.size, fun i u hu => by rw [hb.cell (p := ⟨b, o + i, none⟩) hlt]; exact hc i u hu⟩

theorem Sl.drew {w : World} {a : Option Addr} {xs : List Value} (h : Sl w a xs) : Sl w.drew a xs := h

theorem Sl.at {w : World} {a : Option Addr} {xs : List Value} (h : Sl w a xs) {k : Nat} (hk : k < xs.length) :
    ∃ b o, a = some ⟨b, o, none⟩ ∧ b < w.heap.size ∧ ∀ i (hi : i < xs.length), w.cell? ⟨b, o + i, none⟩ = some xs[i] := by
  rcases h with h | ⟨b, o, ha, hlt, hc⟩
  · subst h; simp at hk
  · exact ⟨b, o, ha, hlt, fun i hi => hc i _ (List.getElem?_eq_getElem hi)⟩

/-- The part of a slice from i on up to j. -/
theorem Sl.part {w : World} {b o : Nat} {xs : List Value} (h : Sl w (some ⟨b, o, none⟩) xs) (i j : Nat) : Sl w (some ⟨b, o + i, none⟩) ((xs.take j).drop i) := by
  rcases h with h | ⟨b', o', ha, hlt, hc⟩
  · subst h; simp [Sl]
  · cases ha
    refine .inr ⟨b, o + i, rfl, hlt, fun k u hu => ?_⟩
    rw [Nat.add_assoc]
    refine hc (i + k) u ?_
    rw [List.getElem?_drop, List.getElem?_take] at hu
    split at hu
    · exact hu
    · cases hu

theorem Sl.take {w : World} {a : Option Addr} {xs : List Value} (h : Sl w a xs) (j : Nat) : Sl w a (xs.take j) := by
  rcases h with h | ⟨b, o, ha, hlt, hc⟩
  · subst h; simp [Sl]
  · refine .inr ⟨b, o, ha, hlt, fun i u hu => hc i u ?_⟩
    rw [List.getElem?_take] at hu
    split at hu
    · exact hu
    · cases hu

/-- What is owned can be read. -/
theorem own_sl {w : World} {base : Nat} {e : TypeId} {v : Value} {xs : List Value} {n : Nat} (h : w.ownsRow base e 1 v n xs) :
    ∃ a c, v = .slice a n c ∧ n = xs.length ∧ n ≤ c ∧ Sl w a xs := by
  have hl := h.1
  rcases h.2 with ⟨rfl, rfl⟩ | ⟨g, cap, cur, rfl, hb, hg, h1, h2, h3, h4⟩
  · have : xs = [] := List.eq_nil_of_length_eq_zero (by omega)
    subst this
    exact ⟨none, 0, rfl, rfl, Nat.le_refl _, .nil _ _⟩
  · refine ⟨_, cap, rfl, by omega, h1, .inr ⟨g, 0, rfl, (Array.getElem?_eq_some_iff.1 hg).1, fun i u hu => ?_⟩⟩
    have := h.cells (g := g) rfl i u hu
    rwa [show (⟨g, 0, none⟩ : Addr).add i = ⟨g, 0 + i, none⟩ from by unfold Addr.add; split <;> simp_all] at this

theorem own_some {w : World} {base : Nat} {e : TypeId} {v : Value} {xs : List Value} {n : Nat} (h : w.ownsRow base e 1 v n xs) (hv : v ≠ .slice none 0 0) :
    ∃ g c, v = .slice (some ⟨g, 0, none⟩) n c ∧ n ≤ c ∧ base ≤ g ∧ g < w.heap.size ∧ Sl w (some ⟨g, 0, none⟩) xs := by
  obtain ⟨a, c, rfl, _, hc, hs⟩ := own_sl h
  rcases h.2 with ⟨h1, _⟩ | ⟨g, cap, cur, h1, hb, hg, _⟩
  · exact absurd h1 hv
  · injection h1 with h1 h2 h3
    subst h1
    exact ⟨g, c, rfl, hc, hb, (Array.getElem?_eq_some_iff.1 hg).1, hs⟩

theorem own_ne {w : World} {base : Nat} {e : TypeId} {s : Nat} {v : Value} {xs : List Value} {n : Nat} (h : w.ownsRow base e s v n xs) (hn : 0 < n) : v ≠ .slice none 0 0 := by
  rintro rfl
  rcases h.2 with ⟨_, h0⟩ | ⟨_, _, _, h0, _⟩
  · omega
  · cases h0

theorem own_slc {w : World} {base : Nat} {e : TypeId} {v : Value} {xs : List Value} {n : Nat} (h : w.ownsRow base e 1 v n xs) :
    ∃ a c, v = .slice a n c ∧ n ≤ c ∧ (a = none → c = 0) ∧ Sl w a xs := by
  obtain ⟨a, c, rfl, _, hc, hs⟩ := own_sl h
  refine ⟨a, c, rfl, hc, ?_, hs⟩
  rintro rfl
  rcases h.2 with ⟨h1, _⟩ | ⟨_, _, _, h1, _⟩
  · injection h1
  · injection h1 with h1 _ _; cases h1

/-- An owned row stays owned where nothing below a later heap's end has turned. -/
theorem own_below {w w' : World} {base : Nat} {e : TypeId} {s : Nat} {v : Value} {n : Nat} {xs : List Value} (h : w.ownsRow base e s v n xs) (hb : Below w.heap.size w w') : w'.ownsRow base e s v n xs := by
  refine h.kept (row := none) ⟨hb.os, hb.tape, hb.output, hb.size, fun k hk _ => hb.block k hk⟩ ?_
  cases hv : v.ownBlock <;> simp

/-- An element type's row of the program's table, under one name. -/
structure Elem (P : Program) (t e : TypeId) (z : Value) (size bytes : Nat) : Prop where
  under : P.underlying t = some (.slice e)
  info : (P.info? e).map (fun i => (i.zero, i.size, i.bytes)) = some (some z, size, bytes)

theorem below_of_grown {w w' : World} {base : Nat} {v : Value} {row : List Value} {e : TypeId} {s n : Nat} (h : w.ownsRow base e s v n row) (hg : w.grownBy w' v.ownBlock) (hb : base ≤ w.heap.size) : Below base w w' :=
  (Below.refl base w).grown hg hb fun k hk => (h.lt k hk).1

/-- 'append(s, x)' of one element of one cell, s the call's own. -/
theorem wp_app1 {P : Program} {ops : Array Oper} {rest : List Oper} {o : Oper} {a : Act} {Q : Exit → Act → World → Prop} {w : World} (hgd : o.guard = none) (s x : Operand) (t : TypeId)
    (ho : o.op = .call { callee := .builtin .append, args := #[s, x], argTypes := #[t, t] })
    {e : TypeId} {z : Value} {bytes : Nat} (E : Elem P t e z 1 bytes) (hz : z.oneCell' = true) {base : Nat} {v : Value} {n : Nat} {xs : List Value} {u : Value}
    (hs : a.eval s = v) (hown : w.ownsRow base e 1 v n xs) (hx : a.eval x = .slice (some ⟨w.heap.size, 0, none⟩) 1 1) (hu : u.oneCell' = true)
    (hn : (n + 1) * bytes ≤ 140737488355328) (h63 : n + 1 ≤ maxLen) (hbase : base ≤ w.heap.size)
    (h : ∀ v' w', w'.ownsRow base e 1 v' (n + 1) (xs ++ [u]) → w.grownBy w' v.ownBlock → Below base w w' → wpList P ops Q rest (a.put o.dst v') w') :
    wpList P ops Q (o :: rest) a (w.alloc (.cells #[u] e)) := by
  obtain ⟨i, hi, h1, h2, h3⟩ := info_parts E.info
  refine wpList_append_own _ hgd s x t ho base e i z 1 bytes E.under hi h1 h2 h3 ?_ (by decide) v n xs hs (hown.alloc _) _ 1 1 [u] hx rfl (cell_one_new _ _ _) ?_ h63 hn ?_ ?_
  · cases z <;> first | rfl | cases hz
  · intro y hy
    rw [List.mem_singleton] at hy
    subst hy
    exact hu
  · have : (w.alloc (.cells #[u] e)).heap.size = w.heap.size + 1 := by simp
    omega
  · intro v' w' h4 h5 _
    have h6 : w.grownBy w' v.ownBlock := (World.grownBy_alloc w _ _).trans h5
    exact h v' w' h4 h6 (below_of_grown hown h6 hbase)

/-- Nothing old has turned, and no draw is taken back. -/
def Gr (w w' : World) : Prop := Below w.heap.size w w' ∧ w.drawn ≤ w'.drawn

theorem Gr.refl (w : World) : Gr w w := ⟨Below.refl _ _, Nat.le_refl _⟩
theorem Gr.trans {a b c : World} (h : Gr a b) (k : Gr b c) : Gr a c := ⟨h.1.trans (k.1.mono h.1.size), Nat.le_trans h.2 k.2⟩
theorem Gr.alloc {a w : World} (h : Gr a w) (o : Obj) : Gr a (w.alloc o) := ⟨h.1.alloc h.1.size o, h.2⟩
theorem Gr.drew {a w : World} (h : Gr a w) : Gr a w.drew := ⟨h.1.drew, Nat.le_trans h.2 (Nat.le_succ _)⟩

theorem Gr.form {w w' : World} (h : Gr w w') : ∃ q os', w' = Go.Sort.grow (w.drewN q) os' := by
  obtain ⟨hb, hd⟩ := h
  refine ⟨w'.drawn - w.drawn, w'.heap.extract w.heap.size w'.heap.size, ?_⟩
  have hh : w'.heap = w.heap ++ w'.heap.extract w.heap.size w'.heap.size := by
    apply Array.ext_getElem?
    intro i
    rw [Array.getElem?_append]
    split
    · rename_i hi; exact hb.block i hi
    · rename_i hi
      rw [Array.getElem?_extract]
      split
      · congr 1; omega
      · rename_i h2
        have := hb.size
        rw [Array.getElem?_eq_none (by omega)]
  cases w
  cases w'
  obtain ⟨h1, h2, h3, h4, h5⟩ := hb
  simp only at h1 h2 h3 hd hh
  subst h1 h2 h3
  simp only [Go.Sort.grow, World.drewN]
  congr 1
  omega

theorem below_dN {B : Nat} {a w : World} (h : Below B a w) (q : Nat) : Below B a (w.drewN q) := ⟨h.os, h.tape, h.output, h.size, h.block⟩

theorem isEmpty_iff (s : ByteArray) : s.toList.isEmpty = decide (s.size = 0) := by
  rw [Lib.toList_data, Lib.size_eq]
  cases s.data.toList <;> simp

theorem byte_eq (c : UInt8) (n : UInt8) : ((c.toNat : Int) == (n.toNat : Int)) = decide (c = n) := by
  rw [Bool.eq_iff_iff]
  simp [Int.ofNat_inj, UInt8.toNat_inj]

theorem ret_bool {a b : Bool} (h : b = a) : Ending.returned (.bool a) = .returned (.bool b) := by rw [h]
theorem ret_str {a b : ByteArray} (h : b = a) : Ending.returned (.string a) = .returned (.string b) := by rw [h]
theorem ret_i64 {k : IntKind} {a b : Int} (h : b = a) : Ending.returned (.int k a) = .returned (.int k b) := by rw [h]
theorem ret_pair {x : ByteArray × ByteArray} {a b : ByteArray} (h : x = (a, b)) : Ending.returned (.tuple #[.string a, .string b]) = .returned (.tuple #[.string x.1, .string x.2]) := by rw [h]
theorem ret_congr {a b : Value} (h : a = b) : Ending.returned a = .returned b := by rw [h]

end Go.Proofs.YtfoamcobpfflbaaDoor
