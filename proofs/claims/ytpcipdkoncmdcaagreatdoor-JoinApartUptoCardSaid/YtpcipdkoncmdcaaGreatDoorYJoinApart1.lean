/- Texts of mine, joined: Small laws for walks: readable slices, owned rows, one-element appends; each holds of every program. | Rows that the call owns, at any place of their block, with a capacity of their own: reading, cutting, appending. Of every program. | Slices of bytes and of one-cell elements: told by a text, cut. Of every program. -/
import Derived.WalkKit
import Derived.WalkSpells
import Derived.WalkLawsBesides
import Derived.Lib.Hide
import Derived.Deep.AppendLies
import Derived.Deep.Onto
import Derived.Lib.Strings
import Derived.Sort.Grow
import Derived.Deep.Draws
import Derived.Deep.Upon
import Derived.Lib.SlBytesRow
namespace Go.Proofs.YtpcipdkoncmdcaaGreatDoor
universe zu
theorem zT {α : Type zu} {l : List α} {i : Nat} {a : α} : l.toArray.setIfInBounds i a = (l.set i a).toArray := List.setIfInBounds_toArray ..
theorem zA {α : Type zu} {x : α} {l : List α} {a : α} : (x :: l).set 0 a = a :: l := rfl
theorem zB {α : Type zu} {x : α} {l : List α} {n : Nat} {a : α} : (x :: l).set (n + 1) a = x :: l.set n a := rfl
end Go.Proofs.YtpcipdkoncmdcaaGreatDoor
namespace Go.Proofs.YtpcipdkoncmdcaaGreatDoor
open Go Go.RowKit
/-- A slice's address a: behind it the list xs of one-cell values lies. -/
def Sl (w : World) (a : Option Addr) (xs : List Value) : Prop :=
  xs = [] ∨ ∃ b o, a = some ⟨b, o, none⟩ ∧ b < w.heap.size ∧ ∀ i u, xs[i]? = some u → w.cell? ⟨b, o + i, none⟩ = some u

theorem Sl.nil (w : World) (a : Option Addr) : Sl w a [] := .inl rfl

theorem Sl.below {w w' : World} {a : Option Addr} {xs : List Value} (h : Sl w a xs) (hb : Below w.heap.size w w') : Sl w' a xs := by
  rcases h with h | ⟨b, o, ha, hlt, hc⟩
  · exact .inl h
  · exact .inr ⟨b, o, ha, Nat.lt_of_lt_of_le hlt hb.size, fun i u hu => by rw [hb.cell (p := ⟨b, o + i, none⟩) hlt]; exact hc i u hu⟩

theorem Sl.drew {w : World} {a : Option Addr} {xs : List Value} (h : Sl w a xs) : Sl w.drew a xs := h

theorem Sl.at {w : World} {a : Option Addr} {xs : List Value} (h : Sl w a xs) {k : Nat} (hk : k < xs.length) :
    ∃ b o, a = some ⟨b, o, none⟩ ∧ b < w.heap.size ∧ ∀ i (hi : i < xs.length), w.cell? ⟨b, o + i, none⟩ = some xs[i] := by
  rcases h with h | ⟨b, o, ha, hlt, hc⟩
  · subst h; simp at hk
  · exact ⟨b, o, ha, hlt, fun i hi => hc i _ (List.getElem?_eq_getElem hi)⟩

/-- The part of a slice from i on up to j. -/
theorem Sl.part {w : World} {b o : Nat} {xs : List Value} (h : Sl w (some ⟨b, o, none⟩) xs) (i j : Nat) : Sl w (some ⟨b, o + i, none⟩) ((xs.take j).drop i) := by
  rcases h with h | ⟨b', o', ha, hlt, hc⟩
  · subst h; simp [Sl]
  · cases ha
    refine .inr ⟨b, o + i, rfl, hlt, fun k u hu => ?_⟩
    rw [Nat.add_assoc]
    refine hc (i + k) u ?_
    rw [List.getElem?_drop, List.getElem?_take] at hu
    split at hu
    · exact hu
    · cases hu

theorem Sl.take {w : World} {a : Option Addr} {xs : List Value} (h : Sl w a xs) (j : Nat) : Sl w a (xs.take j) := by
  rcases h with h | ⟨b, o, ha, hlt, hc⟩
  · subst h; simp [Sl]
  · refine .inr ⟨b, o, ha, hlt, fun i u hu => hc i u ?_⟩
    rw [List.getElem?_take] at hu
    split at hu
    · exact hu
    · cases hu

/-- What is owned can be read. -/
theorem own_sl {w : World} {base : Nat} {e : TypeId} {v : Value} {xs : List Value} {n : Nat} (h : w.ownsRow base e 1 v n xs) :
    ∃ a c, v = .slice a n c ∧ n = xs.length ∧ n ≤ c ∧ Sl w a xs := by
  have hl := h.1
  rcases h.2 with ⟨rfl, rfl⟩ | ⟨g, cap, cur, rfl, hb, hg, h1, h2, h3, h4⟩
  · have : xs = [] := List.eq_nil_of_length_eq_zero (by omega)
    subst this
    exact ⟨none, 0, rfl, rfl, Nat.le_refl _, .nil _ _⟩
  · refine ⟨_, cap, rfl, by omega, h1, .inr ⟨g, 0, rfl, (Array.getElem?_eq_some_iff.1 hg).1, fun i u hu => ?_⟩⟩
    have := h.cells (g := g) rfl i u hu
    rwa [show (⟨g, 0, none⟩ : Addr).add i = ⟨g, 0 + i, none⟩ from by unfold Addr.add; split <;> simp_all] at this

theorem own_some {w : World} {base : Nat} {e : TypeId} {v : Value} {xs : List Value} {n : Nat} (h : w.ownsRow base e 1 v n xs) (hv : v ≠ .slice none 0 0) :
    ∃ g c, v = .slice (some ⟨g, 0, none⟩) n c ∧ n ≤ c ∧ base ≤ g ∧ g < w.heap.size ∧ Sl w (some ⟨g, 0, none⟩) xs := by
  obtain ⟨a, c, rfl, _, hc, hs⟩ := own_sl h
  rcases h.2 with ⟨h1, _⟩ | ⟨g, cap, cur, h1, hb, hg, _⟩
  · exact absurd h1 hv
  · injection h1 with h1 h2 h3
    subst h1
    exact ⟨g, c, rfl, hc, hb, (Array.getElem?_eq_some_iff.1 hg).1, hs⟩

theorem own_ne {w : World} {base : Nat} {e : TypeId} {s : Nat} {v : Value} {xs : List Value} {n : Nat} (h : w.ownsRow base e s v n xs) (hn : 0 < n) : v ≠ .slice none 0 0 := by
  rintro rfl
  rcases h.2 with ⟨_, h0⟩ | ⟨_, _, _, h0, _⟩
  · omega
  · cases h0

/-- An owned row stays owned where nothing below a later heap's end has turned. -/
theorem own_below {w w' : World} {base : Nat} {e : TypeId} {s : Nat} {v : Value} {n : Nat} {xs : List Value} (h : w.ownsRow base e s v n xs) (hb : Below w.heap.size w w') : w'.ownsRow base e s v n xs := by
  refine h.kept (row := none) ⟨hb.os, hb.tape, hb.output, hb.size, fun k hk _ => hb.block k hk⟩ ?_
  cases hv : v.ownBlock <;> simp

/-- An element type's row of the program's table, under one name. -/
structure Elem (P : Program) (t e : TypeId) (z : Value) (size bytes : Nat) : Prop where
  under : P.underlying t = some (.slice e)
  info : (P.info? e).map (fun i => (i.zero, i.size, i.bytes)) = some (some z, size, bytes)

theorem below_of_grown {w w' : World} {base : Nat} {v : Value} {row : List Value} {e : TypeId} {s n : Nat} (h : w.ownsRow base e s v n row) (hg : w.grownBy w' v.ownBlock) (hb : base ≤ w.heap.size) : Below base w w' :=
  (Below.refl base w).grown hg hb fun k hk => (h.lt k hk).1

/-- 'append(s, x)' of one element of one cell, s the call's own. -/
theorem wp_app1 {P : Program} {ops : Array Oper} {rest : List Oper} {o : Oper} {a : Act} {Q : Exit → Act → World → Prop} {w : World} (hgd : o.guard = none) (s x : Operand) (t : TypeId)
    (ho : o.op = .call { callee := .builtin .append, args := #[s, x], argTypes := #[t, t] })
    {e : TypeId} {z : Value} {bytes : Nat} (E : Elem P t e z 1 bytes) (hz : z.oneCell' = true) {base : Nat} {v : Value} {n : Nat} {xs : List Value} {u : Value}
    (hs : a.eval s = v) (hown : w.ownsRow base e 1 v n xs) (hx : a.eval x = .slice (some ⟨w.heap.size, 0, none⟩) 1 1) (hu : u.oneCell' = true)
    (hn : (n + 1) * bytes ≤ 140737488355328) (h63 : n + 1 ≤ maxLen) (hbase : base ≤ w.heap.size)
    (h : ∀ v' w', w'.ownsRow base e 1 v' (n + 1) (xs ++ [u]) → w.grownBy w' v.ownBlock → Below base w w' → wpList P ops Q rest (a.put o.dst v') w') :
    wpList P ops Q (o :: rest) a (w.alloc (.cells #[u] e)) := by
  obtain ⟨i, hi, h1, h2, h3⟩ := info_parts E.info
  refine wpList_append_own _ hgd s x t ho base e i z 1 bytes E.under hi h1 h2 h3 ?_ (by decide) v n xs hs (hown.alloc _) _ 1 1 [u] hx rfl (cell_one_new _ _ _) ?_ h63 hn ?_ ?_
  · cases z <;> first | rfl | cases hz
  · intro y hy
    rw [List.mem_singleton] at hy
    subst hy
    exact hu
  · have : (w.alloc (.cells #[u] e)).heap.size = w.heap.size + 1 := by simp
    omega
  · intro v' w' h4 h5 _
    have h6 : w.grownBy w' v.ownBlock := (World.grownBy_alloc w _ _).trans h5
    exact h v' w' h4 h6 (below_of_grown hown h6 hbase)

/-- Nothing old has turned, and no draw is taken back. -/
def Gr (w w' : World) : Prop := Below w.heap.size w w' ∧ w.drawn ≤ w'.drawn

theorem Gr.refl (w : World) : Gr w w := ⟨Below.refl _ _, Nat.le_refl _⟩
theorem Gr.trans {a b c : World} (h : Gr a b) (k : Gr b c) : Gr a c := ⟨h.1.trans (k.1.mono h.1.size), Nat.le_trans h.2 k.2⟩
theorem Gr.alloc {a w : World} (h : Gr a w) (o : Obj) : Gr a (w.alloc o) := ⟨h.1.alloc h.1.size o, h.2⟩
theorem Gr.drew {a w : World} (h : Gr a w) : Gr a w.drew := ⟨h.1.drew, Nat.le_trans h.2 (Nat.le_succ _)⟩

theorem Gr.form {w w' : World} (h : Gr w w') : ∃ q os', w' = Go.Sort.grow (w.drewN q) os' := by
  obtain ⟨hb, hd⟩ := h
  refine ⟨w'.drawn - w.drawn, w'.heap.extract w.heap.size w'.heap.size, ?_⟩
  have hh : w'.heap = w.heap ++ w'.heap.extract w.heap.size w'.heap.size := by
    apply Array.ext_getElem?
    intro i
    rw [Array.getElem?_append]
    split
    · rename_i hi; exact hb.block i hi
    · rename_i hi
      rw [Array.getElem?_extract]
      split
      · congr 1; omega
      · rename_i h2
        have := hb.size
        rw [Array.getElem?_eq_none (by omega)]
  cases w
  cases w'
  obtain ⟨h1, h2, h3, h4, h5⟩ := hb
  simp only at h1 h2 h3 hd hh
  subst h1 h2 h3
  simp only [Go.Sort.grow, World.drewN]
  congr 1
  omega

theorem below_dN {B : Nat} {a w : World} (h : Below B a w) (q : Nat) : Below B a (w.drewN q) := ⟨h.os, h.tape, h.output, h.size, h.block⟩

theorem isEmpty_iff (s : ByteArray) : s.toList.isEmpty = decide (s.size = 0) := by
  rw [Lib.toList_data, Lib.size_eq]
  cases s.data.toList <;> simp

theorem ret_bool {a b : Bool} (h : b = a) : Ending.returned (.bool a) = .returned (.bool b) := by rw [h]
theorem ret_str {a b : ByteArray} (h : b = a) : Ending.returned (.string a) = .returned (.string b) := by rw [h]
theorem ret_i64 {k : IntKind} {a b : Int} (h : b = a) : Ending.returned (.int k a) = .returned (.int k b) := by rw [h]
end Go.Proofs.YtpcipdkoncmdcaaGreatDoor
namespace Go.Proofs.YtpcipdkoncmdcaaGreatDoor
open Go Go.RowKit
/-- The value v is a row of n elements of the type e, of so many cells each, that hold xs; nobody else's. -/
def OwnG (w : World) (e : TypeId) (size : Nat) (v : Value) (n : Nat) (xs : List Value) : Prop :=
  xs.length = n * size ∧ ((v = .slice none 0 0 ∧ n = 0) ∨ ∃ g o cap cur, v = .slice (some ⟨g, o, none⟩) n cap ∧ w.heap[g]? = some (.cells cur e (0, 0)) ∧ n ≤ cap ∧ cap ≤ maxLen ∧ o + cap * size ≤ cur.size ∧ ∀ j u, xs[j]? = some u → cur[o + j]? = some u)

theorem OwnG.nil (w : World) (e : TypeId) (size : Nat) : OwnG w e size (.slice none 0 0) 0 [] := ⟨by simp, .inl ⟨rfl, rfl⟩⟩

theorem OwnG.of_own {w : World} {base : Nat} {e : TypeId} {size : Nat} {v : Value} {n : Nat} {xs : List Value} (h : w.ownsRow base e size v n xs) : OwnG w e size v n xs := by
  obtain ⟨h1, h2⟩ := h
  refine ⟨h1, ?_⟩
  rcases h2 with h2 | ⟨g, cap, cur, rfl, hb, hg, hn, hc, hs, ht⟩
  · exact .inl h2
  · refine .inr ⟨g, 0, cap, cur, rfl, hg, hn, hc, by omega, fun j u hu => ?_⟩
    rw [← ht, List.getElem?_take] at hu
    split at hu
    · rw [Nat.zero_add]; simpa using hu
    · cases hu

theorem OwnG.lt {w : World} {e : TypeId} {size : Nat} {v : Value} {n : Nat} {xs : List Value} (h : OwnG w e size v n xs) {k : Nat} (hk : v.ownBlock = some k) : k < w.heap.size := by
  rcases h.2 with ⟨rfl, _⟩ | ⟨g, o, cap, cur, rfl, hg, _⟩
  · cases hk
  · simp [Value.ownBlock] at hk; subst hk; exact (Array.getElem?_eq_some_iff.1 hg).1

theorem OwnG.form {w : World} {e : TypeId} {size : Nat} {v : Value} {n : Nat} {xs : List Value} (h : OwnG w e size v n xs) : ∃ a c, v = .slice a n c ∧ n ≤ c ∧ c ≤ maxLen ∧ Sl w a xs := by
  have hl := h.1
  rcases h.2 with ⟨rfl, rfl⟩ | ⟨g, o, cap, cur, rfl, hg, hn, hc, hs, ht⟩
  · rw [Nat.zero_mul] at hl
    exact ⟨none, 0, rfl, Nat.le_refl _, Nat.zero_le _, .inl (List.eq_nil_of_length_eq_zero hl)⟩
  · refine ⟨_, cap, rfl, hn, hc, .inr ⟨g, o, rfl, (Array.getElem?_eq_some_iff.1 hg).1, fun j u hu => ?_⟩⟩
    simp [World.cell?, hg, ht j u hu]

theorem OwnG.block {w w' : World} {e : TypeId} {size : Nat} {v : Value} {n : Nat} {xs : List Value} (h : OwnG w e size v n xs) (hk : ∀ k, v.ownBlock = some k → w'.heap[k]? = w.heap[k]?) : OwnG w' e size v n xs := by
  refine ⟨h.1, ?_⟩
  rcases h.2 with h2 | ⟨g, o, cap, cur, rfl, hg, hr⟩
  · exact .inl h2
  · exact .inr ⟨g, o, cap, cur, rfl, by rw [hk g rfl]; exact hg, hr⟩

theorem OwnG.kept {w w' : World} {e : TypeId} {size : Nat} {v : Value} {n : Nat} {xs : List Value} {row : Option Nat} (h : OwnG w e size v n xs) (hg : w.grownBy w' row) (hne : v.ownBlock = none ∨ v.ownBlock ≠ row) : OwnG w' e size v n xs :=
  h.block fun k hk => hg.block k (h.lt hk) (by
    rw [← hk]
    rcases hne with h1 | h1
    · rw [hk] at h1; cases h1
    · exact h1)

theorem OwnG.below {w w' : World} {e : TypeId} {size : Nat} {v : Value} {n : Nat} {xs : List Value} (h : OwnG w e size v n xs) (hb : Below w.heap.size w w') : OwnG w' e size v n xs :=
  h.block fun k hk => hb.block k (h.lt hk)

theorem OwnG.alloc {w : World} {e : TypeId} {size : Nat} {v : Value} {n : Nat} {xs : List Value} (h : OwnG w e size v n xs) (o : Obj) : OwnG (w.alloc o) e size v n xs := h.kept (World.grownBy_alloc w o none) (by cases v.ownBlock <;> simp)

theorem OwnG.drewN {w : World} {e : TypeId} {size : Nat} {v : Value} {n : Nat} {xs : List Value} (h : OwnG w e size v n xs) (q : Nat) : OwnG (w.drewN q) e size v n xs := h

/-- The first k elements, with any capacity that there is. -/
theorem OwnG.take {w : World} {e : TypeId} {size : Nat} {a : Option Addr} {n c : Nat} {xs : List Value} (h : OwnG w e size (.slice a n c) n xs) (k c' : Nat) (hk : k ≤ n) (hc' : k ≤ c') (hc : c' ≤ c) : OwnG w e size (.slice a k c') k (xs.take (k * size)) := by
  have hle : k * size ≤ n * size := Nat.mul_le_mul_right _ hk
  refine ⟨by rw [List.length_take, h.1]; omega, ?_⟩
  rcases h.2 with ⟨h1, h2⟩ | ⟨g, o, cap, cur, h1, hg, hn, hcm, hs, ht⟩
  · injection h1 with h1 h3 h4
    subst h1
    left
    have e1 : k = 0 := by omega
    have e2 : c' = 0 := by omega
    rw [e1, e2]; exact ⟨rfl, rfl⟩
  · injection h1 with h1 h3 h4
    subst h1 h4
    refine .inr ⟨g, o, c', cur, rfl, hg, hc', by omega, ?_, fun j u hu => ht j u ?_⟩
    · have := Nat.mul_le_mul_right size hc; omega
    · rw [List.getElem?_take] at hu
      split at hu
      · exact hu
      · cases hu

/-- Nothing, behind what there is. -/
theorem OwnG.rest {w : World} {e : TypeId} {size : Nat} {a : Option Addr} {n c : Nat} {xs : List Value} (h : OwnG w e size (.slice a n c) n xs) (k : Nat) (hk : k ≤ n) : OwnG w e size (.slice (if c = k then a else a.map fun x => ⟨x.block, x.off + k * size, x.spot⟩) (n - k) (c - k)) (n - k) (xs.drop (k * size)) := by
  refine ⟨by rw [List.length_drop, h.1, Nat.sub_mul], ?_⟩
  rcases h.2 with ⟨h1, h2⟩ | ⟨g, o, cap, cur, h1, hg, hn, hcm, hs, ht⟩
  · injection h1 with h1 h3 h4
    subst h1 h4
    left
    have e1 : n - k = 0 := by omega
    rw [e1]; simp
  · injection h1 with h1 h3 h4
    subst h1 h4
    by_cases e : c = k
    · rw [if_pos e]
      have e1 : n - k = 0 := by omega
      refine .inr ⟨g, o, c - k, cur, rfl, hg, by omega, by omega, ?_, fun j u hu => ?_⟩
      · have := Nat.mul_le_mul_right size (show c - k ≤ c by omega); omega
      · have := (List.getElem?_eq_some_iff.1 hu).1
        rw [List.length_drop, h.1, ← Nat.sub_mul, e1] at this
        omega
    · rw [if_neg e]
      refine .inr ⟨g, o + k * size, c - k, cur, rfl, hg, by omega, by omega, ?_, fun j u hu => ?_⟩
      · rw [Nat.sub_mul]
        have := Nat.mul_le_mul_right size (show k ≤ c by omega); omega
      · rw [List.getElem?_drop] at hu
        rw [Nat.add_assoc]; exact ht _ u hu

theorem setCells_block (g : Nat) : ∀ (vs : List Value) (o : Nat) (w : World) (cur : Array Value) (e : TypeId) (fr : Nat × Nat), w.heap[g]? = some (.cells cur e fr) → o + vs.length ≤ cur.size →
    ∃ cur', (w.setCells g o vs).heap[g]? = some (.cells cur' e fr) ∧ cur'.size = cur.size ∧ ∀ j, cur'[j]? = if o ≤ j ∧ j < o + vs.length then vs[j - o]? else cur[j]?
  | [], o, w, cur, e, fr, h, _ => ⟨cur, h, rfl, fun j => by rw [if_neg]; simp⟩
  | v :: r, o, w, cur, e, fr, h, hl => by
    rw [List.length_cons] at hl
    have h1 : (w.setCell ⟨g, o, none⟩ v).heap[g]? = some (.cells (cur.setIfInBounds o v) e fr) := by
      simp [World.setCell, Array.getElem?_modify, h]
    obtain ⟨cur', h2, h3, h4⟩ := setCells_block g r (o + 1) _ _ e fr h1 (by simp; omega)
    refine ⟨cur', h2, by rw [h3]; simp, fun j => ?_⟩
    rw [h4, List.length_cons]
    by_cases e1 : o + 1 ≤ j ∧ j < o + 1 + r.length
    · rw [if_pos e1, if_pos (by omega), show j - o = (j - (o + 1)) + 1 by omega, List.getElem?_cons_succ]
    · rw [if_neg e1]
      by_cases e2 : j = o
      · subst e2
        rw [if_pos (by omega), Nat.sub_self, List.getElem?_cons_zero, Array.getElem?_setIfInBounds_self, if_pos (by omega)]
      · rw [if_neg (by omega), Array.getElem?_setIfInBounds_ne (by omega)]

theorem setCells_grown (w : World) (g o : Nat) (vs : List Value) : w.grownBy (w.setCells g o vs) (some g) := by
  obtain ⟨h1, h2, _⟩ := World.keptBut_setCells g (may := fun _ => True) vs o w (fun _ _ => trivial)
  have hs : ∀ (vs : List Value) (o : Nat) (w : World), (w.setCells g o vs).heap.size = w.heap.size ∧ (w.setCells g o vs).tape = w.tape := by
    intro vs
    induction vs with
    | nil => intro o w; exact ⟨rfl, rfl⟩
    | cons v r ih => intro o w; rw [World.setCells]; obtain ⟨a1, a2⟩ := ih (o + 1) (w.setCell ⟨g, o, none⟩ v); rw [a1, a2]; simp [World.setCell]
  obtain ⟨s1, s2⟩ := hs vs o w
  refine ⟨h1, s2, h2, by omega, fun k hk hne => World.heap_setCells_other w g o vs hk (fun e => hne (by rw [e]))⟩

/-- 'append(v, ..)': whatever is appended. -/
theorem OwnG.app {P : Program} {w : World} {t tx ty e : TypeId} {z : Value} {size bytes : Nat} (E : Elem P t e z size bytes) (hzs : z.cells.size = size) {v : Value} {n : Nat} {xs : List Value} (h : OwnG w e size v n xs)
    {x : Value} {m : Nat} {news : List Value} (hs : Src P size tx x m news w) (h63 : n + m ≤ maxLen) (hbytes : (n + m) * bytes ≤ 140737488355328) :
    ∃ v' w', (Builtin.append_ #[t, tx] ty #[v, x]).run P w = .ok v' w' ∧ OwnG w' e size v' (n + m) (xs ++ news) ∧ w.grownBy w' v.ownBlock ∧ (∀ k, v'.ownBlock = some k → v.ownBlock = some k ∨ w.heap.size ≤ k) := by
  obtain ⟨i, hi, g1, g2, g3⟩ := info_parts E.info
  subst g2 g3
  have hnl := hs.newsLen
  have hlen : (xs ++ news).length = (n + m) * i.size := by rw [List.length_append, h.1, hnl, Nat.add_mul]
  have hsmall : n + m ≤ 9223372036854775807 := by simp only [maxLen] at h63; omega
  have grow : ∀ (bs : Option Addr) (sc : Nat), v = .slice bs n sc → sc < n + m → (Builtin.firstCells i.size n (.slice bs n sc)).run P w.drew = .ok xs.toArray w.drew →
      ∃ v' w', (Builtin.append_ #[t, tx] ty #[v, x]).run P w = .ok v' w' ∧ OwnG w' e i.size v' (n + m) (xs ++ news) ∧ w.grownBy w' v.ownBlock ∧ (∀ k, v'.ownBlock = some k → v.ownBlock = some k ∨ w.heap.size ≤ k) := by
    rintro bs sc rfl hgt hold
    have hrun := run_append_grow_src (P := P) w t tx ty e i z E.under hi g1 bs n sc xs hold x m news hs hgt (by omega) (growslice_fits hgt hbytes)
    have hge := grownCap_ge w (n + m) sc e
    have hcm := grownCap_le_maxLen w (n + m) sc e h63
    refine ⟨_, _, hrun, ⟨hlen, .inr ⟨w.heap.size, 0, _, _, rfl, heap_alloc_new w.drew _, hge, hcm, ?_, fun j u hu => ?_⟩⟩, ⟨rfl, rfl, rfl, by simp, fun k hk _ => Below.heap_alloc w.drew _ k hk⟩, fun k hk => .inr ?_⟩
    · rw [Array.size_append, List.size_toArray, hlen, size_zeroCells, hzs, ← Nat.add_mul, Nat.zero_add]
      apply Nat.mul_le_mul_right
      omega
    · rw [Nat.zero_add, Array.getElem?_append_left (by rw [List.size_toArray]; exact (List.getElem?_eq_some_iff.1 hu).1), List.getElem?_toArray]
      exact hu
    · simp [Value.ownBlock] at hk; omega
  rcases h.2 with ⟨h1, h2⟩ | ⟨g, o, cap, cur, rfl, hg, hn, hcm, hcs, ht⟩
  · subst h1 h2
    have hx0 : xs = [] := List.eq_nil_of_length_eq_zero (by rw [h.1, Nat.zero_mul])
    subst hx0
    by_cases hm : m = 0
    · subst hm
      have hn0 : news = [] := List.eq_nil_of_length_eq_zero (by rw [hnl, Nat.zero_mul])
      subst hn0
      exact ⟨_, w, run_append_nothing w t tx ty e i E.under hi none 0 0 (Nat.le_refl _) x hs, ⟨by simp, .inl ⟨rfl, rfl⟩⟩, ⟨rfl, rfl, rfl, Nat.le_refl _, fun _ _ _ => rfl⟩, fun k hk => .inl hk⟩
    · exact grow none 0 rfl (by omega) (run_firstCells_none w.drew i.size 0 0 0)
  · by_cases hfit : n + m ≤ cap
    · have hmul : (n + m) * i.size ≤ cap * i.size := Nat.mul_le_mul_right _ hfit
      rw [Nat.add_mul] at hmul
      have hin : o + n * i.size + news.length ≤ cur.size := by rw [hnl]; omega
      obtain ⟨cur', c1, c2, c3⟩ := setCells_block g news (o + n * i.size) w cur e (0, 0) hg hin
      refine ⟨_, _, run_append_room_src w t tx ty e i E.under hi g o n cap x m news hs hfit (fun j hj => ?_) (fun j hj => ?_), ⟨hlen, .inr ⟨g, o, cap, cur', rfl, c1, hfit, hcm, by rw [c2]; exact hcs, fun j u hu => ?_⟩⟩, setCells_grown w g _ news, fun k hk => .inl hk⟩
      · have : o + n * i.size + j < cur.size := by omega
        simp [World.cell?, hg, this]
      · simp [World.frozen?, hg]
      · rw [c3]
        by_cases hj : j < xs.length
        · rw [List.getElem?_append_left hj] at hu
          rw [if_neg (by rw [h.1] at hj; omega)]
          exact ht j u hu
        · rw [List.getElem?_append_right (by omega)] at hu
          have hju := (List.getElem?_eq_some_iff.1 hu).1
          have hx1 := h.1
          rw [if_pos (by omega), show o + j - (o + n * i.size) = j - xs.length by omega]
          exact hu
    · exact grow _ cap rfl (by omega) (run_firstCells_some w.drew i.size n _ n cap xs h.1 (fun j u hu => by
        rw [Addr.add_lit]
        show w.cell? ⟨g, o + j, none⟩ = some u
        simp [World.cell?, hg, ht j u hu]))

/-- .. at the operation, for the walk. -/
theorem wp_appG {P : Program} {ops : Array Oper} {rest : List Oper} {o : Oper} {a : Act} {Q : Exit → Act → World → Prop} {w : World} (hgd : o.guard = none) (s x : Operand) (t tx : TypeId)
    (ho : o.op = .call { callee := .builtin .append, args := #[s, x], argTypes := #[t, tx] })
    {e : TypeId} {z : Value} {size bytes : Nat} (E : Elem P t e z size bytes) (hzs : z.cells.size = size) {v xv : Value} {n m : Nat} {xs news : List Value}
    (hs : a.eval s = v) (hown : OwnG w e size v n xs) (hx : a.eval x = xv) (hsrc : Src P size tx xv m news w) (h63 : n + m ≤ maxLen) (hbytes : (n + m) * bytes ≤ 140737488355328)
    (h : ∀ v' w', OwnG w' e size v' (n + m) (xs ++ news) → w.grownBy w' v.ownBlock → (∀ k, v'.ownBlock = some k → v.ownBlock = some k ∨ w.heap.size ≤ k) → wpList P ops Q rest (a.put o.dst v') w') :
    wpList P ops Q (o :: rest) a w := by
  refine wpList_plain hgd fun K hK => ?_
  obtain ⟨v', w', hr, h2, h3, h4⟩ := hown.app (ty := o.type) E hzs hsrc h63 hbytes
  unfold Oper.wp execOp
  simp only [ho, resolve, invoke, builtin, Sem.run_bind, Sem.run_pure, Result.andThen_ok, List.map_toArray, List.map_cons, List.map_nil, hs, hx, hr]
  exact hK _ _ (h v' w' h2 h3 h4)

/-- What a slice of one new element yields. -/
theorem Src.ofNew {P : Program} {w : World} {size : Nat} {tx e' e : TypeId} (hk : P.underlying tx = some (.slice e')) {news : List Value} (hl : news.length = size) (h1 : ∀ u ∈ news, u.oneCell' = true) : Src P size tx (.slice (some ⟨w.heap.size, 0, none⟩) 1 1) 1 news (w.alloc (.cells news.toArray e)) :=
  Src.ofSlice _ hk _ 1 1 news (by omega) (fun j u hu => World.news_of_block (Go.MapKept.heap_alloc w _).1 j u hu) h1
end Go.Proofs.YtpcipdkoncmdcaaGreatDoor
namespace Go.Proofs.YtpcipdkoncmdcaaGreatDoor
open Go Go.RowKit
/-- A text's bytes as cells. -/
def bts (t : ByteArray) : List Value := t.data.toList.map fun b => .int .u8 (b.toNat : Int)
theorem bts_len (t : ByteArray) : (bts t).length = t.size := by simp [bts]
theorem bts_from (t : ByteArray) (k : Nat) : bts (t.extract k t.size) = (bts t).drop k := by
  unfold bts
  rw [Lib.extract_data, ← List.map_drop, List.take_of_length_le (by rw [List.length_drop, ← Lib.size_eq]; omega)]
/-- Texts as cells. -/
def lrow (l : List ByteArray) : List Value := l.map Value.string
theorem lrow_len (l : List ByteArray) : (lrow l).length = l.length := by simp [lrow]
theorem lrow_app (l m : List ByteArray) : lrow (l ++ m) = lrow l ++ lrow m := by simp [lrow]
theorem lrow_drop (l : List ByteArray) (k : Nat) : lrow (l.drop k) = (lrow l).drop k := by simp [lrow, List.map_drop]
theorem lrow_take (l : List ByteArray) (k : Nat) : lrow (l.take k) = (lrow l).take k := by simp [lrow, List.map_take]
theorem lrow_one (l : List ByteArray) : ∀ u ∈ lrow l, u.oneCell' = true := by
  intro u hu; obtain ⟨x, -, rfl⟩ := List.mem_map.1 hu; rfl
def lenV : Value → Nat | .slice _ n _ => n | _ => 0

section
variable {P : Program} {w w' : World}
theorem bytes_of_sl {b o : Nat} {t : ByteArray} (h : Sl w (some ⟨b, o, none⟩) (bts t)) : Lib.Bytes w b o t := by
  intro i hi
  have hi' : i < t.data.toList.length := by rw [← Lib.size_eq]; exact hi
  rcases h with h | ⟨b', o', e, _, hc⟩
  · have := bts_len t; rw [h] at this; simp at this; omega
  · cases e
    refine hc i _ ?_
    unfold bts
    rw [List.getElem?_map, List.getElem?_eq_getElem hi']
    rfl

/-- The value is a slice of bytes that are the text's. -/
def Tx (w : World) (v : Value) (t : ByteArray) : Prop := ∃ a c, v = .slice a t.size c ∧ t.size ≤ c ∧ c ≤ maxLen ∧ (a = none → c = 0) ∧ Sl w a (bts t)
theorem Tx.below {v : Value} {t : ByteArray} (h : Tx w v t) (hb : Below w.heap.size w w') : Tx w' v t := by
  obtain ⟨a, c, h1, h2, h3, h4, h5⟩ := h
  exact ⟨a, c, h1, h2, h3, h4, h5.below hb⟩
theorem Tx.nil (w : World) : Tx w (.slice none 0 0) ByteArray.empty := ⟨none, 0, rfl, Nat.le_refl _, Nat.zero_le _, fun _ => rfl, .inl rfl⟩
theorem Tx.some_ {v : Value} {t : ByteArray} (h : Tx w v t) (h0 : t.size ≠ 0) : ∃ b o c, v = .slice (some ⟨b, o, none⟩) t.size c ∧ t.size ≤ c ∧ c ≤ maxLen ∧ Sl w (some ⟨b, o, none⟩) (bts t) := by
  obtain ⟨a, c, h1, h2, h3, h4, h5⟩ := h
  rcases h5 with h5 | ⟨b, o, rfl, hl, hc⟩
  · have := bts_len t; rw [h5] at this; simp at this; omega
  · exact ⟨b, o, c, h1, h2, h3, .inr ⟨b, o, rfl, hl, hc⟩⟩

/-- The value is a slice of texts, to be read. -/
def Tl (w : World) (v : Value) (l : List ByteArray) : Prop := ∃ a c, v = .slice a l.length c ∧ l.length ≤ c ∧ c ≤ maxLen ∧ (a = none → c = 0) ∧ Sl w a (lrow l)
theorem Tl.below {v : Value} {l : List ByteArray} (h : Tl w v l) (hb : Below w.heap.size w w') : Tl w' v l := by
  obtain ⟨a, c, h1, h2, h3, h4, h5⟩ := h
  exact ⟨a, c, h1, h2, h3, h4, h5.below hb⟩
theorem Tl.nil (w : World) : Tl w (.slice none 0 0) [] := ⟨none, 0, rfl, Nat.le_refl _, Nat.zero_le _, fun _ => rfl, .inl rfl⟩
theorem Tl.some_ {v : Value} {l : List ByteArray} (h : Tl w v l) (h0 : l ≠ []) : ∃ b o c, v = .slice (some ⟨b, o, none⟩) l.length c ∧ l.length ≤ c ∧ c ≤ maxLen ∧ b < w.heap.size ∧ ∀ j (hj : j < l.length), w.cell? ⟨b, o + j, none⟩ = some (.string l[j]) := by
  obtain ⟨a, c, h1, h2, h3, h4, h5⟩ := h
  rcases h5 with h5 | ⟨b, o, rfl, hl, hc⟩
  · exact absurd (List.map_eq_nil_iff.1 h5) h0
  · exact ⟨b, o, c, h1, h2, h3, hl, fun j hj => hc j _ (by unfold lrow; rw [List.getElem?_map, List.getElem?_eq_getElem hj]; rfl)⟩
theorem Tl.of_own {base : Nat} {e : TypeId} {v : Value} {l : List ByteArray} (h : w.ownsRow base e 1 v l.length (lrow l)) : Tl w v l := by
  obtain ⟨h1, h2⟩ := h
  rcases h2 with ⟨rfl, h0⟩ | ⟨g, cap, cur, rfl, hb, hg, hn, hc, hs, ht⟩
  · have : l = [] := List.eq_nil_of_length_eq_zero h0
    subst this; exact .nil _
  · refine ⟨_, cap, rfl, hn, hc, (fun h => nomatch h), .inr ⟨g, 0, rfl, (Array.getElem?_eq_some_iff.1 hg).1, fun i u hu => ?_⟩⟩
    rw [← ht, List.getElem?_take] at hu
    split at hu
    · simp only [World.cell?, hg, Nat.zero_add]; rw [← Array.getElem?_toList]; exact hu
    · cases hu

/-- 's[k:]' of a slice of one-cell elements; it lies in the same block. -/
theorem sl_from2 {t : TypeId} (ht : P.underlying t = some (.slice (P.elem t))) (hsz : ∀ W, (sizeOf (P.elem t)).run P W = .ok 1 W) {a : Option Addr} {c : Nat} {xs : List Value} (hl : Sl w a xs) (hlc : xs.length ≤ c) (ha : a = none → c = 0) {k : Nat} (hk : k ≤ xs.length) :
    ∃ A C, xs.length - k ≤ C ∧ C ≤ c ∧ (A = none → C = 0) ∧ Sl w A (xs.drop k) ∧ (∀ W, (Instr.slice t (.slice a xs.length c) (some (.int .i64 k)) none none).run P W = .ok (.slice A (xs.length - k) C) W) ∧ ∀ b o, A = some ⟨b, o, none⟩ → ∃ o' sp, a = some ⟨b, o', sp⟩ := by
  have hk0 : (0 : Int) ≤ (k : Int) := by omega
  have hk1 : (k : Int) ≤ (xs.length : Int) := by omega
  by_cases hc : c = k
  · refine ⟨a, 0, by omega, Nat.zero_le _, fun _ => rfl, ?_, fun W => ?_, fun b o h => ⟨o, none, h⟩⟩
    · rw [List.drop_eq_nil_of_le (by omega)]; exact .inl rfl
    · rw [run_slice_l W _ _ _ _ ht _ _ hk0 hk1, hsz]
      simp [Result.andThen, sliced, hc]
  · refine ⟨a.map (·.add k), c - k, by omega, by omega, fun h => ?_, ?_, fun W => ?_, fun b o h => ?_⟩
    · cases a with
      | none => have := ha rfl; omega
      | some ad => cases h
    · rcases hl with e | ⟨g, o, rfl, hg, hc⟩
      · left; rw [e]; exact List.drop_nil
      · refine .inr ⟨g, o + k, ?_, hg, fun i u hu => ?_⟩
        · rw [Option.map_some, Addr.add_lit]
        · rw [Nat.add_assoc]
          exact hc (k + i) u (by rw [← List.getElem?_drop]; exact hu)
    · rw [run_slice_l W _ _ _ _ ht _ _ hk0 hk1, hsz]
      simp [Result.andThen, sliced, hc]
    · cases a with
      | none => cases h
      | some ad =>
        obtain ⟨b', o', sp⟩ := ad
        simp only [Option.map_some, Option.some.injEq] at h
        have h1 : b' = b := by
          unfold Addr.add at h
          split at h <;> simp_all
        exact ⟨o', sp, by rw [h1]⟩
theorem sl_from {t : TypeId} (ht : P.underlying t = some (.slice (P.elem t))) (hsz : ∀ W, (sizeOf (P.elem t)).run P W = .ok 1 W) {a : Option Addr} {c : Nat} {xs : List Value} (hl : Sl w a xs) (hlc : xs.length ≤ c) (ha : a = none → c = 0) {k : Nat} (hk : k ≤ xs.length) :
    ∃ A C, xs.length - k ≤ C ∧ C ≤ c ∧ (A = none → C = 0) ∧ Sl w A (xs.drop k) ∧ ∀ W, (Instr.slice t (.slice a xs.length c) (some (.int .i64 k)) none none).run P W = .ok (.slice A (xs.length - k) C) W := by
  obtain ⟨A, C, h1, h2, h3, h4, h5, -⟩ := sl_from2 (w := w) ht hsz hl hlc ha hk
  exact ⟨A, C, h1, h2, h3, h4, h5⟩
/-- 's[k:]' of a slice of elements of s cells. -/
theorem sl_fromS {t : TypeId} {s n : Nat} (ht : P.underlying t = some (.slice (P.elem t))) (hsz : ∀ W, (sizeOf (P.elem t)).run P W = .ok s W) {a : Option Addr} {c : Nat} {xs : List Value} (hl : Sl w a xs) (hx : xs.length = n * s) (hlc : n ≤ c) (ha : a = none → c = 0) {k : Nat} (hk : k ≤ n) :
    ∃ A C, n - k ≤ C ∧ C ≤ c ∧ (A = none → C = 0) ∧ Sl w A (xs.drop (k * s)) ∧ ∀ W, (Instr.slice t (.slice a n c) (some (.int .i64 k)) none none).run P W = .ok (.slice A (n - k) C) W := by
  have hk0 : (0 : Int) ≤ (k : Int) := by omega
  have hk1 : (k : Int) ≤ (n : Int) := by omega
  by_cases hc : c = k
  · refine ⟨a, 0, by omega, Nat.zero_le _, fun _ => rfl, ?_, fun W => ?_⟩
    · rw [List.drop_eq_nil_of_le (by rw [hx]; exact Nat.mul_le_mul_right _ (by omega))]; exact .inl rfl
    · rw [run_slice_l W _ _ _ _ ht _ _ hk0 hk1, hsz]
      simp [Result.andThen, sliced, hc]
  · refine ⟨a.map (·.add (k * s)), c - k, by omega, by omega, fun h => ?_, ?_, fun W => ?_⟩
    · cases a with
      | none => have := ha rfl; omega
      | some ad => cases h
    · rcases hl with e | ⟨g, o, rfl, hg, hc⟩
      · left; rw [e]; exact List.drop_nil
      · refine .inr ⟨g, o + k * s, ?_, hg, fun i u hu => ?_⟩
        · rw [Option.map_some, Addr.add_lit]
        · rw [Nat.add_assoc]
          exact hc (k * s + i) u (by rw [← List.getElem?_drop]; exact hu)
    · rw [run_slice_l W _ _ _ _ ht _ _ hk0 hk1, hsz]
      simp [Result.andThen, sliced, hc]
/-- A slice of texts that lies in a block of F. -/
def Tn (w : World) (F : Nat → Prop) (v : Value) (l : List ByteArray) : Prop := ∃ a c, v = .slice a l.length c ∧ l.length ≤ c ∧ c ≤ maxLen ∧ (a = none → c = 0) ∧ (lrow l = [] ∨ ∃ b o, a = some ⟨b, o, none⟩ ∧ F b ∧ b < w.heap.size ∧ ∀ i u, (lrow l)[i]? = some u → w.cell? ⟨b, o + i, none⟩ = some u)
theorem Tn.tl {F : Nat → Prop} {v : Value} {l : List ByteArray} (h : Tn w F v l) : Tl w v l := by
  obtain ⟨a, c, h1, h2, h3, h4, h5⟩ := h
  exact ⟨a, c, h1, h2, h3, h4, h5.imp id fun ⟨b, o, g1, _, g3, g4⟩ => ⟨b, o, g1, g3, g4⟩⟩
theorem Tl.tn {v : Value} {l : List ByteArray} (h : Tl w v l) : Tn w (fun b => b < w.heap.size) v l := by
  obtain ⟨a, c, h1, h2, h3, h4, h5⟩ := h
  exact ⟨a, c, h1, h2, h3, h4, h5.imp id fun ⟨b, o, g1, g3, g4⟩ => ⟨b, o, g1, g3, g3, g4⟩⟩
theorem Tn.keep {F F' : Nat → Prop} {v : Value} {l : List ByteArray} (h : Tn w F v l) (hs : w.heap.size ≤ w'.heap.size) (hk : ∀ b, F b → b < w.heap.size → w'.heap[b]? = w.heap[b]? ∧ F' b) : Tn w' F' v l := by
  obtain ⟨a, c, h1, h2, h3, h4, h5⟩ := h
  refine ⟨a, c, h1, h2, h3, h4, h5.imp id fun ⟨b, o, g1, g2, g3, g4⟩ => ⟨b, o, g1, (hk b g2 g3).2, Nat.lt_of_lt_of_le g3 hs, fun i u hu => ?_⟩⟩
  rw [← g4 i u hu]
  simp only [World.cell?, (hk b g2 g3).1]
theorem Tn.of_own {F : Nat → Prop} {e : TypeId} {v : Value} {l : List ByteArray} (h : OwnG w e 1 v l.length (lrow l)) (hF : ∀ b, v.ownBlock = some b → F b) : Tn w F v l := by
  obtain ⟨h1, h2⟩ := h
  rcases h2 with ⟨rfl, h0⟩ | ⟨g, o, cap, cur, rfl, hg, hn, hc, hs, ht⟩
  · have : l = [] := List.eq_nil_of_length_eq_zero h0
    subst this
    exact ⟨none, 0, rfl, Nat.le_refl _, Nat.zero_le _, fun _ => rfl, .inl rfl⟩
  · refine ⟨_, cap, rfl, hn, hc, (fun h => nomatch h), .inr ⟨g, o, rfl, hF g rfl, (Array.getElem?_eq_some_iff.1 hg).1, fun i u hu => ?_⟩⟩
    simp only [World.cell?, hg]; exact ht i u hu

/-- 's[:k]'. -/
theorem sl_to {t : TypeId} (ht : P.underlying t = some (.slice (P.elem t))) (hsz : ∀ W, (sizeOf (P.elem t)).run P W = .ok 1 W) {a : Option Addr} {n c k : Nat} (hk : k ≤ c) (ha : a = none → c = 0) (W : World) :
    (Instr.slice t (.slice a n c) none (some (.int .i64 k)) none).run P W = .ok (.slice a k c) W := by
  have hk0 : (0 : Int) ≤ (k : Int) := by omega
  have hk1 : (k : Int) ≤ (c : Int) := by omega
  rw [run_slice_h W _ _ _ _ ht _ _ hk0 hk1, hsz]
  by_cases hc : c = 0
  · simp [Result.andThen, sliced, hc]
  · cases a with
    | none => exact absurd (ha rfl) hc
    | some ad => simp [Result.andThen, sliced, hc, Addr.add_zero']
end
end Go.Proofs.YtpcipdkoncmdcaaGreatDoor
