/- A map from texts to numbers that the call has made. -/
import Derived.Test.YtlnifigbnpdemaaDoorScoreSt
import Derived.Maps.Own
import Derived.Maps.Views
import Derived.Maps.OwnOps
namespace Go.Proofs.YtlnifigbnpdemaaDoor
open Go Go.RowKit Go.Sort Go.Maps

/-- Block b is a map of at most n entries; at each text it holds F's number. -/
def MapI (w : World) (b n : Nat) (F : ByteArray → Int) : Prop :=
  ∃ D : DataW Unit, w.ownsMap Tryd.prog 9 (plainElem Tryd.prog 3) b n D ∧ IsMap D ∧ ∀ s : ByteArray, s.size ≤ 100000000 → D.atKey (.string s.data.toList) (.lit (.int .i64 0)) = .lit (.int .i64 (F s))

theorem MapI.made (w : World) : MapI (w.alloc (.map #[] 0)) w.heap.size 0 fun _ => 0 :=
  ⟨.map [], World.ownsMap_made _ _ _ _, isMap_empty, fun _ _ => rfl⟩

theorem MapI.kept {w w' : World} {b n : Nat} {F : ByteArray → Int} {row : Option Nat} (h : MapI w b n F) (hg : w.grownBy w' row) (hne : some b ≠ row) : MapI w' b n F := by
  obtain ⟨D, h1, h2, h3⟩ := h
  exact ⟨D, h1.kept hg hne, h2, h3⟩

theorem MapI.alloc {w : World} {b n : Nat} {F : ByteArray → Int} (h : MapI w b n F) (o : Obj) : MapI (w.alloc o) b n F := h.kept (World.grownBy_alloc w o none) (by simp)

theorem MapI.mono {w : World} {b n n' : Nat} {F : ByteArray → Int} (h : MapI w b n F) (hn : n ≤ n') : MapI w b n' F := by
  obtain ⟨D, h1, h2, h3⟩ := h
  exact ⟨D, h1.mono hn, h2, h3⟩

theorem MapI.lt {w : World} {b n : Nat} {F : ByteArray → Int} (h : MapI w b n F) : b < w.heap.size := by
  obtain ⟨D, h1, h2, h3⟩ := h
  exact h1.lt

theorem key_lit {s : ByteArray} (hs : s.size ≤ 100000000) : keyOf Tryd.prog 9 (.string s) = some (.string s.data.toList) :=
  WideMaps.keyOf_string_mk Tryd.underlying9 (by simp only [maxLen]; omega)

theorem keyed_str : Keyed Tryd.prog 9 := string_keyed Tryd.underlying9

set_option maxRecDepth 100000 in
theorem MapI.look {w : World} {b n : Nat} {F : ByteArray → Int} (h : MapI w b n F) (s : ByteArray) (hs : s.size ≤ 100000000) : (Instr.lookup 46 (.map (some b)) (.string s) false).run Tryd.prog w = .ok (.int .i64 (F s)) w := by
  obtain ⟨D, h1, h2, h3⟩ := h
  obtain ⟨c, hrun, hat, hwc⟩ := h1.lookup_int (t := 46) keyed_str Tryd.underlying46 Tryd.underlying3 (Tryd.zeroValue3 w) (key_lit hs)
  rw [h3 s hs] at hat
  injection hat with hat
  injection hat with _ hat
  rw [hrun, hat]

theorem str_lit_ne {s t : ByteArray} (h : s ≠ t) : (Lit.string s.data.toList) ≠ .string t.data.toList := by
  intro e
  injection e with e
  exact h (ScoreS.ba_ext e)

theorem MapI.put {w : World} {b n : Nat} {F : ByteArray → Int} (h : MapI w b n F) (s : ByteArray) (hs : s.size ≤ 100000000) (v : Int) (hn : n < 100000000) (hv : (Lit.int .i64 v).wf = true) :
    ∃ w', (Instr.mapUpdate 46 (.map (some b)) (.string s) (.int .i64 v)).run Tryd.prog w = .ok () w' ∧ MapI w' b (n + 1) (fun x => if x = s then v else F x) ∧ w.grownBy w' (some b) := by
  obtain ⟨D, h1, h2, h3⟩ := h
  obtain ⟨w', hrun, hown, hg⟩ := h1.update (t := 46) (d := .lit (.int .i64 v)) (ps := []) keyed_str Tryd.underlying46 (by simp only [maxLen]; omega) (key_lit hs) (plainElem_int Tryd.underlying3 hv)
  refine ⟨w', hrun, ⟨_, hown, h2.put _ _, fun x hx => ?_⟩, hg⟩
  by_cases e : x = s
  · subst e
    rw [atKey_put_same h2 (keyed_str.key (key_lit hs))]
    show _ = DataW.lit (Lit.int .i64 (if x = x then v else F x))
    rw [if_pos rfl]
  · rw [atKey_put_other (str_lit_ne e), h3 x hx]
    show _ = DataW.lit (Lit.int .i64 (if x = s then v else F x))
    rw [if_neg e]

theorem blk_cell {w : World} {p : Nat} {cs : Array Value} {e : TypeId} {tag : Nat × Nat} (h : w.heap[p]? = some (.cells cs e tag)) (j : Nat) : w.cell? ⟨p, j, none⟩ = cs[j]? := by
  simp [World.cell?, h]

theorem own_ne_blk {w : World} {base : Nat} {e e' : TypeId} {s : Nat} {v : Value} {n : Nat} {xs : List Value} (h : w.ownsRow base e s v n xs) {p : Nat} {cs : Array Value} {tag : Nat × Nat} (hp : w.heap[p]? = some (.cells cs e' tag)) (hne : e ≠ e') : some p ≠ v.ownBlock := by
  rcases h.2 with ⟨rfl, _⟩ | ⟨g, cap, cur, rfl, hb, hg, _⟩
  · simp [Value.ownBlock]
  · simp only [Value.ownBlock, ne_eq, Option.some.injEq]
    rintro rfl
    rw [hp] at hg
    injection hg with hg
    injection hg with _ hg _
    exact hne hg.symm

theorem own_ne_map {w : World} {base : Nat} {e : TypeId} {s : Nat} {v : Value} {n : Nat} {xs : List Value} (h : w.ownsRow base e s v n xs) {p m : Nat} {F : ByteArray → Int} (hp : MapI w p m F) : some p ≠ v.ownBlock := by
  obtain ⟨D, ⟨es, clock, hb, _⟩, _⟩ := hp
  rcases h.2 with ⟨rfl, _⟩ | ⟨g, cap, cur, rfl, hb', hg, _⟩
  · simp [Value.ownBlock]
  · simp only [Value.ownBlock, ne_eq, Option.some.injEq]
    rintro rfl
    rw [hb] at hg
    cases hg
end Go.Proofs.YtlnifigbnpdemaaDoor
