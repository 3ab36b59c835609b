/- A region that draws its order: its head reads and calls what may lay blocks, its tail stands in one order: one walk serves. Of every program. -/
import Derived.Test.YtlnifigbnpdemaaDoorKitQ
import Derived.Test.YtlnifigbnpdemaaDoorKitA
import Derived.Shelf.SlSortCmp.QuietGrown
namespace Go.Proofs.YtlnifigbnpdemaaDoor
open Go Go.Sort

theorem wp_region_grown_tail {P : Program} {id : Nat} {Q : Exit → Act → World → Prop} {a : Act} {w : World} {l : List Oper} (n : Nat) (hm : P.follows .mixedOrders = true) (hB : Region.lexTailB .any l.toArray n = true)
    (h : wpQuiet P l.toArray (fun w' => ∃ p : GrownBy, w' = grow (w.drewN p.n) p.os) (fun a' => ∀ w', (∃ p : GrownBy, w' = grow (w.drewN p.n) p.os) → wpList P l.toArray Q (l.drop n) a' w') (l.take n) a) : (Code.region id l.toArray true).wp P Q a w :=
  wp_region_tail (C := fun w' => ∃ p : GrownBy, w' = grow (w.drewN p.n) p.os) n hm hB ⟨⟨1, #[]⟩, by rw [grow_empty]; rfl⟩ h

/-- A callee that turns nothing old, met in a world of the class. -/
theorem grown_of_gr {P : Program} {f : FuncId} {args : Array Value} {w : World} {n : Nat} {os : Array Obj} {v : Value}
    (h : Calls P f args (grow (w.drewN n) os) fun e w' => e = .returned v ∧ Gr (grow (w.drewN n) os) w') : Calls P f args (grow (w.drewN n) os) fun e w'' => e = .returned v ∧ ∃ p : GrownBy, w'' = grow (w.drewN p.n) p.os :=
  Calls.grown_of (h.mono fun _ _ ⟨he, hg⟩ => ⟨he, hg.form⟩)

theorem gr_grow (w : World) (n : Nat) (os : Array Obj) : Gr w (grow (w.drewN n) os) := by
  refine ⟨⟨rfl, rfl, rfl, ?_, fun k hk => ?_⟩, ?_⟩
  · show w.heap.size ≤ (w.heap ++ os).size
    rw [Array.size_append]; omega
  · show (w.heap ++ os)[k]? = w.heap[k]?
    rw [Array.getElem?_append_left hk]
  · show w.drawn ≤ w.drawn + n
    omega
end Go.Proofs.YtlnifigbnpdemaaDoor
