/- What the rows of this seat share: the tables in the witness's world, the bulk's bound. -/
import Derived.Test.YtmcdfikkokbffaaDoorPathLib
import Derived.Test.YtmcdfikkokbffaaDoorCards
import Derived.Test.YtmcdfikkokbffaaDoorTie
import Derived.ProofKit
import Derived.OpenShut
import Derived.Deep.DeepHandedRow
import Derived.Lib.LaidTab
import Derived.Lib.LaidU8
namespace Go.Proofs.YtmcdfikkokbffaaDoor

theorem gl_of_shaped {W : World} (h : W.ShapedOpen Tryd.prog) : Gl W := by
  obtain ⟨m, hm⟩ := Tryd.laysM146.s1_3 W h
  have hm : W.cell? ⟨0, 0, none⟩ = some (.int .i64 m) := hm
  exact ⟨⟨m, hm⟩, World.block_lt_of_cell? W _ hm⟩

theorem own : ownKnob Tryd.prog.godebug = none := by kernel_rfl

/-- The cells of the two listed tables. -/
def acceptCells : Array Value := (List.flatten ((List.range 16).map fun i => [Value.int .u8 (Lib.accLo i : Int), Value.int .u8 (Lib.accHi i : Int)])).toArray
def firstCells : Array Value := ((List.range 256).map fun c => Value.int .u8 (Lib.firstT c : Int)).toArray

def lay1 (n : Nat) (cs : Array Value) (w : World) : World :=
  { w with heap := w.heap.modify n fun
      | .cells _ t frozen => .cells cs t frozen
      | o => o }

noncomputable def laidWorld (os : Os) : World := lay1 2 acceptCells (lay1 1 firstCells (World.holding Tryd.prog os ⟨#[], #[], []⟩))
theorem laid_met (os : Os) (args : Array Value) : laidMet Tryd.prog Rows.pathOrderUptoRow.laid ((laidWorld os).forCall (fun _ _ => 0) ⟨#[], args, []⟩).memory :=
  laidMet_of_run' 300 (by kernel_rfl) (by kernel_rfl)

theorem bulk_one {H : Type} (d : DataW H) : 1 ≤ Rows.uptoBulk d := by
  cases d with
  | lit l => cases l <;> simp [Rows.uptoBulk]
  | nil => simp [Rows.uptoBulk]
  | ptr d => simp [Rows.uptoBulk]
  | slice elems spare => simp [Rows.uptoBulk]
  | agg parts => simp [Rows.uptoBulk]
  | iface t d => simp [Rows.uptoBulk]
  | map entries => simp [Rows.uptoBulk]
  | held h => simp [Rows.uptoBulk]

theorem bulk_part {H : Type} {d : DataW H} {l : List (DataW H)} (h : d ∈ l) : Rows.uptoBulk d ≤ Rows.uptoBulkAll l := by
  induction l with
  | nil => cases h
  | cons x r ih =>
    simp only [Rows.uptoBulkAll]
    cases List.mem_cons.1 h with
    | inl e => subst e; omega
    | inr e => have := ih e; omega

theorem bulk_length {H : Type} (l : List (DataW H)) : l.length ≤ Rows.uptoBulkAll l := by
  induction l with
  | nil => simp [Rows.uptoBulkAll]
  | cons x r ih => have := bulk_one x; simp only [Rows.uptoBulkAll, List.length_cons]; omega

theorem bulk_str {H : Type} (s : ByteArray) : Rows.uptoBulk (DataW.lit (H := H) (.string s.data.toList)) = s.size + 1 := by
  rw [Lib.size_eq]; simp only [Rows.uptoBulk]

theorem bulk_bound {H : Type} {l : List (DataW H)} (hk : Rows.uptoSmall H l = true) : Rows.uptoBulkAll l ≤ 1048576 := of_decide_eq_true hk

theorem bulk_mem {H : Type} {d : DataW H} {l : List (DataW H)} (hk : Rows.uptoSmall H l = true) (h : d ∈ l) : Rows.uptoBulk d ≤ 1048576 := Nat.le_trans (bulk_part h) (bulk_bound hk)
end Go.Proofs.YtmcdfikkokbffaaDoor
