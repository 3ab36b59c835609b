/- Walks: the program's table of longest common lists. -/
import Derived.Test.YtlnifigbnpdemaaDoorRows
import Derived.Test.YtlnifigbnpdemaaDoorKitA
import Derived.Test.YtlnifigbnpdemaaDoorScoreS
import Derived.BigQuiet
import Derived.Deep.QuietTactic
namespace Go.Proofs.YtlnifigbnpdemaaDoor
open Go Go.RowKit

set_option maxRecDepth 100000 in
theorem at_c (t o g n wd i k : Nat) (w : World) (h0 : w.cell? ⟨t, o, none⟩ = some (.slice (some ⟨g, 0, none⟩) n n)) (h1 : w.cell? ⟨t, o + 1, none⟩ = some (.int .i64 wd)) (hn : i * wd + k < n) (hb : n ≤ 100000000) :
    Calls Tryd.prog 36 #[.pointer (some ⟨t, o, none⟩), .int .i64 i, .int .i64 k] w fun e w' => e = .returned (.pointer (some ⟨g, i * wd + k, none⟩)) ∧ ∃ q, w' = w.drewN q := by
  have hm : IntKind.i64.wrap ((i : Int) * (wd : Int)) = ((i * wd : Nat) : Int) := by rw [← Int.natCast_mul]; exact IntWalk.i64_in _ (by omega)
  have hm2 : IntKind.i64.wrap (((i * wd : Nat) : Int) + (k : Int)) = ((i * wd + k : Nat) : Int) := by rw [← Int.natCast_add]; exact IntWalk.i64_in _ (by omega)
  go_enter Tryd.func36, Tryd.ntmps36
  go_wp2_with fail
  go_quiet (fail)
  go_wp2_with fail
  go_ret
  exact ⟨rfl, _, rfl⟩
end Go.Proofs.YtlnifigbnpdemaaDoor
