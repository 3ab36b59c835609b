/- Walks: numbers with a point: their bits, their one form, their order. -/
import Derived.Test.YtlnifigbnpdemaaDoorScoreRP
import Derived.WalkLawsBesides
import Derived.Laws.Externs
namespace Go.Proofs.YtlnifigbnpdemaaDoor
open Go Go.RowKit

/-- Is a word no number? -/
def nanB (x : Nat) : Bool := FloatKind.f64.format.order x x != some .eq

/-- A word in its one form. -/
def cn (x : Nat) : Nat := if nanB x then 9221120237041090560 else x

theorem run_bits (x : Nat) (w : World) : (callFunc 25 #[.float .f64 x]).run Tryd.prog w = .ok (.value (.int .u64 x)) w := by
  rw [run_callFunc_extern (e := Extern.MathFloatBits.float64bits) Tryd.func25 (by kernel_rfl) (by kernel_rfl) (by kernel_rfl) (by kernel_rfl)]
  rfl

theorem run_frombits (x : Nat) (w : World) : (callFunc 34 #[.int .u64 x]).run Tryd.prog w = .ok (.value (.float .f64 x)) w := by
  rw [run_callFunc_extern (e := Extern.MathFloatBits.float64frombits) Tryd.func34 (by kernel_rfl) (by kernel_rfl) (by kernel_rfl) (by kernel_rfl)]
  rfl

set_option maxRecDepth 100000 in
theorem refbits_c (x : Nat) (w : World) : Calls Tryd.prog 30 #[.float .f64 x] w fun e w' => e = .returned (.int .u64 (cn x)) ∧ w' = w := by
  have hr := run_bits x
  cases h : nanB x
  · have hc : cn x = x := by simp [cn, h]
    rw [hc]
    have h2 : FloatKind.f64.format.order x x = some .eq := by simpa [nanB] using h
    go_enter Tryd.func30, Tryd.ntmps30
    go_wp2_with fail
    go_ret
    exact ⟨rfl, rfl⟩
  · have hc : cn x = 9221120237041090560 := by simp [cn, h]
    rw [hc]
    have h2 : (FloatKind.f64.format.order x x != some .eq) = true := h
    go_enter Tryd.func30, Tryd.ntmps30
    go_wp2_with fail
    go_ret
    exact ⟨rfl, rfl⟩

set_option maxRecDepth 100000 in
theorem canon_c (x : Nat) (w : World) : Calls Tryd.prog 33 #[.float .f64 x] w fun e w' => e = .returned (.float .f64 (cn x)) ∧ w' = w := by
  have hr : ∀ w, (callFunc 34 #[.int .u64 9221120237041090560]).run Tryd.prog w = .ok (.value (.float .f64 9221120237041090560)) w := run_frombits 9221120237041090560
  cases h : nanB x
  · have hc : cn x = x := by simp [cn, h]
    rw [hc]
    have h2 : FloatKind.f64.format.order x x = some .eq := by simpa [nanB] using h
    go_enter Tryd.func33, Tryd.ntmps33
    go_wp2_with fail
    go_ret
    exact ⟨rfl, rfl⟩
  · have hc : cn x = 9221120237041090560 := by simp [cn, h]
    rw [hc]
    have h2 : (FloatKind.f64.format.order x x != some .eq) = true := h
    go_enter Tryd.func33, Tryd.ntmps33
    go_wp2_with fail
    go_ret
    exact ⟨rfl, rfl⟩

set_option maxRecDepth 100000 in
theorem refcanon_c (x : Nat) (w : World) : Calls Tryd.prog 24 #[.float .f64 x] w fun e w' => e = .returned (.float .f64 (cn x)) ∧ w' = w := by
  have hr := run_frombits (cn x)
  go_enter Tryd.func24, Tryd.ntmps24
  go_wp2_with fail
  refine (refbits_c x w).mono ?_
  rintro e w1 ⟨rfl, rfl⟩
  go_wp2_with fail
  go_ret
  exact ⟨rfl, rfl⟩
end Go.Proofs.YtlnifigbnpdemaaDoor
