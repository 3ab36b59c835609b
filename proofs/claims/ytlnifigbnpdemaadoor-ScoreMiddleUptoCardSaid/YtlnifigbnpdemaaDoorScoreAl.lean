/- Walks: how alike two lists are, the program's and the reference's. -/
import Derived.Test.YtlnifigbnpdemaaDoorScoreKey
namespace Go.Proofs.YtlnifigbnpdemaaDoor
open Go Go.RowKit

/-- One number by another, in its one form. -/
def rt (x y : Nat) : Nat := match FloatKind.f64.format.div x y with
  | some r => cn r
  | none => 9221120237041090560

theorem nan_of_rung {x : Nat} (h : 9218868437227405312 < x % 9223372036854775808) : nanB x = true := by
  have hr : ∃ s t, FloatKind.f64.format.read x = .nan s t := by
    refine ⟨x / 9223372036854775808 % 2 == 1, x % 9223372036854775808 - 9218868437227405312, ?_⟩
    show Ieee.double.read x = _
    unfold Ieee.Format.read
    have e1 : Ieee.double.signWeight = 9223372036854775808 := by decide
    have e2 : Ieee.double.binade = 4503599627370496 := by decide
    have e3 : Ieee.double.infRung = 9218868437227405312 := by decide
    simp only [e1, e2, e3]
    rw [if_neg (by omega), if_neg (by omega), if_neg (by omega)]
  obtain ⟨s, t, hr⟩ := hr
  unfold nanB Ieee.Format.order
  rw [hr]; rfl

theorem cut_nan (x y t : Nat) : nanB ((Question.nanBits .f64 x y).cut t) = true := by
  apply nan_of_rung
  have h1 : t / 2 % (2 ^ 52 - 1) < 4503599627370495 := Nat.mod_lt _ (by decide)
  have h2 : ∀ k z : Nat, (k * 2 ^ 63 + 9218868437227405312 + 1 + z) % 9223372036854775808 = (9218868437227405313 + z) % 9223372036854775808 := by
    intro k z
    rw [show k * 2 ^ 63 + 9218868437227405312 + 1 + z = 9223372036854775808 * k + (9218868437227405313 + z) by omega, Nat.mul_add_mod]
  show 9218868437227405312 < (t % 2 * 2 ^ 63 + 0x7ff0000000000000 + 1 + t / 2 % (2 ^ 52 - 1)) % 9223372036854775808
  rw [h2, Nat.mod_eq_of_lt (by omega)]
  omega

theorem run_quo_nan {P : Program} (w : World) (t : TypeId) (x y : Nat) (h : FloatKind.f64.format.div x y = none) : (binOp .quo t (.float .f64 x) (.float .f64 y)).run P w = .ok (.float .f64 ((Question.nanBits .f64 x y).cut (w.tape w.drawn (.nanBits .f64 x y)))) w.drew := by
  simp [binOp, Op.floatArith, h, Question.forced]

set_option maxRecDepth 100000 in
theorem ratio_c (a b : Int) (w : World) : Calls Tryd.prog 22 #[.int .i64 a, .int .i64 b] w fun e w' => e = .returned (.float .f64 (rt (floatOfInt .f64 a) (floatOfInt .f64 b))) ∧ ∃ q, w' = w.drewN q := by
  cases h : FloatKind.f64.format.div (floatOfInt .f64 a) (floatOfInt .f64 b) with
  | some r =>
    have hv : rt (floatOfInt .f64 a) (floatOfInt .f64 b) = cn r := by simp [rt, h]
    rw [hv]
    have hq := fun (P : Program) (w : World) (t : TypeId) => run_float_arith (P := P) w .quo t .f64 _ _ r h
    go_enter Tryd.func22, Tryd.ntmps22
    go_wp2_with fail
    refine (canon_c r w).mono ?_
    rintro e w1 ⟨rfl, rfl⟩
    go_wp2_with fail
    go_ret
    exact ⟨rfl, 0, rfl⟩
  | none =>
    have hv : rt (floatOfInt .f64 a) (floatOfInt .f64 b) = 9221120237041090560 := by simp [rt, h]
    rw [hv]
    have hq := fun (P : Program) (w : World) (t : TypeId) => run_quo_nan (P := P) w t _ _ h
    go_enter Tryd.func22, Tryd.ntmps22
    go_wp2_with fail
    refine (canon_c _ _).mono ?_
    have hc : cn ((Question.nanBits FloatKind.f64 (floatOfInt FloatKind.f64 a) (floatOfInt FloatKind.f64 b)).cut (w.tape w.drawn (Question.nanBits FloatKind.f64 (floatOfInt FloatKind.f64 a) (floatOfInt FloatKind.f64 b)))) = 9221120237041090560 := by
      rw [cn, if_pos (cut_nan _ _ _)]
    rw [hc]
    rintro e w1 ⟨rfl, rfl⟩
    go_wp2_with fail
    go_ret
    exact ⟨rfl, 1, rfl⟩

theorem own_shape {w : World} {base : Nat} {e : TypeId} {s : Nat} {v : Value} {n : Nat} {xs : List Value} (h : w.ownsRow base e s v n xs) : ∃ a c, v = .slice a n c := by
  rcases h.2 with ⟨h1, h2⟩ | ⟨g, cap, cur, h1, _⟩
  · subst h2; exact ⟨_, _, h1⟩
  · exact ⟨_, _, h1⟩

/-- How alike two lists are, as a word. -/
def alw (a b : List ByteArray) : Nat := rt (floatOfInt .f64 (2 * ((ScoreS.P 0 0 a b).length : Int))) (floatOfInt .f64 ((a.length : Int) + (b.length : Int)))

set_option maxRecDepth 100000 in
theorem alike_c (aa ab : Option Addr) (ca cb : Nat) (a b : List ByteArray) (w : World) (ha : Sl w aa (a.map Value.string)) (hb : Sl w ab (b.map Value.string)) (hla : a.length ≤ 10000000) (hlb : b.length ≤ 10000000) :
    Calls Tryd.prog 9 #[.slice aa a.length ca, .slice ab b.length cb] w fun e w' => e = .returned (if a.length * b.length ≤ 1048576 then .tuple #[.float .f64 (alw a b), .int .i64 0] else .tuple #[.float .f64 0, .int .i64 2]) ∧ Below w.heap.size w w' := by
  by_cases hw : a.length * b.length ≤ 1048576
  · rw [if_pos hw]
    have hP : (ScoreS.P 0 0 a b).length ≤ a.length := by rw [ScoreS.P_length]; exact ScoreS.L_le _ _
    have HA : Hid (alw a b = rt (floatOfInt .f64 (2 * ((ScoreS.P 0 0 a b).length : Int))) (floatOfInt .f64 ((a.length : Int) + (b.length : Int)))) := rfl
    go_enter Tryd.func9, Tryd.ntmps9
    go_wp2_with fail
    refine (pairs_c aa ab ca cb a b w ha hb hla hlb hw).mono ?_
    rintro e w1 ⟨v, rfl, hown, hb1⟩
    obtain ⟨a1, c1, rfl⟩ := own_shape hown
    clear hown
    have hw1 : IntKind.i64.wrap (2 * ((ScoreS.P 0 0 a b).length : Int)) = ((2 * (ScoreS.P 0 0 a b).length : Nat) : Int) := IntWalk.i64_in _ (by omega)
    have hw2 : IntKind.i64.wrap ((a.length : Int) + (b.length : Int)) = ((a.length + b.length : Nat) : Int) := IntWalk.i64_in _ (by omega)
    generalize (ScoreS.P 0 0 a b).length = p at *
    go_wp2_with fail
    refine (ratio_c _ _ w1).mono ?_
    rw [← HA.out]
    rintro e w2 ⟨rfl, q, rfl⟩
    go_wp2_with fail
    go_ret2
    exact ⟨rfl, below_dN hb1 _⟩
  · rw [if_neg hw]
    go_enter Tryd.func9, Tryd.ntmps9
    go_wp2_with fail
    refine (pairs_long aa ab ca cb _ _ w hlb (by omega)).mono ?_
    rintro e w1 ⟨rfl, rfl⟩
    go_wp2_with fail
    go_ret2
    exact ⟨rfl, Below.refl _ _⟩

set_option maxRecDepth 100000 in
theorem ref_alike_c (aa ab : Option Addr) (ca cb : Nat) (a b : List ByteArray) (w : World) (ha : Sl w aa (a.map Value.string)) (hb : Sl w ab (b.map Value.string)) (hla : a.length ≤ 10000000) (hlb : b.length ≤ 10000000) :
    Calls Tryd.prog 10 #[.slice aa a.length ca, .slice ab b.length cb] w fun e w' => e = .returned (if a.length * b.length ≤ 1048576 then .tuple #[.float .f64 (alw a b), .int .i64 0] else .tuple #[.float .f64 0, .int .i64 2]) ∧ Below w.heap.size w w' := by
  by_cases hw : a.length * b.length ≤ 1048576
  · rw [if_pos hw]
    have hP : (ScoreS.P 0 0 a b).length ≤ a.length := by rw [ScoreS.P_length]; exact ScoreS.L_le _ _
    have HA : Hid (alw a b = rt (floatOfInt .f64 (2 * ((ScoreS.P 0 0 a b).length : Int))) (floatOfInt .f64 ((a.length : Int) + (b.length : Int)))) := rfl
    go_enter Tryd.func10, Tryd.ntmps10
    go_wp2_with fail
    refine (ref_pairs_c aa ab ca cb a b w ha hb hla hlb hw).mono ?_
    rintro e w1 ⟨v, rfl, hown, hb1⟩
    obtain ⟨a1, c1, rfl⟩ := own_shape hown
    clear hown
    have hw1 : IntKind.i64.wrap (2 * ((ScoreS.P 0 0 a b).length : Int)) = ((2 * (ScoreS.P 0 0 a b).length : Nat) : Int) := IntWalk.i64_in _ (by omega)
    have hw2 : IntKind.i64.wrap ((a.length : Int) + (b.length : Int)) = ((a.length + b.length : Nat) : Int) := IntWalk.i64_in _ (by omega)
    generalize (ScoreS.P 0 0 a b).length = p at *
    cases h : FloatKind.f64.format.div (floatOfInt .f64 (2 * (p : Int))) (floatOfInt .f64 ((a.length : Int) + (b.length : Int))) with
    | some r =>
      have HR : Hid (alw a b = cn r) := by show _ = _; rw [HA.out]; simp [rt, h]
      have hq := fun (P : Program) (w : World) (t : TypeId) => run_float_arith (P := P) w .quo t .f64 _ _ r h
      clear h HA
      go_wp2_with fail
      refine (refcanon_c r w1).mono ?_
      rw [← HR.out]
      rintro e w2 ⟨rfl, rfl⟩
      go_wp2_with fail
      go_ret2
      exact ⟨rfl, hb1⟩
    | none =>
      have HR : Hid (alw a b = 9221120237041090560) := by show _ = _; rw [HA.out]; simp [rt, h]
      have hq := fun (P : Program) (w : World) (t : TypeId) => run_quo_nan (P := P) w t _ _ h
      clear h HA
      go_wp2_with fail
      refine (refcanon_c _ _).mono ?_
      rw [cn, if_pos (cut_nan _ _ _), ← HR.out]
      rintro e w2 ⟨rfl, rfl⟩
      go_wp2_with fail
      go_ret2
      exact ⟨rfl, hb1.drew⟩
  · rw [if_neg hw]
    go_enter Tryd.func10, Tryd.ntmps10
    go_wp2_with fail
    refine (ref_pairs_long aa ab ca cb _ _ w hla hlb (by omega)).mono ?_
    rintro e w1 ⟨rfl, rfl⟩
    go_wp2_with fail
    go_ret2
    exact ⟨rfl, Below.refl _ _⟩
end Go.Proofs.YtlnifigbnpdemaaDoor
