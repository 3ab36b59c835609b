/- Walks: the order of numbers with a point. -/
import Derived.Test.YtlnifigbnpdemaaDoorScoreFl
import Derived.Laws.Bits64
import Derived.Laws.Bits64b
namespace Go.Proofs.YtlnifigbnpdemaaDoor
open Go Go.RowKit

theorem xor_all {c : Nat} (h : c < 18446744073709551616) : 18446744073709551615 ^^^ c = 18446744073709551615 - c := by
  have h1 : (BitVec.ofNat 64 c).toNat = c := by rw [BitVec.toNat_ofNat]; exact Nat.mod_eq_of_lt h
  have h2 : (BitVec.allOnes 64 ^^^ BitVec.ofNat 64 c) = ~~~(BitVec.ofNat 64 c) := by
    apply BitVec.eq_of_getElem_eq; intro i hi; simp only [BitVec.getElem_xor, BitVec.getElem_not, BitVec.getElem_allOnes, Bool.true_xor]
  have h3 := congrArg BitVec.toNat h2
  rw [BitVec.toNat_xor, BitVec.toNat_not, h1, BitVec.toNat_allOnes] at h3
  exact h3

theorem or_top {c : Nat} (h : c < 9223372036854775808) : c ||| 9223372036854775808 = c + 9223372036854775808 := by
  have := Nat.two_pow_add_eq_or_of_lt (i := 63) h 1
  rw [Nat.or_comm]
  simp at this
  omega

theorem cn_lt {x : Nat} (h : x < 2 ^ 64) : cn x < 2 ^ 64 := by
  unfold cn; split
  · decide
  · exact h

/-- A number's place in the order. -/
def fkey (x : Nat) : Nat := if 9223372036854775808 ≤ cn x then 18446744073709551615 - cn x else cn x + 9223372036854775808

set_option maxRecDepth 100000 in
theorem key_c (x : Nat) (w : World) (hx : x < 2 ^ 64) : Calls Tryd.prog 38 #[.float .f64 x] w fun e w' => e = .returned (.int .u64 (fkey x)) ∧ w' = w := by
  have hr := run_bits (cn x)
  have hl := cn_lt hx
  have hk : fkey x = if 9223372036854775808 ≤ cn x then 18446744073709551615 - cn x else cn x + 9223372036854775808 := rfl
  generalize fkey x = k at *
  go_enter Tryd.func38, Tryd.ntmps38
  go_wp2_with fail
  refine (canon_c x w).mono ?_
  rintro e w1 ⟨rfl, rfl⟩
  generalize cn x = c at *
  have hs63 : bits .or .u64 (c : Int) 9223372036854775808 = ((c ||| 9223372036854775808 : Nat) : Int) := bits_or_u64_nat c 9223372036854775808 hl (by decide)
  have hx63 : bits .xor .u64 IntKind.u64.max (c : Int) = ((18446744073709551615 ^^^ c : Nat) : Int) := bits_xor_u64_nat 18446744073709551615 c (by decide) hl
  by_cases h : 9223372036854775808 ≤ c
  · rw [if_pos h] at hk
    rw [xor_all hl, ← hk] at hx63
    have hd : ((c : Int) / 9223372036854775808 == 1) = true := by
      rw [show (c : Int) / 9223372036854775808 = ((c / 9223372036854775808 : Nat) : Int) from rfl, show c / 9223372036854775808 = 1 by omega]; rfl
    clear hs63 hk
    go_wp2_with fail
    go_ret
    exact ⟨rfl, rfl⟩
  · rw [if_neg h] at hk
    rw [or_top (by omega), ← hk] at hs63
    have hd : ((c : Int) / 9223372036854775808 == 1) = false := by
      rw [show (c : Int) / 9223372036854775808 = ((c / 9223372036854775808 : Nat) : Int) from rfl, show c / 9223372036854775808 = 0 by omega]; rfl
    clear hx63 hk
    go_wp2_with fail
    go_ret
    exact ⟨rfl, rfl⟩

set_option maxRecDepth 100000 in
theorem compare_c (x y : Nat) (w : World) (hx : x < 2 ^ 64) (hy : y < 2 ^ 64) : Calls Tryd.prog 26 #[.float .f64 x, .float .f64 y] w fun e w' => e = .returned (.int .i64 (if fkey x < fkey y then -1 else if fkey y < fkey x then 1 else 0)) ∧ w' = w := by
  have HX := Lib.hid (fun W => key_c x W hx)
  have HY := Lib.hid (fun W => key_c y W hy)
  generalize fkey x = a at *
  generalize fkey y = b at *
  go_enter Tryd.func26, Tryd.ntmps26
  go_wp2_with fail
  refine (HX.out w).mono ?_
  rintro e w1 ⟨rfl, rfl⟩
  go_wp2_with fail
  refine (HY.out w1).mono ?_
  rintro e w2 ⟨rfl, rfl⟩
  rcases Nat.lt_trichotomy a b with h | h | h
  · have h1 : (a : Int) < b := by omega
    go_wp2_with fail
    go_ret
    exact ⟨ret_i64 (by first | rfl | simp [h]), rfl⟩
  · subst h
    go_wp2_with fail
    go_ret
    exact ⟨ret_i64 (by first | rfl | simp), rfl⟩
  · have h1 : ¬ (a : Int) < b := by omega
    have h2 : (b : Int) < a := by omega
    go_wp2_with fail
    go_ret
    exact ⟨ret_i64 (by first | rfl | (rw [if_neg (by omega), if_pos h])), rfl⟩

theorem fkey_lt (a b : Nat) (ha : cn a < 18446744073709551616) (hb : cn b < 18446744073709551616) : fkey a < fkey b ↔
    (if 9223372036854775808 ≤ cn a ∧ 9223372036854775808 ≤ cn b then cn b < cn a else if 9223372036854775808 ≤ cn a ∨ 9223372036854775808 ≤ cn b then 9223372036854775808 ≤ cn a else cn a < cn b) := by
  unfold fkey
  split <;> split <;> simp [*] <;> omega

set_option maxRecDepth 100000 in
theorem before_c (x y : Nat) (w : World) (hx : x < 2 ^ 64) (hy : y < 2 ^ 64) : Calls Tryd.prog 16 #[.float .f64 x, .float .f64 y] w fun e w' => e = .returned (.bool (decide (fkey x < fkey y))) ∧ w' = w := by
  have hk := fkey_lt x y (cn_lt hx) (cn_lt hy)
  obtain ⟨z, hz⟩ : ∃ z, z = decide (fkey x < fkey y) := ⟨_, rfl⟩
  rw [← hz]
  have HX := Lib.hid (fun W => refbits_c x W)
  have HY := Lib.hid (fun W => refbits_c y W)
  rw [← decide_eq_true_eq (p := fkey x < fkey y), ← hz] at hk
  clear hz
  generalize cn x = a at *
  generalize cn y = b at *
  by_cases h1 : 9223372036854775808 ≤ a
  · have g1 : (9223372036854775808 : Int) ≤ a := by omega
    by_cases h2 : 9223372036854775808 ≤ b
    · have g2 : (9223372036854775808 : Int) ≤ b := by omega
      have hv : z = decide (b < a) := by
        rw [Bool.eq_iff_iff, hk, if_pos (And.intro h1 h2), decide_eq_true_eq]
      have HV := Lib.hid hv
      clear h1 h2 hv hk
      go_enter Tryd.func16, Tryd.ntmps16
      go_wp2_with fail
      refine (HX.out w).mono ?_
      rintro e w1 ⟨rfl, rfl⟩
      go_wp2_with fail
      refine (HY.out w1).mono ?_
      rintro e w2 ⟨rfl, rfl⟩
      go_wp2_with fail
      go_ret
      exact ⟨ret_bool HV.out, rfl⟩
    · have g2 : decide ((9223372036854775808 : Int) ≤ b) = false := by rw [decide_eq_false_iff_not]; omega
      have hv : z = true := by
        rw [hk, if_neg (fun e => h2 e.2), if_pos (.inl h1)]; exact h1
      have HV := Lib.hid hv
      clear h1 h2 hv hk
      go_enter Tryd.func16, Tryd.ntmps16
      go_wp2_with fail
      refine (HX.out w).mono ?_
      rintro e w1 ⟨rfl, rfl⟩
      go_wp2_with fail
      refine (HY.out w1).mono ?_
      rintro e w2 ⟨rfl, rfl⟩
      go_wp2_with fail
      go_ret
      exact ⟨ret_bool HV.out, rfl⟩
  · have g1 : decide ((9223372036854775808 : Int) ≤ a) = false := by rw [decide_eq_false_iff_not]; omega
    by_cases h2 : 9223372036854775808 ≤ b
    · have g2 : (9223372036854775808 : Int) ≤ b := by omega
      have hv : z = false := by
        rw [← Bool.not_eq_true, hk, if_neg (fun e => h1 e.1), if_pos (.inr h2)]; exact h1
      have HV := Lib.hid hv
      clear h1 h2 hv hk
      go_enter Tryd.func16, Tryd.ntmps16
      go_wp2_with fail
      refine (HX.out w).mono ?_
      rintro e w1 ⟨rfl, rfl⟩
      go_wp2_with fail
      refine (HY.out w1).mono ?_
      rintro e w2 ⟨rfl, rfl⟩
      go_wp2_with fail
      go_ret
      exact ⟨ret_bool HV.out, rfl⟩
    · have g2 : decide ((9223372036854775808 : Int) ≤ b) = false := by rw [decide_eq_false_iff_not]; omega
      have hv : z = decide (a < b) := by
        rw [Bool.eq_iff_iff, hk, if_neg (fun e => h1 e.1), if_neg (fun e => e.elim h1 h2), decide_eq_true_eq]
      have HV := Lib.hid hv
      clear h1 h2 hv hk
      go_enter Tryd.func16, Tryd.ntmps16
      go_wp2_with fail
      refine (HX.out w).mono ?_
      rintro e w1 ⟨rfl, rfl⟩
      go_wp2_with fail
      refine (HY.out w1).mono ?_
      rintro e w2 ⟨rfl, rfl⟩
      go_wp2_with fail
      go_ret
      exact ⟨ret_bool HV.out, rfl⟩
end Go.Proofs.YtlnifigbnpdemaaDoor
