/- A whole number by a greater one, as a word: from nought to one. No program in sight. -/
import Derived.Test.YtlnifigbnpdemaaDoorScoreAl
namespace Go.Proofs.YtlnifigbnpdemaaDoor
namespace ScoreR
open Go Ieee

theorem cBin : Ieee.double.binade = 4503599627370496 := by decide
theorem cInf : Ieee.double.infRung = 9218868437227405312 := by decide
theorem cSgn : Ieee.double.signWeight = 9223372036854775808 := by decide
theorem cLeast : Ieee.double.leastPlace = -1074 := by decide
theorem cFrac : Ieee.double.fractionBits = 52 := rfl

theorem cut_zero (n : Nat) : Toward.even.cut false n 0 = n := by
  simp [Toward.cut, Nat.mod_one]

theorem cut_le (n d : Nat) (h : d ≤ n.log2 + 2) : n / 2 ^ d ≤ Toward.even.cut false n d ∧ Toward.even.cut false n d ≤ n / 2 ^ d + 1 := by
  unfold Toward.cut
  rw [Nat.min_eq_left h, Nat.one_shiftLeft]
  simp only
  constructor
  · exact Nat.le_add_right _ _
  · exact Nat.add_le_add_left (Bool.toNat_le _) _

theorem log2_bounds {k l : Nat} (hk : 0 < k) (hl : k.log2 = l) : 2 ^ l ≤ k ∧ k < 2 ^ (l + 1) := by
  subst hl
  exact ⟨Nat.log2_self_le (by omega), Nat.lt_log2_self⟩

theorem scaled {k l : Nat} (hk : 0 < k) (hl : k.log2 = l) (h52 : l ≤ 52) : 4503599627370496 ≤ k * 2 ^ (52 - l) ∧ k * 2 ^ (52 - l) < 9007199254740992 := by
  obtain ⟨h1, h2⟩ := log2_bounds hk hl
  have e1 : 2 ^ l * 2 ^ (52 - l) = 4503599627370496 := by rw [← Nat.pow_add, show l + (52 - l) = 52 by omega]
  have e2 : 2 ^ (l + 1) * 2 ^ (52 - l) = 9007199254740992 := by rw [← Nat.pow_add, show l + 1 + (52 - l) = 53 by omega]
  constructor
  · rw [← e1]; exact Nat.mul_le_mul_right _ h1
  · rw [← e2]; exact Nat.mul_lt_mul_of_pos_right h2 (Nat.two_pow_pos _)

/-- A whole number's word. -/
def wd (k : Nat) : Nat := (1022 + k.log2) * 4503599627370496 + k * 2 ^ (52 - k.log2)

theorem fi_eq {k : Nat} (hk : 0 < k) (h52 : k.log2 ≤ 52) : floatOfInt .f64 (k : Int) = wd k := by
  obtain ⟨s1, s2⟩ := scaled hk rfl h52
  show Ieee.double.write (.number (decide ((k : Int) < 0)) (k : Int).natAbs 0) = _
  rw [show decide ((k : Int) < 0) = false by simp, Int.natAbs_natCast]
  show Ieee.double.nearest false k 0 = _
  unfold Format.nearest
  rw [if_neg (by omega), cFrac, cLeast, cBin, cInf]
  have e : max (0 + (k.log2 : Int) - ((52 : Nat) : Int)) (-1074) = (k.log2 : Int) - 52 := by omega
  simp only [e]
  rw [show ((0 : Int) - ((k.log2 : Int) - 52)).toNat = 52 - k.log2 by omega, show ((k.log2 : Int) - 52 - 0).toNat = 0 by omega, cut_zero, show ((k.log2 : Int) - 52 - -1074).toNat = 1022 + k.log2 by omega, Nat.shiftLeft_eq]
  unfold Format.word
  rw [if_neg (by decide), wd, Nat.min_eq_left]
  omega

set_option maxRecDepth 100000 in
theorem read_wd {k : Nat} (hk : 0 < k) (h52 : k.log2 ≤ 52) : Ieee.double.read (wd k) = .number false (k * 2 ^ (52 - k.log2)) ((k.log2 : Int) - 52) := by
  obtain ⟨s1, s2⟩ := scaled hk rfl h52
  unfold wd
  generalize k * 2 ^ (52 - k.log2) = m at *
  generalize k.log2 = l at *
  unfold Format.read
  simp only [cSgn, cBin, cInf, cLeast]
  have hw : (1022 + l) * 4503599627370496 + m < 9218868437227405312 := by omega
  have hd : ((1022 + l) * 4503599627370496 + m) / 4503599627370496 = 1023 + l := by omega
  have hm : ((1022 + l) * 4503599627370496 + m) % 4503599627370496 = m - 4503599627370496 := by omega
  rw [Nat.mod_eq_of_lt (show (1022 + l) * 4503599627370496 + m < 9223372036854775808 by omega), if_neg (by omega), if_pos hw, hd, hm, Nat.div_eq_of_lt (show (1022 + l) * 4503599627370496 + m < 9223372036854775808 by omega)]
  have h1 : 4503599627370496 + (m - 4503599627370496) = m := by omega
  have h2 : (-1074 : Int) + ((1023 + l - 1 : Nat) : Int) = (l : Int) - 52 := by omega
  rw [h1, h2]
  rfl

theorem log2_52 {m : Nat} (h1 : 4503599627370496 ≤ m) (h2 : m < 9007199254740992) : m.log2 = 52 := by
  refine (Nat.log2_eq_iff (by omega)).2 ⟨h1, h2⟩

theorem quot_num (dg m n : Nat) (i j : Int) (hn : n ≠ 0) : Datum.quotient dg (.number false m i) (.number false n j) =
    some (.number false (2 * ((m <<< (dg + n.log2 - m.log2)) / n) + ((m <<< (dg + n.log2 - m.log2)) % n != 0).toNat) (i - j - ((dg + n.log2 - m.log2 : Nat) : Int) - 1)) := by
  simp [Datum.quotient, hn]

theorem div_wd {k n : Nat} (hk : 0 < k) (hn : 0 < n) (hk2 : k.log2 ≤ 52) (hn2 : n.log2 ≤ 52) :
    Ieee.double.div (wd k) (wd n) = some (Ieee.double.nearest false (2 * ((k * 2 ^ (52 - k.log2)) * 2 ^ 54 / (n * 2 ^ (52 - n.log2))) + (decide ((k * 2 ^ (52 - k.log2)) * 2 ^ 54 % (n * 2 ^ (52 - n.log2)) ≠ 0)).toNat) ((k.log2 : Int) - n.log2 - 55)) := by
  obtain ⟨s1, s2⟩ := scaled hk rfl hk2
  obtain ⟨t1, t2⟩ := scaled hn rfl hn2
  unfold Format.div
  rw [read_wd hk hk2, read_wd hn hn2]
  generalize k * 2 ^ (52 - k.log2) = m at *
  generalize n * 2 ^ (52 - n.log2) = q at *
  rw [quot_num _ _ _ _ _ (by omega), log2_52 s1 s2, log2_52 t1 t2, cFrac]
  simp only [Option.map_some, Format.write, Nat.shiftLeft_eq]
  congr 2
  · congr 2
    rw [Bool.eq_iff_iff]; simp
  · omega

/-- What is well under one is written under one. -/
theorem near_lt (mag t : Nat) (h1 : 2 ^ 53 ≤ mag) (ht : t ≤ 1000) (h : mag * 2 ^ 25 ≤ (2 ^ 25 - 1) * 2 ^ t) : Ieee.double.nearest false mag (-(t : Int)) < 4607182418800017408 := by
  obtain ⟨l, hl⟩ : ∃ l, l = mag.log2 := ⟨_, rfl⟩
  obtain ⟨b1, b2⟩ := log2_bounds (k := mag) (by omega) hl.symm
  have hlt : l < t := by
    rcases Nat.lt_or_ge l t with h' | h'
    · exact h'
    · have := Nat.pow_le_pow_right (show 0 < 2 by decide) h'
      omega
  have h53 : 53 ≤ l := by
    rcases Nat.lt_or_ge l 53 with h' | h'
    · have := Nat.pow_le_pow_right (show 0 < 2 by decide) (show l + 1 ≤ 53 by omega)
      omega
    · exact h'
  have hcut := cut_le mag (l - 52) (by omega)
  have hdv : mag / 2 ^ (l - 52) < 9007199254740992 := by
    rw [Nat.div_lt_iff_lt_mul (Nat.two_pow_pos _), show (9007199254740992 : Nat) = 2 ^ 53 by decide, ← Nat.pow_add, show 53 + (l - 52) = l + 1 by omega]
    exact b2
  unfold Format.nearest
  rw [if_neg (by omega), cFrac, cLeast, cBin, cInf, ← hl]
  have e : max (-(t : Int) + (l : Int) - ((52 : Nat) : Int)) (-1074) = (l : Int) - 52 - t := by omega
  simp only [e]
  rw [show (-(t : Int) - ((l : Int) - 52 - t)).toNat = 0 by omega, show ((l : Int) - 52 - t - -(t : Int)).toNat = l - 52 by omega, show ((l : Int) - 52 - t - -1074).toNat = 1022 + l - t by omega, Nat.shiftLeft_zero]
  unfold Format.word
  rw [if_neg (by decide)]
  refine Nat.lt_of_le_of_lt (Nat.min_le_left _ _) ?_
  rcases Nat.lt_or_ge (l + 1) t with h' | h'
  · omega
  · have e1 : t = l + 1 := by omega
    subst e1
    have hd : mag / 2 ^ (l - 52) ≤ 9007198986305536 := by
      have e2 : 2 ^ (l + 1) = 2 ^ 53 * 2 ^ (l - 52) := by rw [← Nat.pow_add, show 53 + (l - 52) = l + 1 by omega]
      rw [e2] at h
      have h2 : mag ≤ 9007198986305536 * 2 ^ (l - 52) := by
        have : (2 ^ 25 - 1) * (2 ^ 53 * 2 ^ (l - 52)) = 9007198986305536 * 2 ^ (l - 52) * 2 ^ 25 := by
          generalize 2 ^ (l - 52) = y
          omega
        rw [this] at h
        exact Nat.le_of_mul_le_mul_right h (by decide)
      exact Nat.div_le_of_le_mul (by rw [Nat.mul_comm]; exact h2)
    omega

theorem div_lt {k n : Nat} (hk : 0 < k) (hkn : k < n) (hn : n < 16777216) : ∃ r, Ieee.double.div (wd k) (wd n) = some r ∧ r < 4607182418800017408 := by
  have hkl : k.log2 ≤ n.log2 := by
    rcases Nat.lt_or_ge n.log2 k.log2 with h | h
    · obtain ⟨a1, a2⟩ := log2_bounds (k := n) (by omega) rfl
      obtain ⟨c1, c2⟩ := log2_bounds hk rfl
      have := Nat.pow_le_pow_right (show 0 < 2 by decide) (show n.log2 + 1 ≤ k.log2 from h)
      omega
    · exact h
  have hnl : n.log2 < 24 := by
    rcases Nat.lt_or_ge n.log2 24 with h | h
    · exact h
    · obtain ⟨a1, a2⟩ := log2_bounds (k := n) (by omega) rfl
      have := Nat.pow_le_pow_right (show 0 < 2 by decide) h
      omega
  obtain ⟨s1, s2⟩ := scaled hk rfl (by omega)
  obtain ⟨t1, t2⟩ := scaled (k := n) (by omega) rfl (by omega)
  refine ⟨_, div_wd hk (by omega) (by omega) (by omega), ?_⟩
  obtain ⟨e, he⟩ : ∃ e, n.log2 = k.log2 + e := ⟨n.log2 - k.log2, by omega⟩
  rw [show (k.log2 : Int) - n.log2 - 55 = -((55 + e : Nat) : Int) by omega]
  have hq : k * 2 ^ (52 - k.log2) * 2 ^ 54 / (n * 2 ^ (52 - n.log2)) * n ≤ k * 2 ^ (54 + e) := by
    have h1 := Nat.div_mul_le_self (k * 2 ^ (52 - k.log2) * 2 ^ 54) (n * 2 ^ (52 - n.log2))
    generalize k * 2 ^ (52 - k.log2) * 2 ^ 54 / (n * 2 ^ (52 - n.log2)) = q at *
    have e1 : k * 2 ^ (52 - k.log2) * 2 ^ 54 = k * 2 ^ (54 + e) * 2 ^ (52 - n.log2) := by
      rw [Nat.mul_assoc, Nat.mul_assoc, ← Nat.pow_add, ← Nat.pow_add, show 52 - k.log2 + 54 = 54 + e + (52 - n.log2) by omega]
    rw [e1, ← Nat.mul_assoc] at h1
    exact Nat.le_of_mul_le_mul_right h1 (Nat.two_pow_pos _)
  have hq53 : 2 ^ 53 ≤ k * 2 ^ (52 - k.log2) * 2 ^ 54 / (n * 2 ^ (52 - n.log2)) := by
    rw [Nat.le_div_iff_mul_le (by omega)]
    omega
  generalize k * 2 ^ (52 - k.log2) * 2 ^ 54 / (n * 2 ^ (52 - n.log2)) = q at *
  have hs : (decide (k * 2 ^ (52 - k.log2) * 2 ^ 54 % (n * 2 ^ (52 - n.log2)) ≠ 0)).toNat ≤ 1 := Bool.toNat_le _
  generalize (decide (k * 2 ^ (52 - k.log2) * 2 ^ 54 % (n * 2 ^ (52 - n.log2)) ≠ 0)).toNat = s at *
  refine near_lt _ _ (by omega) (by omega) ?_
  have hT : 2 ^ 54 ≤ 2 ^ (54 + e) := Nat.pow_le_pow_right (by decide) (by omega)
  have h2T : 2 ^ (55 + e) = 2 * 2 ^ (54 + e) := by rw [show 55 + e = (54 + e) + 1 by omega, Nat.pow_succ, Nat.mul_comm]
  rw [h2T]
  generalize 2 ^ (54 + e) = T at *
  have h1 : q * n + T ≤ n * T := by
    have : k * T + T ≤ n * T := by
      have := Nat.mul_le_mul_right T (show k + 1 ≤ n from hkn)
      rwa [Nat.add_mul, Nat.one_mul] at this
    omega
  have hqT : q ≤ T := by
    rcases Nat.lt_or_ge T q with h | h
    · have := Nat.mul_le_mul_right n (show T ≤ q by omega)
      rw [Nat.mul_comm T n] at this
      omega
    · exact h
  obtain ⟨d, hd⟩ : ∃ d, T = q + d := ⟨T - q, by omega⟩
  have h2 : T ≤ n * d := by
    rw [hd, Nat.mul_add, Nat.mul_comm q n] at h1
    omega
  have h3 : n * d ≤ 16777216 * d := Nat.mul_le_mul_right d (by omega)
  omega

theorem div_self {k : Nat} (hk : 0 < k) (h52 : k.log2 ≤ 52) : Ieee.double.div (wd k) (wd k) = some 4607182418800017408 := by
  rw [div_wd hk hk h52 h52]
  obtain ⟨s1, s2⟩ := scaled hk rfl h52
  generalize k * 2 ^ (52 - k.log2) = m at *
  rw [Nat.mul_div_cancel_left _ (by omega), Nat.mul_mod_right, show (k.log2 : Int) - k.log2 - 55 = -55 by omega]
  decide

theorem div_zero {n : Nat} (hn : 0 < n) (h52 : n.log2 ≤ 52) : Ieee.double.div 0 (wd n) = some 0 := by
  obtain ⟨t1, t2⟩ := scaled hn rfl h52
  unfold Format.div
  rw [read_wd hn h52, show Ieee.double.read 0 = .number false 0 (-1074) by decide]
  generalize n * 2 ^ (52 - n.log2) = q at *
  rw [quot_num _ _ _ _ _ (by omega)]
  simp [Format.write, Format.nearest, Format.word]

/-- Words from nought to one: how they stand to nought, one and themselves. -/
theorem unit_order {r : Nat} (h : r < 4607182418800017408) : Ieee.double.order r 4607182418800017408 = some .lt ∧ (Ieee.double.order r 0 = some .gt ∨ Ieee.double.order r 0 = some .eq) ∧ Ieee.double.order r r = some .eq := by
  have hone : Ieee.double.read 4607182418800017408 = .number false 4503599627370496 (-52) := by decide
  have hzero : Ieee.double.read 0 = .number false 0 (-1074) := by decide
  have hr : ∃ m e, Ieee.double.read r = .number false m e ∧ ((m < 4503599627370496 ∧ e = -1074) ∨ (m < 9007199254740992 ∧ e ≤ -53)) := by
    unfold Format.read
    simp only [cSgn, cBin, cInf, cLeast]
    rw [Nat.mod_eq_of_lt (show r < 9223372036854775808 by omega), Nat.div_eq_of_lt (show r < 9223372036854775808 by omega)]
    by_cases h1 : r < 4503599627370496
    · rw [if_pos h1]; exact ⟨_, _, rfl, .inl ⟨h1, rfl⟩⟩
    · rw [if_neg h1, if_pos (by omega)]
      exact ⟨4503599627370496 + r % 4503599627370496, -1074 + ((r / 4503599627370496 - 1 : Nat) : Int), rfl, .inr ⟨by omega, by omega⟩⟩
  obtain ⟨m, e, hr, hc⟩ := hr
  unfold Format.order
  rw [hr, hone, hzero]
  unfold Datum.order
  simp only [signed, if_neg (show ¬ (false = true) by decide)]
  refine ⟨?_, ?_, ?_⟩
  · rw [Option.some.injEq, Int.compare_eq_lt]
    have hlt : m <<< (e - min e (-52)).toNat < 4503599627370496 <<< ((-52) - min e (-52)).toNat := by
      rw [show (e - min e (-52)).toNat = 0 by omega, Nat.shiftLeft_zero, Nat.shiftLeft_eq]
      rcases hc with ⟨c1, c2⟩ | ⟨c1, c2⟩
      · have := Nat.one_le_two_pow (n := (-52 - min e (-52)).toNat)
        have := Nat.mul_le_mul_left 4503599627370496 this
        omega
      · have hp : 2 ^ 1 ≤ 2 ^ (-52 - min e (-52)).toNat := Nat.pow_le_pow_right (by decide) (by omega)
        have := Nat.mul_le_mul_left 4503599627370496 hp
        omega
    exact Int.ofNat_lt.2 hlt
  · rw [Nat.zero_shiftLeft, Option.some.injEq, Option.some.injEq, Int.compare_eq_gt, Int.compare_eq_eq]
    generalize m <<< (e - min e (-1074)).toNat = z
    omega
  · rw [Option.some.injEq, Int.compare_eq_eq]

end ScoreR
end Go.Proofs.YtlnifigbnpdemaaDoor
