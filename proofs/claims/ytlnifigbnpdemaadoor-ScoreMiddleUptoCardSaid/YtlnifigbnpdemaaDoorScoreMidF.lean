/- Whole numbers as words: their sums are exact. No program in sight. -/
import Derived.Test.YtlnifigbnpdemaaDoorScoreR
import Derived.Test.YtlnifigbnpdemaaDoorScoreTot
namespace Go.Proofs.YtlnifigbnpdemaaDoor
namespace ScoreR
open Go Ieee

theorem cut_exact (neg : Bool) {n d : Nat} (hn : 0 < n) : Toward.even.cut neg (n * 2 ^ d) d = n := by
  have hp : 0 < 2 ^ d := Nat.two_pow_pos d
  have hpos : n * 2 ^ d ≠ 0 := Nat.ne_of_gt (Nat.mul_pos hn hp)
  have hd : d ≤ (n * 2 ^ d).log2 + 2 := by
    have h1 : 2 ^ d ≤ n * 2 ^ d := Nat.le_mul_of_pos_left _ hn
    have := (Nat.le_log2 hpos).2 h1
    omega
  unfold Toward.cut
  rw [Nat.min_eq_left hd, Nat.one_shiftLeft]
  simp only
  rw [Nat.mul_div_cancel _ hp, Nat.mul_mod_left]
  simp

theorem log2_mul {m s : Nat} (hm : 0 < m) : (m * 2 ^ s).log2 = m.log2 + s := by
  obtain ⟨h1, h2⟩ := log2_bounds hm rfl
  have hp : 0 < 2 ^ s := Nat.two_pow_pos s
  refine (Nat.log2_eq_iff (Nat.ne_of_gt (Nat.mul_pos hm hp))).2 ⟨?_, ?_⟩
  · rw [Nat.pow_add]; exact Nat.mul_le_mul_right _ h1
  · rw [show m.log2 + s + 1 = m.log2 + 1 + s by omega, Nat.pow_add]; exact Nat.mul_lt_mul_of_pos_right h2 hp

theorem log2_le52 {m : Nat} (hm : 0 < m) (h : m < 9007199254740992) : m.log2 ≤ 52 := by
  have : m.log2 < 53 := (Nat.log2_lt (by omega)).2 h
  omega

theorem near_scale (neg : Bool) (m s : Nat) (hm : m < 9007199254740992) (_hs : s ≤ 1074) : Ieee.double.nearest neg (m * 2 ^ s) (-(s : Int)) = Ieee.double.nearest neg m 0 := by
  by_cases h0 : m = 0
  · subst h0; simp [Format.nearest]
  · have hpos : 0 < m := by omega
    have hl := log2_le52 hpos hm
    have hp : 0 < 2 ^ s := Nat.two_pow_pos s
    unfold Format.nearest
    rw [if_neg (Nat.ne_of_gt (Nat.mul_pos hpos hp)), if_neg h0, log2_mul hpos, cFrac, cLeast, cBin, cInf]
    have e1 : max (-(s : Int) + ((m.log2 + s : Nat) : Int) - ((52 : Nat) : Int)) (-1074) = (m.log2 : Int) - 52 := by omega
    have e2 : max (0 + (m.log2 : Int) - ((52 : Nat) : Int)) (-1074) = (m.log2 : Int) - 52 := by omega
    simp only [e1, e2]
    rw [show ((0 : Int) - ((m.log2 : Int) - 52)).toNat = 52 - m.log2 by omega, show ((m.log2 : Int) - 52 - 0).toNat = 0 by omega]
    have k2 : Toward.even.cut neg (m <<< (52 - m.log2)) 0 = m * 2 ^ (52 - m.log2) := by
      have := cut_exact neg (n := m * 2 ^ (52 - m.log2)) (d := 0) (Nat.mul_pos hpos (Nat.two_pow_pos _))
      rw [Nat.pow_zero, Nat.mul_one] at this
      rw [Nat.shiftLeft_eq]; exact this
    have k1 : Toward.even.cut neg ((m * 2 ^ s) <<< (-(s : Int) - ((m.log2 : Int) - 52)).toNat) ((m.log2 : Int) - 52 - -(s : Int)).toNat = m * 2 ^ (52 - m.log2) := by
      rcases Nat.le_total s (52 - m.log2) with h | h
      · rw [show (-(s : Int) - ((m.log2 : Int) - 52)).toNat = 52 - m.log2 - s by omega, show ((m.log2 : Int) - 52 - -(s : Int)).toNat = 0 by omega, Nat.shiftLeft_eq, Nat.mul_assoc, ← Nat.pow_add, show s + (52 - m.log2 - s) = 52 - m.log2 by omega]
        have := cut_exact neg (n := m * 2 ^ (52 - m.log2)) (d := 0) (Nat.mul_pos hpos (Nat.two_pow_pos _))
        rwa [Nat.pow_zero, Nat.mul_one] at this
      · rw [show (-(s : Int) - ((m.log2 : Int) - 52)).toNat = 0 by omega, show ((m.log2 : Int) - 52 - -(s : Int)).toNat = s - (52 - m.log2) by omega, Nat.shiftLeft_zero]
        have := cut_exact neg (n := m * 2 ^ (52 - m.log2)) (d := s - (52 - m.log2)) (Nat.mul_pos hpos (Nat.two_pow_pos _))
        rwa [Nat.mul_assoc, ← Nat.pow_add, show 52 - m.log2 + (s - (52 - m.log2)) = s by omega] at this
    rw [k1, k2]

/-- A whole number's word, with its sign. -/
def zd (n : Int) : Nat := floatOfInt .f64 n

theorem zd_near (n : Int) : zd n = Ieee.double.nearest (decide (n < 0)) n.natAbs 0 := rfl

theorem zd_zero : zd 0 = 0 := by decide

theorem near_wd (neg : Bool) {k : Nat} (hk : 0 < k) (h52 : k.log2 ≤ 52) : Ieee.double.nearest neg k 0 = Ieee.double.word neg (wd k) := by
  obtain ⟨s1, s2⟩ := scaled hk rfl h52
  unfold Format.nearest
  rw [if_neg (by omega), cFrac, cLeast, cBin, cInf]
  have e : max (0 + (k.log2 : Int) - ((52 : Nat) : Int)) (-1074) = (k.log2 : Int) - 52 := by omega
  simp only [e]
  have hc := cut_exact neg (n := k * 2 ^ (52 - k.log2)) (d := 0) (by omega)
  rw [Nat.pow_zero, Nat.mul_one] at hc
  rw [show ((0 : Int) - ((k.log2 : Int) - 52)).toNat = 52 - k.log2 by omega, show ((k.log2 : Int) - 52 - 0).toNat = 0 by omega, Nat.shiftLeft_eq, hc, show ((k.log2 : Int) - 52 - -1074).toNat = 1022 + k.log2 by omega]
  congr 1
  rw [wd, Nat.min_eq_left]
  omega

theorem wd_lt {k : Nat} (hk : 0 < k) (h52 : k.log2 ≤ 52) : wd k < 9218868437227405312 := by
  obtain ⟨s1, s2⟩ := scaled hk rfl h52
  unfold wd
  generalize k * 2 ^ (52 - k.log2) = m at *
  omega

theorem read_word (neg : Bool) {r : Nat} (hr : r < 9218868437227405312) {m : Nat} {e : Int} (h : Ieee.double.read r = .number false m e) : Ieee.double.read (Ieee.double.word neg r) = .number neg m e := by
  cases neg
  · rw [Format.word, if_neg (by decide)]; exact h
  · rw [Format.word, if_pos rfl, cSgn]
    unfold Format.read at h ⊢
    simp only [cSgn, cBin, cInf, cLeast] at h ⊢
    have e1 : (9223372036854775808 + r) % 9223372036854775808 = r := by omega
    have e2 : r % 9223372036854775808 = r := by omega
    have e3 : ((9223372036854775808 + r) / 9223372036854775808 % 2 == 1) = true := by
      rw [show (9223372036854775808 + r) / 9223372036854775808 = 1 by omega]; rfl
    rw [e1, e3]
    rw [e2] at h
    split
    · rename_i h1; rw [if_pos h1] at h; injection h with _ h2 h3; rw [h2, h3]
    · rename_i h1
      rw [if_neg h1, if_pos hr] at h
      (try rw [if_pos hr])
      injection h with _ h2 h3; rw [h2, h3]

theorem read_zd (n : Int) (h : n.natAbs < 9007199254740992) : ∃ s : Nat, s ≤ 1074 ∧ Ieee.double.read (zd n) = .number (decide (n < 0)) (n.natAbs * 2 ^ s) (-(s : Int)) := by
  by_cases h0 : n = 0
  · subst h0
    obtain ⟨s, hs⟩ : ∃ s : Nat, s = 1074 := ⟨_, rfl⟩
    have h0 : Ieee.double.read 0 = .number false 0 (-1074) := by decide
    refine ⟨s, by omega, ?_⟩
    rw [zd_zero, h0, show Int.natAbs 0 = 0 from rfl, Nat.zero_mul, hs]
    rfl
  · have hk : 0 < n.natAbs := by omega
    have hl := log2_le52 hk h
    refine ⟨52 - n.natAbs.log2, by omega, ?_⟩
    rw [zd_near, near_wd _ hk hl, read_word _ (wd_lt hk hl) (read_wd hk hl)]
    congr 1
    omega

theorem signed_eq (n : Int) (s up : Nat) : signed (decide (n < 0)) (n.natAbs * 2 ^ s) up = n * ((2 ^ (s + up) : Nat) : Int) := by
  unfold signed
  rw [Nat.shiftLeft_eq, Nat.mul_assoc, ← Nat.pow_add]
  by_cases h : n < 0
  · rw [decide_eq_true h, if_pos rfl, Int.natCast_mul, ← Int.neg_mul]
    congr 1; omega
  · rw [decide_eq_false h, if_neg (by decide), Int.natCast_mul]
    congr 1; omega

theorem add_zd (a b : Int) (ha : a.natAbs < 9007199254740992) (hb : b.natAbs < 9007199254740992) (hab : (a + b).natAbs < 9007199254740992) : Ieee.double.add (zd a) (zd b) = some (zd (a + b)) := by
  obtain ⟨s, hs, hra⟩ := read_zd a ha
  obtain ⟨t, ht, hrb⟩ := read_zd b hb
  unfold Format.add
  rw [hra, hrb]
  unfold Datum.sum
  simp only [Option.map_some, Format.write]
  rw [signed_eq, signed_eq]
  obtain ⟨mx, hmx⟩ : ∃ mx : Nat, mx = max s t := ⟨_, rfl⟩
  have eb : min (-(s : Int)) (-(t : Int)) = -(mx : Int) := by omega
  rw [eb, show s + (-(s : Int) - -(mx : Int)).toNat = mx by omega, show t + (-(t : Int) - -(mx : Int)).toNat = mx by omega, ← Int.add_mul]
  have hp : (0 : Int) < ((2 ^ mx : Nat) : Int) := Int.natCast_pos.2 (Nat.two_pow_pos mx)
  have eabs : ((a + b) * ((2 ^ mx : Nat) : Int)).natAbs = (a + b).natAbs * 2 ^ mx := by rw [Int.natAbs_mul, Int.natAbs_natCast]
  rw [eabs, near_scale _ _ _ hab (by omega), zd_near]
  congr 2
  by_cases h0 : a + b = 0
  · rw [h0, Int.zero_mul, if_pos rfl]
    by_cases h1 : a < 0
    · rw [decide_eq_false (show ¬ b < 0 by omega)]; simp
    · rw [decide_eq_false h1]; simp
  · have hne : ¬ (a + b) * ((2 ^ mx : Nat) : Int) = 0 := by
      intro e
      rcases Int.mul_eq_zero.1 e with e | e
      · exact h0 e
      · omega
    rw [if_neg hne, decide_eq_decide]
    constructor
    · intro h
      by_cases h2 : a + b < 0
      · exact h2
      · have := Int.mul_nonneg (Int.not_lt.1 h2) (Int.le_of_lt hp); omega
    · intro h
      exact Int.mul_neg_of_neg_of_pos h hp

theorem order_zd (n : Int) (h : n.natAbs < 9007199254740992) : Ieee.double.order (zd n) (zd n) = some .eq := by
  obtain ⟨s, hs, hr⟩ := read_zd n h
  unfold Format.order
  rw [hr]
  unfold Datum.order
  simp only
  rw [Option.some.injEq, Int.compare_eq_eq]
end ScoreR

open ScoreR in
theorem nan_zd (n : Int) (h : n.natAbs < 9007199254740992) : nanB (zd n) = false := by
  show (Ieee.double.order (zd n) (zd n) != some .eq) = false
  rw [order_zd n h]; rfl

open ScoreR in
theorem cn_zd (n : Int) (h : n.natAbs < 9007199254740992) : cn (zd n) = zd n := by
  rw [cn, if_neg (by rw [nan_zd n h]; decide)]

open ScoreR in
theorem totF_zd : ∀ (l : List Int) (s : Int) (o : Nat), (∀ x ∈ l, x.natAbs ≤ 32768) → s.natAbs + 32768 * l.length < 9007199254740992 → totF (zd s) o (l.map zd) = some (zd (s + l.sum), o)
  | [], s, o, _, _ => by simp [totF]
  | x :: l, s, o, h, hb => by
    have hx := h x (by simp)
    rw [List.length_cons] at hb
    rw [List.map_cons, totF, nan_zd x (by omega), if_neg (by decide)]
    have ha : FloatKind.f64.format.add (zd s) (zd x) = some (zd (s + x)) := add_zd s x (by omega) (by omega) (by omega)
    rw [ha]
    simp only
    rw [totF_zd l (s + x) o (fun y hy => h y (by simp [hy])) (by omega), List.sum_cons, Int.add_assoc]
end Go.Proofs.YtlnifigbnpdemaaDoor
