/- The walk of the law ScoreRange. -/
import Derived.Test.YtlnifigbnpdemaaDoorScoreR
import Derived.Test.YtlnifigbnpdemaaDoorScoreAw
namespace Go.Proofs.YtlnifigbnpdemaaDoor
open Go Go.RowKit Go.Sort

theorem alw_symm (a b : List ByteArray) : alw a b = alw b a := by
  unfold alw
  rw [ScoreS.P_length, ScoreS.P_length, ScoreS.L_symm a b, Int.add_comm]

theorem log2_small {k : Nat} (h : k < 16777216) : k.log2 ≤ 52 := by
  rcases Nat.eq_zero_or_pos k with e | e
  · subst e; decide
  · obtain ⟨a1, a2⟩ := ScoreR.log2_bounds e rfl
    rcases Nat.lt_or_ge k.log2 53 with h' | h'
    · omega
    · have := Nat.pow_le_pow_right (show 0 < 2 by decide) h'
      omega

theorem rt_of_div {x y r : Nat} (h : Ieee.double.div x y = some r) (hn : nanB r = false) : rt x y = r := by
  have h' : FloatKind.f64.format.div x y = some r := h
  unfold rt
  rw [h']
  show cn r = r
  rw [cn, if_neg (by rw [hn]; decide)]

theorem nan_lt {r : Nat} (h : r < 4607182418800017408) : nanB r = false := by
  have := (ScoreR.unit_order h).2.2
  show (Ieee.double.order r r != some .eq) = false
  rw [this]; rfl

theorem alw_none : alw [] [] = 9221120237041090560 := aw0

/-- Of lists that aren't both empty: one if they are the same, less if not. -/
theorem alw_range (a b : List ByteArray) (hn : 0 < a.length + b.length) (hb : a.length + b.length < 16777216) :
    (a = b ∧ alw a b = 4607182418800017408) ∨ (a ≠ b ∧ alw a b < 4607182418800017408) := by
  have h2 := ScoreS.L_twice a b
  have hi := ScoreS.L_twice_iff a b
  have e : alw a b = rt (floatOfInt .f64 ((2 * ScoreS.L a b : Nat) : Int)) (floatOfInt .f64 ((a.length + b.length : Nat) : Int)) := by
    unfold alw
    rw [ScoreS.P_length]
    congr 1
  rw [e, ScoreR.fi_eq hn (log2_small hb)]
  by_cases heq : 2 * ScoreS.L a b = a.length + b.length
  · left
    refine ⟨hi.1 heq, ?_⟩
    rw [heq, ScoreR.fi_eq hn (log2_small hb)]
    exact rt_of_div (ScoreR.div_self hn (log2_small hb)) (by decide)
  · right
    refine ⟨fun h => heq (hi.2 h), ?_⟩
    rcases Nat.eq_zero_or_pos (2 * ScoreS.L a b) with h0 | h0
    · rw [h0, show floatOfInt .f64 ((0 : Nat) : Int) = 0 by decide, rt_of_div (ScoreR.div_zero hn (log2_small hb)) (by decide)]
      decide
    · rw [ScoreR.fi_eq h0 (log2_small (by omega))]
      obtain ⟨r, hr, hlt⟩ := ScoreR.div_lt h0 (show 2 * ScoreS.L a b < a.length + b.length by omega) hb
      rw [rt_of_div hr (nan_lt hlt)]
      exact hlt

set_option maxRecDepth 100000 in
theorem signbit_c (x : Nat) (w : World) (hx : x < 9223372036854775808) : Calls Tryd.prog 17 #[.float .f64 x] w fun e w' => e = .returned (.bool false) ∧ w' = w := by
  have hr := run_bits x
  have hw : IntKind.i64.wrap (x : Int) = x := IntWalk.i64_in _ (by omega)
  have h0 : ¬ (x : Int) < 0 := by omega
  clear hx
  go_enter Tryd.func17, Tryd.ntmps17
  go_wp2_with fail
  go_ret
  exact ⟨rfl, rfl⟩

/-- Are the first k the same, and the lengths? -/
def sameTo (a b : List ByteArray) (k : Nat) : Bool := decide (a.length = b.length ∧ a.take k = b.take k)

theorem sameTo_end (a b : List ByteArray) : sameTo a b a.length = decide (a = b) := by
  unfold sameTo
  rw [decide_eq_decide]
  constructor
  · rintro ⟨h1, h2⟩
    rw [List.take_length, h1, List.take_length] at h2
    exact h2
  · intro h; subst h; exact ⟨rfl, rfl⟩

theorem sameTo_step (a b : List ByteArray) (k : Nat) (ha : k < a.length) (hb : k < b.length) : sameTo a b (k + 1) = (sameTo a b k && decide (a[k] = b[k])) := by
  unfold sameTo
  rw [List.take_succ_eq_append_getElem ha, List.take_succ_eq_append_getElem hb, Bool.eq_iff_iff, Bool.and_eq_true, decide_eq_true_eq, decide_eq_true_eq, decide_eq_true_eq]
  constructor
  · rintro ⟨h1, h2⟩
    have h3 := List.append_inj h2 (by simp; omega)
    exact ⟨⟨h1, h3.1⟩, by simpa using h3.2⟩
  · rintro ⟨⟨h1, h2⟩, h3⟩
    exact ⟨h1, by rw [h2, h3]⟩

theorem sameTo_false (a b : List ByteArray) (k : Nat) (h : sameTo a b k = false) : sameTo a b (k + 1) = false := by
  unfold sameTo at *
  rw [decide_eq_false_iff_not] at *
  rintro ⟨h1, h2⟩
  refine h ⟨h1, ?_⟩
  have := congrArg (List.take k) h2
  rwa [List.take_take, List.take_take, Nat.min_eq_left (by omega)] at this

set_option maxRecDepth 100000 in
set_option maxHeartbeats 4000000 in
theorem lawRange_c (aa ab : Option Addr) (ca cb : Nat) (a b : List ByteArray) (w : World) (hg : Gl w) (ha : Sl w aa (a.map Value.string)) (hb : Sl w ab (b.map Value.string)) (hla : a.length ≤ 4194304) (hlb : b.length ≤ 4194304) :
    Calls Tryd.prog 6 #[.slice aa a.length ca, .slice ab b.length cb] w fun e w' => e = .returned (.bool true) ∧ RowKit.Below w.heap.size w w' := by
  go_enter Tryd.func6, Tryd.ntmps6
  go_wp2_with fail
  refine (awake_c w hg).mono ?_
  rintro e w1 ⟨rfl, b1⟩
  go_wp2_with fail
  have H1 := alike_c aa ab ca cb a b w1 (ha.below b1) (hb.below b1) (by omega) (by omega)
  by_cases hw : a.length * b.length ≤ 1048576
  · rw [if_pos hw] at H1
    refine H1.mono ?_
    rintro e w2 ⟨rfl, b2⟩
    have b12 := b1.trans (b2.mono b1.size)
    have H2 := alike_c ab aa cb ca b a w2 (hb.below b12) (ha.below b12) (by omega) (by omega)
    rw [if_pos (by rw [Nat.mul_comm]; exact hw), ← alw_symm a b] at H2
    clear H1 hw
    go_wp2_with fail
    refine H2.mono ?_
    rintro e w3 ⟨rfl, b3⟩
    have b13 := b12.trans (b3.mono b12.size)
    clear H2 b2 b3 b12 b1
    have HS : Hid (sameTo a b 0 = decide (a.length = b.length)) := by show _ = _; simp [sameTo]
    have HEQ : Hid (((a.length : Int) == (b.length : Int)) = decide (a.length = b.length)) := by
      show _ = _; rw [Bool.eq_iff_iff]; simp [Int.ofNat_inj]
    have HE := Lib.hid (sameTo_end a b)
    have HSS := Lib.hid (sameTo_step a b)
    have HSF := Lib.hid (sameTo_false a b)
    have HR := Lib.hid (alw_range a b)
    have HN : Hid (a.length + b.length = 0 → alw a b = 9221120237041090560) := by
      intro h
      rw [List.eq_nil_of_length_eq_zero (show a.length = 0 by omega), List.eq_nil_of_length_eq_zero (show b.length = 0 by omega)]
      exact aw0
    generalize alw a b = r at *
    obtain ⟨s0, hs0⟩ : ∃ s0, s0 = decide (a.length = b.length) := ⟨_, rfl⟩
    have hq : ((a.length : Int) == (b.length : Int)) = s0 := by rw [HEQ.out, hs0]
    rw [← hs0] at HS
    clear HEQ hs0
    go_wp2_with fail
    go_loopw [9, 53] (fun sv iv wr => ∃ k : Nat, k ≤ a.length ∧ iv = .int .i64 k ∧ sv = .bool (sameTo a b k) ∧ RowKit.Below w.heap.size w wr) (fun _ iv _ => a.length - (intOf iv).toNat)
    case atStart => exact ⟨0, by omega, rfl, by rw [HS.out], b13⟩
    case round =>
      clear HS hq b13
      obtain ⟨k, hk, rfl, rfl, hbr⟩ := hrel
      by_cases hlt : k < a.length
      · have hlti : (k : Int) < a.length := by omega
        cases hs : sameTo a b k
        · have HN2 := Lib.hid (HSF.out k hs)
          clear hs
          go_wp2_with fail
          go_quiet (fail)
          go_wp2_with fail
          go_roundw
          case rel => exact ⟨k + 1, by omega, by go_num, by rw [HN2.out], below_dN hbr _⟩
          case measure => simp [intOf]; omega
        · have hll : a.length = b.length := (of_decide_eq_true hs).1
          have hltb : k < b.length := by omega
          obtain ⟨ba, oa, rfl, hal, hac⟩ := ha.at (k := k) (by simpa using hlt)
          obtain ⟨bb, ob, rfl, hbl, hbc⟩ := hb.at (k := k) (by simpa using hltb)
          have hca : wr.cell? ⟨ba, oa + k, none⟩ = some (.string a[k]) := by rw [hbr.cell (p := ⟨ba, oa + k, none⟩) hal, hac k (by simpa using hlt), List.getElem_map]
          have hcb : wr.cell? ⟨bb, ob + k, none⟩ = some (.string b[k]) := by rw [hbr.cell (p := ⟨bb, ob + k, none⟩) hbl, hbc k (by simpa using hltb), List.getElem_map]
          have HN2 := Lib.hid (HSS.out k hlt hltb)
          rw [hs, Bool.true_and] at HN2
          have hkb : (k : Int) < b.length := by omega
          have hk0 : (0 : Int) ≤ k := by omega
          clear hac hbc hs hll
          generalize a[k] = x at *
          generalize b[k] = y at *
          by_cases hxy : x = y
          · have d1 : (x.toList == y.toList) = true := by rw [hxy]; simp
            rw [decide_eq_true hxy] at HN2
            clear hxy
            go_wp2_with fail
            go_quiet (fail)
            go_wp2_with fail
            go_roundw
            case rel => exact ⟨k + 1, by omega, by go_num, by rw [HN2.out], below_dN hbr _⟩
            case measure => simp [intOf]; omega
          · have d1 : (x.toList == y.toList) = false := by
              rw [beq_eq_false_iff_ne, Lib.toList_data, Lib.toList_data]; intro h; exact hxy (ScoreS.ba_ext h)
            rw [decide_eq_false hxy] at HN2
            clear hxy
            go_wp2_with fail
            go_quiet (fail)
            go_wp2_with fail
            go_roundw
            case rel => exact ⟨k + 1, by omega, by go_num, by rw [HN2.out], below_dN hbr _⟩
            case measure => simp [intOf]; omega
      · have hlti : ¬ (k : Int) < a.length := by omega
        rw [show k = a.length by omega, HE.out]
        have hwn : IntKind.i64.wrap ((a.length : Int) + (b.length : Int)) = (a.length : Int) + (b.length : Int) := IntWalk.i64_in _ (by omega)
        by_cases h0 : a.length + b.length = 0
        · have e0 : ((a.length : Int) + (b.length : Int) == 0) = true := by simp; omega
          rw [HN.out h0]
          have q2 : (FloatKind.f64.format.order 9221120237041090560 9221120237041090560 != some .eq) = true := by decide
          clear h0 HN
          generalize decide (a = b) = z
          go_wp2_with fail
          go_ret
          exact ⟨rfl, hbr⟩
        · have e0 : ((a.length : Int) + (b.length : Int) == 0) = false := by simp; omega
          have hr := HR.out (by omega) (by omega)
          have hbits := bitsq_c r r wr
          rw [decide_eq_true rfl] at hbits
          rcases hr with ⟨h1, h2⟩ | ⟨h1, h2⟩
          · rw [decide_eq_true h1]
            subst h2
            have o0 : FloatKind.f64.format.order 4607182418800017408 0 = some .gt := by decide
            have o1 : FloatKind.f64.format.order 4607182418800017408 4607182418800017408 = some .eq := by decide
            clear h0 h1 HR HN HE HSS HSF
            go_wp2_with fail
            refine hbits.mono ?_
            rintro e w4 ⟨rfl, rfl⟩
            go_wp2_with fail
            go_ret
            exact ⟨rfl, hbr⟩
          · rw [decide_eq_false h1]
            obtain ⟨u1, u2, u3⟩ := ScoreR.unit_order h2
            have o1 : FloatKind.f64.format.order r 4607182418800017408 = some .lt := u1
            have HSB := Lib.hid (signbit_c r wr (by omega))
            rcases u2 with u2 | u2
            · have o0 : FloatKind.f64.format.order r 0 = some .gt := u2
              clear h0 h1 h2 HR HN HE HSS HSF u1 u2 u3
              go_wp2_with fail
              refine hbits.mono ?_
              rintro e w4 ⟨rfl, rfl⟩
              go_wp2_with fail
              go_ret
              exact ⟨rfl, hbr⟩
            · have o0 : FloatKind.f64.format.order r 0 = some .eq := u2
              clear h0 h1 h2 HR HN HE HSS HSF u1 u2 u3
              go_wp2_with fail
              refine hbits.mono ?_
              rintro e w4 ⟨rfl, rfl⟩
              go_wp2_with fail
              refine HSB.out.mono ?_
              rintro e w5 ⟨rfl, rfl⟩
              go_wp2_with fail
              go_ret
              exact ⟨rfl, hbr⟩
  · rw [if_neg hw] at H1
    refine H1.mono ?_
    rintro e w2 ⟨rfl, b2⟩
    have b12 := b1.trans (b2.mono b1.size)
    have H2 := alike_c ab aa cb ca b a w2 (hb.below b12) (ha.below b12) (by omega) (by omega)
    rw [if_neg (by rw [Nat.mul_comm]; exact hw)] at H2
    have hmb : a.length * b.length ≤ 4194304 * 4194304 := Nat.mul_le_mul hla hlb
    have hwr : IntKind.i64.wrap ((a.length : Int) * (b.length : Int)) = ((a.length * b.length : Nat) : Int) := by rw [← Int.natCast_mul]; exact IntWalk.i64_in _ (by omega)
    have hgt : (1048576 : Int) < (a.length : Int) * (b.length : Int) := by rw [← Int.natCast_mul]; omega
    have q0 : FloatKind.f64.format.order 0 0 = some .eq := by decide
    clear H1 hw hmb
    go_wp2_with fail
    refine H2.mono ?_
    rintro e w3 ⟨rfl, b3⟩
    have b13 := b12.trans (b3.mono b12.size)
    go_wp2_with fail
    go_ret
    exact ⟨rfl, b13⟩
end Go.Proofs.YtlnifigbnpdemaaDoor
