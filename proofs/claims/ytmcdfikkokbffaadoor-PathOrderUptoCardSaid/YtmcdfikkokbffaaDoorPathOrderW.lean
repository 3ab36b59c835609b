/- The walk of the law PathOrder. -/
import Derived.Test.YtmcdfikkokbffaaDoorPathMore
import Derived.Test.YtmcdfikkokbffaaDoorPathOrd
namespace Go.Proofs.YtmcdfikkokbffaaDoor
open Go Go.RowKit

theorem sl_new (w : World) (xs : List Value) (t : TypeId) : Sl (w.alloc (.cells xs.toArray t)) (some ⟨w.heap.size, 0, none⟩) xs :=
  .inr ⟨_, _, rfl, by simp, fun i u hu => by rw [World.cell?_alloc_at _ _ _ _ rfl]; simpa using hu⟩

set_option maxRecDepth 100000 in
set_option maxHeartbeats 1000000 in
theorem order_c (a b c : ByteArray) (w : World) (hg : Gl w) (ha : a.size ≤ 10000000) (hb : b.size ≤ 10000000) (hc : c.size ≤ 10000000) :
    Calls Tryd.prog 3 #[.string a, .string b, .string c] w fun e w' => e = .returned (.bool true) ∧ Below w.heap.size w w' := by
  go_enter Tryd.func3, Tryd.ntmps3
  go_wp2_with fail
  refine (awake_c w hg).mono ?_
  rintro e w1 ⟨rfl, b1⟩
  have g1 := hg.below b1 (Nat.le_refl _)
  go_wp2_with fail
  refine (valid_c _ 3 [a, b, c] _ (g1.below ((Below.refl _ _).alloc (Nat.le_refl _) _) (Nat.le_refl _)) (sl_new w1 [.string a, .string b, .string c] 9) (by simp) ?_).mono ?_
  · intro s hs; simp at hs; rcases hs with rfl | rfl | rfl <;> assumption
  rintro e w2 ⟨v, rfl, hown, b2⟩
  obtain ⟨av, cv, rfl, -, -, -⟩ := own_sl hown
  clear hown
  generalize ([a, b, c].filter (fun s => PathS.check s == 0)).length = n at *
  have b12 : Below w.heap.size w w2 := (b1.alloc b1.size _).trans (b2.mono (by simp; have := b1.size; omega))
  have g2 := hg.below b12 (Nat.le_refl _)
  by_cases hn : n = 3
  · subst hn
    go_wp2_with fail
    refine (cmp_c a b w2 g2 ha hb).mono ?_
    rintro e w3 ⟨rfl, b3⟩
    have b13 := b12.trans (b3.mono b12.size)
    have g3 := hg.below b13 (Nat.le_refl _)
    go_wp2_with fail
    refine (cmp_c b c w3 g3 hb hc).mono ?_
    rintro e w4 ⟨rfl, b4⟩
    have b14 := b13.trans (b4.mono b13.size)
    have g4 := hg.below b14 (Nat.le_refl _)
    go_wp2_with fail
    refine (cmp_c a c w4 g4 ha hc).mono ?_
    rintro e w5 ⟨rfl, b5⟩
    have b15 := b14.trans (b5.mono b14.size)
    have g5 := hg.below b15 (Nat.le_refl _)
    go_wp2_with fail
    refine (cmp_c b a w5 g5 hb ha).mono ?_
    rw [PathS.cmp_tw.anti a b]
    rintro e w6 ⟨rfl, b6⟩
    have b16 := b15.trans (b6.mono b15.size)
    have g6 := hg.below b16 (Nat.le_refl _)
    clear b1 b2 b3 b4 b5 b6 b12 b13 b14 b15 g1 g2 g3 g4 g5
    have e0 : (a.toList == b.toList) = decide (PathS.cmp a b = 0) := by
      rw [Bool.eq_iff_iff, decide_eq_true_iff, PathS.cmp_tw.eq0, beq_iff_eq, Lib.toList_data, Lib.toList_data]
      exact ⟨PathS.ba_ext, fun h => by rw [h]⟩
    have hr := PathS.cmp_tw.rng a b
    have hz : PathS.cmp a b ≤ 0 → PathS.cmp b c ≤ 0 → PathS.cmp a c ≤ 0 := PathS.cmp_tw.le a b c
    have hu : PathS.under a b = true → PathS.cmp a b = 1 := PathS.under_cmp
    have hl : PathS.under a b = true → PathS.under c b = false → PathS.cmp b c < 0 → PathS.cmp a c < 0 := PathS.order_last a b c
    generalize hx : PathS.cmp a b = x at *
    generalize hy : PathS.cmp b c = y at *
    generalize hz' : PathS.cmp a c = z at *
    have HZ := Lib.hid hz'
    clear hx hy hz'
    by_cases h1 : x = 1
    · subst h1
      have e0 : (a.toList == b.toList) = false := e0
      cases hu1 : PathS.under a b
      · clear hl hz hu hr
        have HU := Lib.hid hu1; clear hu1
        go_wp2_with (go_at_call 12; refine (under_c a b _ (by omega)).mono ?_; rw [HU.out]; rintro e w7 ⟨rfl, rfl⟩)
        go_ret
        exact ⟨rfl, b16⟩
      · have HU := Lib.hid hu1
        cases hu2 : PathS.under c b
        · have HV := Lib.hid hu2
          have HL : Hid (y < 0 → z < 0) := fun h => hl hu1 hu2 h
          clear hl hz hu hr hu1 hu2
          by_cases hy0 : y < 0
          · have hz0 := HL.out hy0
            have d1 : decide (0 ≤ y) = false := by simp; omega
            have d2 : decide (z < 0) = true := by simpa using hz0
            go_wp2_with fail
            refine (under_c a b _ (by omega)).mono ?_; rw [HU.out]; rintro e w7 ⟨rfl, rfl⟩
            go_wp2_with fail
            refine (under_c a b _ (by omega)).mono ?_; rw [HU.out]; rintro e w8 ⟨rfl, rfl⟩
            go_wp2_with fail
            refine (under_c c b _ (by omega)).mono ?_; rw [HV.out]; rintro e w9 ⟨rfl, rfl⟩
            go_wp2_with fail
            refine (cmp_c a c w6 g6 ha hc).mono ?_
            rw [HZ.out]
            rintro e w10 ⟨rfl, b10⟩
            go_wp2_with fail
            go_ret
            exact ⟨rfl, b16.trans (b10.mono b16.size)⟩
          · have d1 : decide (0 ≤ y) = true := by simp; omega
            go_wp2_with fail
            refine (under_c a b _ (by omega)).mono ?_; rw [HU.out]; rintro e w7 ⟨rfl, rfl⟩
            go_wp2_with fail
            refine (under_c a b _ (by omega)).mono ?_; rw [HU.out]; rintro e w8 ⟨rfl, rfl⟩
            go_wp2_with fail
            refine (under_c c b _ (by omega)).mono ?_; rw [HV.out]; rintro e w9 ⟨rfl, rfl⟩
            go_wp2_with fail
            go_ret
            exact ⟨rfl, b16⟩
        · have HV := Lib.hid hu2
          clear hl hz hu hr hu1 hu2
          go_wp2_with fail
          refine (under_c a b _ (by omega)).mono ?_; rw [HU.out]; rintro e w7 ⟨rfl, rfl⟩
          go_wp2_with fail
          refine (under_c a b _ (by omega)).mono ?_; rw [HU.out]; rintro e w8 ⟨rfl, rfl⟩
          go_wp2_with fail
          refine (under_c c b _ (by omega)).mono ?_; rw [HV.out]; rintro e w9 ⟨rfl, rfl⟩
          go_wp2_with fail
          go_ret
          exact ⟨rfl, b16⟩
    · have hu1 : PathS.under a b = false := by
        cases h : PathS.under a b
        · rfl
        · exact absurd (hu h) h1
      have HU := Lib.hid hu1
      have hx0 : x ≤ 0 := by omega
      have hz2 : y ≤ 0 → z ≤ 0 := hz hx0
      clear hl hz hu hu1
      have HA : (x = -1 ∧ (a.toList == b.toList) = false) ∨ (x = 0 ∧ (a.toList == b.toList) = true) := by
        rcases hr with h | h | h
        · exact .inl ⟨h, by rw [e0, h]; rfl⟩
        · exact .inr ⟨h, by rw [e0, h]; rfl⟩
        · exact absurd h h1
      clear e0 hr h1 hx0
      have HY : (decide (y ≤ 0) = true ∧ decide (0 < z) = false) ∨ decide (y ≤ 0) = false := by
        by_cases h : y ≤ 0
        · have := hz2 h
          exact .inl ⟨by simpa using h, by simp; omega⟩
        · exact .inr (by simp; omega)
      clear hz2
      rcases HA with ⟨rfl, e0⟩ | ⟨rfl, e0⟩
      all_goals
        rcases HY with ⟨d1, d2⟩ | d1
        all_goals
          go_wp2_with fail
          refine (under_c a b _ (by omega)).mono ?_; rw [HU.out]; rintro e w7 ⟨rfl, rfl⟩
          go_wp2_with fail
          refine (under_c a b _ (by omega)).mono ?_; rw [HU.out]; rintro e w8 ⟨rfl, rfl⟩
          go_wp2_with fail
          go_ret
          exact ⟨rfl, b16⟩
  · have g2 : ((n : Int) != 3) = true := by rw [bne_iff_ne]; omega
    go_wp2_with fail
    go_ret
    exact ⟨rfl, b12⟩
end Go.Proofs.YtmcdfikkokbffaaDoor
