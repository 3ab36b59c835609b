/- Walks: the reference's pairs of alike places. -/
import Derived.Test.YtlnifigbnpdemaaDoorScoreLong
namespace Go.Proofs.YtlnifigbnpdemaaDoor
open Go Go.RowKit

theorem ScoreS.turn_iff' {a b : List ByteArray} {i k : Nat} (hi : i < a.length) (hk : k < b.length) (h : ¬ a[i] = b[k]) :
    ScoreS.L (a.drop (i + 1)) (b.drop k) = ScoreS.L (a.drop i) (b.drop k) ↔ ScoreS.L (a.drop i) (b.drop (k + 1)) ≤ ScoreS.L (a.drop (i + 1)) (b.drop k) := by
  rw [List.drop_eq_getElem_cons hi, List.drop_eq_getElem_cons hk]
  exact ScoreS.turn_iff h _ _

theorem rpairElem : Elem Tryd.prog 62 85 (.agg #[.int .i64 0, .int .i64 0]) 2 16 := ⟨by kernel_rfl, by kernel_rfl⟩

set_option maxRecDepth 100000 in
theorem ref_pairs_long (aa ab : Option Addr) (ca cb la lb : Nat) (w : World) (hla : la ≤ 10000000) (hlb : lb ≤ 10000000) (hw : 1048576 < la * lb) :
    Calls Tryd.prog 23 #[.slice aa la ca, .slice ab lb cb] w fun e w' => e = .returned (.tuple #[.slice none 0 0, .int .i64 2]) ∧ w' = w := by
  have hb : la * lb ≤ 10000000 * 10000000 := Nat.mul_le_mul hla hlb
  have hwr : IntKind.i64.wrap ((la : Int) * (lb : Int)) = ((la * lb : Nat) : Int) := by rw [← Int.natCast_mul]; exact IntWalk.i64_in _ (by omega)
  have hw1 : (1048576 : Int) < (la : Int) * (lb : Int) := by rw [← Int.natCast_mul]; omega
  go_enter Tryd.func23, Tryd.ntmps23
  go_wp2_with fail
  go_ret2
  exact ⟨rfl, rfl⟩

set_option maxRecDepth 100000 in
set_option maxHeartbeats 2000000 in
theorem ref_pairs_c (aa ab : Option Addr) (ca cb : Nat) (a b : List ByteArray) (w : World) (ha : Sl w aa (a.map Value.string)) (hb : Sl w ab (b.map Value.string)) (hla : a.length ≤ 10000000) (hlb : b.length ≤ 10000000) (hw : a.length * b.length ≤ 1048576) :
    Calls Tryd.prog 23 #[.slice aa a.length ca, .slice ab b.length cb] w fun e w' => ∃ v, e = .returned (.tuple #[v, .int .i64 0]) ∧
      w'.ownsRow w.heap.size 85 2 v (ScoreS.P 0 0 a b).length (prow (ScoreS.P 0 0 a b)) ∧ Below w.heap.size w w' := by
  have hN : (a.length + 1) * (b.length + 1) ≤ 100000000 := by rw [Nat.add_mul, Nat.mul_add]; omega
  have hwr : IntKind.i64.wrap ((a.length : Int) * (b.length : Int)) = ((a.length * b.length : Nat) : Int) := by rw [← Int.natCast_mul]; exact IntWalk.i64_in _ (by omega)
  have hw1 : ¬ (1048576 : Int) < (a.length : Int) * (b.length : Int) := by rw [← Int.natCast_mul]; omega
  clear hN
  go_enter Tryd.func23, Tryd.ntmps23
  go_wp2_with fail
  refine (long_c aa ab ca cb a b w ha hb hla hlb).mono ?_
  rintro e w2 ⟨o, r, f, rfl, hT, HD, hol, hb2⟩
  clear hwr hw1 hw
  go_wp2_with fail
  have HC : Hid (∀ i, i ≤ a.length → w2.cell? ⟨o, i, none⟩ = some (.slice (some ⟨r i, 0, none⟩) (b.length + 1) (b.length + 1)) ∧ r i < w2.heap.size) := fun i hi => ⟨hT.cell i (by omega) hi, (hT.rows i (by omega) hi).2.2⟩
  have HR : Hid (∀ i k, i ≤ a.length → k ≤ b.length → w2.cell? ⟨r i, k, none⟩ = some (.int .i64 (f (i * (b.length + 1) + k)))) := fun i k hi hk => hT.num i k (by omega) hi (by omega)
  have HDD := Lib.hid HD
  have HS : Hid (ScoreS.P 0 0 a b = [] ++ ScoreS.P 0 0 (a.drop 0) (b.drop 0)) := by show _ = _; simp
  clear hT HD
  go_loopw [7, 8, 9] (fun v iv kv wr => ∃ (i k : Nat) (xs : List (Nat × Nat)), i ≤ a.length ∧ k ≤ b.length ∧ iv = .int .i64 i ∧ kv = .int .i64 k ∧ wr.ownsRow w2.heap.size 85 2 v xs.length (prow xs) ∧ Hid (ScoreS.P 0 0 a b = xs ++ ScoreS.P i k (a.drop i) (b.drop k)) ∧ xs.length ≤ i ∧ Below w2.heap.size w2 wr) (fun _ iv kv _ => (a.length - (intOf iv).toNat) + (b.length - (intOf kv).toNat))
  case atStart => exact ⟨0, 0, [], by omega, by omega, rfl, rfl, World.ownsRow_nil _ _ _ _, HS, Nat.zero_le _, Below.refl _ _⟩
  case round =>
    clear HS
    obtain ⟨i, k, xs, hi, hk, rfl, rfl, hown, HP, hxl, hbr⟩ := hrel
    have hbw : Below w.heap.size w wr := hb2.trans (hbr.mono hb2.size)
    by_cases hi1 : i < a.length
    · by_cases hk1 : k < b.length
      · obtain ⟨ba, oa, rfl, hal, hac⟩ := ha.at (k := i) (by simpa using hi1)
        obtain ⟨bb, ob, rfl, hbl, hbc⟩ := hb.at (k := k) (by simpa using hk1)
        have hca : wr.cell? ⟨ba, oa + i, none⟩ = some (.string a[i]) := by rw [hbw.cell (p := ⟨ba, oa + i, none⟩) hal, hac i (by simpa using hi1), List.getElem_map]
        have hcb : wr.cell? ⟨bb, ob + k, none⟩ = some (.string b[k]) := by rw [hbw.cell (p := ⟨bb, ob + k, none⟩) hbl, hbc k (by simpa using hk1), List.getElem_map]
        clear hac hbc
        have HPA := Lib.hid (ScoreS.P_at (i := i) (k := k) hi1 hk1)
        have e1 := HDD.out (i + 1) k (by omega) (by omega) (.inl (by omega))
        have e2 := HDD.out i k (by omega) (by omega) (by omega)
        have HTU := Lib.hid (ScoreS.turn_iff' (i := i) (k := k) hi1 hk1)
        rw [← e1] at HPA HTU
        rw [← e2] at HTU
        obtain ⟨hc1, hr1⟩ := HC.out (i + 1) (by omega)
        obtain ⟨hc2, hr2⟩ := HC.out i (by omega)
        have hx1 := HR.out (i + 1) k (by omega) (by omega)
        have hx2 := HR.out i k (by omega) (by omega)
        rw [← hbr.cell (p := ⟨o, _, none⟩) hol] at hc1 hc2
        rw [← hbr.cell (p := ⟨r (i + 1), _, none⟩) hr1] at hx1
        rw [← hbr.cell (p := ⟨r i, _, none⟩) hr2] at hx2
        clear e1 e2
        generalize f ((i + 1) * (b.length + 1) + k) = x1 at *
        generalize f (i * (b.length + 1) + k) = x2 at *
        generalize r (i + 1) = rn at *
        generalize r i = rc at *
        generalize a[i] = x at *
        generalize b[k] = y at *
        have hii : (0 : Int) ≤ i := by omega
        have hii1 : (i : Int) < a.length := by omega
        have hkk : (0 : Int) ≤ k := by omega
        have hkk1 : (k : Int) < b.length := by omega
        have hii2 : (i : Int) + 1 < (a.length : Int) + 1 := by omega
        have hii3 : (0 : Int) ≤ (i : Int) + 1 := by omega
        have hii4 : (i : Int) < (a.length : Int) + 1 := by omega
        have hkk3 : (k : Int) < (b.length : Int) + 1 := by omega
        have hwi : IntKind.i64.wrap ((i : Int) + 1) = (i : Int) + 1 := IntWalk.i64_in _ (by omega)
        have hwk : IntKind.i64.wrap ((k : Int) + 1) = (k : Int) + 1 := IntWalk.i64_in _ (by omega)
        by_cases hxy : x = y
        · have d1 : (x.toList == y.toList) = true := by rw [hxy]; simp
          have HN : Hid (ScoreS.P 0 0 a b = (xs ++ [(i, k)]) ++ ScoreS.P (i + 1) (k + 1) (a.drop (i + 1)) (b.drop (k + 1))) := by
            show _ = _
            rw [HP.out, HPA.out, if_pos hxy, List.append_assoc]; rfl
          clear HP HPA hxy HDD
          go_wp2_with fail
          go_quiet (fail)
          go_wp2_with (at_builtin; (refine wp_appN (news := [.int .i64 i, .int .i64 k]) rfl _ _ _ rfl rpairElem rfl (by decide) rfl (own_dN hown _) rfl rfl (by simp [Value.oneCell']) (by omega) (by simp [maxLen]; omega) hbr.size ?_))
          intro v' w' hown' _ hb'
          go_wp2_with fail
          go_roundw
          case rel => exact ⟨i + 1, k + 1, xs ++ [(i, k)], by omega, by omega, by go_num, by go_num, by rw [prow_snoc, List.length_append]; exact hown', HN, by simp; omega, (below_dN hbr _).trans hb'⟩
          case measure => simp [intOf]; omega
        · have d1 : (x.toList == y.toList) = false := by
            rw [beq_eq_false_iff_ne, Lib.toList_data, Lib.toList_data]; intro h; exact hxy (ScoreS.ba_ext h)
          rw [if_neg hxy] at HPA
          by_cases hle : x1 = x2
          · have HN : Hid (ScoreS.P 0 0 a b = xs ++ ScoreS.P (i + 1) k (a.drop (i + 1)) (b.drop k)) := by
              show _ = _
              rw [HP.out, HPA.out, if_pos ((HTU.out hxy).1 hle)]
            have hle2 : ((x1 : Int) == (x2 : Int)) = true := by simp; omega
            clear HP HPA hxy HDD HTU hle
            go_wp2_with fail
            go_quiet (fail)
            go_wp2_with fail
            go_quiet (fail)
            go_wp2_with fail
            go_roundw
            case rel => exact ⟨i + 1, k, xs, by omega, by omega, by go_num, rfl, hown, HN, by omega, below_dN hbr _⟩
            case measure => simp [intOf]; omega
          · have HN : Hid (ScoreS.P 0 0 a b = xs ++ ScoreS.P i (k + 1) (a.drop i) (b.drop (k + 1))) := by
              show _ = _
              rw [HP.out, HPA.out, if_neg (fun h => hle ((HTU.out hxy).2 h))]
            have hle2 : ((x1 : Int) == (x2 : Int)) = false := by simp; omega
            clear HP HPA hxy HDD HTU hle
            go_wp2_with fail
            go_quiet (fail)
            go_wp2_with fail
            go_quiet (fail)
            go_wp2_with fail
            go_roundw
            case rel => exact ⟨i, k + 1, xs, by omega, by omega, rfl, by go_num, hown, HN, by omega, below_dN hbr _⟩
            case measure => simp [intOf]; omega
      · have HE : Hid (ScoreS.P 0 0 a b = xs) := by
          show _ = _
          rw [HP.out, show k = b.length by omega, List.drop_length]
          cases a.drop i <;> simp [ScoreS.P]
        have hx1 : (i : Int) < a.length := by omega
        have hx2 : ¬ (k : Int) < b.length := by omega
        go_wp2_with fail
        go_ret2
        exact ⟨_, rfl, by rw [HE.out]; exact own_base hown hb2.size, hbw⟩
    · have HE : Hid (ScoreS.P 0 0 a b = xs) := by
        show _ = _
        rw [HP.out, show i = a.length by omega, List.drop_length]
        simp [ScoreS.P]
      have hx1 : ¬ (i : Int) < a.length := by omega
      go_wp2_with fail
      go_ret2
      exact ⟨_, rfl, by rw [HE.out]; exact own_base hown hb2.size, hbw⟩
end Go.Proofs.YtlnifigbnpdemaaDoor
