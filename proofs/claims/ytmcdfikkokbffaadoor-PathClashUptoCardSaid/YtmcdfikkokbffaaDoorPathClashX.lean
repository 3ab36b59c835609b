/- The walk of the law PathClash. -/
import Derived.Test.YtmcdfikkokbffaaDoorPathClashV
import Derived.Test.YtmcdfikkokbffaaDoorPathComW
import Derived.Test.YtmcdfikkokbffaaDoorPathClashL
import Derived.Deep.Cut
namespace Go.Proofs.YtmcdfikkokbffaaDoor
open Go Go.RowKit

theorem pu_q (p f : ByteArray) (z : Bool) (h : PathS.under p f = z) (W : World) (hf : f.size ≤ 100000000) : Calls Tryd.prog 12 #[.string p, .string f] W fun e w' => e = .returned (.bool z) ∧ w' = W :=
  (under_c p f W hf).mono fun _ _ ⟨he, hw⟩ => ⟨by rw [he, h], hw.symm⟩

theorem com_bounds (l : List ByteArray) (hz : ∀ s ∈ l, s.size ≤ 10000000) : tot (PathS.com l) ≤ 100000000 ∧ (PathS.com l).length ≤ 10000001 := by
  cases l with
  | nil => exact ⟨by decide, by decide⟩
  | cons p0 r =>
    have hz0 := hz p0 (by simp)
    have hp := PathS.com_each (p0 :: r) p0 (by simp)
    refine ⟨Nat.le_trans (tot_prefix hp) (Nat.le_trans (tot_dropLast _) (by rw [← PathS.split_spl]; exact tot_split p0 hz0)), Nat.le_trans hp.length_le ?_⟩
    have := split_len p0
    rw [PathS.split_spl] at this
    rw [PathS.D, List.length_dropLast]; omega

theorem joinB_bound (l : List ByteArray) : (PathS.joinB l).size ≤ tot l := by
  have := joinTo_size l l.length (Nat.le_refl _)
  rwa [List.take_length] at this

set_option maxRecDepth 100000 in
set_option maxHeartbeats 2000000 in
theorem clash_c (a : Option Addr) (c : Nat) (ss : List ByteArray) (w : World) (hg : Gl w) (hs : Sl w a (ss.map Value.string)) (hl : ss.length ≤ 10000000) (hz : ∀ s ∈ ss, s.size ≤ 10000000) :
    Calls Tryd.prog 8 #[.slice a ss.length c] w fun e w' => e = .returned (.bool true) ∧ Below w.heap.size w w' := by
  go_enter Tryd.func8, Tryd.ntmps8
  go_wp2_with fail
  refine (awake_c w hg).mono ?_
  rintro e w1 ⟨rfl, b1⟩
  go_wp2_with fail
  refine (valid_c a c ss w1 (hg.below b1 (Nat.le_refl _)) (hs.below b1) (by omega) hz).mono ?_
  rintro e w2 ⟨v, rfl, hown, b2⟩
  have b12 := b1.trans (b2.mono b1.size)
  have hvl : (ss.filter fun s => PathS.check s == 0).length ≤ 10000000 := Nat.le_trans (List.length_filter_le _ _) hl
  have HVZ : Hid (∀ s ∈ ss.filter (fun s => PathS.check s == 0), s.size ≤ 10000000) := fun s h => hz s (List.mem_filter.1 h).1
  have HV : Hid (∀ s ∈ ss.filter (fun s => PathS.check s == 0), PathS.check s = 0) := fun s h => by simpa using (List.mem_filter.1 h).2
  generalize ss.filter (fun s => PathS.check s == 0) = l at *
  obtain ⟨av, cv, rfl, hcv, hn0, hx⟩ := own_slc hown
  clear hown hz
  have HN0 := Lib.hid hn0
  clear hn0
  have HG := Lib.hid (fun (W : World) (hb : Below w.heap.size w W) => hg.below hb (Nat.le_refl _))
  go_wp2_with fail
  go_loopw [4, 22] (fun t i wr => ∃ (k : Nat) (any : Bool), k ≤ l.length ∧ i = .int .i64 k ∧ t = .bool any ∧ Hid (PathS.AnyP l any k 0) ∧ Below w.heap.size w wr ∧ Below w2.heap.size w2 wr) (fun _ i _ => l.length - (intOf i).toNat)
  case atStart => exact ⟨0, false, by omega, rfl, rfl, PathS.anyP_start l, b12, Below.refl _ _⟩
  case round =>
    obtain ⟨i, any, hi, rfl, rfl, HA, hbo, hbo2⟩ := hrel
    by_cases hlt : i < l.length
    · go_wp2_with fail
      go_loopw [4, 27] (fun t j wi => ∃ (k : Nat) (any : Bool), k ≤ l.length ∧ j = .int .i64 k ∧ t = .bool any ∧ Hid (PathS.AnyP l any i k) ∧ Below w.heap.size w wi ∧ Below w2.heap.size w2 wi) (fun _ j _ => l.length - (intOf j).toNat)
      case atStart => exact ⟨0, any, by omega, rfl, rfl, HA, hbo, hbo2⟩
      case round =>
        obtain ⟨k, any, hk, rfl, rfl, HP, hbw, hb2⟩ := hrel
        by_cases hkl : k < l.length
        · cases any
          · by_cases hik : i = k
            · have e0 : ((i : Int) != (k : Int)) = false := by simp [hik]
              have HM : Hid (PathS.AnyP l false i (k + 1)) := PathS.anyP_miss HP.out (fun _ _ h => absurd hik h)
              clear hik
              go_wp2_with fail
              go_quiet (fail)
              go_wp2_with fail
              go_roundw
              case rel => exact ⟨k + 1, false, by omega, by go_num, rfl, HM, below_dN hbw _, below_dN hb2 _⟩
              case measure => simp [intOf]; omega
            · have e0 : ((i : Int) != (k : Int)) = true := by simp; omega
              obtain ⟨b, o, rfl, hbl, hc⟩ := hx.at (k := k) (by simpa using hkl)
              have hci : wr.cell? ⟨b, o + i, none⟩ = some (.string l[i]) := by rw [hb2.cell (p := ⟨b, o + i, none⟩) hbl, hc i (by simpa using hlt), List.getElem_map]
              have hck : wr.cell? ⟨b, o + k, none⟩ = some (.string l[k]) := by rw [hb2.cell (p := ⟨b, o + k, none⟩) hbl, hc k (by simpa using hkl), List.getElem_map]
              have HH : Hid (PathS.cl l[i] l[k] → PathS.AnyP l true i (k + 1)) := fun h => PathS.anyP_hit hlt hkl hik h
              have HM : Hid (¬ PathS.cl l[i] l[k] → PathS.AnyP l false i (k + 1)) := fun h => PathS.anyP_miss HP.out (fun _ _ _ => h)
              have hzk := HVZ.out _ (List.getElem_mem hkl)
              clear hc hik
              generalize l[i] = x at *
              generalize l[k] = y at *
              have hi0 : (0 : Int) ≤ i := by omega
              have hi1 : (i : Int) < l.length := by omega
              have hk0 : (0 : Int) ≤ k := by omega
              have hk1 : (k : Int) < l.length := by omega
              by_cases hxy : x = y
              · have e1 : (x.toList == y.toList) = true := by rw [hxy]; simp
                have HF := Lib.hid (HH.out (.inl hxy))
                clear hxy HH HM
                go_wp2_with fail
                go_quiet (fail)
                go_wp2_with fail
                go_roundw
                case rel => exact ⟨k + 1, true, by omega, by go_num, rfl, HF, below_dN hbw _, below_dN hb2 _⟩
                case measure => simp [intOf]; omega
              · have e1 : (x.toList == y.toList) = false := by
                  rw [beq_eq_false_iff_ne, Lib.toList_data, Lib.toList_data]; intro h; exact hxy (PathS.ba_ext h)
                cases hu : PathS.under x y
                all_goals
                  have HQ := Lib.hid (fun W : World => pu_q x y _ hu W (by omega))
                have HF : Hid (PathS.AnyP l false i (k + 1)) := HM.out (by rintro (h | h); exact hxy h; rw [hu] at h; cases h)
                clear hu hxy HH HM
                go_wp2_with fail
                go_quiet ((go_at_call 12; exact Calls.quiet_of_same (HQ.out _)))
                go_wp2_with fail
                go_roundw
                case rel => exact ⟨k + 1, false, by omega, by go_num, rfl, HF, below_dN hbw _, below_dN hb2 _⟩
                case measure => simp [intOf]; omega
                have HF : Hid (PathS.AnyP l true i (k + 1)) := HH.out (.inr hu)
                clear hu hxy HH HM
                go_wp2_with fail
                go_quiet ((go_at_call 12; exact Calls.quiet_of_same (HQ.out _)))
                go_wp2_with fail
                go_roundw
                case rel => exact ⟨k + 1, true, by omega, by go_num, rfl, HF, below_dN hbw _, below_dN hb2 _⟩
                case measure => simp [intOf]; omega
          · have HM : Hid (PathS.AnyP l true i (k + 1)) := PathS.anyP_true HP.out
            go_wp2_with fail
            go_quiet (fail)
            go_wp2_with fail
            go_roundw
            case rel => exact ⟨k + 1, true, by omega, by go_num, rfl, HM, below_dN hbw _, below_dN hb2 _⟩
            case measure => simp [intOf]; omega
        · have HN : Hid (PathS.AnyP l any (i + 1) 0) := by
            have h := HP.out
            rw [show k = l.length by omega] at h
            exact PathS.anyP_next h
          go_wp2_with fail
          go_roundw
          case rel => exact ⟨i + 1, any, by omega, by go_num, rfl, HN, hbw, hb2⟩
          case measure => simp [intOf]; omega
    · have HE : Hid ((any = true ∧ ¬ l.Pairwise PathS.R) ∨ (any = false ∧ l.Pairwise PathS.R)) := by
        have h := HA.out
        rw [show i = l.length by omega] at h
        exact PathS.anyP_end h
      have HCC := Lib.hid (PathS.clash_cases l HV.out)
      have g3 := HG.out _ hbo
      have hx3 := hx.below hbo2
      have HIN := Lib.hid (PathS.com_in l HV.out)
      have HSF := Lib.hid (PathS.spl_com l HV.out)
      obtain ⟨hct, hcl⟩ := com_bounds l HVZ.out
      have hcj := joinB_bound (PathS.com l)
      have HST : Hid (PathS.DeepP l (PathS.com l).length 0 (decide (0 < l.length))) := by
        cases hd : decide (0 < l.length)
        · exact PathS.deep_no
        · exact PathS.deep_start (fun e => by rw [e] at hd; simp at hd)
      have HDE := Lib.hid (fun d => PathS.deep_end (l := l) (d := d))
      have hsz12 : ∀ p ∈ [(PathS.clash l).1, (PathS.clash l).2], p.size ≤ 10000000 := by
        intro p hp
        rcases HCC.out with ⟨h1, h2, _⟩ | ⟨_, ⟨h1, h2⟩, _⟩
        · simp only [h1, h2, List.mem_cons, List.not_mem_nil, or_false, or_self] at hp
          rw [hp]; decide
        · simp only [List.mem_cons, List.not_mem_nil, or_false] at hp
          rcases hp with rfl | rfl
          · exact HVZ.out _ h1
          · exact HVZ.out _ h2
      have hcb := hsz12 _ (List.mem_cons_of_mem _ List.mem_cons_self)
      clear hsz12
      go_wp2_with fail
      refine (pclash_c av cv l wr g3 hx3 HN0.out hvl HVZ.out).mono ?_
      rintro e w4 ⟨rfl, b4⟩
      have b14 := hbo.trans (b4.mono hbo.size)
      have hx4 := hx3.below b4
      generalize (PathS.clash l).1 = ca at *
      generalize (PathS.clash l).2 = cb at *
      have HCMF := Lib.hid (fun (W : World) (h1 : Below w.heap.size w W) (h4 : Below w4.heap.size w4 W) => pcommon_c av cv l W (HG.out _ h1) (hx4.below h4) hcv hvl HVZ.out HV.out)
      generalize PathS.joinB (PathS.com l) = f at *
      generalize PathS.com l = F at *
      have hcase : (any = false ∧ ca.size = 0) ∨ (any = true ∧ ca.size ≠ 0 ∧ ca = cb) ∨ (any = true ∧ ca.size ≠ 0 ∧ ca ≠ cb ∧ PathS.under ca cb = true) := by
        rcases HE.out with ⟨h1, h2⟩ | ⟨h1, h2⟩
        · rcases HCC.out with ⟨_, _, h3⟩ | ⟨h3, _, h4, _⟩
          · exact absurd h3 h2
          · by_cases h5 : ca = cb
            · exact .inr (.inl ⟨h1, h3, h5⟩)
            · exact .inr (.inr ⟨h1, h3, h5, h4.resolve_left h5⟩)
        · rcases HCC.out with ⟨h3, _, _⟩ | ⟨_, _, _, h3⟩
          · exact .inl ⟨h1, by rw [h3]; rfl⟩
          · exact absurd h2 h3
      have HCASE := Lib.hid hcase
      clear HCC HE hcase HA hx3 b4
      go_upto_region 15 with fail
      go_cut [82] from 16 (fun s82 wx => s82 = .bool false ∧ Below w.heap.size w wx ∧ Below w4.heap.size w4 wx)
      case first =>
        rcases HCASE.out with ⟨rfl, h0⟩ | ⟨rfl, h0, h1⟩ | ⟨rfl, h0, h1, h2⟩
        · have e1 : ca.toList.isEmpty = true := by rw [isEmpty_iff]; simpa using h0
          clear h0
          go_wp2_with fail
          go_meet
          case rel => exact ⟨rfl, b14, Below.refl _ _⟩
        · have e1 : ca.toList.isEmpty = false := by rw [isEmpty_iff]; simpa using h0
          have e2 : (ca.toList == cb.toList) = true := by rw [h1]; simp
          clear h0 h1
          go_wp2_with fail
          go_meet
          case rel => exact ⟨rfl, b14, Below.refl _ _⟩
        · have e1 : ca.toList.isEmpty = false := by rw [isEmpty_iff]; simpa using h0
          have e2 : (ca.toList == cb.toList) = false := by
            rw [beq_eq_false_iff_ne, Lib.toList_data, Lib.toList_data]; intro h; exact h1 (PathS.ba_ext h)
          have HQ := Lib.hid (fun W : World => pu_q ca cb _ h2 W (by omega))
          clear h0 h1 h2
          go_wp2_with (go_at_call 12; refine (HQ.out _).mono ?_; rintro e w9 ⟨rfl, rfl⟩)
          go_meet
          case rel => exact ⟨rfl, by assumption, Below.refl _ _⟩
      case rest =>
        obtain ⟨rfl, b1c, b4c⟩ := hcut
        have HCM := Lib.hid (HCMF.out wc b1c b4c)
        have hx4c := hx4.below b4c
        go_wp2_with fail
        refine HCM.out.mono ?_
        rintro e w5 ⟨rfl, b5⟩
        have b15 := b1c.trans (b5.mono b1c.size)
        have hx5 := hx4c.below b5
        clear HCM HCMF HCASE b5 b14 hx4 hx4c b1c b4c
        go_wp2_with fail
        generalize decide (0 < l.length) = d0 at HST ⊢
        go_loopw [10, 90] (fun t i wr => ∃ (k : Nat) (d : Bool), k ≤ l.length ∧ i = .int .i64 k ∧ t = .bool d ∧ Hid (PathS.DeepP l F.length k d) ∧ Below w.heap.size w wr ∧ Below w5.heap.size w5 wr) (fun _ i _ => l.length - (intOf i).toNat)
        case atStart => exact ⟨0, d0, by omega, rfl, rfl, HST, b15, Below.refl _ _⟩
        case round =>
          obtain ⟨k, d, hk, rfl, rfl, HD, hbw, hb5⟩ := hrel
          by_cases hkl : k < l.length
          · obtain ⟨b, o, rfl, hbl, hc⟩ := hx5.at (k := k) (by simpa using hkl)
            have hck : wr.cell? ⟨b, o + k, none⟩ = some (.string l[k]) := by rw [hb5.cell (p := ⟨b, o + k, none⟩) hbl, hc k (by simpa using hkl), List.getElem_map]
            have h0l : 0 < l.length := by omega
            have hc00 : w5.cell? ⟨b, o, none⟩ = some (.string (l.getD 0 ByteArray.empty)) := by
              have := hc 0 (by simpa using h0l)
              rw [PathS.getD_at l 0 h0l]
              simpa using this
            have hc0 : wr.cell? ⟨b, o, none⟩ = some (.string (l.getD 0 ByteArray.empty)) := by rw [hb5.cell (p := ⟨b, o, none⟩) hbl]; exact hc00
            have hzk := HVZ.out _ (List.getElem_mem hkl)
            have hz0 : (l.getD 0 ByteArray.empty).size ≤ 10000000 := by rw [PathS.getD_at l 0 h0l]; exact HVZ.out _ (List.getElem_mem _)
            have HQ := Lib.hid (fun W : World => pu_q l[k] f _ (HIN.out _ (List.getElem_mem hkl)) W (by omega))
            have HSTEP : Hid (d = true → F.length + 1 < (PathS.spl l[k]).length → (PathS.spl l[k])[F.length]? = (PathS.spl (l.getD 0 ByteArray.empty))[F.length]? → PathS.DeepP l F.length (k + 1) true) := by
              intro e h1 h2
              subst e
              exact PathS.deep_step hkl HD.out h1 h2
            have hsl1 : (PathS.spl l[k]).length ≤ 10000001 := by
              have := split_len l[k]
              rw [PathS.split_spl] at this
              omega
            have hsl2 : (PathS.spl (l.getD 0 ByteArray.empty)).length ≤ 10000001 := by
              have := split_len (l.getD 0 ByteArray.empty)
              rw [PathS.split_spl] at this
              omega
            clear hc hc00
            generalize l[k] = p at *
            generalize l.getD 0 ByteArray.empty = q at *
            go_wp2_with (go_at_call 12; refine (HQ.out _).mono ?_; rintro e w9 ⟨rfl, rfl⟩)
            have g9 : Gl w9.drew := HG.out _ hbw.drew
            go_region_held3 (fun w' => w'.cell? ⟨b, o, none⟩ = some (.string q)) (first | exact cell_later hbA.1 (by assumption) | exact cell_later hbB.1 (by assumption) | go_keep)
              (first | (go_at_call 15; refine (split_c2 p _ (by assumption) (by omega)).mono ?_; rintro e wA ⟨aA, cA, rfl, hcA, hsA, hbA⟩; have gA := HG.out _ (hbw.drew.trans (hbA.1.mono (show w.heap.size ≤ w9.drew.heap.size from hbw.size)))) | (go_at_call 15; refine (split_c2 q _ gA (by omega)).mono ?_; rintro e wB ⟨aB, cB, rfl, hcB, hsB, hbB⟩))
            have bwA : Below w.heap.size w wA := hbw.drew.trans (hbA.1.mono (show w.heap.size ≤ w9.drew.heap.size from hbw.size))
            have b5A : Below w5.heap.size w5 wA := hb5.drew.trans (hbA.1.mono (show w5.heap.size ≤ w9.drew.heap.size from hb5.size))
            have bwB := bwA.trans (hbB.1.mono bwA.size)
            have b5B := b5A.trans (hbB.1.mono b5A.size)
            have gB := HG.out _ bwB
            have hsA2 := hsA.below hbB.1
            clear hbw hb5 hck hc0 g9 gA bwA b5A hbA hbB hsA HQ
            generalize PathS.spl p = X at *
            generalize PathS.spl q = Y at *
            go_wp2_with fail
            refine (split_c2 f wB gB (by omega)).mono ?_
            rw [HSF.out]
            rintro e wC ⟨aC, cC, rfl, hcC, hsC, hbC⟩
            have bwC := bwB.trans (hbC.1.mono bwB.size)
            have b5C := b5B.trans (hbC.1.mono b5B.size)
            have hsA3 := hsA2.below hbC.1
            have hsB3 := hsB.below hbC.1
            clear hbC bwB b5B hsA2 hsB hsC
            have HNO : Hid (PathS.DeepP l F.length (k + 1) false) := PathS.deep_no
            cases d
            · go_wp2_with fail
              go_quiet (fail)
              go_wp2_with fail
              go_roundw
              case rel => exact ⟨k + 1, false, by omega, by go_num, rfl, HNO, below_dN bwC _, below_dN b5C _⟩
              case measure => simp [intOf]; omega
            · have HS2 := Lib.hid (HSTEP.out rfl)
              clear HSTEP
              have hn0 : (0 : Int) ≤ F.length := by omega
              by_cases h1 : F.length + 1 < X.length
              · have d1 : decide ((F.length : Int) + 1 < (X.length : Int)) = true := by simp; omega
                have hn1 : (F.length : Int) < X.length := by omega
                by_cases h2 : F.length + 1 < Y.length
                · have d2 : decide ((F.length : Int) + 1 < (Y.length : Int)) = true := by simp; omega
                  have hn2 : (F.length : Int) < Y.length := by omega
                  obtain ⟨bA, oA, rfl, hblA, hcAA⟩ := hsA3.at (k := F.length) (by simp; omega)
                  obtain ⟨bB, oB, rfl, hblB, hcBB⟩ := hsB3.at (k := F.length) (by simp; omega)
                  have hcx : wC.cell? ⟨bA, oA + F.length, none⟩ = some (.string (X.getD F.length ByteArray.empty)) := by rw [hcAA F.length (by simp; omega), List.getElem_map, PathS.getD_at X _ (by omega)]
                  have hcy : wC.cell? ⟨bB, oB + F.length, none⟩ = some (.string (Y.getD F.length ByteArray.empty)) := by rw [hcBB F.length (by simp; omega), List.getElem_map, PathS.getD_at Y _ (by omega)]
                  have HEQ : Hid (X.getD F.length ByteArray.empty = Y.getD F.length ByteArray.empty → PathS.DeepP l F.length (k + 1) true) := by
                    intro he
                    rw [PathS.getD_at X _ (by omega), PathS.getD_at Y _ (by omega)] at he
                    exact HS2.out h1 (by rw [List.getElem?_eq_getElem (by omega), List.getElem?_eq_getElem (by omega), he])
                  clear hcAA hcBB h1 h2 HS2
                  generalize X.getD F.length ByteArray.empty = x at *
                  generalize Y.getD F.length ByteArray.empty = y at *
                  by_cases hxy : x = y
                  · have e9 : (x.toList == y.toList) = true := by rw [hxy]; simp
                    have HF := Lib.hid (HEQ.out hxy)
                    clear hxy HEQ
                    go_wp2_with fail
                    go_quiet (fail)
                    go_wp2_with fail
                    go_roundw
                    case rel => exact ⟨k + 1, true, by omega, by go_num, rfl, HF, below_dN bwC _, below_dN b5C _⟩
                    case measure => simp [intOf]; omega
                  · have e9 : (x.toList == y.toList) = false := by
                      rw [beq_eq_false_iff_ne, Lib.toList_data, Lib.toList_data]; intro h; exact hxy (PathS.ba_ext h)
                    clear hxy HEQ
                    go_wp2_with fail
                    go_quiet (fail)
                    go_wp2_with fail
                    go_roundw
                    case rel => exact ⟨k + 1, false, by omega, by go_num, rfl, HNO, below_dN bwC _, below_dN b5C _⟩
                    case measure => simp [intOf]; omega
                · have d2 : decide ((F.length : Int) + 1 < (Y.length : Int)) = false := by simp; omega
                  clear h2 h1
                  go_wp2_with fail
                  go_quiet (fail)
                  go_wp2_with fail
                  go_roundw
                  case rel => exact ⟨k + 1, false, by omega, by go_num, rfl, HNO, below_dN bwC _, below_dN b5C _⟩
                  case measure => simp [intOf]; omega
              · have d1 : decide ((F.length : Int) + 1 < (X.length : Int)) = false := by simp; omega
                clear h1
                go_wp2_with fail
                go_quiet (fail)
                go_wp2_with fail
                go_roundw
                case rel => exact ⟨k + 1, false, by omega, by go_num, rfl, HNO, below_dN bwC _, below_dN b5C _⟩
                case measure => simp [intOf]; omega
          · have HZ : Hid (d = false) := by
              have h := HD.out
              rw [show k = l.length by omega] at h
              exact HDE.out d h
            obtain rfl : d = false := HZ.out
            go_wp2_with fail
            go_ret
            exact ⟨rfl, hbw⟩
end Go.Proofs.YtmcdfikkokbffaaDoor
