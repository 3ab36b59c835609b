/- The walk of the law PathParts. -/
import Derived.Test.YtmcdfikkokbffaaDoorPathLooksW
import Derived.Test.YtmcdfikkokbffaaDoorPathPartsS
namespace Go.Proofs.YtmcdfikkokbffaaDoor
open Go Go.RowKit

set_option maxRecDepth 100000 in
set_option maxHeartbeats 2000000 in
theorem parts_c (p : ByteArray) (an : Option Addr) (cn : Nat) (ss : List ByteArray) (w : World) (hg : Gl w) (hp : p.size ≤ 10000000) (hs : Sl w an (ss.map Value.string)) (hcn : ss.length ≤ cn) (ht : tot ss ≤ 10000000) (hl : ss.length ≤ 10000000) :
    Calls Tryd.prog 6 #[.string p, .slice an ss.length cn] w fun e w' => e = .returned (.bool true) ∧ Below w.heap.size w w' := by
  have hqs : (PathS.joinB ss).size ≤ 10000000 := by
    have := joinTo_size ss ss.length (Nat.le_refl _)
    rw [List.take_length] at this
    exact Nat.le_trans this ht
  have HJ : Hid (PathS.joinTo ss ss.length = PathS.joinB ss) := by show _ = _; rfl
  go_enter Tryd.func6, Tryd.ntmps6
  go_wp2_with fail
  refine (awake_c w hg).mono ?_
  rintro e w1 ⟨rfl, b1⟩
  have g1 := hg.below b1 (Nat.le_refl _)
  have hs1 := hs.below b1
  go_wp2_with fail
  refine (pjoin_c an cn ss w1 hs1 hcn (by omega) (by omega)).mono ?_
  rw [HJ.out]
  rintro e w2 ⟨rfl, b2⟩
  have b12 := b1.trans (b2.mono b1.size)
  have hs2 := hs1.below b2
  have hGood : ∀ g : Bool, (g = true → (0 < ss.length ∧ ss.length ≤ 16 ∧ (PathS.joinB ss).size ≤ 255)) → g = true → ss.all PathS.name = true → PathS.check (PathS.joinB ss) = 0 := by
    intro g h hg1 hn
    obtain ⟨h1, h2, h3⟩ := h hg1
    exact PathS.check_join (fun e => by rw [e] at h1; simp at h1) hn h2 h3
  have HG := Lib.hid hGood
  clear hGood hs hs1 b1 b2
  generalize PathS.joinB ss = q at *
  have hcase : (decide (0 < ss.length) = true ∧ decide ((ss.length : Int) ≤ 16) = true ∧ decide ((q.size : Int) ≤ 255) = true) ∨ decide (0 < ss.length) = false ∨ (decide (0 < ss.length) = true ∧ decide ((ss.length : Int) ≤ 16) = false) ∨ (decide (0 < ss.length) = true ∧ decide ((ss.length : Int) ≤ 16) = true ∧ decide ((q.size : Int) ≤ 255) = false) := by
    simp only [decide_eq_true_eq, decide_eq_false_iff_not]; omega
  have g2 := hg.below b12 (Nat.le_refl _)
  have HR := Lib.hid (fun (W : World) (hb : Below w.heap.size w W) => hg.below hb (Nat.le_refl _))
  have HSL := Lib.hid (PathS.spl_size p)
  rcases hcase with ⟨d1, d2, d3⟩ | d1 | ⟨d1, d2⟩ | ⟨d1, d2, d3⟩
  · have HF : Hid (0 < ss.length ∧ ss.length ≤ 16 ∧ q.size ≤ 255) := by
      have h : 0 < ss.length ∧ ss.length ≤ 16 ∧ q.size ≤ 255 := by simp only [decide_eq_true_eq] at d1 d2 d3; omega
      exact h
    go_wp2_with fail
    go_loopw [6, 32] (fun t i wr => ∃ (k : Nat) (g : Bool), k ≤ ss.length ∧ i = .int .i64 k ∧ t = .bool g ∧ Hid (g = true → (0 < ss.length ∧ ss.length ≤ 16 ∧ q.size ≤ 255) ∧ (ss.take k).all PathS.name = true) ∧ Below w.heap.size w wr ∧ Below w2.heap.size w2 wr) (fun _ i _ => ss.length - (intOf i).toNat)
    case atStart => exact ⟨0, true, by omega, rfl, rfl, fun _ => ⟨HF.out, rfl⟩, b12, Below.refl _ _⟩
    case round =>
      obtain ⟨k, g, hk, rfl, rfl, HP, hbw, hb2⟩ := hrel
      by_cases hlt : k < ss.length
      · obtain ⟨b, o, rfl, hbl, hc⟩ := hs2.at (k := k) (by simpa using hlt)
        have hcell : wr.cell? ⟨b, o + k, none⟩ = some (.string ss[k]) := by rw [hb2.cell (p := ⟨b, o + k, none⟩) hbl, hc k (by simpa using hlt), List.getElem_map]
        have HT := Lib.hid (show ss.take (k + 1) = ss.take k ++ [ss[k]] from List.take_succ_eq_append_getElem hlt)
        clear hc
        generalize ss[k] = x at *
        cases g
        · go_wp2_with fail
          go_roundw
          case rel => exact ⟨k + 1, false, by omega, by go_num, rfl, fun h => by simp at h, hbw, hb2⟩
          case measure => simp [intOf]; omega
        · have HPT := Lib.hid (HP.out rfl)
          clear HP
          cases hn : PathS.name x
          all_goals
            have HN := Lib.hid hn
            clear hn
            go_wp2_with (go_at_call 18; refine (name_c _ _).mono ?_; rw [HN.out]; rintro e w9 ⟨rfl, b9⟩)
            go_roundw
          case rel => exact ⟨k + 1, false, by omega, by go_num, rfl, fun h => by simp at h, hbw.trans (Below.mono (by assumption) hbw.size), hb2.trans (Below.mono (by assumption) hb2.size)⟩
          case measure => simp [intOf]; omega
          case rel => exact ⟨k + 1, true, by omega, by go_num, rfl, fun _ => ⟨HPT.out.1, by rw [HT.out, List.all_append, HPT.out.2]; simp [HN.out]⟩, hbw.trans (Below.mono (by assumption) hbw.size), hb2.trans (Below.mono (by assumption) hb2.size)⟩
          case measure => simp [intOf]; omega
      · have hbw' := hbw
        cases g
        · clear HP
          have gW := HR.out wr hbw
          by_cases hc : PathS.check p = 0
          · have hpz := PathS.check_size hc
            obtain ⟨-, -, hall, hne⟩ := (PathS.check_ok p).1 hc
            have HC := Lib.hid hc
            have HP1 := Lib.hid (PathS.parent_one p)
            have HP2 := Lib.hid (fun h => PathS.parent_check p h HC.out)
            have HP3 := Lib.hid (fun h => PathS.parent_under p h HC.out)
            have HP4 := Lib.hid (PathS.parent_whole p)
            have HPL := Lib.hid (PathS.parent_last p)
            have HPS := PathS.parent_size p
            have HJS : Hid (PathS.joinTo (PathS.spl p) (PathS.spl p).length = p) := PathS.join_spl p
            have HU := Lib.hid (PathS.under_root p hpz)
            have htot : tot (PathS.spl p) ≤ 100000000 := by rw [← PathS.split_spl]; exact tot_split p hp
            have hall := Lib.hid hall
            have hsl : (PathS.spl p).length ≤ p.size + 1 := by rw [← PathS.split_spl]; exact split_len p
            have HSZ := HSL
            clear hc hpz
            go_wp2_with fail
            refine (check_c p wr gW (by omega)).mono ?_
            rw [HC.out]
            rintro e w5 ⟨rfl, b5⟩
            have b15 := (hbw).trans (b5.mono (hbw).size)
            have g5 := HR.out _ b15
            go_wp2_with fail
            refine (split_c2 p w5 g5 (by omega)).mono ?_
            rintro e w6 ⟨a6, c6, rfl, hc6, hx6, b6⟩
            have b16 := b15.trans (b6.1.mono b15.size)
            generalize PathS.spl p = l at *
            go_wp2_with fail
            refine (pjoin_c a6 c6 l w6 hx6 hc6 htot (by omega)).mono ?_
            rw [HJS.out]
            rintro e w7 ⟨rfl, b7⟩
            have b17 := b16.trans (b7.mono b16.size)
            have hx7 := hx6.below b7
            have e2 : decide ((l.length : Int) < 1) = false := by simp; omega
            go_wp2_with fail
            refine (under_c p ⟨#[]⟩ w7 (by decide)).mono ?_
            rw [show PathS.under p ⟨#[]⟩ = true from HU.out]
            rintro e w8 ⟨rfl, rfl⟩
            clear b6 b7 b5 hx6
            go_wp2_with fail
            go_loopw [69] (fun i wr => ∃ k : Nat, k ≤ l.length ∧ i = .int .i64 k ∧ Below w.heap.size w wr ∧ Below w7.heap.size w7 wr) (fun i _ => l.length - (intOf i).toNat)
            case atStart => exact ⟨0, by omega, rfl, b17, Below.refl _ _⟩
            case round =>
              obtain ⟨k2, hk2, rfl, hbw2, hb7⟩ := hrel
              by_cases hlt2 : k2 < l.length
              · obtain ⟨b, o, rfl, hbl, hcc⟩ := hx7.at (k := k2) (by simpa using hlt2)
                have hcell : wr.cell? ⟨b, o + k2, none⟩ = some (.string l[k2]) := by rw [hb7.cell (p := ⟨b, o + k2, none⟩) hbl, hcc k2 (by simpa using hlt2), List.getElem_map]
                have HN : Hid (PathS.name l[k2] = true) := List.all_eq_true.1 hall.out _ (List.getElem_mem hlt2)
                clear hcc
                generalize l[k2] = x at *
                go_wp2_with (go_at_call 18; refine (name_c _ _).mono ?_; rw [HN.out]; rintro e w9 ⟨rfl, b9⟩)
                go_roundw
                case rel => exact ⟨k2 + 1, by omega, by go_num, hbw2.trans (Below.mono (by assumption) hbw2.size), hb7.trans (Below.mono (by assumption) hb7.size)⟩
                case measure => simp [intOf]; omega
              · skip
                have g8 := HR.out _ hbw2
                by_cases h1 : l.length < 2
                · have e3 : ((l.length : Int) == 1) = true := beq_iff_eq.2 (by omega)
                  have HE := Lib.hid (HP1.out h1)
                  go_wp2_with fail
                  refine (parent_c p _ (by omega)).mono ?_
                  rw [← HPL.out, HE.out]
                  rintro e w9 ⟨rfl, rfl⟩
                  go_wp2_with fail
                  go_ret
                  exact ⟨rfl, hbw2⟩
                · have e3 : ((l.length : Int) == 1) = false := beq_eq_false_iff_ne.2 (by omega)
                  have h2 : 2 ≤ l.length := by omega
                  have HA := Lib.hid (HP2.out h2)
                  have HB := Lib.hid (HP3.out h2)
                  have HW := Lib.hid (HP4.out h2)
                  clear h1
                  obtain ⟨b, o, rfl, hbl, hcc⟩ := hx7.at (k := l.length - 1) (by simp; omega)
                  have hgd : l.getD (l.length - 1) ByteArray.empty = l[l.length - 1] := PathS.getD_at' l _ (by omega)
                  have hcell0 : w7.cell? ⟨b, o + (l.length - 1), none⟩ = some (.string (l.getD (l.length - 1) ByteArray.empty)) := by rw [hgd, hcc (l.length - 1) (by simp; omega), List.getElem_map]
                  have hsy : (l.getD (l.length - 1) ByteArray.empty).size ≤ p.size := by rw [hgd]; exact HSZ.out _ (List.getElem_mem _)
                  clear hgd hcc
                  generalize l.getD (l.length - 1) ByteArray.empty = y at *
                  go_wp2_with fail
                  refine (parent_c p _ (by omega)).mono ?_
                  rw [← HPL.out]
                  rintro e w9 ⟨rfl, rfl⟩
                  generalize PathS.parent p = f at *
                  go_wp2_with fail
                  refine (check_c f wr g8 (by omega)).mono ?_
                  rw [HA.out]
                  rintro e w10 ⟨rfl, b10⟩
                  have hcell : w10.cell? ⟨b, o + (l.length - 1), none⟩ = some (.string y) := by
                    rw [b10.cell (p := ⟨b, o + (l.length - 1), none⟩) (Nat.lt_of_lt_of_le hbl hb7.size), hb7.cell (p := ⟨b, o + (l.length - 1), none⟩) hbl]; exact hcell0
                  have hsf : (f ++ (⟨#[47]⟩ : ByteArray)).size = f.size + 1 := by rw [ByteArray.size_append]; rfl
                  go_wp2_with fail
                  refine (under_c p f w10 (by omega)).mono ?_
                  rw [HB.out]
                  rintro e w11 ⟨rfl, rfl⟩
                  have hw1 : IntKind.i64.wrap ((l.length : Int) - 1) = l.length - 1 := IntWalk.i64_in _ (by omega)
                  have hw2 : ((l.length : Int) - 1).toNat = l.length - 1 := by omega
                  have hEq : ((f ++ (⟨#[47]⟩ : ByteArray) ++ y).toList == p.toList) = true := by rw [HW.out]; simp
                  go_wp2_with fail
                  go_ret
                  exact ⟨rfl, hbw2.trans (b10.mono hbw2.size)⟩
          · have d8 : (PathS.check p != 0) = true := by simpa using hc
            clear hc
            go_wp2_with fail
            refine (check_c p wr gW (by omega)).mono ?_
            rintro e w5 ⟨rfl, b5⟩
            go_wp2_with fail
            go_ret
            exact ⟨rfl, (hbw).trans (b5.mono (hbw).size)⟩
        · have hPT := HP.out rfl
          rw [List.take_of_length_le (by omega)] at hPT
          have HQ := Lib.hid (HG.out true (fun _ => hPT.1) rfl hPT.2)
          clear HP hPT
          go_wp2_with fail
          refine (check_c q wr (HR.out _ hbw) (by omega)).mono ?_
          rw [HQ.out]
          rintro e w3 ⟨rfl, b3⟩
          have hbw3 := hbw.trans (b3.mono hbw.size)
          clear b3
          have gW := HR.out w3 hbw3
          by_cases hc : PathS.check p = 0
          · have hpz := PathS.check_size hc
            obtain ⟨-, -, hall, hne⟩ := (PathS.check_ok p).1 hc
            have HC := Lib.hid hc
            have HP1 := Lib.hid (PathS.parent_one p)
            have HP2 := Lib.hid (fun h => PathS.parent_check p h HC.out)
            have HP3 := Lib.hid (fun h => PathS.parent_under p h HC.out)
            have HP4 := Lib.hid (PathS.parent_whole p)
            have HPL := Lib.hid (PathS.parent_last p)
            have HPS := PathS.parent_size p
            have HJS : Hid (PathS.joinTo (PathS.spl p) (PathS.spl p).length = p) := PathS.join_spl p
            have HU := Lib.hid (PathS.under_root p hpz)
            have htot : tot (PathS.spl p) ≤ 100000000 := by rw [← PathS.split_spl]; exact tot_split p hp
            have hall := Lib.hid hall
            have hsl : (PathS.spl p).length ≤ p.size + 1 := by rw [← PathS.split_spl]; exact split_len p
            have HSZ := HSL
            clear hc hpz
            go_wp2_with fail
            refine (check_c p w3 gW (by omega)).mono ?_
            rw [HC.out]
            rintro e w5 ⟨rfl, b5⟩
            have b15 := (hbw3).trans (b5.mono (hbw3).size)
            have g5 := HR.out _ b15
            go_wp2_with fail
            refine (split_c2 p w5 g5 (by omega)).mono ?_
            rintro e w6 ⟨a6, c6, rfl, hc6, hx6, b6⟩
            have b16 := b15.trans (b6.1.mono b15.size)
            generalize PathS.spl p = l at *
            go_wp2_with fail
            refine (pjoin_c a6 c6 l w6 hx6 hc6 htot (by omega)).mono ?_
            rw [HJS.out]
            rintro e w7 ⟨rfl, b7⟩
            have b17 := b16.trans (b7.mono b16.size)
            have hx7 := hx6.below b7
            have e2 : decide ((l.length : Int) < 1) = false := by simp; omega
            go_wp2_with fail
            refine (under_c p ⟨#[]⟩ w7 (by decide)).mono ?_
            rw [show PathS.under p ⟨#[]⟩ = true from HU.out]
            rintro e w8 ⟨rfl, rfl⟩
            clear b6 b7 b5 hx6
            go_wp2_with fail
            go_loopw [69] (fun i wr => ∃ k : Nat, k ≤ l.length ∧ i = .int .i64 k ∧ Below w.heap.size w wr ∧ Below w7.heap.size w7 wr) (fun i _ => l.length - (intOf i).toNat)
            case atStart => exact ⟨0, by omega, rfl, b17, Below.refl _ _⟩
            case round =>
              obtain ⟨k2, hk2, rfl, hbw2, hb7⟩ := hrel
              by_cases hlt2 : k2 < l.length
              · obtain ⟨b, o, rfl, hbl, hcc⟩ := hx7.at (k := k2) (by simpa using hlt2)
                have hcell : wr.cell? ⟨b, o + k2, none⟩ = some (.string l[k2]) := by rw [hb7.cell (p := ⟨b, o + k2, none⟩) hbl, hcc k2 (by simpa using hlt2), List.getElem_map]
                have HN : Hid (PathS.name l[k2] = true) := List.all_eq_true.1 hall.out _ (List.getElem_mem hlt2)
                clear hcc
                generalize l[k2] = x at *
                go_wp2_with (go_at_call 18; refine (name_c _ _).mono ?_; rw [HN.out]; rintro e w9 ⟨rfl, b9⟩)
                go_roundw
                case rel => exact ⟨k2 + 1, by omega, by go_num, hbw2.trans (Below.mono (by assumption) hbw2.size), hb7.trans (Below.mono (by assumption) hb7.size)⟩
                case measure => simp [intOf]; omega
              · skip
                have g8 := HR.out _ hbw2
                by_cases h1 : l.length < 2
                · have e3 : ((l.length : Int) == 1) = true := beq_iff_eq.2 (by omega)
                  have HE := Lib.hid (HP1.out h1)
                  go_wp2_with fail
                  refine (parent_c p _ (by omega)).mono ?_
                  rw [← HPL.out, HE.out]
                  rintro e w9 ⟨rfl, rfl⟩
                  go_wp2_with fail
                  go_ret
                  exact ⟨rfl, hbw2⟩
                · have e3 : ((l.length : Int) == 1) = false := beq_eq_false_iff_ne.2 (by omega)
                  have h2 : 2 ≤ l.length := by omega
                  have HA := Lib.hid (HP2.out h2)
                  have HB := Lib.hid (HP3.out h2)
                  have HW := Lib.hid (HP4.out h2)
                  clear h1
                  obtain ⟨b, o, rfl, hbl, hcc⟩ := hx7.at (k := l.length - 1) (by simp; omega)
                  have hgd : l.getD (l.length - 1) ByteArray.empty = l[l.length - 1] := PathS.getD_at' l _ (by omega)
                  have hcell0 : w7.cell? ⟨b, o + (l.length - 1), none⟩ = some (.string (l.getD (l.length - 1) ByteArray.empty)) := by rw [hgd, hcc (l.length - 1) (by simp; omega), List.getElem_map]
                  have hsy : (l.getD (l.length - 1) ByteArray.empty).size ≤ p.size := by rw [hgd]; exact HSZ.out _ (List.getElem_mem _)
                  clear hgd hcc
                  generalize l.getD (l.length - 1) ByteArray.empty = y at *
                  go_wp2_with fail
                  refine (parent_c p _ (by omega)).mono ?_
                  rw [← HPL.out]
                  rintro e w9 ⟨rfl, rfl⟩
                  generalize PathS.parent p = f at *
                  go_wp2_with fail
                  refine (check_c f wr g8 (by omega)).mono ?_
                  rw [HA.out]
                  rintro e w10 ⟨rfl, b10⟩
                  have hcell : w10.cell? ⟨b, o + (l.length - 1), none⟩ = some (.string y) := by
                    rw [b10.cell (p := ⟨b, o + (l.length - 1), none⟩) (Nat.lt_of_lt_of_le hbl hb7.size), hb7.cell (p := ⟨b, o + (l.length - 1), none⟩) hbl]; exact hcell0
                  have hsf : (f ++ (⟨#[47]⟩ : ByteArray)).size = f.size + 1 := by rw [ByteArray.size_append]; rfl
                  go_wp2_with fail
                  refine (under_c p f w10 (by omega)).mono ?_
                  rw [HB.out]
                  rintro e w11 ⟨rfl, rfl⟩
                  have hw1 : IntKind.i64.wrap ((l.length : Int) - 1) = l.length - 1 := IntWalk.i64_in _ (by omega)
                  have hw2 : ((l.length : Int) - 1).toNat = l.length - 1 := by omega
                  have hEq : ((f ++ (⟨#[47]⟩ : ByteArray) ++ y).toList == p.toList) = true := by rw [HW.out]; simp
                  go_wp2_with fail
                  go_ret
                  exact ⟨rfl, hbw2.trans (b10.mono hbw2.size)⟩
          · have d8 : (PathS.check p != 0) = true := by simpa using hc
            clear hc
            go_wp2_with fail
            refine (check_c p w3 gW (by omega)).mono ?_
            rintro e w5 ⟨rfl, b5⟩
            go_wp2_with fail
            go_ret
            exact ⟨rfl, (hbw3).trans (b5.mono (hbw3).size)⟩
  all_goals
    go_wp2_with fail
    go_loopw [6, 32] (fun t i wr => ∃ (k : Nat) (g : Bool), k ≤ ss.length ∧ i = .int .i64 k ∧ t = .bool g ∧ Hid (g = true → (0 < ss.length ∧ ss.length ≤ 16 ∧ q.size ≤ 255) ∧ (ss.take k).all PathS.name = true) ∧ Below w.heap.size w wr ∧ Below w2.heap.size w2 wr) (fun _ i _ => ss.length - (intOf i).toNat)
    case atStart => exact ⟨0, false, by omega, rfl, rfl, fun h => by simp at h, b12, Below.refl _ _⟩
    case round =>
      obtain ⟨k, g, hk, rfl, rfl, HP, hbw, hb2⟩ := hrel
      by_cases hlt : k < ss.length
      · obtain ⟨b, o, rfl, hbl, hc⟩ := hs2.at (k := k) (by simpa using hlt)
        have hcell : wr.cell? ⟨b, o + k, none⟩ = some (.string ss[k]) := by rw [hb2.cell (p := ⟨b, o + k, none⟩) hbl, hc k (by simpa using hlt), List.getElem_map]
        have HT := Lib.hid (show ss.take (k + 1) = ss.take k ++ [ss[k]] from List.take_succ_eq_append_getElem hlt)
        clear hc
        generalize ss[k] = x at *
        cases g
        · go_wp2_with fail
          go_roundw
          case rel => exact ⟨k + 1, false, by omega, by go_num, rfl, fun h => by simp at h, hbw, hb2⟩
          case measure => simp [intOf]; omega
        · have HPT := Lib.hid (HP.out rfl)
          clear HP
          cases hn : PathS.name x
          all_goals
            have HN := Lib.hid hn
            clear hn
            go_wp2_with (go_at_call 18; refine (name_c _ _).mono ?_; rw [HN.out]; rintro e w9 ⟨rfl, b9⟩)
            go_roundw
          case rel => exact ⟨k + 1, false, by omega, by go_num, rfl, fun h => by simp at h, hbw.trans (Below.mono (by assumption) hbw.size), hb2.trans (Below.mono (by assumption) hb2.size)⟩
          case measure => simp [intOf]; omega
          case rel => exact ⟨k + 1, true, by omega, by go_num, rfl, fun _ => ⟨HPT.out.1, by rw [HT.out, List.all_append, HPT.out.2]; simp [HN.out]⟩, hbw.trans (Below.mono (by assumption) hbw.size), hb2.trans (Below.mono (by assumption) hb2.size)⟩
          case measure => simp [intOf]; omega
      · have hbw' := hbw
        cases g
        · clear HP
          have gW := HR.out wr hbw
          by_cases hc : PathS.check p = 0
          · have hpz := PathS.check_size hc
            obtain ⟨-, -, hall, hne⟩ := (PathS.check_ok p).1 hc
            have HC := Lib.hid hc
            have HP1 := Lib.hid (PathS.parent_one p)
            have HP2 := Lib.hid (fun h => PathS.parent_check p h HC.out)
            have HP3 := Lib.hid (fun h => PathS.parent_under p h HC.out)
            have HP4 := Lib.hid (PathS.parent_whole p)
            have HPL := Lib.hid (PathS.parent_last p)
            have HPS := PathS.parent_size p
            have HJS : Hid (PathS.joinTo (PathS.spl p) (PathS.spl p).length = p) := PathS.join_spl p
            have HU := Lib.hid (PathS.under_root p hpz)
            have htot : tot (PathS.spl p) ≤ 100000000 := by rw [← PathS.split_spl]; exact tot_split p hp
            have hall := Lib.hid hall
            have hsl : (PathS.spl p).length ≤ p.size + 1 := by rw [← PathS.split_spl]; exact split_len p
            have HSZ := HSL
            clear hc hpz
            go_wp2_with fail
            refine (check_c p wr gW (by omega)).mono ?_
            rw [HC.out]
            rintro e w5 ⟨rfl, b5⟩
            have b15 := (hbw).trans (b5.mono (hbw).size)
            have g5 := HR.out _ b15
            go_wp2_with fail
            refine (split_c2 p w5 g5 (by omega)).mono ?_
            rintro e w6 ⟨a6, c6, rfl, hc6, hx6, b6⟩
            have b16 := b15.trans (b6.1.mono b15.size)
            generalize PathS.spl p = l at *
            go_wp2_with fail
            refine (pjoin_c a6 c6 l w6 hx6 hc6 htot (by omega)).mono ?_
            rw [HJS.out]
            rintro e w7 ⟨rfl, b7⟩
            have b17 := b16.trans (b7.mono b16.size)
            have hx7 := hx6.below b7
            have e2 : decide ((l.length : Int) < 1) = false := by simp; omega
            go_wp2_with fail
            refine (under_c p ⟨#[]⟩ w7 (by decide)).mono ?_
            rw [show PathS.under p ⟨#[]⟩ = true from HU.out]
            rintro e w8 ⟨rfl, rfl⟩
            clear b6 b7 b5 hx6
            go_wp2_with fail
            go_loopw [69] (fun i wr => ∃ k : Nat, k ≤ l.length ∧ i = .int .i64 k ∧ Below w.heap.size w wr ∧ Below w7.heap.size w7 wr) (fun i _ => l.length - (intOf i).toNat)
            case atStart => exact ⟨0, by omega, rfl, b17, Below.refl _ _⟩
            case round =>
              obtain ⟨k2, hk2, rfl, hbw2, hb7⟩ := hrel
              by_cases hlt2 : k2 < l.length
              · obtain ⟨b, o, rfl, hbl, hcc⟩ := hx7.at (k := k2) (by simpa using hlt2)
                have hcell : wr.cell? ⟨b, o + k2, none⟩ = some (.string l[k2]) := by rw [hb7.cell (p := ⟨b, o + k2, none⟩) hbl, hcc k2 (by simpa using hlt2), List.getElem_map]
                have HN : Hid (PathS.name l[k2] = true) := List.all_eq_true.1 hall.out _ (List.getElem_mem hlt2)
                clear hcc
                generalize l[k2] = x at *
                go_wp2_with (go_at_call 18; refine (name_c _ _).mono ?_; rw [HN.out]; rintro e w9 ⟨rfl, b9⟩)
                go_roundw
                case rel => exact ⟨k2 + 1, by omega, by go_num, hbw2.trans (Below.mono (by assumption) hbw2.size), hb7.trans (Below.mono (by assumption) hb7.size)⟩
                case measure => simp [intOf]; omega
              · skip
                have g8 := HR.out _ hbw2
                by_cases h1 : l.length < 2
                · have e3 : ((l.length : Int) == 1) = true := beq_iff_eq.2 (by omega)
                  have HE := Lib.hid (HP1.out h1)
                  go_wp2_with fail
                  refine (parent_c p _ (by omega)).mono ?_
                  rw [← HPL.out, HE.out]
                  rintro e w9 ⟨rfl, rfl⟩
                  go_wp2_with fail
                  go_ret
                  exact ⟨rfl, hbw2⟩
                · have e3 : ((l.length : Int) == 1) = false := beq_eq_false_iff_ne.2 (by omega)
                  have h2 : 2 ≤ l.length := by omega
                  have HA := Lib.hid (HP2.out h2)
                  have HB := Lib.hid (HP3.out h2)
                  have HW := Lib.hid (HP4.out h2)
                  clear h1
                  obtain ⟨b, o, rfl, hbl, hcc⟩ := hx7.at (k := l.length - 1) (by simp; omega)
                  have hgd : l.getD (l.length - 1) ByteArray.empty = l[l.length - 1] := PathS.getD_at' l _ (by omega)
                  have hcell0 : w7.cell? ⟨b, o + (l.length - 1), none⟩ = some (.string (l.getD (l.length - 1) ByteArray.empty)) := by rw [hgd, hcc (l.length - 1) (by simp; omega), List.getElem_map]
                  have hsy : (l.getD (l.length - 1) ByteArray.empty).size ≤ p.size := by rw [hgd]; exact HSZ.out _ (List.getElem_mem _)
                  clear hgd hcc
                  generalize l.getD (l.length - 1) ByteArray.empty = y at *
                  go_wp2_with fail
                  refine (parent_c p _ (by omega)).mono ?_
                  rw [← HPL.out]
                  rintro e w9 ⟨rfl, rfl⟩
                  generalize PathS.parent p = f at *
                  go_wp2_with fail
                  refine (check_c f wr g8 (by omega)).mono ?_
                  rw [HA.out]
                  rintro e w10 ⟨rfl, b10⟩
                  have hcell : w10.cell? ⟨b, o + (l.length - 1), none⟩ = some (.string y) := by
                    rw [b10.cell (p := ⟨b, o + (l.length - 1), none⟩) (Nat.lt_of_lt_of_le hbl hb7.size), hb7.cell (p := ⟨b, o + (l.length - 1), none⟩) hbl]; exact hcell0
                  have hsf : (f ++ (⟨#[47]⟩ : ByteArray)).size = f.size + 1 := by rw [ByteArray.size_append]; rfl
                  go_wp2_with fail
                  refine (under_c p f w10 (by omega)).mono ?_
                  rw [HB.out]
                  rintro e w11 ⟨rfl, rfl⟩
                  have hw1 : IntKind.i64.wrap ((l.length : Int) - 1) = l.length - 1 := IntWalk.i64_in _ (by omega)
                  have hw2 : ((l.length : Int) - 1).toNat = l.length - 1 := by omega
                  have hEq : ((f ++ (⟨#[47]⟩ : ByteArray) ++ y).toList == p.toList) = true := by rw [HW.out]; simp
                  go_wp2_with fail
                  go_ret
                  exact ⟨rfl, hbw2.trans (b10.mono hbw2.size)⟩
          · have d8 : (PathS.check p != 0) = true := by simpa using hc
            clear hc
            go_wp2_with fail
            refine (check_c p wr gW (by omega)).mono ?_
            rintro e w5 ⟨rfl, b5⟩
            go_wp2_with fail
            go_ret
            exact ⟨rfl, (hbw).trans (b5.mono (hbw).size)⟩
        · have hPT := HP.out rfl
          rw [List.take_of_length_le (by omega)] at hPT
          have HQ := Lib.hid (HG.out true (fun _ => hPT.1) rfl hPT.2)
          clear HP hPT
          go_wp2_with fail
          refine (check_c q wr (HR.out _ hbw) (by omega)).mono ?_
          rw [HQ.out]
          rintro e w3 ⟨rfl, b3⟩
          have hbw3 := hbw.trans (b3.mono hbw.size)
          clear b3
          have gW := HR.out w3 hbw3
          by_cases hc : PathS.check p = 0
          · have hpz := PathS.check_size hc
            obtain ⟨-, -, hall, hne⟩ := (PathS.check_ok p).1 hc
            have HC := Lib.hid hc
            have HP1 := Lib.hid (PathS.parent_one p)
            have HP2 := Lib.hid (fun h => PathS.parent_check p h HC.out)
            have HP3 := Lib.hid (fun h => PathS.parent_under p h HC.out)
            have HP4 := Lib.hid (PathS.parent_whole p)
            have HPL := Lib.hid (PathS.parent_last p)
            have HPS := PathS.parent_size p
            have HJS : Hid (PathS.joinTo (PathS.spl p) (PathS.spl p).length = p) := PathS.join_spl p
            have HU := Lib.hid (PathS.under_root p hpz)
            have htot : tot (PathS.spl p) ≤ 100000000 := by rw [← PathS.split_spl]; exact tot_split p hp
            have hall := Lib.hid hall
            have hsl : (PathS.spl p).length ≤ p.size + 1 := by rw [← PathS.split_spl]; exact split_len p
            have HSZ := HSL
            clear hc hpz
            go_wp2_with fail
            refine (check_c p w3 gW (by omega)).mono ?_
            rw [HC.out]
            rintro e w5 ⟨rfl, b5⟩
            have b15 := (hbw3).trans (b5.mono (hbw3).size)
            have g5 := HR.out _ b15
            go_wp2_with fail
            refine (split_c2 p w5 g5 (by omega)).mono ?_
            rintro e w6 ⟨a6, c6, rfl, hc6, hx6, b6⟩
            have b16 := b15.trans (b6.1.mono b15.size)
            generalize PathS.spl p = l at *
            go_wp2_with fail
            refine (pjoin_c a6 c6 l w6 hx6 hc6 htot (by omega)).mono ?_
            rw [HJS.out]
            rintro e w7 ⟨rfl, b7⟩
            have b17 := b16.trans (b7.mono b16.size)
            have hx7 := hx6.below b7
            have e2 : decide ((l.length : Int) < 1) = false := by simp; omega
            go_wp2_with fail
            refine (under_c p ⟨#[]⟩ w7 (by decide)).mono ?_
            rw [show PathS.under p ⟨#[]⟩ = true from HU.out]
            rintro e w8 ⟨rfl, rfl⟩
            clear b6 b7 b5 hx6
            go_wp2_with fail
            go_loopw [69] (fun i wr => ∃ k : Nat, k ≤ l.length ∧ i = .int .i64 k ∧ Below w.heap.size w wr ∧ Below w7.heap.size w7 wr) (fun i _ => l.length - (intOf i).toNat)
            case atStart => exact ⟨0, by omega, rfl, b17, Below.refl _ _⟩
            case round =>
              obtain ⟨k2, hk2, rfl, hbw2, hb7⟩ := hrel
              by_cases hlt2 : k2 < l.length
              · obtain ⟨b, o, rfl, hbl, hcc⟩ := hx7.at (k := k2) (by simpa using hlt2)
                have hcell : wr.cell? ⟨b, o + k2, none⟩ = some (.string l[k2]) := by rw [hb7.cell (p := ⟨b, o + k2, none⟩) hbl, hcc k2 (by simpa using hlt2), List.getElem_map]
                have HN : Hid (PathS.name l[k2] = true) := List.all_eq_true.1 hall.out _ (List.getElem_mem hlt2)
                clear hcc
                generalize l[k2] = x at *
                go_wp2_with (go_at_call 18; refine (name_c _ _).mono ?_; rw [HN.out]; rintro e w9 ⟨rfl, b9⟩)
                go_roundw
                case rel => exact ⟨k2 + 1, by omega, by go_num, hbw2.trans (Below.mono (by assumption) hbw2.size), hb7.trans (Below.mono (by assumption) hb7.size)⟩
                case measure => simp [intOf]; omega
              · skip
                have g8 := HR.out _ hbw2
                by_cases h1 : l.length < 2
                · have e3 : ((l.length : Int) == 1) = true := beq_iff_eq.2 (by omega)
                  have HE := Lib.hid (HP1.out h1)
                  go_wp2_with fail
                  refine (parent_c p _ (by omega)).mono ?_
                  rw [← HPL.out, HE.out]
                  rintro e w9 ⟨rfl, rfl⟩
                  go_wp2_with fail
                  go_ret
                  exact ⟨rfl, hbw2⟩
                · have e3 : ((l.length : Int) == 1) = false := beq_eq_false_iff_ne.2 (by omega)
                  have h2 : 2 ≤ l.length := by omega
                  have HA := Lib.hid (HP2.out h2)
                  have HB := Lib.hid (HP3.out h2)
                  have HW := Lib.hid (HP4.out h2)
                  clear h1
                  obtain ⟨b, o, rfl, hbl, hcc⟩ := hx7.at (k := l.length - 1) (by simp; omega)
                  have hgd : l.getD (l.length - 1) ByteArray.empty = l[l.length - 1] := PathS.getD_at' l _ (by omega)
                  have hcell0 : w7.cell? ⟨b, o + (l.length - 1), none⟩ = some (.string (l.getD (l.length - 1) ByteArray.empty)) := by rw [hgd, hcc (l.length - 1) (by simp; omega), List.getElem_map]
                  have hsy : (l.getD (l.length - 1) ByteArray.empty).size ≤ p.size := by rw [hgd]; exact HSZ.out _ (List.getElem_mem _)
                  clear hgd hcc
                  generalize l.getD (l.length - 1) ByteArray.empty = y at *
                  go_wp2_with fail
                  refine (parent_c p _ (by omega)).mono ?_
                  rw [← HPL.out]
                  rintro e w9 ⟨rfl, rfl⟩
                  generalize PathS.parent p = f at *
                  go_wp2_with fail
                  refine (check_c f wr g8 (by omega)).mono ?_
                  rw [HA.out]
                  rintro e w10 ⟨rfl, b10⟩
                  have hcell : w10.cell? ⟨b, o + (l.length - 1), none⟩ = some (.string y) := by
                    rw [b10.cell (p := ⟨b, o + (l.length - 1), none⟩) (Nat.lt_of_lt_of_le hbl hb7.size), hb7.cell (p := ⟨b, o + (l.length - 1), none⟩) hbl]; exact hcell0
                  have hsf : (f ++ (⟨#[47]⟩ : ByteArray)).size = f.size + 1 := by rw [ByteArray.size_append]; rfl
                  go_wp2_with fail
                  refine (under_c p f w10 (by omega)).mono ?_
                  rw [HB.out]
                  rintro e w11 ⟨rfl, rfl⟩
                  have hw1 : IntKind.i64.wrap ((l.length : Int) - 1) = l.length - 1 := IntWalk.i64_in _ (by omega)
                  have hw2 : ((l.length : Int) - 1).toNat = l.length - 1 := by omega
                  have hEq : ((f ++ (⟨#[47]⟩ : ByteArray) ++ y).toList == p.toList) = true := by rw [HW.out]; simp
                  go_wp2_with fail
                  go_ret
                  exact ⟨rfl, hbw2.trans (b10.mono hbw2.size)⟩
          · have d8 : (PathS.check p != 0) = true := by simpa using hc
            clear hc
            go_wp2_with fail
            refine (check_c p w3 gW (by omega)).mono ?_
            rintro e w5 ⟨rfl, b5⟩
            go_wp2_with fail
            go_ret
            exact ⟨rfl, (hbw3).trans (b5.mono (hbw3).size)⟩
end Go.Proofs.YtmcdfikkokbffaaDoor
