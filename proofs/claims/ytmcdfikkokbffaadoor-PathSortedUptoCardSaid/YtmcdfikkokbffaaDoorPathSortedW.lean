/- The walk of the law PathSorted. -/
import Derived.Test.YtmcdfikkokbffaaDoorPathSortW
import Derived.Test.YtmcdfikkokbffaaDoorPathMore
namespace Go.Proofs.YtmcdfikkokbffaaDoor
open Go Go.RowKit

set_option maxRecDepth 100000 in
set_option maxHeartbeats 2000000 in
theorem sorted_c (a : Option Addr) (c : Nat) (ss : List ByteArray) (f : ByteArray) (w : World) (hg : Gl w) (hs : Sl w a (ss.map Value.string)) (hl : ss.length ≤ 10000000) (hz : ∀ s ∈ ss, s.size ≤ 10000000) (hf : f.size ≤ 10000000) :
    Calls Tryd.prog 4 #[.slice a ss.length c, .string f] w fun e w' => e = .returned (.bool true) ∧ Below w.heap.size w w' := by
  go_enter Tryd.func4, Tryd.ntmps4
  go_wp2_with fail
  refine (awake_c w hg).mono ?_
  rintro e w1 ⟨rfl, b1⟩
  have g1 := hg.below b1 (Nat.le_refl _)
  have hs1 := hs.below b1
  go_wp2_with fail
  refine (valid_c a c ss w1 g1 hs1 (by omega) hz).mono ?_
  rintro e w2 ⟨v, rfl, hown, b2⟩
  have b12 := b1.trans (b2.mono b1.size)
  have hvl : (ss.filter fun s => PathS.check s == 0).length ≤ 10000000 := Nat.le_trans (List.length_filter_le _ _) hl
  have hvz : ∀ s ∈ ss.filter (fun s => PathS.check s == 0), s.size ≤ 10000000 := fun s h => hz s (List.mem_filter.1 h).1
  generalize ss.filter (fun s => PathS.check s == 0) = vl at *
  obtain ⟨av, cv, rfl, -, -, hvs⟩ := own_sl hown
  clear hown hz
  have HVZ := Lib.hid hvz; clear hvz
  go_wp2_with fail
  refine (ref_sorted av cv vl w2 hvs hvl HVZ.out).mono ?_
  rintro e w3 ⟨v3, rfl, hown3, b3⟩
  have b13 := b12.trans (b3.mono b12.size)
  have g3 := hg.below b13 (Nat.le_refl _)
  have HSO := Lib.hid (PathS.sortTo_sorted vl vl.length)
  have hlen : (PathS.sortTo vl vl.length).length = vl.length := PathS.sortTo_length vl vl.length
  have HZ : Hid (∀ y ∈ PathS.sortTo vl vl.length, y.size ≤ 10000000) := fun y hy => HVZ.out y (List.mem_of_mem_take ((PathS.sortTo_mem vl y vl.length (Nat.le_refl _)).1 hy))
  generalize PathS.sortTo vl vl.length = l at *
  rw [← hlen] at hown3
  have hll : l.length ≤ 10000000 := by omega
  obtain ⟨a3, c3, rfl, -, -, hx⟩ := own_sl hown3
  clear hown3 hvs hvl HVZ hlen b1 b2 b3 b12 hs1
  go_wp2_with fail
  refine (check_c f w3 g3 (by omega)).mono ?_
  rintro e w4 ⟨rfl, b4⟩
  have b14 := b13.trans (b4.mono b13.size)
  have hx := hx.below b4
  generalize PathS.check f = ck at *
  by_cases hck : ck = 0
  · have d1 : (ck != 0) = false := by simp [hck]
    clear hck
    by_cases hl100 : 100 < l.length
    · go_wp2_with fail
      go_ret
      exact ⟨rfl, b14⟩
    · have d2 : l.length ≤ 100 := by omega
      go_wp2_with fail
      go_loopw [6, 25] (fun t i wr => ∃ (k : Nat) (st : Int), k ≤ l.length ∧ i = .int .i64 k ∧ t = .int .i64 st ∧ Hid (PathS.Seen f l k st) ∧ Below w.heap.size w wr ∧ Below w4.heap.size w4 wr) (fun _ i _ => l.length - (intOf i).toNat)
      case atStart => exact ⟨0, 0, by omega, rfl, rfl, .inl rfl, b14, Below.refl _ _⟩
      case round =>
        obtain ⟨k, st, hk, rfl, rfl, HS, hbw, hb4⟩ := hrel
        by_cases hlt : k < l.length
        · have HLT := Lib.hid hlt
          obtain ⟨b, o, rfl, hbl, hc⟩ := hx.at (k := k) (by simpa using hlt)
          have hcell : ∀ j (hj : j < l.length), wr.cell? ⟨b, o + j, none⟩ = some (.string l[j]) := fun j hj => by rw [hb4.cell (p := ⟨b, o + j, none⟩) hbl, hc j (by simpa using hj), List.getElem_map]
          have hck := hcell k hlt
          have hsz := HZ.out _ (List.getElem_mem hlt)
          clear hc
          have gr := hg.below hbw (Nat.le_refl _)
          have hpre : k = 0 ∨ ∃ (q : ByteArray), 0 < k ∧ q.size ≤ 10000000 ∧ wr.cell? ⟨b, o + (k - 1), none⟩ = some (.string q) ∧ PathS.cmp q l[k] ≤ 0 := by
            by_cases h0 : k = 0
            · exact .inl h0
            · exact .inr ⟨l[k - 1], by omega, HZ.out _ (List.getElem_mem _), hcell (k - 1) (by omega), List.pairwise_iff_getElem.1 HSO.out (k - 1) k (by omega) hlt (by omega)⟩
          clear hcell
          have HIN := Lib.hid (fun (hu : PathS.under l[k] f = true) => PathS.seen_in (k := k) HSO.out HS.out hlt hu)
          have HO1 := Lib.hid (fun (h1 : st = 1) (hu : PathS.under l[k] f = false) => PathS.seen_out1 (k := k) HSO.out (by rw [← h1]; exact HS.out) hlt hu)
          have HO0 := Lib.hid (fun (hu : PathS.under l[k] f = false) (h : PathS.cmp f l[k] < 0) => PathS.seen_out0 (f := f) (l := l) (k := k) hlt hu h)
          have HUA := Lib.hid (fun (h : PathS.under l[k] f = true) => PathS.under_after h)
          have hst : st = 0 ∨ st = 1 ∨ st = 2 := by
            rcases HS.out with h | ⟨h, _⟩ | ⟨h, _⟩
            · exact .inl h
            · exact .inr (.inl h)
            · exact .inr (.inr h)
          generalize l[k] = p at *
          have hmid : ∀ WX : World, Below w.heap.size w WX → Below w4.heap.size w4 WX → True := fun _ _ _ => trivial
          rcases hpre with h0 | ⟨q, h0, hq, hcq, hle⟩
          · have e0 : decide (0 < (k : Int)) = false := by simp; omega
            have e1 : decide (0 < k) = false := by simp; omega
            clear h0
            go_wp2_with fail
            have GX := hg.below hbw (Nat.le_refl _)
            refine (under_c p f _ (by omega)).mono ?_
            rintro e w7 ⟨rfl, rfl⟩
            cases hu : PathS.under p f
            · have HU := Lib.hid hu
              clear hu
              rcases hst with rfl | rfl | rfl
              · go_wp2_with fail
                refine (cmp_c f p _ GX hf hsz).mono ?_
                rintro e w8 ⟨rfl, b8⟩
                by_cases hc : PathS.cmp f p < 0
                · have d5 : decide (PathS.cmp f p < 0) = true := by simpa using hc
                  have H2 : Hid (PathS.Seen f l (k + 1) 2) := HO0.out HU.out hc
                  clear hc
                  go_wp2_with fail
                  go_roundw
                  case rel => exact ⟨k + 1, 2, by omega, by go_num, rfl, H2, hbw.trans (b8.mono hbw.size), hb4.trans (b8.mono hb4.size)⟩
                  case measure => simp [intOf]; omega
                · have d5 : decide (PathS.cmp f p < 0) = false := by simpa using hc
                  have H2 : Hid (PathS.Seen f l (k + 1) 0) := .inl rfl
                  clear hc
                  go_wp2_with fail
                  go_roundw
                  case rel => exact ⟨k + 1, 0, by omega, by go_num, rfl, H2, hbw.trans (b8.mono hbw.size), hb4.trans (b8.mono hb4.size)⟩
                  case measure => simp [intOf]; omega
              · have H2 : Hid (PathS.Seen f l (k + 1) 2) := HO1.out rfl HU.out
                go_wp2_with fail
                go_roundw
                case rel => exact ⟨k + 1, 2, by omega, by go_num, rfl, H2, hbw, hb4⟩
                case measure => simp [intOf]; omega
              · have H2 : Hid (PathS.Seen f l (k + 1) 2) := PathS.seen_stay HS.out
                go_wp2_with fail
                go_roundw
                case rel => exact ⟨k + 1, 2, by omega, by go_num, rfl, H2, hbw, hb4⟩
                case measure => simp [intOf]; omega
            · obtain ⟨hne, H1⟩ := HIN.out hu
              have H2 : Hid (PathS.Seen f l (k + 1) 1) := H1
              have e5 : (st == 2) = false := by simpa using hne
              have hlt5 := HUA.out hu
              have d5 : decide (0 ≤ PathS.cmp f p) = false := by simp; omega
              have HU := Lib.hid hu
              clear H1 hne hu hlt5 hst
              go_wp2_with fail
              refine (cmp_c f p _ GX hf hsz).mono ?_
              rintro e w8 ⟨rfl, b8⟩
              go_wp2_with fail
              go_roundw
              case rel => exact ⟨k + 1, 1, by omega, by go_num, rfl, H2, hbw.trans (b8.mono hbw.size), hb4.trans (b8.mono hb4.size)⟩
              case measure => simp [intOf]; omega
          · have e0 : decide (0 < (k : Int)) = true := by simp; omega
            have e1 : decide (0 < k) = true := by simp; omega
            have hw1 : IntKind.i64.wrap ((k : Int) - 1) = k - 1 := IntWalk.i64_in _ (by omega)
            have e3 : ((k : Int) - 1).toNat = k - 1 := by omega
            have d3 : decide (0 < PathS.cmp q p) = false := by simp; omega
            clear hle
            go_wp2_with fail
            refine (cmp_c q p wr gr hq hsz).mono ?_
            rintro e w5 ⟨rfl, b5⟩
            have hbw := hbw.trans (b5.mono hbw.size)
            have hb4 := hb4.trans (b5.mono hb4.size)
            clear b5
            go_wp2_with fail
            have GX := hg.below hbw (Nat.le_refl _)
            refine (under_c p f _ (by omega)).mono ?_
            rintro e w7 ⟨rfl, rfl⟩
            cases hu : PathS.under p f
            · have HU := Lib.hid hu
              clear hu
              rcases hst with rfl | rfl | rfl
              · go_wp2_with fail
                refine (cmp_c f p _ GX hf hsz).mono ?_
                rintro e w8 ⟨rfl, b8⟩
                by_cases hc : PathS.cmp f p < 0
                · have d5 : decide (PathS.cmp f p < 0) = true := by simpa using hc
                  have H2 : Hid (PathS.Seen f l (k + 1) 2) := HO0.out HU.out hc
                  clear hc
                  go_wp2_with fail
                  go_roundw
                  case rel => exact ⟨k + 1, 2, by omega, by go_num, rfl, H2, hbw.trans (b8.mono hbw.size), hb4.trans (b8.mono hb4.size)⟩
                  case measure => simp [intOf]; omega
                · have d5 : decide (PathS.cmp f p < 0) = false := by simpa using hc
                  have H2 : Hid (PathS.Seen f l (k + 1) 0) := .inl rfl
                  clear hc
                  go_wp2_with fail
                  go_roundw
                  case rel => exact ⟨k + 1, 0, by omega, by go_num, rfl, H2, hbw.trans (b8.mono hbw.size), hb4.trans (b8.mono hb4.size)⟩
                  case measure => simp [intOf]; omega
              · have H2 : Hid (PathS.Seen f l (k + 1) 2) := HO1.out rfl HU.out
                go_wp2_with fail
                go_roundw
                case rel => exact ⟨k + 1, 2, by omega, by go_num, rfl, H2, hbw, hb4⟩
                case measure => simp [intOf]; omega
              · have H2 : Hid (PathS.Seen f l (k + 1) 2) := PathS.seen_stay HS.out
                go_wp2_with fail
                go_roundw
                case rel => exact ⟨k + 1, 2, by omega, by go_num, rfl, H2, hbw, hb4⟩
                case measure => simp [intOf]; omega
            · obtain ⟨hne, H1⟩ := HIN.out hu
              have H2 : Hid (PathS.Seen f l (k + 1) 1) := H1
              have e5 : (st == 2) = false := by simpa using hne
              have hlt5 := HUA.out hu
              have d5 : decide (0 ≤ PathS.cmp f p) = false := by simp; omega
              have HU := Lib.hid hu
              clear H1 hne hu hlt5 hst
              go_wp2_with fail
              refine (cmp_c f p _ GX hf hsz).mono ?_
              rintro e w8 ⟨rfl, b8⟩
              go_wp2_with fail
              go_roundw
              case rel => exact ⟨k + 1, 1, by omega, by go_num, rfl, H2, hbw.trans (b8.mono hbw.size), hb4.trans (b8.mono hb4.size)⟩
              case measure => simp [intOf]; omega
        · go_wp2_with fail
          go_ret
          exact ⟨rfl, hbw⟩
  · have d1 : (ck != 0) = true := by simp [hck]
    go_wp2_with fail
    go_ret
    exact ⟨rfl, b14⟩
end Go.Proofs.YtmcdfikkokbffaaDoor
