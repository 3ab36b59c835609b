/- Texts of mine, joined: Walks: the reference's table, a slice of rows. | Walks: the reference's pairs of alike places. | Walks: numbers with a point: their bits, their one form, their order. | Walks: the order of numbers with a point. -/
import Derived.WalkLawsBesides
import Derived.Laws.Externs
import Derived.Laws.Bits64
import Derived.Laws.Bits64b
import Derived.Test.YtpcipdkoncmdcaaGreatDoorYJoinMerges12
namespace Go.Proofs.YtpcipdkoncmdcaaGreatDoor
open Go Go.RowKit
theorem infoR : (Tryz.prog.info? 188).map (fun i => (i.zero, i.size, i.bytes)) = some (some (.slice none 0 0), 1, 24) := by kernel_rfl

theorem own_grown {w w' : World} {base : Nat} {e : TypeId} {s : Nat} {v : Value} {n : Nat} {xs : List Value} {g : Nat} (h : w.ownsRow base e s v n xs) (hg : w.grownBy w' (some g)) (hne : v.ownBlock ≠ some g) : w'.ownsRow base e s v n xs :=
  h.kept hg (.inr hne)

/-- The reference's table: its rows from lo on are laid. -/
structure LT (w : World) (base o la wd : Nat) (r f : Nat → Nat) (lo : Nat) : Prop where
  own : ∃ xs, w.ownsRow base 188 1 (.slice (some ⟨o, 0, none⟩) (la + 1) (la + 1)) (la + 1) xs ∧ ∀ i, lo ≤ i → i ≤ la → xs[i]? = some (.slice (some ⟨r i, 0, none⟩) wd wd)
  rows : ∀ i, lo ≤ i → i ≤ la → w.ownsRow base 3 1 (.slice (some ⟨r i, 0, none⟩) wd wd) wd (Row wd fun k => f (i * wd + k)) ∧ r i ≠ o ∧ r i < w.heap.size
  inj : ∀ i j, lo ≤ i → i < j → j ≤ la → r i ≠ r j
  zero : ∀ x, x < lo * wd → f x = 0

theorem LT.cell {w : World} {base o la wd : Nat} {r f : Nat → Nat} {lo : Nat} (h : LT w base o la wd r f lo) (i : Nat) (h1 : lo ≤ i) (h2 : i ≤ la) : w.cell? ⟨o, i, none⟩ = some (.slice (some ⟨r i, 0, none⟩) wd wd) := by
  obtain ⟨xs, ho, hx⟩ := h.own
  rw [ho.cellAt i (by omega)]
  exact hx i h1 h2

theorem LT.num {w : World} {base o la wd : Nat} {r f : Nat → Nat} {lo : Nat} (h : LT w base o la wd r f lo) (i k : Nat) (h1 : lo ≤ i) (h2 : i ≤ la) (hk : k < wd) : w.cell? ⟨r i, k, none⟩ = some (.int .i64 (f (i * wd + k))) :=
  Row_cell (h.rows i h1 h2).1 k hk

theorem LT.below {w w' : World} {base o la wd : Nat} {r f : Nat → Nat} {lo : Nat} (h : LT w base o la wd r f lo) (hb : Below w.heap.size w w') : LT w' base o la wd r f lo := by
  obtain ⟨xs, ho, hx⟩ := h.own
  refine ⟨⟨xs, own_below ho hb, hx⟩, fun i h1 h2 => ?_, h.inj, h.zero⟩
  obtain ⟨a1, a2, a3⟩ := h.rows i h1 h2
  exact ⟨own_below a1 hb, a2, Nat.lt_of_lt_of_le a3 hb.size⟩

/-- A new row of noughts is laid as row lo. -/
theorem LT.row {w : World} {base o la wd : Nat} {r f : Nat → Nat} {lo g : Nat} (h : LT w base o la wd r f (lo + 1)) (hlo : lo ≤ la) (hg : w.ownsRow base 3 1 (.slice (some ⟨g, 0, none⟩) wd wd) wd (Row wd fun _ => 0)) (hgo : g ≠ o) (hne : ∀ i, lo + 1 ≤ i → i ≤ la → r i ≠ g) :
    LT (w.setCell ⟨o, lo, none⟩ (.slice (some ⟨g, 0, none⟩) wd wd)) base o la wd (fun i => if i = lo then g else r i) f lo ∧ Below base w (w.setCell ⟨o, lo, none⟩ (.slice (some ⟨g, 0, none⟩) wd wd)) := by
  obtain ⟨xs, ho, hx⟩ := h.own
  obtain ⟨s1, s2⟩ := ho.stored lo (.slice (some ⟨g, 0, none⟩) wd wd)
  have hlen : xs.length = la + 1 := by have := ho.1; omega
  have hlt := ho.lt o rfl
  refine ⟨⟨⟨_, s1, fun i h1 h2 => ?_⟩, fun i h1 h2 => ?_, fun i j h1 h2 h3 => ?_, fun x hx => h.zero x ?_⟩, (Below.refl base w).grown s2 (by omega) (by intro k hk; cases hk; omega)⟩
  · by_cases e : i = lo
    · subst e
      rw [List.getElem?_set_self (by omega), if_pos rfl]
    · rw [List.getElem?_set_ne (by omega)]
      show xs[i]? = _
      rw [if_neg e]
      exact hx i (by omega) h2
  · by_cases e : i = lo
    · subst e
      simp only [if_pos]
      refine ⟨?_, hgo, by have := (hg.lt g rfl).2; have := s2.size; omega⟩
      have hz : (Row wd fun k => f (i * wd + k)) = Row wd fun _ => 0 := by
        simp only [Row]
        apply List.map_congr_left
        intro k hk
        rw [h.zero (i * wd + k) (by have := List.mem_range.1 hk; rw [Nat.add_mul]; omega)]
      rw [hz]
      exact own_grown hg s2 (by simp [Value.ownBlock]; exact hgo)
    · simp only [if_neg e]
      obtain ⟨a1, a2, a3⟩ := h.rows i (by omega) h2
      exact ⟨own_grown a1 s2 (by simp [Value.ownBlock]; exact a2), a2, by have := s2.size; omega⟩
  · by_cases e : i = lo
    · subst e
      rw [if_pos rfl, if_neg (by omega)]
      exact fun e => hne j (by omega) h3 e.symm
    · rw [if_neg e, if_neg (by omega)]
      exact h.inj i j (by omega) h2 h3
  · rw [Nat.add_mul]; omega

/-- A number is stored in row lo. -/
theorem LT.put {w : World} {base o la wd : Nat} {r f : Nat → Nat} {lo : Nat} (h : LT w base o la wd r f lo) (hlo : lo ≤ la) (k v : Nat) (hk : k < wd) :
    LT (w.setCell ⟨r lo, k, none⟩ (.int .i64 v)) base o la wd r (fun x => if x = lo * wd + k then v else f x) lo ∧ Below base w (w.setCell ⟨r lo, k, none⟩ (.int .i64 v)) := by
  obtain ⟨xs, ho, hx⟩ := h.own
  obtain ⟨a1, a2, a3⟩ := h.rows lo (Nat.le_refl _) hlo
  obtain ⟨s1, s2⟩ := a1.stored k (.int .i64 v)
  have hlt := a1.lt (r lo) rfl
  rw [Row_set] at s1
  refine ⟨⟨⟨xs, own_grown ho s2 (by simp [Value.ownBlock]; exact fun e => a2 e.symm), hx⟩, fun i h1 h2 => ?_, h.inj, fun x hx => ?_⟩, (Below.refl base w).grown s2 (by omega) (by intro k hk; cases hk; omega)⟩
  · by_cases e : i = lo
    · subst e
      refine ⟨?_, a2, by have := s2.size; omega⟩
      have hz : (Row wd fun x => if i * wd + x = i * wd + k then v else f (i * wd + x)) = Row wd fun x => if x = k then v else f (i * wd + x) := by
        simp only [Row]
        apply List.map_congr_left
        intro x _
        simp
      rw [hz]
      exact s1
    · obtain ⟨b1, b2, b3⟩ := h.rows i h1 h2
      refine ⟨?_, b2, by have := s2.size; omega⟩
      have hz : (Row wd fun x => if i * wd + x = lo * wd + k then v else f (i * wd + x)) = Row wd fun x => f (i * wd + x) := by
        simp only [Row]
        apply List.map_congr_left
        intro x hx
        have hx' := List.mem_range.1 hx
        rw [if_neg]
        intro e2
        exact e (ScoreS.place_inj hx' hk e2).1
      rw [hz]
      exact own_grown b1 s2 (by simp [Value.ownBlock]; exact fun e2 => h.inj lo i (Nat.le_refl _) (by omega) h2 e2.symm)
  · show (if _ then _ else _) = _
    rw [if_neg (by omega)]
    exact h.zero x hx
theorem LT.slot {w : World} {base o la wd : Nat} {r f : Nat → Nat} {lo : Nat} (h : LT w base o la wd r f lo) (i : Nat) (h2 : i ≤ la) : ∃ u, w.cell? ⟨o, i, none⟩ = some u ∧ w.frozen? ⟨o, i, none⟩ = false := by
  obtain ⟨xs, ho, hx⟩ := h.own
  have hlen : xs.length = la + 1 := by have := ho.1; omega
  refine ⟨xs[i], ?_, ho.frozenAt i⟩
  rw [ho.cellAt i (by omega)]
  exact List.getElem?_eq_getElem _

theorem LT.drewN {w : World} {base o la wd : Nat} {r f : Nat → Nat} {lo : Nat} (h : LT w base o la wd r f lo) (q : Nat) : LT (w.drewN q) base o la wd r f lo :=
  ⟨h.own, h.rows, h.inj, h.zero⟩

theorem madeNil (N : Nat) : (madeCells #[Value.slice none 0 0] N).toList = List.replicate N (Value.slice none 0 0) := by
  rw [toList_madeCells_one]

set_option maxRecDepth 100000 in
set_option maxHeartbeats 4000000 in
theorem long_c (aa ab : Option Addr) (ca cb : Nat) (a b : List ByteArray) (w : World) (ha : Sl w aa (a.map Value.string)) (hb : Sl w ab (b.map Value.string)) (hla : a.length ≤ 10000000) (hlb : b.length ≤ 10000000) :
    Calls Tryz.prog 115 #[.slice aa a.length ca, .slice ab b.length cb] w fun e w' => ∃ o r f, e = .returned (.slice (some ⟨o, 0, none⟩) (a.length + 1) (a.length + 1)) ∧
      LT w' w.heap.size o a.length (b.length + 1) r f 0 ∧ ScoreS.Done a b 0 0 f ∧ o < w'.heap.size ∧ Below w.heap.size w w' := by
  have hma : IntKind.i64.wrap ((a.length : Int) + 1) = ((a.length + 1 : Nat) : Int) := IntWalk.i64_in _ (by omega)
  have hmb : IntKind.i64.wrap ((b.length : Int) + 1) = ((b.length + 1 : Nat) : Int) := IntWalk.i64_in _ (by omega)
  obtain ⟨it, hi, hz0, hz1, hz2⟩ := info_parts infoI
  obtain ⟨jt, gi, gz0, gz1, gz2⟩ := info_parts infoR
  have HI := Lib.hid (And.intro hi (And.intro hz0 (And.intro hz1 hz2)))
  go_enter Tryz.func115, Tryz.ntmps115
  go_wp2_with (at_make; (refine wpList_make_full _ rfl (.tmp 11) (.tmp 11) 184 rfl w.heap.size 188 jt (.slice none 0 0) 1 rfl gi gz0 gz1 .i64 .i64 _ _ (a.length + 1) rfl rfl ?L1 ?L2 ?b2 ?b3 (Nat.le_refl _) ?hK))
  case L1 => omega
  case L2 => omega
  case b2 => rw [gz2]; omega
  case b3 => simp only [maxLen]; omega
  intro w1 hown hgrow
  rw [madeNil] at hown
  clear gi gz0 gz1 gz2
  have hb1 : Below w.heap.size w w1 := (Below.refl _ w).grown hgrow (Nat.le_refl _) (by intro k hk; cases hk)
  have hg1 := (hown.lt w.heap.size rfl).2
  have hL0 : LT w1 w.heap.size w.heap.size a.length (b.length + 1) (fun _ => 0) (fun _ => 0) (a.length + 1) :=
    ⟨⟨_, hown, fun i h1 h2 => by omega⟩, fun i h1 h2 => by omega, fun i j h1 h2 h3 => by omega, fun _ _ => rfl⟩
  clear hown hgrow
  go_wp2_with (at_make; (refine wpList_make_full _ rfl (.tmp 18) (.tmp 18) 188 rfl w.heap.size 3 it (.int .i64 0) 1 rfl hi hz0 hz1 .i64 .i64 _ _ (b.length + 1) rfl rfl (by omega) (by omega) ?b4 ?b5 hb1.size ?hK2))
  case b4 => omega
  case b5 => simp only [maxLen]; omega
  intro w2 hrow hgrow2
  rw [Row_zero] at hrow
  have hb2 : Below w1.heap.size w1 w2 := (Below.refl _ w1).grown hgrow2 (Nat.le_refl _) (by intro k hk; cases hk)
  have hL1 := hL0.below hb2
  obtain ⟨u, hu, hfz⟩ := hL1.slot a.length (Nat.le_refl _)
  obtain ⟨hL2, hb3⟩ := hL1.row (Nat.le_refl _) hrow (by omega) (fun i h1 h2 => by omega)
  have hbw := (hb1.trans (hb2.mono hb1.size)).trans hb3
  have HL := Lib.hid hL2
  have HS : Hid (ScoreS.Done a b a.length 0 fun _ => 0) := ScoreS.done_start a b
  clear hL1 hL2 hgrow2 hL0
  go_wp2_with fail
  go_loopw [6] (fun v wr => ∃ (k : Nat) (r f : Nat → Nat), k ≤ a.length ∧ v = .int .i64 ((k : Int) - 1) ∧ LT wr w.heap.size w.heap.size a.length (b.length + 1) r f k ∧ Hid (ScoreS.Done a b k 0 f) ∧ Below w.heap.size w wr) (fun v _ => ((intOf v) + 1).toNat)
  case atStart => exact ⟨a.length, _, _, by omega, by go_num, HL.out, HS, hbw⟩
  case round =>
    clear HL HS hbw hb3 hb2 hu hfz hrow hb1 hg1 u
    obtain ⟨k, r, f, hk, rfl, hT, HD, hbw⟩ := hrel
    rcases k with _ | i'
    · have ho := (hT.own.elim fun xs h => (h.1.lt w.heap.size rfl).2)
      go_wp2_with fail
      go_ret
      exact ⟨w.heap.size, r, f, rfl, hT, HD, ho, hbw⟩
    · rw [show (((i' + 1 : Nat) : Int) - 1) = (i' : Int) by omega]
      have HR : Hid (ScoreS.Done a b i' b.length f) := ScoreS.done_row HD.out
      go_wp2_with (at_make; (refine wpList_make_full _ rfl (.tmp 32) (.tmp 32) 188 rfl w.heap.size 3 it (.int .i64 0) 1 rfl hi hz0 hz1 .i64 .i64 _ _ (b.length + 1) rfl rfl (by omega) (by omega) ?b6 ?b7 hbw.size ?hK3))
      case b6 => rw [hz2]; omega
      case b7 => simp only [maxLen]; omega
      intro w2 hrow hgrow2
      rw [Row_zero] at hrow
      have hb2 : Below wr.heap.size wr w2 := (Below.refl _ wr).grown hgrow2 (Nat.le_refl _) (by intro k hk; cases hk)
      have hL1 := hT.below hb2
      obtain ⟨u, hu, hfz⟩ := hL1.slot i' (by omega)
      have hrl : ∀ i, i' + 1 ≤ i → i ≤ a.length → r i < wr.heap.size := fun i h1 h2 => (hT.rows i h1 h2).2.2
      have ho := (hT.own.elim fun xs h => (h.1.lt w.heap.size rfl).2)
      obtain ⟨hL2, hb3⟩ := hL1.row (by omega) hrow (by omega) (fun i h1 h2 => by have := hrl i h1 h2; omega)
      have hbw2 := (hbw.trans (hb2.mono hbw.size)).trans hb3
      have HL := Lib.hid hL2
      have hii : (0 : Int) ≤ i' := by omega
      have hii1 : (i' : Int) < (a.length : Int) + 1 := by omega
      clear hL1 hL2 hgrow2 hT hrl hrow
      go_wp2_with fail
      go_loopw [7, 8] (fun v _ wi => ∃ (j : Nat) (r f : Nat → Nat), j ≤ b.length ∧ v = .int .i64 ((j : Int) - 1) ∧ LT wi w.heap.size w.heap.size a.length (b.length + 1) r f i' ∧ Hid (ScoreS.Done a b i' j f) ∧ Below w.heap.size w wi) (fun v _ _ => ((intOf v) + 1).toNat)
      case atStart => exact ⟨b.length, _, _, by omega, by go_num, HL.out, HR, hbw2⟩
      case round =>
        clear HL HR hbw2 hb3 hu hfz hb2 u HD hbw ho r f
        obtain ⟨j, r, f, hj, rfl, hT, HD, hbi⟩ := hrel
        rcases j with _ | j'
        · go_wp2_with fail
          go_roundw
          case rel => exact ⟨i', r, f, by omega, by go_num, hT, HD, hbi⟩
          case measure => simp [intOf]
        · rw [show (((j' + 1 : Nat) : Int) - 1) = (j' : Int) by omega]
          have hi1 : i' < a.length := by omega
          have hj1 : j' < b.length := by omega
          obtain ⟨ba, oa, rfl, hal, hac⟩ := ha.at (k := i') (by simpa using hi1)
          obtain ⟨bb, ob, rfl, hbl, hbc⟩ := hb.at (k := j') (by simpa using hj1)
          have hca : wr.cell? ⟨ba, oa + i', none⟩ = some (.string a[i']) := by rw [hbi.cell (p := ⟨ba, oa + i', none⟩) hal, hac i' (by simpa using hi1), List.getElem_map]
          have hcb : wr.cell? ⟨bb, ob + j', none⟩ = some (.string b[j']) := by rw [hbi.cell (p := ⟨bb, ob + j', none⟩) hbl, hbc j' (by simpa using hj1), List.getElem_map]
          clear hac hbc
          obtain ⟨e1, e2, e3⟩ := ScoreS.done_next hi1 hj1 HD.out
          have HV := Lib.hid (ScoreS.L_at3 hi1 hj1)
          have HSet := Lib.hid (fun v => ScoreS.done_set hi1 hj1 HD.out v)
          have hci1 := hT.cell (i' + 1) (by omega) (by omega)
          have hci := hT.cell i' (by omega) (by omega)
          have hx1 := hT.num (i' + 1) j' (by omega) (by omega) (by omega)
          have hx2 := hT.num i' (j' + 1) (by omega) (by omega) (by omega)
          have hx3 := hT.num (i' + 1) (j' + 1) (by omega) (by omega) (by omega)
          have hx0 := hT.num i' j' (by omega) (by omega) (by omega)
          have hfz := (hT.rows i' (by omega) (by omega)).1.frozenAt j'
          have HST := Lib.hid (fun v => hT.put (by omega) j' v (by omega))
          have hb3 : f ((i' + 1) * (b.length + 1) + (j' + 1)) ≤ 100000000 := by
            rw [e3]; refine Nat.le_trans (ScoreS.L_le _ _) ?_; rw [List.length_drop]; omega
          rw [← e1, ← e2, ← e3] at HV
          clear e1 e2 e3 HD hT
          generalize f ((i' + 1) * (b.length + 1) + j') = x1 at *
          generalize f (i' * (b.length + 1) + (j' + 1)) = x2 at *
          generalize f ((i' + 1) * (b.length + 1) + (j' + 1)) = x3 at *
          generalize f (i' * (b.length + 1) + j') = x0 at *
          generalize hrn : r (i' + 1) = rn at *
          generalize hrc : r i' = rc at *
          generalize a[i'] = x at *
          generalize b[j'] = y at *
          have hii2 : (i' : Int) + 1 < (a.length : Int) + 1 := by omega
          have hii3 : (0 : Int) ≤ (i' : Int) + 1 := by omega
          have hii4 : (i' : Int) < a.length := by omega
          have hjj : (0 : Int) ≤ j' := by omega
          have hjj1 : (j' : Int) < b.length := by omega
          have hjj2 : (j' : Int) + 1 < (b.length : Int) + 1 := by omega
          have hjj3 : (j' : Int) < (b.length : Int) + 1 := by omega
          have hjj4 : (0 : Int) ≤ (j' : Int) + 1 := by omega
          have hwi : IntKind.i64.wrap ((i' : Int) + 1) = (i' : Int) + 1 := IntWalk.i64_in _ (by omega)
          have hwj : IntKind.i64.wrap ((j' : Int) + 1) = (j' : Int) + 1 := IntWalk.i64_in _ (by omega)
          have hwx : IntKind.i64.wrap ((x3 : Int) + 1) = (x3 : Int) + 1 := IntWalk.i64_in _ (by omega)
          by_cases hxy : x = y
          · have d1 : (x.toList == y.toList) = true := by rw [hxy]; simp
            by_cases hlt : (x1 : Int) < x2
            · by_cases hgt : (x2 : Int) < (x3 : Int) + 1
              · skip
                have HN := Lib.hid (HSet.out (x3 + 1) (by rw [HV.out]; first | (rw [if_pos hxy]; omega) | (rw [if_neg hxy]; omega)))
                have HT := Lib.hid (HST.out (x3 + 1))
                clear HSet HST HV hxy
                go_wp2_with fail
                go_quiet (fail)
                go_wp2_with fail
                go_roundw
                case rel => exact ⟨j', r, _, by omega, by go_num, HT.out.1.drewN _, HN, below_dN (hbi.trans HT.out.2) _⟩
                case measure => simp [intOf]
              · skip
                have HN := Lib.hid (HSet.out x2 (by rw [HV.out]; first | (rw [if_pos hxy]; omega) | (rw [if_neg hxy]; omega)))
                have HT := Lib.hid (HST.out x2)
                clear HSet HST HV hxy
                go_wp2_with fail
                go_quiet (fail)
                go_wp2_with fail
                go_roundw
                case rel => exact ⟨j', r, _, by omega, by go_num, HT.out.1.drewN _, HN, below_dN (hbi.trans HT.out.2) _⟩
                case measure => simp [intOf]
            · by_cases hgt : (x1 : Int) < (x3 : Int) + 1
              · skip
                have HN := Lib.hid (HSet.out (x3 + 1) (by rw [HV.out]; first | (rw [if_pos hxy]; omega) | (rw [if_neg hxy]; omega)))
                have HT := Lib.hid (HST.out (x3 + 1))
                clear HSet HST HV hxy
                go_wp2_with fail
                go_quiet (fail)
                go_wp2_with fail
                go_roundw
                case rel => exact ⟨j', r, _, by omega, by go_num, HT.out.1.drewN _, HN, below_dN (hbi.trans HT.out.2) _⟩
                case measure => simp [intOf]
              · skip
                have HN := Lib.hid (HSet.out x1 (by rw [HV.out]; first | (rw [if_pos hxy]; omega) | (rw [if_neg hxy]; omega)))
                have HT := Lib.hid (HST.out x1)
                clear HSet HST HV hxy
                go_wp2_with fail
                go_quiet (fail)
                go_wp2_with fail
                go_roundw
                case rel => exact ⟨j', r, _, by omega, by go_num, HT.out.1.drewN _, HN, below_dN (hbi.trans HT.out.2) _⟩
                case measure => simp [intOf]
          · have d1 : (x.toList == y.toList) = false := by
              rw [beq_eq_false_iff_ne, Lib.toList_data, Lib.toList_data]; intro h; exact hxy (ScoreS.ba_ext h)
            by_cases hlt : (x1 : Int) < x2
            · skip
              have HN := Lib.hid (HSet.out x2 (by rw [HV.out]; first | (rw [if_pos hxy]; omega) | (rw [if_neg hxy]; omega)))
              have HT := Lib.hid (HST.out x2)
              clear HSet HST HV hxy
              go_wp2_with fail
              go_quiet (fail)
              go_wp2_with fail
              go_roundw
              case rel => exact ⟨j', r, _, by omega, by go_num, HT.out.1.drewN _, HN, below_dN (hbi.trans HT.out.2) _⟩
              case measure => simp [intOf]
            · skip
              have HN := Lib.hid (HSet.out x1 (by rw [HV.out]; first | (rw [if_pos hxy]; omega) | (rw [if_neg hxy]; omega)))
              have HT := Lib.hid (HST.out x1)
              clear HSet HST HV hxy
              go_wp2_with fail
              go_quiet (fail)
              go_wp2_with fail
              go_roundw
              case rel => exact ⟨j', r, _, by omega, by go_num, HT.out.1.drewN _, HN, below_dN (hbi.trans HT.out.2) _⟩
              case measure => simp [intOf]
end Go.Proofs.YtpcipdkoncmdcaaGreatDoor
namespace Go.Proofs.YtpcipdkoncmdcaaGreatDoor
open Go Go.RowKit
theorem ScoreS.turn_iff' {a b : List ByteArray} {i k : Nat} (hi : i < a.length) (hk : k < b.length) (h : ¬ a[i] = b[k]) :
    ScoreS.L (a.drop (i + 1)) (b.drop k) = ScoreS.L (a.drop i) (b.drop k) ↔ ScoreS.L (a.drop i) (b.drop (k + 1)) ≤ ScoreS.L (a.drop (i + 1)) (b.drop k) := by
  rw [List.drop_eq_getElem_cons hi, List.drop_eq_getElem_cons hk]
  exact ScoreS.turn_iff h _ _

theorem rpairElem : Elem Tryz.prog 154 187 (.agg #[.int .i64 0, .int .i64 0]) 2 16 := ⟨by kernel_rfl, by kernel_rfl⟩

set_option maxRecDepth 100000 in
set_option maxHeartbeats 2000000 in
theorem ref_pairs_c (aa ab : Option Addr) (ca cb : Nat) (a b : List ByteArray) (w : World) (ha : Sl w aa (a.map Value.string)) (hb : Sl w ab (b.map Value.string)) (hla : a.length ≤ 10000000) (hlb : b.length ≤ 10000000) (hw : a.length * b.length ≤ 1048576) :
    Calls Tryz.prog 94 #[.slice aa a.length ca, .slice ab b.length cb] w fun e w' => ∃ v, e = .returned (.tuple #[v, .int .i64 0]) ∧
      w'.ownsRow w.heap.size 187 2 v (ScoreS.P 0 0 a b).length (prow (ScoreS.P 0 0 a b)) ∧ Below w.heap.size w w' := by
  have hN : (a.length + 1) * (b.length + 1) ≤ 100000000 := by rw [Nat.add_mul, Nat.mul_add]; omega
  have hwr : IntKind.i64.wrap ((a.length : Int) * (b.length : Int)) = ((a.length * b.length : Nat) : Int) := by rw [← Int.natCast_mul]; exact IntWalk.i64_in _ (by omega)
  have hw1 : ¬ (1048576 : Int) < (a.length : Int) * (b.length : Int) := by rw [← Int.natCast_mul]; omega
  clear hN
  go_enter Tryz.func94, Tryz.ntmps94
  go_wp2_with fail
  refine (long_c aa ab ca cb a b w ha hb hla hlb).mono ?_
  rintro e w2 ⟨o, r, f, rfl, hT, HD, hol, hb2⟩
  clear hwr hw1 hw
  go_wp2_with fail
  have HC : Hid (∀ i, i ≤ a.length → w2.cell? ⟨o, i, none⟩ = some (.slice (some ⟨r i, 0, none⟩) (b.length + 1) (b.length + 1)) ∧ r i < w2.heap.size) := fun i hi => ⟨hT.cell i (by omega) hi, (hT.rows i (by omega) hi).2.2⟩
  have HR : Hid (∀ i k, i ≤ a.length → k ≤ b.length → w2.cell? ⟨r i, k, none⟩ = some (.int .i64 (f (i * (b.length + 1) + k)))) := fun i k hi hk => hT.num i k (by omega) hi (by omega)
  have HDD := Lib.hid HD
  have HS : Hid (ScoreS.P 0 0 a b = [] ++ ScoreS.P 0 0 (a.drop 0) (b.drop 0)) := by show _ = _; simp
  clear hT HD
  go_loopw [7, 8, 9] (fun v iv kv wr => ∃ (i k : Nat) (xs : List (Nat × Nat)), i ≤ a.length ∧ k ≤ b.length ∧ iv = .int .i64 i ∧ kv = .int .i64 k ∧ wr.ownsRow w2.heap.size 187 2 v xs.length (prow xs) ∧ Hid (ScoreS.P 0 0 a b = xs ++ ScoreS.P i k (a.drop i) (b.drop k)) ∧ xs.length ≤ i ∧ Below w2.heap.size w2 wr) (fun _ iv kv _ => (a.length - (intOf iv).toNat) + (b.length - (intOf kv).toNat))
  case atStart => exact ⟨0, 0, [], by omega, by omega, rfl, rfl, World.ownsRow_nil _ _ _ _, HS, Nat.zero_le _, Below.refl _ _⟩
  case round =>
    clear HS
    obtain ⟨i, k, xs, hi, hk, rfl, rfl, hown, HP, hxl, hbr⟩ := hrel
    have hbw : Below w.heap.size w wr := hb2.trans (hbr.mono hb2.size)
    by_cases hi1 : i < a.length
    · by_cases hk1 : k < b.length
      · obtain ⟨ba, oa, rfl, hal, hac⟩ := ha.at (k := i) (by simpa using hi1)
        obtain ⟨bb, ob, rfl, hbl, hbc⟩ := hb.at (k := k) (by simpa using hk1)
        have hca : wr.cell? ⟨ba, oa + i, none⟩ = some (.string a[i]) := by rw [hbw.cell (p := ⟨ba, oa + i, none⟩) hal, hac i (by simpa using hi1), List.getElem_map]
        have hcb : wr.cell? ⟨bb, ob + k, none⟩ = some (.string b[k]) := by rw [hbw.cell (p := ⟨bb, ob + k, none⟩) hbl, hbc k (by simpa using hk1), List.getElem_map]
        clear hac hbc
        have HPA := Lib.hid (ScoreS.P_at (i := i) (k := k) hi1 hk1)
        have e1 := HDD.out (i + 1) k (by omega) (by omega) (.inl (by omega))
        have e2 := HDD.out i k (by omega) (by omega) (by omega)
        have HTU := Lib.hid (ScoreS.turn_iff' (i := i) (k := k) hi1 hk1)
        rw [← e1] at HPA HTU
        rw [← e2] at HTU
        obtain ⟨hc1, hr1⟩ := HC.out (i + 1) (by omega)
        obtain ⟨hc2, hr2⟩ := HC.out i (by omega)
        have hx1 := HR.out (i + 1) k (by omega) (by omega)
        have hx2 := HR.out i k (by omega) (by omega)
        rw [← hbr.cell (p := ⟨o, _, none⟩) hol] at hc1 hc2
        rw [← hbr.cell (p := ⟨r (i + 1), _, none⟩) hr1] at hx1
        rw [← hbr.cell (p := ⟨r i, _, none⟩) hr2] at hx2
        clear e1 e2
        generalize f ((i + 1) * (b.length + 1) + k) = x1 at *
        generalize f (i * (b.length + 1) + k) = x2 at *
        generalize r (i + 1) = rn at *
        generalize r i = rc at *
        generalize a[i] = x at *
        generalize b[k] = y at *
        have hii : (0 : Int) ≤ i := by omega
        have hii1 : (i : Int) < a.length := by omega
        have hkk : (0 : Int) ≤ k := by omega
        have hkk1 : (k : Int) < b.length := by omega
        have hii2 : (i : Int) + 1 < (a.length : Int) + 1 := by omega
        have hii3 : (0 : Int) ≤ (i : Int) + 1 := by omega
        have hii4 : (i : Int) < (a.length : Int) + 1 := by omega
        have hkk3 : (k : Int) < (b.length : Int) + 1 := by omega
        have hwi : IntKind.i64.wrap ((i : Int) + 1) = (i : Int) + 1 := IntWalk.i64_in _ (by omega)
        have hwk : IntKind.i64.wrap ((k : Int) + 1) = (k : Int) + 1 := IntWalk.i64_in _ (by omega)
        by_cases hxy : x = y
        · have d1 : (x.toList == y.toList) = true := by rw [hxy]; simp
          have HN : Hid (ScoreS.P 0 0 a b = (xs ++ [(i, k)]) ++ ScoreS.P (i + 1) (k + 1) (a.drop (i + 1)) (b.drop (k + 1))) := by
            show _ = _
            rw [HP.out, HPA.out, if_pos hxy, List.append_assoc]; rfl
          clear HP HPA hxy HDD
          go_wp2_with fail
          go_quiet (fail)
          go_wp2_with (at_builtin; (refine wp_appN (news := [.int .i64 i, .int .i64 k]) rfl _ _ _ rfl rpairElem rfl (by decide) rfl (own_dN hown _) rfl rfl (by simp [Value.oneCell']) (by omega) (by simp [maxLen]; omega) hbr.size ?_))
          intro v' w' hown' _ hb'
          go_wp2_with fail
          go_roundw
          case rel => exact ⟨i + 1, k + 1, xs ++ [(i, k)], by omega, by omega, by go_num, by go_num, by rw [prow_snoc, List.length_append]; exact hown', HN, by simp; omega, (below_dN hbr _).trans hb'⟩
          case measure => simp [intOf]; omega
        · have d1 : (x.toList == y.toList) = false := by
            rw [beq_eq_false_iff_ne, Lib.toList_data, Lib.toList_data]; intro h; exact hxy (ScoreS.ba_ext h)
          rw [if_neg hxy] at HPA
          by_cases hle : x1 = x2
          · have HN : Hid (ScoreS.P 0 0 a b = xs ++ ScoreS.P (i + 1) k (a.drop (i + 1)) (b.drop k)) := by
              show _ = _
              rw [HP.out, HPA.out, if_pos ((HTU.out hxy).1 hle)]
            have hle2 : ((x1 : Int) == (x2 : Int)) = true := by simp; omega
            clear HP HPA hxy HDD HTU hle
            go_wp2_with fail
            go_quiet (fail)
            go_wp2_with fail
            go_quiet (fail)
            go_wp2_with fail
            go_roundw
            case rel => exact ⟨i + 1, k, xs, by omega, by omega, by go_num, rfl, hown, HN, by omega, below_dN hbr _⟩
            case measure => simp [intOf]; omega
          · have HN : Hid (ScoreS.P 0 0 a b = xs ++ ScoreS.P i (k + 1) (a.drop i) (b.drop (k + 1))) := by
              show _ = _
              rw [HP.out, HPA.out, if_neg (fun h => hle ((HTU.out hxy).2 h))]
            have hle2 : ((x1 : Int) == (x2 : Int)) = false := by simp; omega
            clear HP HPA hxy HDD HTU hle
            go_wp2_with fail
            go_quiet (fail)
            go_wp2_with fail
            go_quiet (fail)
            go_wp2_with fail
            go_roundw
            case rel => exact ⟨i, k + 1, xs, by omega, by omega, rfl, by go_num, hown, HN, by omega, below_dN hbr _⟩
            case measure => simp [intOf]; omega
      · have HE : Hid (ScoreS.P 0 0 a b = xs) := by
          show _ = _
          rw [HP.out, show k = b.length by omega, List.drop_length]
          cases a.drop i <;> simp [ScoreS.P]
        have hx1 : (i : Int) < a.length := by omega
        have hx2 : ¬ (k : Int) < b.length := by omega
        go_wp2_with fail
        go_ret2
        exact ⟨_, rfl, by rw [HE.out]; exact own_base hown hb2.size, hbw⟩
    · have HE : Hid (ScoreS.P 0 0 a b = xs) := by
        show _ = _
        rw [HP.out, show i = a.length by omega, List.drop_length]
        simp [ScoreS.P]
      have hx1 : ¬ (i : Int) < a.length := by omega
      go_wp2_with fail
      go_ret2
      exact ⟨_, rfl, by rw [HE.out]; exact own_base hown hb2.size, hbw⟩
end Go.Proofs.YtpcipdkoncmdcaaGreatDoor
namespace Go.Proofs.YtpcipdkoncmdcaaGreatDoor
open Go Go.RowKit
/-- Is a word no number? -/
def nanB (x : Nat) : Bool := FloatKind.f64.format.order x x != some .eq

/-- A word in its one form. -/
def cn (x : Nat) : Nat := if nanB x then 9221120237041090560 else x

theorem run_bits (x : Nat) (w : World) : (callFunc 39 #[.float .f64 x]).run Tryz.prog w = .ok (.value (.int .u64 x)) w := by
  rw [run_callFunc_extern (e := Extern.MathFloatBits.float64bits) Tryz.func39 (by kernel_rfl) (by kernel_rfl) (by kernel_rfl) (by kernel_rfl)]
  rfl

theorem run_frombits (x : Nat) (w : World) : (callFunc 93 #[.int .u64 x]).run Tryz.prog w = .ok (.value (.float .f64 x)) w := by
  rw [run_callFunc_extern (e := Extern.MathFloatBits.float64frombits) Tryz.func93 (by kernel_rfl) (by kernel_rfl) (by kernel_rfl) (by kernel_rfl)]
  rfl

set_option maxRecDepth 100000 in
theorem refbits_c (x : Nat) (w : World) : Calls Tryz.prog 20 #[.float .f64 x] w fun e w' => e = .returned (.int .u64 (cn x)) ∧ w' = w := by
  have hr := run_bits x
  cases h : nanB x
  · have hc : cn x = x := by simp [cn, h]
    rw [hc]
    have h2 : FloatKind.f64.format.order x x = some .eq := by simpa [nanB] using h
    go_enter Tryz.func20, Tryz.ntmps20
    go_wp2_with fail
    go_ret
    exact ⟨rfl, rfl⟩
  · have hc : cn x = 9221120237041090560 := by simp [cn, h]
    rw [hc]
    have h2 : (FloatKind.f64.format.order x x != some .eq) = true := h
    go_enter Tryz.func20, Tryz.ntmps20
    go_wp2_with fail
    go_ret
    exact ⟨rfl, rfl⟩

set_option maxRecDepth 100000 in
theorem canon_c (x : Nat) (w : World) : Calls Tryz.prog 83 #[.float .f64 x] w fun e w' => e = .returned (.float .f64 (cn x)) ∧ w' = w := by
  have hr : ∀ w, (callFunc 93 #[.int .u64 9221120237041090560]).run Tryz.prog w = .ok (.value (.float .f64 9221120237041090560)) w := run_frombits 9221120237041090560
  cases h : nanB x
  · have hc : cn x = x := by simp [cn, h]
    rw [hc]
    have h2 : FloatKind.f64.format.order x x = some .eq := by simpa [nanB] using h
    go_enter Tryz.func83, Tryz.ntmps83
    go_wp2_with fail
    go_ret
    exact ⟨rfl, rfl⟩
  · have hc : cn x = 9221120237041090560 := by simp [cn, h]
    rw [hc]
    have h2 : (FloatKind.f64.format.order x x != some .eq) = true := h
    go_enter Tryz.func83, Tryz.ntmps83
    go_wp2_with fail
    go_ret
    exact ⟨rfl, rfl⟩

theorem nan_of_rung {x : Nat} (h : 9218868437227405312 < x % 9223372036854775808) : nanB x = true := by
  have hr : ∃ s t, FloatKind.f64.format.read x = .nan s t := by
    refine ⟨x / 9223372036854775808 % 2 == 1, x % 9223372036854775808 - 9218868437227405312, ?_⟩
    show Ieee.double.read x = _
    unfold Ieee.Format.read
    have e1 : Ieee.double.signWeight = 9223372036854775808 := by decide
    have e2 : Ieee.double.binade = 4503599627370496 := by decide
    have e3 : Ieee.double.infRung = 9218868437227405312 := by decide
    simp only [e1, e2, e3]
    rw [if_neg (by omega), if_neg (by omega), if_neg (by omega)]
  obtain ⟨s, t, hr⟩ := hr
  unfold nanB Ieee.Format.order
  rw [hr]; rfl
end Go.Proofs.YtpcipdkoncmdcaaGreatDoor
namespace Go.Proofs.YtpcipdkoncmdcaaGreatDoor
open Go Go.RowKit
theorem xor_all {c : Nat} (h : c < 18446744073709551616) : 18446744073709551615 ^^^ c = 18446744073709551615 - c := by
  have h1 : (BitVec.ofNat 64 c).toNat = c := by rw [BitVec.toNat_ofNat]; exact Nat.mod_eq_of_lt h
  have h2 : (BitVec.allOnes 64 ^^^ BitVec.ofNat 64 c) = ~~~(BitVec.ofNat 64 c) := by
    apply BitVec.eq_of_getElem_eq; intro i hi; simp only [BitVec.getElem_xor, BitVec.getElem_not, BitVec.getElem_allOnes, Bool.true_xor]
  have h3 := congrArg BitVec.toNat h2
  rw [BitVec.toNat_xor, BitVec.toNat_not, h1, BitVec.toNat_allOnes] at h3
  exact h3

theorem or_top {c : Nat} (h : c < 9223372036854775808) : c ||| 9223372036854775808 = c + 9223372036854775808 := by
  have := Nat.two_pow_add_eq_or_of_lt (i := 63) h 1
  rw [Nat.or_comm]
  simp at this
  omega

theorem cn_lt {x : Nat} (h : x < 2 ^ 64) : cn x < 2 ^ 64 := by
  unfold cn; split
  · decide
  · exact h

/-- A number's place in the order. -/
def fkey (x : Nat) : Nat := if 9223372036854775808 ≤ cn x then 18446744073709551615 - cn x else cn x + 9223372036854775808

set_option maxRecDepth 100000 in
theorem key_c (x : Nat) (w : World) (hx : x < 2 ^ 64) : Calls Tryz.prog 71 #[.float .f64 x] w fun e w' => e = .returned (.int .u64 (fkey x)) ∧ w' = w := by
  have hr := run_bits (cn x)
  have hl := cn_lt hx
  have hk : fkey x = if 9223372036854775808 ≤ cn x then 18446744073709551615 - cn x else cn x + 9223372036854775808 := rfl
  generalize fkey x = k at *
  go_enter Tryz.func71, Tryz.ntmps71
  go_wp2_with fail
  refine (canon_c x w).mono ?_
  rintro e w1 ⟨rfl, rfl⟩
  generalize cn x = c at *
  have hs63 : bits .or .u64 (c : Int) 9223372036854775808 = ((c ||| 9223372036854775808 : Nat) : Int) := bits_or_u64_nat c 9223372036854775808 hl (by decide)
  have hx63 : bits .xor .u64 IntKind.u64.max (c : Int) = ((18446744073709551615 ^^^ c : Nat) : Int) := bits_xor_u64_nat 18446744073709551615 c (by decide) hl
  by_cases h : 9223372036854775808 ≤ c
  · rw [if_pos h] at hk
    rw [xor_all hl, ← hk] at hx63
    have hd : ((c : Int) / 9223372036854775808 == 1) = true := by
      rw [show (c : Int) / 9223372036854775808 = ((c / 9223372036854775808 : Nat) : Int) from rfl, show c / 9223372036854775808 = 1 by omega]; rfl
    clear hs63 hk
    go_wp2_with fail
    go_ret
    exact ⟨rfl, rfl⟩
  · rw [if_neg h] at hk
    rw [or_top (by omega), ← hk] at hs63
    have hd : ((c : Int) / 9223372036854775808 == 1) = false := by
      rw [show (c : Int) / 9223372036854775808 = ((c / 9223372036854775808 : Nat) : Int) from rfl, show c / 9223372036854775808 = 0 by omega]; rfl
    clear hx63 hk
    go_wp2_with fail
    go_ret
    exact ⟨rfl, rfl⟩

set_option maxRecDepth 100000 in
theorem compare_c (x y : Nat) (w : World) (hx : x < 2 ^ 64) (hy : y < 2 ^ 64) : Calls Tryz.prog 47 #[.float .f64 x, .float .f64 y] w fun e w' => e = .returned (.int .i64 (if fkey x < fkey y then -1 else if fkey y < fkey x then 1 else 0)) ∧ w' = w := by
  have HX := Lib.hid (fun W => key_c x W hx)
  have HY := Lib.hid (fun W => key_c y W hy)
  generalize fkey x = a at *
  generalize fkey y = b at *
  go_enter Tryz.func47, Tryz.ntmps47
  go_wp2_with fail
  refine (HX.out w).mono ?_
  rintro e w1 ⟨rfl, rfl⟩
  go_wp2_with fail
  refine (HY.out w1).mono ?_
  rintro e w2 ⟨rfl, rfl⟩
  rcases Nat.lt_trichotomy a b with h | h | h
  · have h1 : (a : Int) < b := by omega
    go_wp2_with fail
    go_ret
    exact ⟨ret_i64 (by first | rfl | simp [h]), rfl⟩
  · subst h
    go_wp2_with fail
    go_ret
    exact ⟨ret_i64 (by first | rfl | simp), rfl⟩
  · have h1 : ¬ (a : Int) < b := by omega
    have h2 : (b : Int) < a := by omega
    go_wp2_with fail
    go_ret
    exact ⟨ret_i64 (by first | rfl | (rw [if_neg (by omega), if_pos h])), rfl⟩

theorem fkey_lt (a b : Nat) (ha : cn a < 18446744073709551616) (hb : cn b < 18446744073709551616) : fkey a < fkey b ↔
    (if 9223372036854775808 ≤ cn a ∧ 9223372036854775808 ≤ cn b then cn b < cn a else if 9223372036854775808 ≤ cn a ∨ 9223372036854775808 ≤ cn b then 9223372036854775808 ≤ cn a else cn a < cn b) := by
  unfold fkey
  split <;> split <;> simp [*] <;> omega

set_option maxRecDepth 100000 in
theorem before_c (x y : Nat) (w : World) (hx : x < 2 ^ 64) (hy : y < 2 ^ 64) : Calls Tryz.prog 22 #[.float .f64 x, .float .f64 y] w fun e w' => e = .returned (.bool (decide (fkey x < fkey y))) ∧ w' = w := by
  have hk := fkey_lt x y (cn_lt hx) (cn_lt hy)
  obtain ⟨z, hz⟩ : ∃ z, z = decide (fkey x < fkey y) := ⟨_, rfl⟩
  rw [← hz]
  have HX := Lib.hid (fun W => refbits_c x W)
  have HY := Lib.hid (fun W => refbits_c y W)
  rw [← decide_eq_true_eq (p := fkey x < fkey y), ← hz] at hk
  clear hz
  generalize cn x = a at *
  generalize cn y = b at *
  by_cases h1 : 9223372036854775808 ≤ a
  · have g1 : (9223372036854775808 : Int) ≤ a := by omega
    by_cases h2 : 9223372036854775808 ≤ b
    · have g2 : (9223372036854775808 : Int) ≤ b := by omega
      have hv : z = decide (b < a) := by
        rw [Bool.eq_iff_iff, hk, if_pos (And.intro h1 h2), decide_eq_true_eq]
      have HV := Lib.hid hv
      clear h1 h2 hv hk
      go_enter Tryz.func22, Tryz.ntmps22
      go_wp2_with fail
      refine (HX.out w).mono ?_
      rintro e w1 ⟨rfl, rfl⟩
      go_wp2_with fail
      refine (HY.out w1).mono ?_
      rintro e w2 ⟨rfl, rfl⟩
      go_wp2_with fail
      go_ret
      exact ⟨ret_bool HV.out, rfl⟩
    · have g2 : decide ((9223372036854775808 : Int) ≤ b) = false := by rw [decide_eq_false_iff_not]; omega
      have hv : z = true := by
        rw [hk, if_neg (fun e => h2 e.2), if_pos (.inl h1)]; exact h1
      have HV := Lib.hid hv
      clear h1 h2 hv hk
      go_enter Tryz.func22, Tryz.ntmps22
      go_wp2_with fail
      refine (HX.out w).mono ?_
      rintro e w1 ⟨rfl, rfl⟩
      go_wp2_with fail
      refine (HY.out w1).mono ?_
      rintro e w2 ⟨rfl, rfl⟩
      go_wp2_with fail
      go_ret
      exact ⟨ret_bool HV.out, rfl⟩
  · have g1 : decide ((9223372036854775808 : Int) ≤ a) = false := by rw [decide_eq_false_iff_not]; omega
    by_cases h2 : 9223372036854775808 ≤ b
    · have g2 : (9223372036854775808 : Int) ≤ b := by omega
      have hv : z = false := by
        rw [← Bool.not_eq_true, hk, if_neg (fun e => h1 e.1), if_pos (.inr h2)]; exact h1
      have HV := Lib.hid hv
      clear h1 h2 hv hk
      go_enter Tryz.func22, Tryz.ntmps22
      go_wp2_with fail
      refine (HX.out w).mono ?_
      rintro e w1 ⟨rfl, rfl⟩
      go_wp2_with fail
      refine (HY.out w1).mono ?_
      rintro e w2 ⟨rfl, rfl⟩
      go_wp2_with fail
      go_ret
      exact ⟨ret_bool HV.out, rfl⟩
    · have g2 : decide ((9223372036854775808 : Int) ≤ b) = false := by rw [decide_eq_false_iff_not]; omega
      have hv : z = decide (a < b) := by
        rw [Bool.eq_iff_iff, hk, if_neg (fun e => h1 e.1), if_neg (fun e => e.elim h1 h2), decide_eq_true_eq]
      have HV := Lib.hid hv
      clear h1 h2 hv hk
      go_enter Tryz.func22, Tryz.ntmps22
      go_wp2_with fail
      refine (HX.out w).mono ?_
      rintro e w1 ⟨rfl, rfl⟩
      go_wp2_with fail
      refine (HY.out w1).mono ?_
      rintro e w2 ⟨rfl, rfl⟩
      go_wp2_with fail
      go_ret
      exact ⟨ret_bool HV.out, rfl⟩
end Go.Proofs.YtpcipdkoncmdcaaGreatDoor
