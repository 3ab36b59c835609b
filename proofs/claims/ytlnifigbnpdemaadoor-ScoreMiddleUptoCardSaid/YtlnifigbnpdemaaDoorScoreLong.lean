/- Walks: the reference's table, a slice of rows. -/
import Derived.Test.YtlnifigbnpdemaaDoorScorePairs
namespace Go.Proofs.YtlnifigbnpdemaaDoor
open Go Go.RowKit

theorem infoR : (Tryd.prog.info? 86).map (fun i => (i.zero, i.size, i.bytes)) = some (some (.slice none 0 0), 1, 24) := by kernel_rfl

theorem own_grown {w w' : World} {base : Nat} {e : TypeId} {s : Nat} {v : Value} {n : Nat} {xs : List Value} {g : Nat} (h : w.ownsRow base e s v n xs) (hg : w.grownBy w' (some g)) (hne : v.ownBlock ≠ some g) : w'.ownsRow base e s v n xs :=
  h.kept hg (.inr hne)

/-- The reference's table: its rows from lo on are laid. -/
structure LT (w : World) (base o la wd : Nat) (r f : Nat → Nat) (lo : Nat) : Prop where
  own : ∃ xs, w.ownsRow base 86 1 (.slice (some ⟨o, 0, none⟩) (la + 1) (la + 1)) (la + 1) xs ∧ ∀ i, lo ≤ i → i ≤ la → xs[i]? = some (.slice (some ⟨r i, 0, none⟩) wd wd)
  rows : ∀ i, lo ≤ i → i ≤ la → w.ownsRow base 3 1 (.slice (some ⟨r i, 0, none⟩) wd wd) wd (Row wd fun k => f (i * wd + k)) ∧ r i ≠ o ∧ r i < w.heap.size
  inj : ∀ i j, lo ≤ i → i < j → j ≤ la → r i ≠ r j
  zero : ∀ x, x < lo * wd → f x = 0

theorem LT.cell {w : World} {base o la wd : Nat} {r f : Nat → Nat} {lo : Nat} (h : LT w base o la wd r f lo) (i : Nat) (h1 : lo ≤ i) (h2 : i ≤ la) : w.cell? ⟨o, i, none⟩ = some (.slice (some ⟨r i, 0, none⟩) wd wd) := by
  obtain ⟨xs, ho, hx⟩ := h.own
  rw [ho.cellAt i (by omega)]
  exact hx i h1 h2

theorem LT.num {w : World} {base o la wd : Nat} {r f : Nat → Nat} {lo : Nat} (h : LT w base o la wd r f lo) (i k : Nat) (h1 : lo ≤ i) (h2 : i ≤ la) (hk : k < wd) : w.cell? ⟨r i, k, none⟩ = some (.int .i64 (f (i * wd + k))) :=
  Row_cell (h.rows i h1 h2).1 k hk

theorem LT.below {w w' : World} {base o la wd : Nat} {r f : Nat → Nat} {lo : Nat} (h : LT w base o la wd r f lo) (hb : Below w.heap.size w w') : LT w' base o la wd r f lo := by
  obtain ⟨xs, ho, hx⟩ := h.own
  refine ⟨⟨xs, own_below ho hb, hx⟩, fun i h1 h2 => ?_, h.inj, h.zero⟩
  obtain ⟨a1, a2, a3⟩ := h.rows i h1 h2
  exact ⟨own_below a1 hb, a2, Nat.lt_of_lt_of_le a3 hb.size⟩

/-- A new row of noughts is laid as row lo. -/
theorem LT.row {w : World} {base o la wd : Nat} {r f : Nat → Nat} {lo g : Nat} (h : LT w base o la wd r f (lo + 1)) (hlo : lo ≤ la) (hg : w.ownsRow base 3 1 (.slice (some ⟨g, 0, none⟩) wd wd) wd (Row wd fun _ => 0)) (hgo : g ≠ o) (hne : ∀ i, lo + 1 ≤ i → i ≤ la → r i ≠ g) :
    LT (w.setCell ⟨o, lo, none⟩ (.slice (some ⟨g, 0, none⟩) wd wd)) base o la wd (fun i => if i = lo then g else r i) f lo ∧ Below base w (w.setCell ⟨o, lo, none⟩ (.slice (some ⟨g, 0, none⟩) wd wd)) := by
  obtain ⟨xs, ho, hx⟩ := h.own
  obtain ⟨s1, s2⟩ := ho.stored lo (.slice (some ⟨g, 0, none⟩) wd wd)
  have hlen : xs.length = la + 1 := by have := ho.1; omega
  have hlt := ho.lt o rfl
  refine ⟨⟨⟨_, s1, fun i h1 h2 => ?_⟩, fun i h1 h2 => ?_, fun i j h1 h2 h3 => ?_, fun x hx => h.zero x ?_⟩, (Below.refl base w).grown s2 (by omega) (by intro k hk; cases hk; omega)⟩
  · by_cases e : i = lo
    · subst e
      rw [List.getElem?_set_self (by omega), if_pos rfl]
    · rw [List.getElem?_set_ne (by omega)]
      show xs[i]? = _
      rw [if_neg e]
      exact hx i (by omega) h2
  · by_cases e : i = lo
    · subst e
      simp only [if_pos]
      refine ⟨?_, hgo, by have := (hg.lt g rfl).2; have := s2.size; omega⟩
      have hz : (Row wd fun k => f (i * wd + k)) = Row wd fun _ => 0 := by
        simp only [Row]
        apply List.map_congr_left
        intro k hk
        rw [h.zero (i * wd + k) (by have := List.mem_range.1 hk; rw [Nat.add_mul]; omega)]
      rw [hz]
      exact own_grown hg s2 (by simp [Value.ownBlock]; exact hgo)
    · simp only [if_neg e]
      obtain ⟨a1, a2, a3⟩ := h.rows i (by omega) h2
      exact ⟨own_grown a1 s2 (by simp [Value.ownBlock]; exact a2), a2, by have := s2.size; omega⟩
  · by_cases e : i = lo
    · subst e
      rw [if_pos rfl, if_neg (by omega)]
      exact fun e => hne j (by omega) h3 e.symm
    · rw [if_neg e, if_neg (by omega)]
      exact h.inj i j (by omega) h2 h3
  · rw [Nat.add_mul]; omega

/-- A number is stored in row lo. -/
theorem LT.put {w : World} {base o la wd : Nat} {r f : Nat → Nat} {lo : Nat} (h : LT w base o la wd r f lo) (hlo : lo ≤ la) (k v : Nat) (hk : k < wd) :
    LT (w.setCell ⟨r lo, k, none⟩ (.int .i64 v)) base o la wd r (fun x => if x = lo * wd + k then v else f x) lo ∧ Below base w (w.setCell ⟨r lo, k, none⟩ (.int .i64 v)) := by
  obtain ⟨xs, ho, hx⟩ := h.own
  obtain ⟨a1, a2, a3⟩ := h.rows lo (Nat.le_refl _) hlo
  obtain ⟨s1, s2⟩ := a1.stored k (.int .i64 v)
  have hlt := a1.lt (r lo) rfl
  rw [Row_set] at s1
  refine ⟨⟨⟨xs, own_grown ho s2 (by simp [Value.ownBlock]; exact fun e => a2 e.symm), hx⟩, fun i h1 h2 => ?_, h.inj, fun x hx => ?_⟩, (Below.refl base w).grown s2 (by omega) (by intro k hk; cases hk; omega)⟩
  · by_cases e : i = lo
    · subst e
      refine ⟨?_, a2, by have := s2.size; omega⟩
      have hz : (Row wd fun x => if i * wd + x = i * wd + k then v else f (i * wd + x)) = Row wd fun x => if x = k then v else f (i * wd + x) := by
        simp only [Row]
        apply List.map_congr_left
        intro x _
        simp
      rw [hz]
      exact s1
    · obtain ⟨b1, b2, b3⟩ := h.rows i h1 h2
      refine ⟨?_, b2, by have := s2.size; omega⟩
      have hz : (Row wd fun x => if i * wd + x = lo * wd + k then v else f (i * wd + x)) = Row wd fun x => f (i * wd + x) := by
        simp only [Row]
        apply List.map_congr_left
        intro x hx
        have hx' := List.mem_range.1 hx
        rw [if_neg]
        intro e2
        exact e (ScoreS.place_inj hx' hk e2).1
      rw [hz]
      exact own_grown b1 s2 (by simp [Value.ownBlock]; exact fun e2 => h.inj lo i (Nat.le_refl _) (by omega) h2 e2.symm)
  · show (if _ then _ else _) = _
    rw [if_neg (by omega)]
    exact h.zero x hx
theorem LT.slot {w : World} {base o la wd : Nat} {r f : Nat → Nat} {lo : Nat} (h : LT w base o la wd r f lo) (i : Nat) (h2 : i ≤ la) : ∃ u, w.cell? ⟨o, i, none⟩ = some u ∧ w.frozen? ⟨o, i, none⟩ = false := by
  obtain ⟨xs, ho, hx⟩ := h.own
  have hlen : xs.length = la + 1 := by have := ho.1; omega
  refine ⟨xs[i], ?_, ho.frozenAt i⟩
  rw [ho.cellAt i (by omega)]
  exact List.getElem?_eq_getElem _

theorem LT.drewN {w : World} {base o la wd : Nat} {r f : Nat → Nat} {lo : Nat} (h : LT w base o la wd r f lo) (q : Nat) : LT (w.drewN q) base o la wd r f lo :=
  ⟨h.own, h.rows, h.inj, h.zero⟩

theorem madeNil (N : Nat) : (madeCells #[Value.slice none 0 0] N).toList = List.replicate N (Value.slice none 0 0) := by
  rw [toList_madeCells_one]

set_option maxRecDepth 100000 in
set_option maxHeartbeats 4000000 in
theorem long_c (aa ab : Option Addr) (ca cb : Nat) (a b : List ByteArray) (w : World) (ha : Sl w aa (a.map Value.string)) (hb : Sl w ab (b.map Value.string)) (hla : a.length ≤ 10000000) (hlb : b.length ≤ 10000000) :
    Calls Tryd.prog 37 #[.slice aa a.length ca, .slice ab b.length cb] w fun e w' => ∃ o r f, e = .returned (.slice (some ⟨o, 0, none⟩) (a.length + 1) (a.length + 1)) ∧
      LT w' w.heap.size o a.length (b.length + 1) r f 0 ∧ ScoreS.Done a b 0 0 f ∧ o < w'.heap.size ∧ Below w.heap.size w w' := by
  have hma : IntKind.i64.wrap ((a.length : Int) + 1) = ((a.length + 1 : Nat) : Int) := IntWalk.i64_in _ (by omega)
  have hmb : IntKind.i64.wrap ((b.length : Int) + 1) = ((b.length + 1 : Nat) : Int) := IntWalk.i64_in _ (by omega)
  obtain ⟨it, hi, hz0, hz1, hz2⟩ := info_parts infoI
  obtain ⟨jt, gi, gz0, gz1, gz2⟩ := info_parts infoR
  have HI := Lib.hid (And.intro hi (And.intro hz0 (And.intro hz1 hz2)))
  go_enter Tryd.func37, Tryd.ntmps37
  go_wp2_with (at_make; (refine wpList_make_full _ rfl (.tmp 11) (.tmp 11) 82 rfl w.heap.size 86 jt (.slice none 0 0) 1 rfl gi gz0 gz1 .i64 .i64 _ _ (a.length + 1) rfl rfl ?L1 ?L2 ?b2 ?b3 (Nat.le_refl _) ?hK))
  case L1 => omega
  case L2 => omega
  case b2 => rw [gz2]; omega
  case b3 => simp only [maxLen]; omega
  intro w1 hown hgrow
  rw [madeNil] at hown
  clear gi gz0 gz1 gz2
  have hb1 : Below w.heap.size w w1 := (Below.refl _ w).grown hgrow (Nat.le_refl _) (by intro k hk; cases hk)
  have hg1 := (hown.lt w.heap.size rfl).2
  have hL0 : LT w1 w.heap.size w.heap.size a.length (b.length + 1) (fun _ => 0) (fun _ => 0) (a.length + 1) :=
    ⟨⟨_, hown, fun i h1 h2 => by omega⟩, fun i h1 h2 => by omega, fun i j h1 h2 h3 => by omega, fun _ _ => rfl⟩
  clear hown hgrow
  go_wp2_with (at_make; (refine wpList_make_full _ rfl (.tmp 18) (.tmp 18) 86 rfl w.heap.size 3 it (.int .i64 0) 1 rfl hi hz0 hz1 .i64 .i64 _ _ (b.length + 1) rfl rfl (by omega) (by omega) ?b4 ?b5 hb1.size ?hK2))
  case b4 => omega
  case b5 => simp only [maxLen]; omega
  intro w2 hrow hgrow2
  rw [Row_zero] at hrow
  have hb2 : Below w1.heap.size w1 w2 := (Below.refl _ w1).grown hgrow2 (Nat.le_refl _) (by intro k hk; cases hk)
  have hL1 := hL0.below hb2
  obtain ⟨u, hu, hfz⟩ := hL1.slot a.length (Nat.le_refl _)
  obtain ⟨hL2, hb3⟩ := hL1.row (Nat.le_refl _) hrow (by omega) (fun i h1 h2 => by omega)
  have hbw := (hb1.trans (hb2.mono hb1.size)).trans hb3
  have HL := Lib.hid hL2
  have HS : Hid (ScoreS.Done a b a.length 0 fun _ => 0) := ScoreS.done_start a b
  clear hL1 hL2 hgrow2 hL0
  go_wp2_with fail
  go_loopw [6] (fun v wr => ∃ (k : Nat) (r f : Nat → Nat), k ≤ a.length ∧ v = .int .i64 ((k : Int) - 1) ∧ LT wr w.heap.size w.heap.size a.length (b.length + 1) r f k ∧ Hid (ScoreS.Done a b k 0 f) ∧ Below w.heap.size w wr) (fun v _ => ((intOf v) + 1).toNat)
  case atStart => exact ⟨a.length, _, _, by omega, by go_num, HL.out, HS, hbw⟩
  case round =>
    clear HL HS hbw hb3 hb2 hu hfz hrow hb1 hg1 u
    obtain ⟨k, r, f, hk, rfl, hT, HD, hbw⟩ := hrel
    rcases k with _ | i'
    · have ho := (hT.own.elim fun xs h => (h.1.lt w.heap.size rfl).2)
      go_wp2_with fail
      go_ret
      exact ⟨w.heap.size, r, f, rfl, hT, HD, ho, hbw⟩
    · rw [show (((i' + 1 : Nat) : Int) - 1) = (i' : Int) by omega]
      have HR : Hid (ScoreS.Done a b i' b.length f) := ScoreS.done_row HD.out
      go_wp2_with (at_make; (refine wpList_make_full _ rfl (.tmp 32) (.tmp 32) 86 rfl w.heap.size 3 it (.int .i64 0) 1 rfl hi hz0 hz1 .i64 .i64 _ _ (b.length + 1) rfl rfl (by omega) (by omega) ?b6 ?b7 hbw.size ?hK3))
      case b6 => rw [hz2]; omega
      case b7 => simp only [maxLen]; omega
      intro w2 hrow hgrow2
      rw [Row_zero] at hrow
      have hb2 : Below wr.heap.size wr w2 := (Below.refl _ wr).grown hgrow2 (Nat.le_refl _) (by intro k hk; cases hk)
      have hL1 := hT.below hb2
      obtain ⟨u, hu, hfz⟩ := hL1.slot i' (by omega)
      have hrl : ∀ i, i' + 1 ≤ i → i ≤ a.length → r i < wr.heap.size := fun i h1 h2 => (hT.rows i h1 h2).2.2
      have ho := (hT.own.elim fun xs h => (h.1.lt w.heap.size rfl).2)
      obtain ⟨hL2, hb3⟩ := hL1.row (by omega) hrow (by omega) (fun i h1 h2 => by have := hrl i h1 h2; omega)
      have hbw2 := (hbw.trans (hb2.mono hbw.size)).trans hb3
      have HL := Lib.hid hL2
      have hii : (0 : Int) ≤ i' := by omega
      have hii1 : (i' : Int) < (a.length : Int) + 1 := by omega
      clear hL1 hL2 hgrow2 hT hrl hrow
      go_wp2_with fail
      go_loopw [7, 8] (fun v _ wi => ∃ (j : Nat) (r f : Nat → Nat), j ≤ b.length ∧ v = .int .i64 ((j : Int) - 1) ∧ LT wi w.heap.size w.heap.size a.length (b.length + 1) r f i' ∧ Hid (ScoreS.Done a b i' j f) ∧ Below w.heap.size w wi) (fun v _ _ => ((intOf v) + 1).toNat)
      case atStart => exact ⟨b.length, _, _, by omega, by go_num, HL.out, HR, hbw2⟩
      case round =>
        clear HL HR hbw2 hb3 hu hfz hb2 u HD hbw ho r f
        obtain ⟨j, r, f, hj, rfl, hT, HD, hbi⟩ := hrel
        rcases j with _ | j'
        · go_wp2_with fail
          go_roundw
          case rel => exact ⟨i', r, f, by omega, by go_num, hT, HD, hbi⟩
          case measure => simp [intOf]
        · rw [show (((j' + 1 : Nat) : Int) - 1) = (j' : Int) by omega]
          have hi1 : i' < a.length := by omega
          have hj1 : j' < b.length := by omega
          obtain ⟨ba, oa, rfl, hal, hac⟩ := ha.at (k := i') (by simpa using hi1)
          obtain ⟨bb, ob, rfl, hbl, hbc⟩ := hb.at (k := j') (by simpa using hj1)
          have hca : wr.cell? ⟨ba, oa + i', none⟩ = some (.string a[i']) := by rw [hbi.cell (p := ⟨ba, oa + i', none⟩) hal, hac i' (by simpa using hi1), List.getElem_map]
          have hcb : wr.cell? ⟨bb, ob + j', none⟩ = some (.string b[j']) := by rw [hbi.cell (p := ⟨bb, ob + j', none⟩) hbl, hbc j' (by simpa using hj1), List.getElem_map]
          clear hac hbc
          obtain ⟨e1, e2, e3⟩ := ScoreS.done_next hi1 hj1 HD.out
          have HV := Lib.hid (ScoreS.L_at3 hi1 hj1)
          have HSet := Lib.hid (fun v => ScoreS.done_set hi1 hj1 HD.out v)
          have hci1 := hT.cell (i' + 1) (by omega) (by omega)
          have hci := hT.cell i' (by omega) (by omega)
          have hx1 := hT.num (i' + 1) j' (by omega) (by omega) (by omega)
          have hx2 := hT.num i' (j' + 1) (by omega) (by omega) (by omega)
          have hx3 := hT.num (i' + 1) (j' + 1) (by omega) (by omega) (by omega)
          have hx0 := hT.num i' j' (by omega) (by omega) (by omega)
          have hfz := (hT.rows i' (by omega) (by omega)).1.frozenAt j'
          have HST := Lib.hid (fun v => hT.put (by omega) j' v (by omega))
          have hb3 : f ((i' + 1) * (b.length + 1) + (j' + 1)) ≤ 100000000 := by
            rw [e3]; refine Nat.le_trans (ScoreS.L_le _ _) ?_; rw [List.length_drop]; omega
          rw [← e1, ← e2, ← e3] at HV
          clear e1 e2 e3 HD hT
          generalize f ((i' + 1) * (b.length + 1) + j') = x1 at *
          generalize f (i' * (b.length + 1) + (j' + 1)) = x2 at *
          generalize f ((i' + 1) * (b.length + 1) + (j' + 1)) = x3 at *
          generalize f (i' * (b.length + 1) + j') = x0 at *
          generalize hrn : r (i' + 1) = rn at *
          generalize hrc : r i' = rc at *
          generalize a[i'] = x at *
          generalize b[j'] = y at *
          have hii2 : (i' : Int) + 1 < (a.length : Int) + 1 := by omega
          have hii3 : (0 : Int) ≤ (i' : Int) + 1 := by omega
          have hii4 : (i' : Int) < a.length := by omega
          have hjj : (0 : Int) ≤ j' := by omega
          have hjj1 : (j' : Int) < b.length := by omega
          have hjj2 : (j' : Int) + 1 < (b.length : Int) + 1 := by omega
          have hjj3 : (j' : Int) < (b.length : Int) + 1 := by omega
          have hjj4 : (0 : Int) ≤ (j' : Int) + 1 := by omega
          have hwi : IntKind.i64.wrap ((i' : Int) + 1) = (i' : Int) + 1 := IntWalk.i64_in _ (by omega)
          have hwj : IntKind.i64.wrap ((j' : Int) + 1) = (j' : Int) + 1 := IntWalk.i64_in _ (by omega)
          have hwx : IntKind.i64.wrap ((x3 : Int) + 1) = (x3 : Int) + 1 := IntWalk.i64_in _ (by omega)
          by_cases hxy : x = y
          · have d1 : (x.toList == y.toList) = true := by rw [hxy]; simp
            by_cases hlt : (x1 : Int) < x2
            · by_cases hgt : (x2 : Int) < (x3 : Int) + 1
              · skip
                have HN := Lib.hid (HSet.out (x3 + 1) (by rw [HV.out]; first | (rw [if_pos hxy]; omega) | (rw [if_neg hxy]; omega)))
                have HT := Lib.hid (HST.out (x3 + 1))
                clear HSet HST HV hxy
                go_wp2_with fail
                go_quiet (fail)
                go_wp2_with fail
                go_roundw
                case rel => exact ⟨j', r, _, by omega, by go_num, HT.out.1.drewN _, HN, below_dN (hbi.trans HT.out.2) _⟩
                case measure => simp [intOf]
              · skip
                have HN := Lib.hid (HSet.out x2 (by rw [HV.out]; first | (rw [if_pos hxy]; omega) | (rw [if_neg hxy]; omega)))
                have HT := Lib.hid (HST.out x2)
                clear HSet HST HV hxy
                go_wp2_with fail
                go_quiet (fail)
                go_wp2_with fail
                go_roundw
                case rel => exact ⟨j', r, _, by omega, by go_num, HT.out.1.drewN _, HN, below_dN (hbi.trans HT.out.2) _⟩
                case measure => simp [intOf]
            · by_cases hgt : (x1 : Int) < (x3 : Int) + 1
              · skip
                have HN := Lib.hid (HSet.out (x3 + 1) (by rw [HV.out]; first | (rw [if_pos hxy]; omega) | (rw [if_neg hxy]; omega)))
                have HT := Lib.hid (HST.out (x3 + 1))
                clear HSet HST HV hxy
                go_wp2_with fail
                go_quiet (fail)
                go_wp2_with fail
                go_roundw
                case rel => exact ⟨j', r, _, by omega, by go_num, HT.out.1.drewN _, HN, below_dN (hbi.trans HT.out.2) _⟩
                case measure => simp [intOf]
              · skip
                have HN := Lib.hid (HSet.out x1 (by rw [HV.out]; first | (rw [if_pos hxy]; omega) | (rw [if_neg hxy]; omega)))
                have HT := Lib.hid (HST.out x1)
                clear HSet HST HV hxy
                go_wp2_with fail
                go_quiet (fail)
                go_wp2_with fail
                go_roundw
                case rel => exact ⟨j', r, _, by omega, by go_num, HT.out.1.drewN _, HN, below_dN (hbi.trans HT.out.2) _⟩
                case measure => simp [intOf]
          · have d1 : (x.toList == y.toList) = false := by
              rw [beq_eq_false_iff_ne, Lib.toList_data, Lib.toList_data]; intro h; exact hxy (ScoreS.ba_ext h)
            by_cases hlt : (x1 : Int) < x2
            · skip
              have HN := Lib.hid (HSet.out x2 (by rw [HV.out]; first | (rw [if_pos hxy]; omega) | (rw [if_neg hxy]; omega)))
              have HT := Lib.hid (HST.out x2)
              clear HSet HST HV hxy
              go_wp2_with fail
              go_quiet (fail)
              go_wp2_with fail
              go_roundw
              case rel => exact ⟨j', r, _, by omega, by go_num, HT.out.1.drewN _, HN, below_dN (hbi.trans HT.out.2) _⟩
              case measure => simp [intOf]
            · skip
              have HN := Lib.hid (HSet.out x1 (by rw [HV.out]; first | (rw [if_pos hxy]; omega) | (rw [if_neg hxy]; omega)))
              have HT := Lib.hid (HST.out x1)
              clear HSet HST HV hxy
              go_wp2_with fail
              go_quiet (fail)
              go_wp2_with fail
              go_roundw
              case rel => exact ⟨j', r, _, by omega, by go_num, HT.out.1.drewN _, HN, below_dN (hbi.trans HT.out.2) _⟩
              case measure => simp [intOf]
end Go.Proofs.YtlnifigbnpdemaaDoor
