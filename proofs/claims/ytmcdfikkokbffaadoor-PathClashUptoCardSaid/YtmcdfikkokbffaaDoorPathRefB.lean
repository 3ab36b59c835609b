/- Walks of the reference's path functions, second part. -/
import Derived.Test.YtmcdfikkokbffaaDoorPathRefA
import Derived.Test.YtmcdfikkokbffaaDoorPathCmp
import Derived.BigQuiet
import Derived.Deep.QuietTactic
namespace Go.Proofs.YtmcdfikkokbffaaDoor
open Go Go.RowKit

theorem okB_of {c : UInt8} (h : ((c.toNat : Int) < 32 ∨ ((c.toNat : Int) == 127) = true) ∨ ((c.toNat : Int) == 47) = true) : PathS.okB c = false := by
  unfold PathS.okB
  simp only [UInt8.lt_iff_toNat_lt]
  rcases h with (h | h) | h
  · have : c.toNat < 32 := by omega
    simp [this]
  · have : c = 127 := by rw [show (127 : Int) = ((127 : UInt8).toNat : Int) from rfl, byte_eq] at h; simpa using h
    subst this; decide
  · have : c = 47 := by rw [show (47 : Int) = ((47 : UInt8).toNat : Int) from rfl, byte_eq] at h; simpa using h
    subst this; decide
theorem okB_not {c : UInt8} (h1 : 32 ≤ (c.toNat : Int)) (h2 : ((c.toNat : Int) == 127) = false) (h3 : ((c.toNat : Int) == 47) = false) : PathS.okB c = true := by
  unfold PathS.okB
  simp only [UInt8.lt_iff_toNat_lt]
  have h4 : ¬ c.toNat < 32 := by omega
  rw [show (127 : Int) = ((127 : UInt8).toNat : Int) from rfl, byte_eq] at h2
  rw [show (47 : Int) = ((47 : UInt8).toNat : Int) from rfl, byte_eq] at h3
  simp at h2 h3
  simp [h2, h3]
  omega

theorem okB_cases (c : UInt8) : ((c.toNat : Int) < 32 ∧ Hid (PathS.okB c = false)) ∨ (32 ≤ (c.toNat : Int) ∧ ((c.toNat : Int) == 127) = true ∧ Hid (PathS.okB c = false)) ∨ (32 ≤ (c.toNat : Int) ∧ ((c.toNat : Int) == 127) = false ∧ ((c.toNat : Int) == 47) = true ∧ Hid (PathS.okB c = false)) ∨ (32 ≤ (c.toNat : Int) ∧ ((c.toNat : Int) == 127) = false ∧ ((c.toNat : Int) == 47) = false ∧ Hid (PathS.okB c = true)) := by
  by_cases h1 : (c.toNat : Int) < 32
  · exact .inl ⟨h1, okB_of (.inl (.inl h1))⟩
  · cases h2 : ((c.toNat : Int) == 127)
    · cases h3 : ((c.toNat : Int) == 47)
      · exact .inr (.inr (.inr ⟨by omega, rfl, rfl, okB_not (by omega) h2 h3⟩))
      · exact .inr (.inr (.inl ⟨by omega, rfl, rfl, okB_of (.inr h3)⟩))
    · exact .inr (.inl ⟨by omega, rfl, okB_of (.inl (.inr h2))⟩)

set_option maxRecDepth 100000 in
set_option maxHeartbeats 400000 in
theorem ref_name (s : ByteArray) (w : World) (hs : s.size ≤ 10000000) :
    Calls Tryd.prog 19 #[.string s] w fun e w' => e = .returned (.bool (PathS.name s)) ∧ w = w' := by
  have HN := Lib.hid (@PathS.name_no s)
  have HM := Lib.hid (@PathS.name_rest s)
  go_enter Tryd.func19, Tryd.ntmps19
  go_wp2_with fail
  all_goals simp only [Lib.toList_data] at *
  · go_ret; exact ⟨ret_bool (HN.out (.inl ‹_›)), rfl⟩
  · go_ret; exact ⟨ret_bool (HN.out (.inr (.inl ‹_›))), rfl⟩
  · go_ret; exact ⟨ret_bool (HN.out (.inr (.inr (.inl ‹_›)))), rfl⟩
  · have h5 : 64 < s.data.toList.length := by
      rw [← Lib.size_eq]
      rcases (by assumption : ((s.data.toList.isEmpty = true ∨ (s.data.toList == [46]) = true) ∨ (s.data.toList == [46, 46]) = true) ∨ 64 < (s.size : Int)) with ((h | h) | h) | h
      · exact absurd (List.isEmpty_iff.1 h) ‹_›
      · exact absurd (beq_iff_eq.1 h) ‹_›
      · exact absurd (beq_iff_eq.1 h) ‹_›
      · omega
    go_ret; exact ⟨ret_bool (HN.out (.inr (.inr (.inr h5)))), rfl⟩
  · have h6 := (by assumption : ((s.data.toList.isEmpty = false ∧ (s.data.toList == [46]) = false) ∧ (s.data.toList == [46, 46]) = false) ∧ (s.size : Int) ≤ 64).2
    have HR := Lib.hid (HM.out ‹_› ‹_› ‹_› (by rw [← Lib.size_eq]; omega))
    have hs : s.size ≤ 64 := by omega
    go_loop [3] (fun i => ∃ k : Nat, k ≤ s.size ∧ i = .int .i64 k ∧ Hid (PathS.name s = (s.data.toList.drop k).all PathS.okB)) (fun i => s.size - (intOf i).toNat)
    case atStart => exact ⟨0, by omega, rfl, HR⟩
    case round =>
      obtain ⟨k, hk, rfl, HP⟩ := hrel
      clear HN HM HR
      by_cases hlt : k < s.size
      · have HD := Lib.hid (PathS.drop_at s k hlt)
        rcases okB_cases s[k] with ⟨h1, HB⟩ | ⟨h1, h2, HB⟩ | ⟨h1, h2, h3, HB⟩ | ⟨h1, h2, h3, HB⟩
        · go_wp2_with fail
          go_ret; exact ⟨ret_bool (by rw [HP.out, HD.out, List.all_cons, HB.out]; rfl), rfl⟩
        · go_wp2_with fail
          go_ret; exact ⟨ret_bool (by rw [HP.out, HD.out, List.all_cons, HB.out]; rfl), rfl⟩
        · go_wp2_with fail
          go_ret; exact ⟨ret_bool (by rw [HP.out, HD.out, List.all_cons, HB.out]; rfl), rfl⟩
        · go_wp2_with fail
          go_round
          case rel => exact ⟨k + 1, by omega, by go_num, by show _ = _; rw [HP.out, HD.out, List.all_cons, HB.out]; rfl⟩
          case measure => simp [intOf]; omega
      · go_wp2_with fail
        go_ret
        refine ⟨ret_bool ?_, rfl⟩
        rw [HP.out, List.drop_eq_nil_of_le (by rw [← Lib.size_eq]; omega)]; rfl

theorem split_len (s : ByteArray) : (PathS.split s).length ≤ s.size + 1 := by
  unfold PathS.split; split
  · simp
  · exact PathS.splitTo_len s (s.size + 1)

set_option maxRecDepth 100000 in
set_option maxHeartbeats 400000 in
theorem ref_check (s : ByteArray) (w : World) (hs : s.size ≤ 10000000) :
    Calls Tryd.prog 17 #[.string s] w fun e w' => e = .returned (.int .i64 (PathS.check s)) ∧ Below w.heap.size w w' := by
  have hpl := split_len s
  have HC : Hid (PathS.check s = if 255 < s.size ∨ 16 < (PathS.split s).length then 2 else if (PathS.split s).all PathS.name then (if (PathS.split s).length = 0 then 50 else 0) else 50) := by show _ = _; rfl
  have hpz : ∀ x ∈ PathS.split s, x.size ≤ 10000000 := by
    intro x hx
    rw [PathS.split_spl] at hx
    have := PathS.spl_size s x hx
    omega
  go_enter Tryd.func17, Tryd.ntmps17
  go_wp2_with fail
  refine (ref_split s w hs).mono ?_
  rintro e w1 ⟨v, rfl, hb, hown⟩
  obtain ⟨a, c, rfl, -, -, hsl⟩ := own_sl hown
  clear hown
  generalize PathS.split s = l at *
  have HZ := Lib.hid hpz
  clear hpz
  by_cases h1 : 255 < s.size
  · have g1 : decide (255 < (s.size : Int)) = true := by simp; omega
    go_wp2_with fail
    go_ret
    exact ⟨ret_i64 (by rw [HC.out, if_pos (.inl h1)]), hb⟩
  · have g1 : decide (255 < (s.size : Int)) = false := by simp; omega
    by_cases h2 : 16 < l.length
    · have g2 : decide (16 < (l.length : Int)) = true := by simp; omega
      go_wp2_with fail
      go_ret
      exact ⟨ret_i64 (by rw [HC.out, if_pos (.inr h2)]), hb⟩
    · have g2 : decide (16 < (l.length : Int)) = false := by simp; omega
      go_wp2_with fail
      go_loop [4] (fun i => ∃ k : Nat, k ≤ l.length ∧ i = .int .i64 k ∧ Hid ((l.take k).all PathS.name = true)) (fun i => l.length - (intOf i).toNat)
      case atStart => exact ⟨0, by omega, rfl, by show _ = _; rfl⟩
      case round =>
        obtain ⟨k, hk, rfl, HP⟩ := hrel
        by_cases hlt : k < l.length
        · obtain ⟨b, o, rfl, hbl, hc⟩ := hsl.at (k := k) (by simpa using hlt)
          have hcell : w1.cell? ⟨b, o + k, none⟩ = some (.string l[k]) := by rw [hc k (by simpa using hlt), List.getElem_map]
          clear hc
          have hsz := HZ.out _ (List.getElem_mem hlt)
          have HT := Lib.hid (show l.take (k + 1) = l.take k ++ [l[k]] from List.take_succ_eq_append_getElem hlt)
          cases hn : PathS.name l[k]
          · have HN := Lib.hid hn; clear hn
            have HA : Hid (l.all PathS.name = false) := by
              show _ = _
              rw [Bool.eq_false_iff]; intro h; have := List.all_eq_true.1 h l[k] (List.getElem_mem hlt); rw [HN.out] at this; cases this
            go_wp2_with (go_at_call 19; refine (ref_name _ _ hsz).mono ?_; rw [HN.out]; rintro e w2 ⟨rfl, rfl⟩)
            go_ret
            exact ⟨ret_i64 (by rw [HC.out, if_neg (by omega), HA.out]; rfl), hb⟩
          · have HN := Lib.hid hn; clear hn
            go_wp2_with (go_at_call 19; refine (ref_name _ _ hsz).mono ?_; rw [HN.out]; rintro e w2 ⟨rfl, rfl⟩)
            go_round
            case rel => exact ⟨k + 1, by omega, by go_num, by show _ = _; rw [HT.out, List.all_append, HP.out]; simp [HN.out]⟩
            case measure => simp [intOf]; omega
        · have HA : Hid (l.all PathS.name = true) := by
            show _ = _; have := HP.out; rwa [List.take_of_length_le (by omega)] at this
          by_cases h0 : l.length = 0
          · have g0 : ((l.length : Int) == 0) = true := by rw [h0]; rfl
            go_wp2_with fail
            go_ret
            exact ⟨ret_i64 (by rw [HC.out, if_neg (by omega), HA.out, if_pos rfl, if_pos h0]), hb⟩
          · have g0 : ((l.length : Int) == 0) = false := beq_eq_false_iff_ne.2 (by omega)
            go_wp2_with fail
            go_ret
            exact ⟨ret_i64 (by rw [HC.out, if_neg (by omega), HA.out, if_pos rfl, if_neg h0]), hb⟩

set_option maxRecDepth 100000 in
set_option maxHeartbeats 400000 in
theorem ref_under (p f : ByteArray) (w : World) (_hp : p.size ≤ 100000000) (hf : f.size ≤ 100000000) :
    Calls Tryd.prog 24 #[.string p, .string f] w fun e w' => e = .returned (.bool (PathS.under p f)) ∧ w = w' := by
  have ef := isEmpty_iff f
  have ep := isEmpty_iff p
  by_cases h1 : f.size = 0
  · have g1 : f.toList.isEmpty = true := by rw [ef]; simpa using h1
    have HF : Hid (PathS.under p f = !p.toList.isEmpty) := by show _ = _; rw [ep]; simp [PathS.under, h1]
    clear h1 ef ep
    go_enter Tryd.func24, Tryd.ntmps24
    go_wp2_with fail
    go_ret
    exact ⟨ret_bool HF.out, rfl⟩
  · have g1 : f.toList.isEmpty = false := by rw [ef]; simpa using h1
    have HF : Hid (PathS.under p f = (f.data.toList ++ [47]).isPrefixOf p.data.toList) := by show _ = _; simp [PathS.under, h1]
    clear h1 ef ep
    by_cases h2 : f.size < p.size
    · have hx : (f.data.toList ++ [47]).isPrefixOf p.data.toList = ((p.extract 0 f.size).toList == f.toList && ((p[f.size].toNat : Int) == 47)) := by
        exact PathS.pre_iff p f h2
      have HX := Lib.hid hx; clear hx
      go_enter Tryd.func24, Tryd.ntmps24
      go_wp2_with fail
      · go_ret
        exact ⟨ret_bool (by rw [HF.out, HX.out, beq_iff_eq.2 (by assumption : (p.extract 0 f.size).toList = f.toList)]; rfl), rfl⟩
      · go_ret
        exact ⟨ret_bool (by rw [HF.out, HX.out, beq_eq_false_iff_ne.2 (by assumption : ¬ (p.extract 0 f.size).toList = f.toList)]; rfl), rfl⟩
    · have HG : Hid (PathS.under p f = false) := by
        show _ = _
        rw [HF.out, Bool.eq_false_iff]
        intro h
        have := (List.isPrefixOf_iff_prefix.1 h).length_le
        rw [List.length_append, ← Lib.size_eq, ← Lib.size_eq] at this
        simp at this; omega
      go_enter Tryd.func24, Tryd.ntmps24
      go_wp2_with fail
      go_ret
      exact ⟨ret_bool HG.out, rfl⟩

set_option maxRecDepth 100000 in
set_option maxHeartbeats 1000000 in
theorem ref_cmp (a b : ByteArray) (w : World) (ha : a.size ≤ 10000000) (hb : b.size ≤ 10000000) :
    Calls Tryd.prog 25 #[.string a, .string b] w fun e w' => e = .returned (.int .i64 (PathS.cmp a b)) ∧ Below w.heap.size w w' := by
  have HC : Hid (PathS.cmp a b = PathS.cmpL ((PathS.split a).drop 0) ((PathS.split b).drop 0)) := by show _ = _; rfl
  have hla := split_len a
  have hlb := split_len b
  go_enter Tryd.func25, Tryd.ntmps25
  go_wp2_with fail
  refine (ref_split a w ha).mono ?_
  rintro e w1 ⟨v1, rfl, hb1, hown1⟩
  go_wp2_with fail
  refine (ref_split b w1 hb).mono ?_
  rintro e w2 ⟨v2, rfl, hb2, hown2⟩
  have hown1 := own_below hown1 hb2
  obtain ⟨a1, c1, rfl, -, -, hx⟩ := own_sl hown1
  obtain ⟨a2, c2, rfl, -, -, hy⟩ := own_sl hown2
  have hbb := hb1.trans (hb2.mono hb1.size)
  clear hown1 hown2 hb1 hb2
  generalize PathS.split a = x at *
  generalize PathS.split b = y at *
  go_wp2_with fail
  go_loopw [7] (fun i wr => ∃ k : Nat, k ≤ x.length ∧ k ≤ y.length ∧ i = .int .i64 k ∧ Below w.heap.size w wr ∧ Below w2.heap.size w2 wr ∧ Hid (PathS.cmp a b = PathS.cmpL (x.drop k) (y.drop k))) (fun i _ => x.length - (intOf i).toNat)
  case atStart => exact ⟨0, by omega, by omega, rfl, hbb, Below.refl _ _, HC⟩
  case round =>
    obtain ⟨k, hk, hk2, rfl, hbw, hb2w, HP⟩ := hrel
    clear HC
    by_cases hlt : k < x.length
    · by_cases hlt2 : k < y.length
      · obtain ⟨b1, o1, rfl, hbl1, hc1⟩ := hx.at (k := k) (by simpa using hlt)
        obtain ⟨b2, o2, rfl, hbl2, hc2⟩ := hy.at (k := k) (by simpa using hlt2)
        have hcell1 : wr.cell? ⟨b1, o1 + k, none⟩ = some (.string x[k]) := by rw [hb2w.cell (p := ⟨b1, o1 + k, none⟩) hbl1, hc1 k (by simpa using hlt), List.getElem_map]
        have hcell2 : wr.cell? ⟨b2, o2 + k, none⟩ = some (.string y[k]) := by rw [hb2w.cell (p := ⟨b2, o2 + k, none⟩) hbl2, hc2 k (by simpa using hlt2), List.getElem_map]
        clear hc1 hc2
        have HD := Lib.hid (cmpL_drop x y k hlt hlt2)
        rcases cmpB_cases x[k] y[k] with ⟨h1, H⟩ | ⟨h1, h2, H⟩ | ⟨h1, h2, H⟩
        · go_wp2_with fail
          go_quiet (fail)
          go_wp2_with fail
          go_ret
          exact ⟨ret_i64 (by rw [HP.out, HD.out, H.out]; rfl), below_dN hbw _⟩
        · go_wp2_with fail
          go_quiet (fail)
          go_wp2_with fail
          go_quiet (fail)
          go_wp2_with fail
          go_roundw
          case rel => exact ⟨k + 1, by omega, by omega, by go_num, below_dN hbw _, below_dN hb2w _, by show _ = _; rw [HP.out, HD.out, H.out]; rfl⟩
          case measure => simp [intOf]; omega
        · go_wp2_with fail
          go_quiet (fail)
          go_wp2_with fail
          go_quiet (fail)
          go_wp2_with fail
          go_ret
          exact ⟨ret_i64 (by rw [HP.out, HD.out, H.out]; rfl), below_dN (below_dN hbw _) _⟩
      · have e : y.drop k = [] := List.drop_eq_nil_of_le (by omega)
        have HF : Hid (PathS.cmp a b = 1) := by
          show _ = _
          rw [HP.out, List.drop_eq_getElem_cons hlt, e]; rfl
        clear e
        have g1 : ¬ x.length < y.length := by omega
        have g2 : y.length < x.length := by omega
        go_wp2_with fail
        go_ret
        exact ⟨ret_i64 HF.out, hbw⟩
    · have e : x.drop k = [] := List.drop_eq_nil_of_le (by omega)
      by_cases hlt2 : x.length < y.length
      · have HF : Hid (PathS.cmp a b = -1) := by
          show _ = _
          rw [HP.out, e, List.drop_eq_getElem_cons (show k < y.length by omega)]; rfl
        clear e
        go_wp2_with fail
        go_ret
        exact ⟨ret_i64 HF.out, hbw⟩
      · have e2 : y.drop k = [] := List.drop_eq_nil_of_le (by omega)
        have HF : Hid (PathS.cmp a b = 0) := by
          show _ = _
          rw [HP.out, e, e2]; rfl
        clear e e2
        have g2 : ¬ y.length < x.length := by omega
        go_wp2_with fail
        go_ret
        exact ⟨ret_i64 HF.out, hbw⟩

/-- How long names put together are at most. -/
def tot (l : List ByteArray) : Nat := (l.map fun b => b.size + 1).sum

theorem joinTo_size (l : List ByteArray) : ∀ k, k ≤ l.length → (PathS.joinTo l k).size ≤ tot (l.take k)
  | 0, _ => by simp [PathS.joinTo, tot]
  | k + 1, h => by
    have ih := joinTo_size l k (by omega)
    have ht : tot (l.take (k + 1)) = tot (l.take k) + (l[k].size + 1) := by
      unfold tot; rw [List.take_succ_eq_append_getElem (by omega), List.map_append, List.sum_append]; simp
    have hd : l.getD k ByteArray.empty = l[k] := by rw [List.getD_eq_getElem?_getD, List.getElem?_eq_getElem (by omega)]; rfl
    have h47 : (⟨#[47]⟩ : ByteArray).size = 1 := rfl
    rw [ht, PathS.joinTo, hd, ByteArray.size_append]
    split
    · rw [ByteArray.size_append, h47]; omega
    · omega

theorem tot_take (l : List ByteArray) (k : Nat) : tot (l.take k) ≤ tot l := by
  unfold tot
  conv => rhs; rw [← List.take_append_drop k l, List.map_append, List.sum_append]
  omega

theorem tot_elem (l : List ByteArray) (k : Nat) (h : k < l.length) : l[k].size ≤ tot l := by
  have h1 : tot (l.take (k + 1)) = tot (l.take k) + (l[k].size + 1) := by
    unfold tot; rw [List.take_succ_eq_append_getElem (by omega), List.map_append, List.sum_append]; simp
  have := tot_take l (k + 1)
  omega

set_option maxRecDepth 100000 in
set_option maxHeartbeats 400000 in
theorem ref_join (a : Option Addr) (c : Nat) (l : List ByteArray) (w : World) (hs : Sl w a (l.map Value.string)) (ht : tot l ≤ 100000000) (hl : l.length ≤ 100000000) :
    Calls Tryd.prog 21 #[.slice a l.length c] w fun e w' => e = .returned (.string (PathS.joinTo l l.length)) ∧ w = w' := by
  go_enter Tryd.func21, Tryd.ntmps21
  go_wp2_with fail
  go_loop [3, 4] (fun s i => ∃ k : Nat, k ≤ l.length ∧ i = .int .i64 k ∧ s = .string (PathS.joinTo l k)) (fun _ i => l.length - (intOf i).toNat)
  case atStart => exact ⟨0, by omega, rfl, rfl⟩
  case round =>
    obtain ⟨k, hk, rfl, rfl⟩ := hrel
    by_cases hlt : k < l.length
    · obtain ⟨b, o, rfl, hbl, hc⟩ := hs.at (k := k) (by simpa using hlt)
      have hcell : w.cell? ⟨b, o + k, none⟩ = some (.string l[k]) := by rw [hc k (by simpa using hlt), List.getElem_map]
      clear hc
      have hj1 := joinTo_size l k hk
      have hj2 := tot_take l k
      have hj3 := tot_elem l k hlt
      have HD := Lib.hid (show l.getD k ByteArray.empty = l[k] by rw [List.getD_eq_getElem?_getD, List.getElem?_eq_getElem (by omega)]; rfl)
      have HJ : Hid (PathS.joinTo l (k + 1) = (if 0 < k then PathS.joinTo l k ++ ⟨#[47]⟩ else PathS.joinTo l k) ++ l[k]) := by show _ = _; rw [PathS.joinTo, HD.out]
      generalize PathS.joinTo l k = acc at *
      generalize l[k] = x at *
      have h47 : (acc ++ (⟨#[47]⟩ : ByteArray)).size = acc.size + 1 := by rw [ByteArray.size_append]; rfl
      by_cases h0 : 0 < k
      · go_wp2_with fail
        go_round
        case rel => exact ⟨k + 1, by omega, by go_num, by rw [HJ.out, if_pos h0]⟩
        case measure => simp [intOf]; omega
      · go_wp2_with fail
        go_round
        case rel => exact ⟨k + 1, by omega, by go_num, by rw [HJ.out, if_neg h0]⟩
        case measure => simp [intOf]; omega
    · obtain rfl : k = l.length := by omega
      go_wp2_with fail
      go_ret
      exact ⟨rfl, rfl⟩

theorem tot_dropLast (l : List ByteArray) : tot l.dropLast ≤ tot l := by rw [List.dropLast_eq_take]; exact tot_take _ _

set_option maxRecDepth 100000 in
set_option maxHeartbeats 400000 in
theorem ref_parent (s : ByteArray) (w : World) (hs : s.size ≤ 10000000) (ht : tot (PathS.split s) ≤ 100000000) :
    Calls Tryd.prog 23 #[.string s] w fun e w' => e = .returned (.string (PathS.parent s)) ∧ Below w.heap.size w w' := by
  have hpl := split_len s
  have HC : Hid (PathS.parent s = if (PathS.split s).length < 2 then ByteArray.empty else PathS.joinTo (PathS.split s).dropLast ((PathS.split s).length - 1)) := by show _ = _; rfl
  go_enter Tryd.func23, Tryd.ntmps23
  go_wp2_with fail
  refine (ref_split s w hs).mono ?_
  rintro e w1 ⟨v, rfl, hb, hown⟩
  obtain ⟨a, c, rfl, -, hnc, hsl⟩ := own_sl hown
  clear hown
  generalize PathS.split s = l at *
  by_cases h1 : l.length < 2
  · go_wp2_with fail
    go_ret
    exact ⟨ret_str (by rw [HC.out, if_pos h1]; rfl), hb⟩
  · have hdl : l.dropLast.length = l.length - 1 := by simp
    have hd : Sl w1 a (l.dropLast.map Value.string) := by
      rcases hsl with h | ⟨b, o, rfl, hlt, hc⟩
      · exfalso; simp at h; subst h; simp at h1
      · have := Sl.part (w := w1) (b := b) (o := o) (xs := l.map Value.string) (.inr ⟨b, o, rfl, hlt, hc⟩) 0 (l.length - 1)
        simpa [List.dropLast_eq_take, List.map_take] using this
    obtain ⟨b, o, rfl, _, _⟩ := hd.at (k := 0) (by simp; omega)
    go_wp2_with fail
    have hj := ref_join (some ⟨b, o, none⟩) c l.dropLast w1 hd (Nat.le_trans (tot_dropLast l) ht) (by omega)
    rw [hdl] at hj
    refine hj.mono ?_
    rintro e w2 ⟨rfl, rfl⟩
    clear hj
    go_wp2_with fail
    go_ret
    exact ⟨ret_str (by rw [HC.out, if_neg h1]), hb⟩
end Go.Proofs.YtmcdfikkokbffaaDoor
