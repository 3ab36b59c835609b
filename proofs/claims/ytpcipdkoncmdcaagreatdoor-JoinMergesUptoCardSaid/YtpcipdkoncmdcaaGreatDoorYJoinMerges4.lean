/- Texts of mine, joined: Walks of the reference's path functions, second part. | Walks: the program's table of longest common lists. | The table of the longest common lists as a row of numbers: plain. | A region that draws its order: its head reads and calls quietly (callees may draw), its tail stands in one order and may write: one walk serves. Of every program. -/
import Derived.BigQuiet
import Derived.Deep.QuietTactic
import Derived.Test.YtpcipdkoncmdcaaGreatDoorRows
import Derived.StillTailTactics
import Derived.Test.YtpcipdkoncmdcaaGreatDoorYJoinMerges3
namespace Go.Proofs.YtpcipdkoncmdcaaGreatDoor
open Go Go.RowKit
theorem okB_of {c : UInt8} (h : ((c.toNat : Int) < 32 ∨ ((c.toNat : Int) == 127) = true) ∨ ((c.toNat : Int) == 47) = true) : PathS.okB c = false := by
  unfold PathS.okB
  simp only [UInt8.lt_iff_toNat_lt]
  rcases h with (h | h) | h
  · have : c.toNat < 32 := by omega
    simp [this]
  · have : c = 127 := by rw [show (127 : Int) = ((127 : UInt8).toNat : Int) from rfl, byte_eq] at h; simpa using h
    subst this; decide
  · have : c = 47 := by rw [show (47 : Int) = ((47 : UInt8).toNat : Int) from rfl, byte_eq] at h; simpa using h
    subst this; decide
theorem okB_not {c : UInt8} (h1 : 32 ≤ (c.toNat : Int)) (h2 : ((c.toNat : Int) == 127) = false) (h3 : ((c.toNat : Int) == 47) = false) : PathS.okB c = true := by
  unfold PathS.okB
  simp only [UInt8.lt_iff_toNat_lt]
  have h4 : ¬ c.toNat < 32 := by omega
  rw [show (127 : Int) = ((127 : UInt8).toNat : Int) from rfl, byte_eq] at h2
  rw [show (47 : Int) = ((47 : UInt8).toNat : Int) from rfl, byte_eq] at h3
  simp at h2 h3
  simp [h2, h3]
  omega

theorem okB_cases (c : UInt8) : ((c.toNat : Int) < 32 ∧ Hid (PathS.okB c = false)) ∨ (32 ≤ (c.toNat : Int) ∧ ((c.toNat : Int) == 127) = true ∧ Hid (PathS.okB c = false)) ∨ (32 ≤ (c.toNat : Int) ∧ ((c.toNat : Int) == 127) = false ∧ ((c.toNat : Int) == 47) = true ∧ Hid (PathS.okB c = false)) ∨ (32 ≤ (c.toNat : Int) ∧ ((c.toNat : Int) == 127) = false ∧ ((c.toNat : Int) == 47) = false ∧ Hid (PathS.okB c = true)) := by
  by_cases h1 : (c.toNat : Int) < 32
  · exact .inl ⟨h1, okB_of (.inl (.inl h1))⟩
  · cases h2 : ((c.toNat : Int) == 127)
    · cases h3 : ((c.toNat : Int) == 47)
      · exact .inr (.inr (.inr ⟨by omega, rfl, rfl, okB_not (by omega) h2 h3⟩))
      · exact .inr (.inr (.inl ⟨by omega, rfl, rfl, okB_of (.inr h3)⟩))
    · exact .inr (.inl ⟨by omega, rfl, okB_of (.inl (.inr h2))⟩)

set_option maxRecDepth 100000 in
set_option maxHeartbeats 400000 in
theorem ref_name (s : ByteArray) (w : World) (hs : s.size ≤ 10000000) :
    Calls Tryz.prog 92 #[.string s] w fun e w' => e = .returned (.bool (PathS.name s)) ∧ w = w' := by
  have HN := Lib.hid (@PathS.name_no s)
  have HM := Lib.hid (@PathS.name_rest s)
  go_enter Tryz.func92, Tryz.ntmps92
  go_wp2_with fail
  all_goals simp only [Lib.toList_data] at *
  · go_ret; exact ⟨ret_bool (HN.out (.inl ‹_›)), rfl⟩
  · go_ret; exact ⟨ret_bool (HN.out (.inr (.inl ‹_›))), rfl⟩
  · go_ret; exact ⟨ret_bool (HN.out (.inr (.inr (.inl ‹_›)))), rfl⟩
  · have h5 : 64 < s.data.toList.length := by
      rw [← Lib.size_eq]
      rcases (by assumption : ((s.data.toList.isEmpty = true ∨ (s.data.toList == [46]) = true) ∨ (s.data.toList == [46, 46]) = true) ∨ 64 < (s.size : Int)) with ((h | h) | h) | h
      · exact absurd (List.isEmpty_iff.1 h) ‹_›
      · exact absurd (beq_iff_eq.1 h) ‹_›
      · exact absurd (beq_iff_eq.1 h) ‹_›
      · omega
    go_ret; exact ⟨ret_bool (HN.out (.inr (.inr (.inr h5)))), rfl⟩
  · have h6 := (by assumption : ((s.data.toList.isEmpty = false ∧ (s.data.toList == [46]) = false) ∧ (s.data.toList == [46, 46]) = false) ∧ (s.size : Int) ≤ 64).2
    have HR := Lib.hid (HM.out ‹_› ‹_› ‹_› (by rw [← Lib.size_eq]; omega))
    have hs : s.size ≤ 64 := by omega
    go_loop [3] (fun i => ∃ k : Nat, k ≤ s.size ∧ i = .int .i64 k ∧ Hid (PathS.name s = (s.data.toList.drop k).all PathS.okB)) (fun i => s.size - (intOf i).toNat)
    case atStart => exact ⟨0, by omega, rfl, HR⟩
    case round =>
      obtain ⟨k, hk, rfl, HP⟩ := hrel
      clear HN HM HR
      by_cases hlt : k < s.size
      · have HD := Lib.hid (PathS.drop_at s k hlt)
        rcases okB_cases s[k] with ⟨h1, HB⟩ | ⟨h1, h2, HB⟩ | ⟨h1, h2, h3, HB⟩ | ⟨h1, h2, h3, HB⟩
        · go_wp2_with fail
          go_ret; exact ⟨ret_bool (by rw [HP.out, HD.out, List.all_cons, HB.out]; rfl), rfl⟩
        · go_wp2_with fail
          go_ret; exact ⟨ret_bool (by rw [HP.out, HD.out, List.all_cons, HB.out]; rfl), rfl⟩
        · go_wp2_with fail
          go_ret; exact ⟨ret_bool (by rw [HP.out, HD.out, List.all_cons, HB.out]; rfl), rfl⟩
        · go_wp2_with fail
          go_round
          case rel => exact ⟨k + 1, by omega, by go_num, by show _ = _; rw [HP.out, HD.out, List.all_cons, HB.out]; rfl⟩
          case measure => simp [intOf]; omega
      · go_wp2_with fail
        go_ret
        refine ⟨ret_bool ?_, rfl⟩
        rw [HP.out, List.drop_eq_nil_of_le (by rw [← Lib.size_eq]; omega)]; rfl

theorem split_len (s : ByteArray) : (PathS.split s).length ≤ s.size + 1 := by
  unfold PathS.split; split
  · simp
  · exact PathS.splitTo_len s (s.size + 1)

set_option maxRecDepth 100000 in
set_option maxHeartbeats 400000 in
theorem ref_check (s : ByteArray) (w : World) (hs : s.size ≤ 10000000) :
    Calls Tryz.prog 56 #[.string s] w fun e w' => e = .returned (.int .i64 (PathS.check s)) ∧ Below w.heap.size w w' := by
  have hpl := split_len s
  have HC : Hid (PathS.check s = if 255 < s.size ∨ 16 < (PathS.split s).length then 2 else if (PathS.split s).all PathS.name then (if (PathS.split s).length = 0 then 50 else 0) else 50) := by show _ = _; rfl
  have hpz : ∀ x ∈ PathS.split s, x.size ≤ 10000000 := by
    intro x hx
    rw [PathS.split_spl] at hx
    have := PathS.spl_size s x hx
    omega
  go_enter Tryz.func56, Tryz.ntmps56
  go_wp2_with fail
  refine (ref_split s w hs).mono ?_
  rintro e w1 ⟨v, rfl, hb, hown⟩
  obtain ⟨a, c, rfl, -, -, hsl⟩ := own_sl hown
  clear hown
  generalize PathS.split s = l at *
  have HZ := Lib.hid hpz
  clear hpz
  by_cases h1 : 255 < s.size
  · have g1 : decide (255 < (s.size : Int)) = true := by simp; omega
    go_wp2_with fail
    go_ret
    exact ⟨ret_i64 (by rw [HC.out, if_pos (.inl h1)]), hb⟩
  · have g1 : decide (255 < (s.size : Int)) = false := by simp; omega
    by_cases h2 : 16 < l.length
    · have g2 : decide (16 < (l.length : Int)) = true := by simp; omega
      go_wp2_with fail
      go_ret
      exact ⟨ret_i64 (by rw [HC.out, if_pos (.inr h2)]), hb⟩
    · have g2 : decide (16 < (l.length : Int)) = false := by simp; omega
      go_wp2_with fail
      go_loop [4] (fun i => ∃ k : Nat, k ≤ l.length ∧ i = .int .i64 k ∧ Hid ((l.take k).all PathS.name = true)) (fun i => l.length - (intOf i).toNat)
      case atStart => exact ⟨0, by omega, rfl, by show _ = _; rfl⟩
      case round =>
        obtain ⟨k, hk, rfl, HP⟩ := hrel
        by_cases hlt : k < l.length
        · obtain ⟨b, o, rfl, hbl, hc⟩ := hsl.at (k := k) (by simpa using hlt)
          have hcell : w1.cell? ⟨b, o + k, none⟩ = some (.string l[k]) := by rw [hc k (by simpa using hlt), List.getElem_map]
          clear hc
          have hsz := HZ.out _ (List.getElem_mem hlt)
          have HT := Lib.hid (show l.take (k + 1) = l.take k ++ [l[k]] from List.take_succ_eq_append_getElem hlt)
          cases hn : PathS.name l[k]
          · have HN := Lib.hid hn; clear hn
            have HA : Hid (l.all PathS.name = false) := by
              show _ = _
              rw [Bool.eq_false_iff]; intro h; have := List.all_eq_true.1 h l[k] (List.getElem_mem hlt); rw [HN.out] at this; cases this
            go_wp2_with (go_at_call 92; refine (ref_name _ _ hsz).mono ?_; rw [HN.out]; rintro e w2 ⟨rfl, rfl⟩)
            go_ret
            exact ⟨ret_i64 (by rw [HC.out, if_neg (by omega), HA.out]; rfl), hb⟩
          · have HN := Lib.hid hn; clear hn
            go_wp2_with (go_at_call 92; refine (ref_name _ _ hsz).mono ?_; rw [HN.out]; rintro e w2 ⟨rfl, rfl⟩)
            go_round
            case rel => exact ⟨k + 1, by omega, by go_num, by show _ = _; rw [HT.out, List.all_append, HP.out]; simp [HN.out]⟩
            case measure => simp [intOf]; omega
        · have HA : Hid (l.all PathS.name = true) := by
            show _ = _; have := HP.out; rwa [List.take_of_length_le (by omega)] at this
          by_cases h0 : l.length = 0
          · have g0 : ((l.length : Int) == 0) = true := by rw [h0]; rfl
            go_wp2_with fail
            go_ret
            exact ⟨ret_i64 (by rw [HC.out, if_neg (by omega), HA.out, if_pos rfl, if_pos h0]), hb⟩
          · have g0 : ((l.length : Int) == 0) = false := beq_eq_false_iff_ne.2 (by omega)
            go_wp2_with fail
            go_ret
            exact ⟨ret_i64 (by rw [HC.out, if_neg (by omega), HA.out, if_pos rfl, if_neg h0]), hb⟩

set_option maxRecDepth 100000 in
set_option maxHeartbeats 400000 in
theorem ref_under (p f : ByteArray) (w : World) (_hp : p.size ≤ 100000000) (hf : f.size ≤ 100000000) :
    Calls Tryz.prog 34 #[.string p, .string f] w fun e w' => e = .returned (.bool (PathS.under p f)) ∧ w = w' := by
  have ef := isEmpty_iff f
  have ep := isEmpty_iff p
  by_cases h1 : f.size = 0
  · have g1 : f.toList.isEmpty = true := by rw [ef]; simpa using h1
    have HF : Hid (PathS.under p f = !p.toList.isEmpty) := by show _ = _; rw [ep]; simp [PathS.under, h1]
    clear h1 ef ep
    go_enter Tryz.func34, Tryz.ntmps34
    go_wp2_with fail
    go_ret
    exact ⟨ret_bool HF.out, rfl⟩
  · have g1 : f.toList.isEmpty = false := by rw [ef]; simpa using h1
    have HF : Hid (PathS.under p f = (f.data.toList ++ [47]).isPrefixOf p.data.toList) := by show _ = _; simp [PathS.under, h1]
    clear h1 ef ep
    by_cases h2 : f.size < p.size
    · have hx : (f.data.toList ++ [47]).isPrefixOf p.data.toList = ((p.extract 0 f.size).toList == f.toList && ((p[f.size].toNat : Int) == 47)) := by
        exact PathS.pre_iff p f h2
      have HX := Lib.hid hx; clear hx
      go_enter Tryz.func34, Tryz.ntmps34
      go_wp2_with fail
      · go_ret
        exact ⟨ret_bool (by rw [HF.out, HX.out, beq_iff_eq.2 (by assumption : (p.extract 0 f.size).toList = f.toList)]; rfl), rfl⟩
      · go_ret
        exact ⟨ret_bool (by rw [HF.out, HX.out, beq_eq_false_iff_ne.2 (by assumption : ¬ (p.extract 0 f.size).toList = f.toList)]; rfl), rfl⟩
    · have HG : Hid (PathS.under p f = false) := by
        show _ = _
        rw [HF.out, Bool.eq_false_iff]
        intro h
        have := (List.isPrefixOf_iff_prefix.1 h).length_le
        rw [List.length_append, ← Lib.size_eq, ← Lib.size_eq] at this
        simp at this; omega
      go_enter Tryz.func34, Tryz.ntmps34
      go_wp2_with fail
      go_ret
      exact ⟨ret_bool HG.out, rfl⟩

set_option maxRecDepth 100000 in
set_option maxHeartbeats 1000000 in
theorem ref_cmp (a b : ByteArray) (w : World) (ha : a.size ≤ 10000000) (hb : b.size ≤ 10000000) :
    Calls Tryz.prog 57 #[.string a, .string b] w fun e w' => e = .returned (.int .i64 (PathS.cmp a b)) ∧ Below w.heap.size w w' := by
  have HC : Hid (PathS.cmp a b = PathS.cmpL ((PathS.split a).drop 0) ((PathS.split b).drop 0)) := by show _ = _; rfl
  have hla := split_len a
  have hlb := split_len b
  go_enter Tryz.func57, Tryz.ntmps57
  go_wp2_with fail
  refine (ref_split a w ha).mono ?_
  rintro e w1 ⟨v1, rfl, hb1, hown1⟩
  go_wp2_with fail
  refine (ref_split b w1 hb).mono ?_
  rintro e w2 ⟨v2, rfl, hb2, hown2⟩
  have hown1 := own_below hown1 hb2
  obtain ⟨a1, c1, rfl, -, -, hx⟩ := own_sl hown1
  obtain ⟨a2, c2, rfl, -, -, hy⟩ := own_sl hown2
  have hbb := hb1.trans (hb2.mono hb1.size)
  clear hown1 hown2 hb1 hb2
  generalize PathS.split a = x at *
  generalize PathS.split b = y at *
  go_wp2_with fail
  go_loopw [7] (fun i wr => ∃ k : Nat, k ≤ x.length ∧ k ≤ y.length ∧ i = .int .i64 k ∧ Below w.heap.size w wr ∧ Below w2.heap.size w2 wr ∧ Hid (PathS.cmp a b = PathS.cmpL (x.drop k) (y.drop k))) (fun i _ => x.length - (intOf i).toNat)
  case atStart => exact ⟨0, by omega, by omega, rfl, hbb, Below.refl _ _, HC⟩
  case round =>
    obtain ⟨k, hk, hk2, rfl, hbw, hb2w, HP⟩ := hrel
    clear HC
    by_cases hlt : k < x.length
    · by_cases hlt2 : k < y.length
      · obtain ⟨b1, o1, rfl, hbl1, hc1⟩ := hx.at (k := k) (by simpa using hlt)
        obtain ⟨b2, o2, rfl, hbl2, hc2⟩ := hy.at (k := k) (by simpa using hlt2)
        have hcell1 : wr.cell? ⟨b1, o1 + k, none⟩ = some (.string x[k]) := by rw [hb2w.cell (p := ⟨b1, o1 + k, none⟩) hbl1, hc1 k (by simpa using hlt), List.getElem_map]
        have hcell2 : wr.cell? ⟨b2, o2 + k, none⟩ = some (.string y[k]) := by rw [hb2w.cell (p := ⟨b2, o2 + k, none⟩) hbl2, hc2 k (by simpa using hlt2), List.getElem_map]
        clear hc1 hc2
        have HD := Lib.hid (cmpL_drop x y k hlt hlt2)
        rcases cmpB_cases x[k] y[k] with ⟨h1, H⟩ | ⟨h1, h2, H⟩ | ⟨h1, h2, H⟩
        · go_wp2_with fail
          go_quiet (fail)
          go_wp2_with fail
          go_ret
          exact ⟨ret_i64 (by rw [HP.out, HD.out, H.out]; rfl), below_dN hbw _⟩
        · go_wp2_with fail
          go_quiet (fail)
          go_wp2_with fail
          go_quiet (fail)
          go_wp2_with fail
          go_roundw
          case rel => exact ⟨k + 1, by omega, by omega, by go_num, below_dN hbw _, below_dN hb2w _, by show _ = _; rw [HP.out, HD.out, H.out]; rfl⟩
          case measure => simp [intOf]; omega
        · go_wp2_with fail
          go_quiet (fail)
          go_wp2_with fail
          go_quiet (fail)
          go_wp2_with fail
          go_ret
          exact ⟨ret_i64 (by rw [HP.out, HD.out, H.out]; rfl), below_dN (below_dN hbw _) _⟩
      · have e : y.drop k = [] := List.drop_eq_nil_of_le (by omega)
        have HF : Hid (PathS.cmp a b = 1) := by
          show _ = _
          rw [HP.out, List.drop_eq_getElem_cons hlt, e]; rfl
        clear e
        have g1 : ¬ x.length < y.length := by omega
        have g2 : y.length < x.length := by omega
        go_wp2_with fail
        go_ret
        exact ⟨ret_i64 HF.out, hbw⟩
    · have e : x.drop k = [] := List.drop_eq_nil_of_le (by omega)
      by_cases hlt2 : x.length < y.length
      · have HF : Hid (PathS.cmp a b = -1) := by
          show _ = _
          rw [HP.out, e, List.drop_eq_getElem_cons (show k < y.length by omega)]; rfl
        clear e
        go_wp2_with fail
        go_ret
        exact ⟨ret_i64 HF.out, hbw⟩
      · have e2 : y.drop k = [] := List.drop_eq_nil_of_le (by omega)
        have HF : Hid (PathS.cmp a b = 0) := by
          show _ = _
          rw [HP.out, e, e2]; rfl
        clear e e2
        have g2 : ¬ y.length < x.length := by omega
        go_wp2_with fail
        go_ret
        exact ⟨ret_i64 HF.out, hbw⟩

end Go.Proofs.YtpcipdkoncmdcaaGreatDoor
namespace Go.Proofs.YtpcipdkoncmdcaaGreatDoor
open Go Go.RowKit
set_option maxRecDepth 100000 in
theorem at_c (t o g n wd i k : Nat) (w : World) (h0 : w.cell? ⟨t, o, none⟩ = some (.slice (some ⟨g, 0, none⟩) n n)) (h1 : w.cell? ⟨t, o + 1, none⟩ = some (.int .i64 wd)) (hn : i * wd + k < n) (hb : n ≤ 100000000) :
    Calls Tryz.prog 125 #[.pointer (some ⟨t, o, none⟩), .int .i64 i, .int .i64 k] w fun e w' => e = .returned (.pointer (some ⟨g, i * wd + k, none⟩)) ∧ ∃ q, w' = w.drewN q := by
  have hm : IntKind.i64.wrap ((i : Int) * (wd : Int)) = ((i * wd : Nat) : Int) := by rw [← Int.natCast_mul]; exact IntWalk.i64_in _ (by omega)
  have hm2 : IntKind.i64.wrap (((i * wd : Nat) : Int) + (k : Int)) = ((i * wd + k : Nat) : Int) := by rw [← Int.natCast_add]; exact IntWalk.i64_in _ (by omega)
  go_enter Tryz.func125, Tryz.ntmps125
  go_wp2_with fail
  go_quiet (fail)
  go_wp2_with fail
  go_ret
  exact ⟨rfl, _, rfl⟩
end Go.Proofs.YtpcipdkoncmdcaaGreatDoor
namespace Go.Proofs.YtpcipdkoncmdcaaGreatDoor
namespace ScoreS
variable {β : Type} [DecidableEq β]
/-- The place in the row is the place in the table. -/
theorem place_inj {wd i k i' k' : Nat} (h1 : k < wd) (h2 : k' < wd) (h : i * wd + k = i' * wd + k') : i = i' ∧ k = k' := by
  have e1 : (i * wd + k) / wd = i := by rw [Nat.mul_comm, Nat.mul_add_div (by omega), Nat.div_eq_of_lt h1]; rfl
  have e2 : (i' * wd + k') / wd = i' := by rw [Nat.mul_comm, Nat.mul_add_div (by omega), Nat.div_eq_of_lt h2]; rfl
  have e3 : i = i' := by rw [← e1, ← e2, h]
  subst e3
  exact ⟨rfl, by omega⟩

theorem place_lt {m n i k : Nat} (h1 : i ≤ m) (h2 : k ≤ n) : i * (n + 1) + k < (m + 1) * (n + 1) := by
  have : i * (n + 1) ≤ m * (n + 1) := Nat.mul_le_mul_right _ h1
  rw [Nat.add_mul, Nat.one_mul]; omega

/-- What the table holds when the rows from i + 1 on, and of row i the places from k on, are filled: i, k: the next to be filled is (i, k - 1). -/
def Done (a b : List β) (i k : Nat) (f : Nat → Nat) : Prop :=
  ∀ i' k', i' ≤ a.length → k' ≤ b.length → (i < i' ∨ (i' = i ∧ k ≤ k') ∨ i' = a.length ∨ k' = b.length) → f (i' * (b.length + 1) + k') = L (a.drop i') (b.drop k')

theorem done_start (a b : List β) : Done a b a.length 0 fun _ => 0 := by
  intro i' k' h1 h2 h
  rcases h with h | ⟨h, _⟩ | h | h
  · omega
  · rw [h, List.drop_length, L_nil]
  · rw [h, List.drop_length, L_nil]
  · rw [h, List.drop_length, L_nil']

theorem done_row {a b : List β} {i : Nat} {f : Nat → Nat} (h : Done a b (i + 1) 0 f) : Done a b i b.length f := by
  intro i' k' h1 h2 h3
  refine h i' k' h1 h2 ?_
  omega

theorem done_set {a b : List β} {i k : Nat} {f : Nat → Nat} (hi : i < a.length) (hk : k < b.length) (h : Done a b i (k + 1) f) (v : Nat) (hv : v = L (a.drop i) (b.drop k)) :
    Done a b i k fun x => if x = i * (b.length + 1) + k then v else f x := by
  intro i' k' h1 h2 h3
  by_cases e : i' * (b.length + 1) + k' = i * (b.length + 1) + k
  · obtain ⟨rfl, rfl⟩ := place_inj (by omega) (by omega) e
    show (if _ then _ else _) = _
    rw [if_pos rfl, hv]
  · show (if _ then _ else _) = _
    rw [if_neg e]
    refine h i' k' h1 h2 ?_
    rcases h3 with h3 | ⟨rfl, h3⟩ | h3 | h3
    · exact .inl h3
    · have : k' ≠ k := fun e2 => e (by rw [e2])
      exact .inr (.inl ⟨rfl, by omega⟩)
    · exact .inr (.inr (.inl h3))
    · exact .inr (.inr (.inr h3))

/-- The three neighbours, and what is put. -/
theorem done_next {a b : List β} {i k : Nat} {f : Nat → Nat} (hi : i < a.length) (hk : k < b.length) (h : Done a b i (k + 1) f) :
    f ((i + 1) * (b.length + 1) + k) = L (a.drop (i + 1)) (b.drop k) ∧ f (i * (b.length + 1) + (k + 1)) = L (a.drop i) (b.drop (k + 1)) ∧ f ((i + 1) * (b.length + 1) + (k + 1)) = L (a.drop (i + 1)) (b.drop (k + 1)) :=
  ⟨h _ _ (by omega) (by omega) (.inl (by omega)), h _ _ (by omega) (by omega) (.inr (.inl ⟨rfl, by omega⟩)), h _ _ (by omega) (by omega) (.inl (by omega))⟩

theorem L_at {a b : List β} {i k : Nat} (hi : i < a.length) (hk : k < b.length) :
    L (a.drop i) (b.drop k) = if a[i] = b[k] then L (a.drop (i + 1)) (b.drop (k + 1)) + 1 else max (L (a.drop (i + 1)) (b.drop k)) (L (a.drop i) (b.drop (k + 1))) := by
  rw [List.drop_eq_getElem_cons hi, List.drop_eq_getElem_cons hk, L]

theorem L_at3 {a b : List β} {i k : Nat} (hi : i < a.length) (hk : k < b.length) :
    L (a.drop i) (b.drop k) = if a[i] = b[k] then max (max (L (a.drop (i + 1)) (b.drop k)) (L (a.drop i) (b.drop (k + 1)))) (L (a.drop (i + 1)) (b.drop (k + 1)) + 1) else max (L (a.drop (i + 1)) (b.drop k)) (L (a.drop i) (b.drop (k + 1))) := by
  rw [List.drop_eq_getElem_cons hi, List.drop_eq_getElem_cons hk, L_three]

theorem P_at {a b : List β} {i k : Nat} (hi : i < a.length) (hk : k < b.length) :
    P i k (a.drop i) (b.drop k) = if a[i] = b[k] then (i, k) :: P (i + 1) (k + 1) (a.drop (i + 1)) (b.drop (k + 1)) else if L (a.drop i) (b.drop (k + 1)) ≤ L (a.drop (i + 1)) (b.drop k) then P (i + 1) k (a.drop (i + 1)) (b.drop k) else P i (k + 1) (a.drop i) (b.drop (k + 1)) := by
  rw [List.drop_eq_getElem_cons hi, List.drop_eq_getElem_cons hk, P]

end ScoreS
end Go.Proofs.YtpcipdkoncmdcaaGreatDoor
namespace Go.Proofs.YtpcipdkoncmdcaaGreatDoor
open Go
section
variable {P : Program} {ops : Array Oper} {md : Region.Mode} {C : World → Prop}
/-- The head's operations come up in any order; then T holds of what has come up. -/
def HeadAny (P : Program) (md : Region.Mode) (ops : Array Oper) (C : World → Prop) (n : Nat) (T : Array Bool → Act → Prop) : Nat → Array Bool → Act → Prop
  | 0, up, a => T up a
  | f + 1, up, a => Region.ready md ops up ≠ [] ∧ ∀ i ∈ Region.ready md ops up, i < n ∧ qOp P ops C i (HeadAny P md ops C n T f (up.setIfInBounds i true)) a

theorem headAny_wp {n g : Nat} {T : Array Bool → Act → Prop} {Q' : Exit → Act → World → Prop} (hT : ∀ up a w, C w → T up a → wpAny P md ops Q' g up a w) :
    ∀ (f : Nat) (up : Array Bool) (a : Act) (w : World), C w → HeadAny P md ops C n T f up a → wpAny P md ops Q' (f + g) up a w
  | 0, up, a, w, hw, h => by rw [Nat.zero_add]; exact hT _ _ _ hw h
  | f + 1, up, a, w, hw, h => by
    rw [show f + 1 + g = (f + g) + 1 by omega]
    exact ⟨fun h0 => absurd h0 h.1, fun i hi => wpOp_of_qOp hw (fun a' w' hw' h' => headAny_wp hT f _ a' w' hw' h') (h.2 i hi).2⟩

theorem headAny_first {n i : Nat} {oi : Oper} {v : Value} {T : Array Bool → Act → Prop} (hi : ops[i]? = some oi) (hsel : ∀ (j : Nat) (o : Oper) cs b, ops[j]? = some o → o.op ≠ .select cs b)
    (hs : Region.sinkB md ops n = true) (hc : Region.chainB md ops n = true) (hn : n < ops.size) (hin : i < n)
    (hT : ∀ up a, T up a → ∀ j ∈ Region.ready md ops up, n ≤ j) (f : Nat) :
    ∀ (up : Array Bool) (a : Act), HeadInv md ops n up →
      (∀ j oj, ops[j]? = some oj → j ≠ i → up.getD j true = false → (∀ e ∈ oj.after, Region.binds md e = true → e.on ≠ i) → oi.apart ops oj = true) →
      i ∈ Region.ready md ops up → YieldsIn P ops C oi v a →
      HeadAny P md ops C n T f (up.setIfInBounds i true) (a.put oi.dst v) → HeadAny P md ops C n T (f + 1) up a := by
  induction f with
  | zero =>
    intro up a inv _ hr hy H
    have hun := (mem_ready.1 hr).1
    refine ⟨fun h => (by rw [h] at hr; cases hr), fun j hj => ?_⟩
    have hjn : j < n := Nat.lt_of_not_le fun h => tail_waits hs hc hn inv _ i rfl hin hun j h hj
    refine ⟨hjn, ?_⟩
    by_cases hji : j = i
    · subst hji; exact hy.qOp hi H
    · have := hT _ _ H j (ready_mono hj hji)
      omega
  | succ f ih =>
    intro up a inv hfree hr hy H
    have hun := (mem_ready.1 hr).1
    refine ⟨fun h => (by rw [h] at hr; cases hr), fun j hj => ?_⟩
    have hjn : j < n := Nat.lt_of_not_le fun h => tail_waits hs hc hn inv _ i rfl hin hun j h hj
    refine ⟨hjn, ?_⟩
    by_cases hji : j = i
    · subst hji; exact hy.qOp hi H
    · obtain ⟨hjun, oj, hoj, hall⟩ := mem_ready.1 hj
      have hnot : ∀ e ∈ oj.after, Region.binds md e = true → e.on ≠ i := by
        intro e he hb heq
        have h1 := hall e he hb
        rw [heq, getD_both hun] at h1
        cases h1
      have h2 := qOp_put hoj (hfree j oj hoj hji hjun hnot) (fun cs b => hsel i oi cs b hi) (fun cs b => hsel j oj cs b hoj) hy (H.2 j (ready_mono hj hji)).2
      refine qOp_mono (fun a' h3 => ?_) h2
      refine ih (up.setIfInBounds j true) a' (inv.set hj hjn) ?_ (ready_mono hr (Ne.symm hji)) h3.1 ?_
      · intro k ok hk hki hkun hno
        refine hfree k ok hk hki ?_ hno
        by_cases hjk : j = k
        · subst hjk; exact hjun
        · rwa [getD_set_ne true hjk] at hkun
      · rw [Array.setIfInBounds_comm _ _ hji]
        exact h3.2

theorem headAny_lex {n g : Nat} {K : Act → Prop} (hsel : Region.noSelect ops = true) (hs : Region.sinkB md ops n = true) (hc : Region.chainB md ops n = true) (hn : n < ops.size) :
    ∀ (l : List Oper) (k : Nat) (up : Array Bool) (a : Act), (∀ j, j < l.length → l[j]? = ops[k + j]?) → k + l.length = n → HeadInv md ops n up →
    Region.lexHead md ops g l.length k up = true → wpQuiet P ops C K l a → HeadAny P md ops C n (fun up' a' => Region.seqB md ops g n up' = true ∧ K a') l.length up a
  | [], k, up, a, _, hk, _, hB, h => by
    obtain rfl : k = n := by simpa using hk
    exact ⟨by simpa [Region.lexHead] using hB, h⟩
  | o :: l, k, up, a, hl, hk, inv, hB, h => by
    have h0 : ops[k]? = some o := by simpa using (hl 0 (by simp)).symm
    simp only [List.length_cons, Region.lexHead, Bool.and_eq_true] at hB hk
    obtain ⟨⟨hr, hf⟩, hB'⟩ := hB
    have hr' : k ∈ Region.ready md ops up := by simpa using hr
    have hq : qOp P ops C k (wpQuiet P ops C K l) a := by unfold qOp; simp only [h0]; exact h
    obtain ⟨v, hy, hK⟩ := yieldsIn_of_qOp h0 hq
    refine headAny_first h0 (Region.noSelect_spec hsel) hs hc hn (by omega) (fun up' a' hL => seqB_ready hL.1) l.length up a inv (Region.free_spec h0 hf) hr' hy ?_
    refine headAny_lex hsel hs hc hn l (k + 1) _ _ (fun j hj => ?_) (by omega) (inv.set hr' (by omega)) hB' hK
    have := hl (j + 1) (by simp; omega)
    simpa [Nat.add_assoc, Nat.add_comm 1 j] using this

/-- The first n operations quiet in a class of worlds, the others in one order. -/
theorem wp_region_tail {id : Nat} {Q : Exit → Act → World → Prop} {a : Act} {w : World} {l : List Oper} (n : Nat) (hm : P.follows .mixedOrders = true) (hB : Region.lexTailB .any l.toArray n = true) (hC : C { w with drawn := w.drawn + 1 })
    (h : wpQuiet P l.toArray C (fun a' => ∀ w', C w' → wpList P l.toArray Q (l.drop n) a' w') (l.take n) a) : (Code.region id l.toArray true).wp P Q a w := by
  simp only [Region.lexTailB, Bool.and_eq_true, decide_eq_true_eq] at hB
  obtain ⟨⟨⟨⟨hsel, hn⟩, hs⟩, hc⟩, hlex⟩ := hB
  have hn' : n < l.length := by simpa using hn
  have htl : (l.take n).length = n := by simp; omega
  have hdl : (l.drop n).length = l.toArray.size - n := by simp
  have inv0 : HeadInv .any l.toArray n (Array.replicate l.toArray.size false) :=
    ⟨by simp, fun j oj _ hl => (by rw [getD_replicate_false] at hl; cases hl), fun t _ ht => getD_in (by simpa using ht) (getD_replicate_false _ _)⟩
  have H := headAny_lex (md := .any) (g := l.toArray.size - n) hsel hs hc hn (l.take n) 0 _ a (fun j hj => by
    have hj' : j < n := by rw [htl] at hj; exact hj
    simp [hj']) (by simpa using htl) inv0 (by rw [htl]; exact hlex) h
  refine wp_region_any hm ?_
  have := headAny_wp (Q' := Q) (g := l.toArray.size - n) (fun up a' w' hw' hL => by
    have := wpAny_of_seq (md := .any) (Q' := Q) (l.drop n) n up a' w' (fun j => by simp [List.getElem?_drop]) (by rw [hdl]; exact hL.1) (hL.2 w' hw')
    rwa [hdl] at this) _ _ _ { w with drawn := w.drawn + 1 } hC H
  rw [htl, show n + (l.toArray.size - n) = l.toArray.size by omega] at this
  exact this

theorem wp_region_quiet_tail {id : Nat} {Q : Exit → Act → World → Prop} {a : Act} {w : World} {l : List Oper} (n : Nat) (hm : P.follows .mixedOrders = true) (hB : Region.lexTailB .any l.toArray n = true)
    (h : wpQuiet P l.toArray (fun w' => ∃ q, w' = w.drewN q) (fun a' => ∀ w', (∃ q, w' = w.drewN q) → wpList P l.toArray Q (l.drop n) a' w') (l.take n) a) : (Code.region id l.toArray true).wp P Q a w :=
  wp_region_tail (C := fun w' => ∃ q, w' = w.drewN q) n hm hB ⟨1, rfl⟩ h
end
end Go.Proofs.YtpcipdkoncmdcaaGreatDoor
