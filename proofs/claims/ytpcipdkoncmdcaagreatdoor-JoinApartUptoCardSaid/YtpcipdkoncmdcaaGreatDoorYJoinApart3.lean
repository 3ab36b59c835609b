/- Texts of mine, joined: Walks of package path's functions that look at one path or two. | Walks: comparing, lying under, parents, and the filter 'valid'. | Walks of the reference's path functions, second part. | Walks: the program's table of longest common lists. | The table of the longest common lists as a row of numbers: plain. | A region that draws its order: its head reads and calls quietly (callees may draw), its tail stands in one order and may write: one walk serves. Of every program. -/
import Derived.Test.YtpcipdkoncmdcaaGreatDoorShelf
import Derived.Sort.Walk0
import Derived.BigQuiet
import Derived.Deep.QuietTactic
import Derived.Test.YtpcipdkoncmdcaaGreatDoorRows
import Derived.StillTailTactics
import Derived.Test.YtpcipdkoncmdcaaGreatDoorYJoinApart2
namespace Go.Proofs.YtpcipdkoncmdcaaGreatDoor
open Go Go.RowKit
/-- What the walks take of the library's variables. -/
structure Gl (w : World) : Prop where
  ml : ∃ m, w.cell? ⟨1, 0, none⟩ = some (.int .i64 m)
  sz : 1 < w.heap.size

theorem Gl.below {w w' : World} {B : Nat} (h : Gl w) (hb : Below B w w') (hB : w.heap.size ≤ B) : Gl w' := by
  obtain ⟨⟨m, hm⟩, hs⟩ := h
  exact ⟨⟨m, by rw [hb.cell (p := ⟨1, 0, none⟩) (Nat.lt_of_lt_of_le hs hB)]; exact hm⟩, Nat.lt_of_lt_of_le hs hb.size⟩

set_option maxHeartbeats 400000 in
theorem bad_c (x : Nat) (w : World) : Calls Tryz.prog 101 #[.int .i32 x] w fun e w' => e = .returned (.bool (PathS.badR x)) ∧ w = w' := by
  have h : (decide ((x : Int) < 32) = true ∧ Hid (PathS.badR x = true)) ∨ (decide ((x : Int) < 32) = false ∧ ((x : Int) == 127) = true ∧ Hid (PathS.badR x = true)) ∨ (decide ((x : Int) < 32) = false ∧ ((x : Int) == 127) = false ∧ ((x : Int) == 47) = true ∧ Hid (PathS.badR x = true)) ∨ (decide ((x : Int) < 32) = false ∧ ((x : Int) == 127) = false ∧ ((x : Int) == 47) = false ∧ Hid (PathS.badR x = false)) := by
    by_cases h1 : x < 32
    · exact .inl ⟨decide_eq_true (by omega), by show PathS.badR x = true; simp [PathS.badR, h1]⟩
    · by_cases h2 : x = 127
      · subst h2; exact .inr (.inl ⟨rfl, rfl, by show _ = true; decide⟩)
      · by_cases h3 : x = 47
        · subst h3; exact .inr (.inr (.inl ⟨rfl, rfl, rfl, by show _ = true; decide⟩))
        · exact .inr (.inr (.inr ⟨decide_eq_false (by omega), beq_eq_false_iff_ne.2 (by omega), beq_eq_false_iff_ne.2 (by omega), by show PathS.badR x = false; simp [PathS.badR, h2, h3]; omega⟩))
  go_enter Tryz.func101, Tryz.ntmps101
  rcases h with ⟨h1, H⟩ | ⟨h1, h2, H⟩ | ⟨h1, h2, h3, H⟩ | ⟨h1, h2, h3, H⟩
  all_goals
    go_wp2_with fail
    go_ret
    exact ⟨ret_bool H.out, rfl⟩

theorem bad_pred (w : World) : PredAt Tryz.prog 101 #[] encR PathS.badR w := fun W x _ =>
  (bad_c x W).mono fun _ _ ⟨he, hw⟩ => ⟨he, 0, by rw [← hw]; rfl⟩

theorem enter_bad : ∀ args w, (callFunc 101 args).run Tryz.prog w = .ok (.enter 101 args) w := enters_of Tryz.func101 (by kernel_rfl) rfl

theorem idxbad_c (s : ByteArray) (w : World) : Calls Tryz.prog 100 #[.string s, .func (.func 101) #[] #[]] w fun e w' => ∃ n : Int, e = .returned (.int .i64 n) ∧ (n < 0 ↔ s.data.toList.all PathS.okB = true) ∧ Below w.heap.size w w' :=
  (Tryz.strings_IndexFunc 101 #[] enter_bad PathS.badR s w (bad_pred w)).mono fun _ _ ⟨he, hb⟩ => ⟨_, he, by rw [← PathS.idx_neg, decide_eq_true_iff], hb⟩

set_option maxRecDepth 100000 in
set_option maxHeartbeats 400000 in
theorem name_c (s : ByteArray) (w : World) : Calls Tryz.prog 68 #[.string s] w fun e w' => e = .returned (.bool (PathS.name s)) ∧ Below w.heap.size w w' := by
  have HN := Lib.hid (@PathS.name_no s)
  have HM := Lib.hid (@PathS.name_rest s)
  have HZ := Lib.hid (Lib.size_eq s)
  go_enter Tryz.func68, Tryz.ntmps68
  go_wp2_with fail
  · go_ret; exact ⟨ret_bool (HN.out (.inl (by rw [← Lib.toList_data]; assumption))), Below.refl _ _⟩
  · go_ret; exact ⟨ret_bool (HN.out (.inr (.inl (by rw [← Lib.toList_data]; assumption)))), Below.refl _ _⟩
  · go_ret; exact ⟨ret_bool (HN.out (.inr (.inr (.inl (by rw [← Lib.toList_data]; assumption))))), Below.refl _ _⟩
  · have g1 : ¬ s.toList = [] := by assumption
    have g2 : ¬ s.toList = [46] := by assumption
    have g3 : ¬ s.toList = [46, 46] := by assumption
    have g4 : (s.size : Int) ≤ 64 := by assumption
    have HQ : Hid (PathS.name s = s.data.toList.all PathS.okB) := by
      show _ = _
      rw [HM.out (by rw [← Lib.toList_data]; exact g1) (by rw [← Lib.toList_data]; exact g2) (by rw [← Lib.toList_data]; exact g3) (by rw [← HZ.out]; omega), List.drop_zero]
    refine (idxbad_c s w).mono ?_
    rintro e w1 ⟨n, rfl, hn, hb⟩
    have HI : Hid (n < 0 ↔ s.data.toList.all PathS.okB = true) := hn
    clear hn
    have e1 : s.toList.isEmpty = false := by cases h : s.toList with | nil => exact absurd h g1 | cons => rfl
    have e2 : (s.toList == [46]) = false := by simpa using g2
    have e3 : (s.toList == [46, 46]) = false := by simpa using g3
    by_cases hn : n < 0
    · have hd : decide (n < 0) = true := by simpa using hn
      go_wp2_with fail
      go_ret
      exact ⟨ret_bool (by rw [HQ.out, HI.out.1 hn]), hb⟩
    · have hd : decide (n < 0) = false := by simpa using hn
      go_wp2_with fail
      go_ret
      refine ⟨ret_bool ?_, hb⟩
      rw [HQ.out]
      cases h : s.data.toList.all PathS.okB
      · rfl
      · exact absurd (HI.out.2 h) (by omega)
  · have g4 : 64 < (s.size : Int) := by assumption
    go_ret
    refine ⟨ret_bool ?_, Below.refl _ _⟩
    rw [HN.out (.inr (.inr (.inr (by rw [← HZ.out]; omega))))]

theorem notname_c (s : ByteArray) (w : World) : Calls Tryz.prog 67 #[.string s] w fun e w' => e = .returned (.bool (!PathS.name s)) ∧ Below w.heap.size w w' := by
  go_enter Tryz.func67, Tryz.ntmps67
  go_wp2_with (go_at_call 68; refine (name_c s w).mono ?_; rintro e w1 ⟨rfl, hb⟩)
  go_ret
  exact ⟨rfl, by assumption⟩

set_option maxRecDepth 100000 in
set_option maxHeartbeats 400000 in
theorem idxname_c (a : Option Addr) (c : Nat) (ss : List ByteArray) (w : World) (hs : Sl w a (ss.map Value.string)) (hl : ss.length ≤ 100000000) :
    Calls Tryz.prog 99 #[.slice a ss.length c, .func (.func 67) #[] #[]] w fun e w' => ∃ n : Int, e = .returned (.int .i64 n) ∧ (n < 0 ↔ ss.all PathS.name = true) ∧ Below w.heap.size w w' := by
  go_enter Tryz.func99, Tryz.ntmps99
  go_wp2_with fail
  go_loopw [8] (fun i wr => ∃ k : Nat, k ≤ ss.length ∧ i = .int .i64 k ∧ Below w.heap.size w wr ∧ Hid ((ss.take k).all PathS.name = true)) (fun i _ => ss.length - (intOf i).toNat)
  case atStart => exact ⟨0, by omega, rfl, Below.refl _ _, by show _ = _; rfl⟩
  case round =>
    obtain ⟨k, hk, rfl, hb, HP⟩ := hrel
    by_cases hlt : k < ss.length
    · obtain ⟨b, o, rfl, hbl, hc⟩ := hs.at (k := k) (by simpa using hlt)
      have hcell : wr.cell? ⟨b, o + k, none⟩ = some (.string ss[k]) := by
        rw [hb.cell (p := ⟨b, o + k, none⟩) hbl, hc k (by simpa using hlt), List.getElem_map]
      clear hc
      have htk : ss.take (k + 1) = ss.take k ++ [ss[k]] := List.take_succ_eq_append_getElem hlt
      have HT := Lib.hid htk
      clear htk
      cases hn : PathS.name ss[k]
      · have HN := Lib.hid hn
        clear hn
        have HF : Hid (((k : Int) < 0 ↔ ss.all PathS.name = true)) := by
          show _ ↔ _
          constructor
          · intro h; omega
          · intro h; have := List.all_eq_true.1 h ss[k] (List.getElem_mem hlt); rw [HN.out] at this; cases this
        go_wp2_with (go_at_call 67; refine (notname_c _ _).mono ?_; rw [HN.out]; rintro e w1 ⟨rfl, hb1⟩)
        go_ret
        exact ⟨_, rfl, HF.out, hb.trans (Below.mono (by assumption) hb.size)⟩
      · have HN := Lib.hid hn
        clear hn
        go_wp2_with (go_at_call 67; refine (notname_c _ _).mono ?_; rw [HN.out]; rintro e w1 ⟨rfl, hb1⟩)
        go_roundw
        case rel => exact ⟨k + 1, by omega, by go_num, hb.trans (Below.mono (by assumption) hb.size), by show _ = _; rw [HT.out, List.all_append, HP.out]; simp [HN.out]⟩
        case measure => simp [intOf]; omega
    · have HF : Hid (((-1 : Int) < 0 ↔ ss.all PathS.name = true)) := by
        show _ ↔ _
        have := HP.out
        rw [List.take_of_length_le (by omega)] at this
        simp [this]
      go_wp2_with fail
      go_ret
      exact ⟨_, rfl, HF.out, hb⟩

theorem contname_c (a : Option Addr) (c : Nat) (ss : List ByteArray) (w : World) (hs : Sl w a (ss.map Value.string)) (hl : ss.length ≤ 100000000) :
    Calls Tryz.prog 66 #[.slice a ss.length c, .func (.func 67) #[] #[]] w fun e w' => e = .returned (.bool (!ss.all PathS.name)) ∧ Below w.heap.size w w' := by
  go_enter Tryz.func66, Tryz.ntmps66
  go_wp2_with fail
  refine (idxname_c a c ss w hs hl).mono ?_
  rintro e w1 ⟨n, rfl, hn, hb⟩
  have HI : Hid (n < 0 ↔ ss.all PathS.name = true) := hn
  clear hn
  by_cases hn : n < 0
  · have hd : decide (0 ≤ n) = false := by simp; omega
    go_wp2_with fail
    go_ret
    exact ⟨ret_bool (by rw [HI.out.1 hn]; rfl), hb⟩
  · have hd : decide (0 ≤ n) = true := by simp; omega
    go_wp2_with fail
    go_ret
    refine ⟨ret_bool ?_, hb⟩
    cases h : ss.all PathS.name
    · rfl
    · exact absurd (HI.out.2 h) (by omega)

theorem pcs_length (s : ByteArray) : Lib.countB s ⟨#[47]⟩ + 1 = (PathS.pcs s).length := by
  rw [← PathS.splitB_pcs s.size s (Nat.le_refl _), Lib.splitB_all ⟨#[47]⟩ (by decide) 0 _ s rfl]

theorem lsplit_c (s : ByteArray) (w : World) (hg : Gl w) (hs : s.size ≤ 100000000) :
    Calls Tryz.prog 65 #[.string s, .string ⟨#[47]⟩] w fun e w' => ∃ b, e = .returned (.slice (some ⟨b, 0, none⟩) (PathS.pcs s).length (PathS.pcs s).length) ∧ Sl w' (some ⟨b, 0, none⟩) ((PathS.pcs s).map Value.string) ∧ Gr w w' := by
  obtain ⟨m, hm⟩ := hg.ml
  refine (Tryz.strings_Split s ⟨#[47]⟩ m w (by omega) hm (by decide)).mono ?_
  rintro e w1 ⟨rfl, rfl⟩
  rw [pcs_length, PathS.splitB_pcs s.size s (Nat.le_refl _)]
  refine ⟨_, rfl, .inr ⟨_, _, rfl, by simp, fun i u hu => ?_⟩, (Gr.refl _).alloc _⟩
  rw [World.cell?_alloc_at _ _ _ _ rfl]
  simpa using hu

theorem pcs_le (s : ByteArray) : (PathS.pcs s).length ≤ s.size + 1 := by
  rw [← pcs_length]
  have := Lib.countB_le ⟨#[47]⟩ (by decide) s.size s (Nat.le_refl _)
  omega

theorem split_c2 (s : ByteArray) (w : World) (hg : Gl w) (hs : s.size ≤ 100000000) :
    Calls Tryz.prog 51 #[.string s] w fun e w' => ∃ a c, e = .returned (.slice a (PathS.spl s).length c) ∧ (PathS.spl s).length ≤ c ∧ Sl w' a ((PathS.spl s).map Value.string) ∧ Gr w w' := by
  go_enter Tryz.func51, Tryz.ntmps51
  by_cases he : s.size = 0
  · have h1 : s.toList.isEmpty = true := by rw [isEmpty_iff]; simpa using he
    have HE : Hid (PathS.spl s = []) := by show _ = _; simp [PathS.spl, he]
    clear he
    go_wp2_with fail
    go_ret
    exact ⟨none, 0, by rw [HE.out]; rfl, by rw [HE.out]; exact Nat.le_refl _, by rw [HE.out]; exact .nil _ _, Gr.refl _⟩
  · have h1 : s.toList.isEmpty = false := by rw [isEmpty_iff]; simpa using he
    have HE : Hid (PathS.spl s = PathS.pcs s) := by show _ = _; simp [PathS.spl, he]
    clear he
    go_wp2_with (go_at_call 65; refine (lsplit_c s w hg hs).mono ?_; rintro e w1 ⟨b, rfl, hsl, hb⟩)
    go_ret
    exact ⟨_, _, by rw [HE.out]; rfl, by rw [HE.out]; exact Nat.le_refl _, by rw [HE.out]; assumption, by assumption⟩

theorem split_c (s : ByteArray) (w : World) (hg : Gl w) (hs : s.size ≤ 100000000) :
    Calls Tryz.prog 51 #[.string s] w fun e w' => ∃ a c, e = .returned (.slice a (PathS.spl s).length c) ∧ Sl w' a ((PathS.spl s).map Value.string) ∧ Gr w w' :=
  (split_c2 s w hg hs).mono fun _ _ ⟨a, c, he, _, hs, hg⟩ => ⟨a, c, he, hs, hg⟩

set_option maxRecDepth 100000 in
set_option maxHeartbeats 400000 in
theorem check_c (s : ByteArray) (w : World) (hg : Gl w) (hs : s.size ≤ 100000000) :
    Calls Tryz.prog 38 #[.string s] w fun e w' => e = .returned (.int .i64 (PathS.check s)) ∧ Below w.heap.size w w' := by
  have hpl := pcs_le s
  have HC : Hid (PathS.check s = if 255 < s.size ∨ 16 < (PathS.pcs s).length then 2 else if (PathS.pcs s).all PathS.name then 0 else 50) := by
    show _ = _
    unfold PathS.check
    rw [PathS.split_spl]
    by_cases he : s.size = 0
    · have : PathS.spl s = [] := by simp [PathS.spl, he]
      rw [this]
      have h0 : s = ByteArray.empty := PathS.ba_ext (by rw [List.eq_nil_of_length_eq_zero (l := s.data.toList) (by rw [← Lib.size_eq]; exact he)]; rfl)
      subst h0
      decide
    · have : PathS.spl s = PathS.pcs s := by simp [PathS.spl, he]
      rw [this]
      have hlen : (PathS.pcs s).length ≠ 0 := by rw [← pcs_length]; omega
      simp only [hlen, if_false]
  go_enter Tryz.func38, Tryz.ntmps38
  go_wp2_with fail
  refine (lsplit_c s w hg hs).mono ?_
  rintro e w1 ⟨b, rfl, hsl, hgr⟩
  have hb := hgr.1
  clear hgr
  generalize PathS.pcs s = l at *
  by_cases h1 : 255 < s.size
  · have g1 : decide (255 < (s.size : Int)) = true := by simp; omega
    go_wp2_with fail
    go_ret
    exact ⟨ret_i64 (by rw [HC.out, if_pos (.inl h1)]), hb⟩
  · have g1 : decide (255 < (s.size : Int)) = false := by simp; omega
    by_cases h2 : 16 < l.length
    · have g2 : decide (16 < (l.length : Int)) = true := by simp; omega
      go_wp2_with fail
      go_ret
      exact ⟨ret_i64 (by rw [HC.out, if_pos (.inr h2)]), hb⟩
    · have g2 : decide (16 < (l.length : Int)) = false := by simp; omega
      go_wp2_with fail
      refine (contname_c _ _ l w1 hsl (by omega)).mono ?_
      rintro e w2 ⟨rfl, hb2⟩
      have hb3 := hb.trans (hb2.mono hb.size)
      cases hn : l.all PathS.name
      · have HN := Lib.hid hn; clear hn
        go_wp2_with fail
        go_ret
        exact ⟨ret_i64 (by rw [HC.out, if_neg (by omega), HN.out]; rfl), hb3⟩
      · have HN := Lib.hid hn; clear hn
        go_wp2_with fail
        go_ret
        exact ⟨ret_i64 (by rw [HC.out, if_neg (by omega), HN.out]; rfl), hb3⟩
end Go.Proofs.YtpcipdkoncmdcaaGreatDoor
namespace Go.Proofs.YtpcipdkoncmdcaaGreatDoor
open Go Go.RowKit
theorem cmpB_cases (a b : ByteArray) : (Op.bytesLess a.toList b.toList = true ∧ Hid (PathS.cmpB a b = -1)) ∨ (Op.bytesLess a.toList b.toList = false ∧ (a.toList == b.toList) = true ∧ Hid (PathS.cmpB a b = 0)) ∨ (Op.bytesLess a.toList b.toList = false ∧ (a.toList == b.toList) = false ∧ Hid (PathS.cmpB a b = 1)) := by
  rw [bytesLess_eq, Lib.toList_data, Lib.toList_data]
  by_cases h1 : a.data.toList < b.data.toList
  · exact .inl ⟨decide_eq_true h1, by show _ = _; simp [PathS.cmpB, h1]⟩
  · by_cases h2 : a.data.toList = b.data.toList
    · exact .inr (.inl ⟨decide_eq_false h1, by simpa using h2, by show _ = _; simp only [PathS.cmpB, if_neg h1, if_pos h2]⟩)
    · exact .inr (.inr ⟨decide_eq_false h1, by simpa using h2, by show _ = _; simp only [PathS.cmpB, if_neg h1, if_neg h2]⟩)

set_option maxRecDepth 100000 in
set_option maxHeartbeats 400000 in
theorem cmps_c (a b : ByteArray) (w : World) : Calls Tryz.prog 82 #[.string a, .string b] w fun e w' => e = .returned (.int .i64 (PathS.cmpB a b)) ∧ w = w' := by
  have hc := cmpB_cases a b
  go_enter Tryz.func82, Tryz.ntmps82
  rcases hc with ⟨h1, H⟩ | ⟨h1, h2, H⟩ | ⟨h1, h2, H⟩
  all_goals
    go_wp2_with go_in
    go_ret
    exact ⟨ret_i64 H.out, rfl⟩

theorem cmpL_drop (x y : List ByteArray) (k : Nat) (h1 : k < x.length) (h2 : k < y.length) : PathS.cmpL (x.drop k) (y.drop k) = if PathS.cmpB x[k] y[k] = 0 then PathS.cmpL (x.drop (k + 1)) (y.drop (k + 1)) else PathS.cmpB x[k] y[k] := by
  rw [List.drop_eq_getElem_cons h1, List.drop_eq_getElem_cons h2, PathS.cmpL]

set_option maxRecDepth 100000 in
set_option maxHeartbeats 400000 in
theorem scmp_c (a1 a2 : Option Addr) (c1 c2 : Nat) (x y : List ByteArray) (w : World) (hx : Sl w a1 (x.map Value.string)) (hy : Sl w a2 (y.map Value.string)) (hlx : x.length ≤ 100000000) (hly : y.length ≤ 100000000) :
    Calls Tryz.prog 50 #[.slice a1 x.length c1, .slice a2 y.length c2] w fun e w' => e = .returned (.int .i64 (PathS.cmpL x y)) ∧ w = w' := by
  have HS : Hid (PathS.cmpL x y = PathS.cmpL (x.drop 0) (y.drop 0)) := by show _ = _; rfl
  go_enter Tryz.func50, Tryz.ntmps50
  go_wp2_with fail
  go_loop [11] (fun i => ∃ k : Nat, k ≤ x.length ∧ k ≤ y.length ∧ i = .int .i64 k ∧ Hid (PathS.cmpL x y = PathS.cmpL (x.drop k) (y.drop k))) (fun i => x.length - (intOf i).toNat)
  case atStart => exact ⟨0, by omega, by omega, rfl, HS⟩
  case round =>
    obtain ⟨k, hk, hk2, rfl, HP⟩ := hrel
    clear HS
    by_cases hlt : k < x.length
    · obtain ⟨b, o, rfl, hbl, hc⟩ := hx.at (k := k) (by simpa using hlt)
      have hcell : w.cell? ⟨b, o + k, none⟩ = some (.string x[k]) := by rw [hc k (by simpa using hlt), List.getElem_map]
      clear hc
      by_cases hlt2 : k < y.length
      · obtain ⟨b2, o2, rfl, hbl2, hc2⟩ := hy.at (k := k) (by simpa using hlt2)
        have hcell2 : w.cell? ⟨b2, o2 + k, none⟩ = some (.string y[k]) := by rw [hc2 k (by simpa using hlt2), List.getElem_map]
        clear hc2
        have HD := Lib.hid (cmpL_drop x y k hlt hlt2)
        have g1 : decide ((y.length : Int) ≤ (k : Int)) = false := by simp; omega
        generalize hz : PathS.cmpB x[k] y[k] = z at *
        have HZ := Lib.hid hz; clear hz
        by_cases hn : z = 0
        · have g2 : (z != 0) = false := by simp [hn]
          have HN := Lib.hid hn; clear hn
          go_wp2_with (go_at_call 82; refine (cmps_c _ _ _).mono ?_; rw [HZ.out]; rintro e w1 ⟨rfl, rfl⟩)
          go_round
          case rel => exact ⟨k + 1, by omega, by omega, by go_num, by show _ = _; rw [HP.out, HD.out, if_pos HN.out]⟩
          case measure => simp [intOf]; omega
        · have g2 : (z != 0) = true := by simp [hn]
          have HN := Lib.hid hn; clear hn
          go_wp2_with (go_at_call 82; refine (cmps_c _ _ _).mono ?_; rw [HZ.out]; rintro e w1 ⟨rfl, rfl⟩)
          go_ret
          exact ⟨ret_i64 (by rw [HP.out, HD.out, if_neg HN.out]), rfl⟩
      · have g1 : decide ((y.length : Int) ≤ (k : Int)) = true := by simp; omega
        have HF : Hid (PathS.cmpL x y = 1) := by
          show _ = _
          have e : y.drop k = [] := List.drop_eq_nil_of_le (by omega)
          rw [HP.out, List.drop_eq_getElem_cons hlt, e]; rfl
        go_wp2_with fail
        go_ret
        exact ⟨ret_i64 HF.out, rfl⟩
    · by_cases hlt2 : x.length < y.length
      · have HF : Hid (PathS.cmpL x y = -1) := by
          show _ = _
          have e : x.drop k = [] := List.drop_eq_nil_of_le (by omega)
          rw [HP.out, e, List.drop_eq_getElem_cons (show k < y.length by omega)]; rfl
        go_wp2_with fail
        go_ret
        exact ⟨ret_i64 HF.out, rfl⟩
      · have HF : Hid (PathS.cmpL x y = 0) := by
          show _ = _
          have e : x.drop k = [] := List.drop_eq_nil_of_le (by omega)
          have e2 : y.drop k = [] := List.drop_eq_nil_of_le (by omega)
          rw [HP.out, e, e2]; rfl
        go_wp2_with fail
        go_ret
        exact ⟨ret_i64 HF.out, rfl⟩

theorem cmp_g (a b : ByteArray) (w : World) (hg : Gl w) (ha : a.size ≤ 10000000) (hb : b.size ≤ 10000000) :
    Calls Tryz.prog 27 #[.string a, .string b] w fun e w' => e = .returned (.int .i64 (PathS.cmp a b)) ∧ Gr w w' := by
  have HC : Hid (PathS.cmp a b = PathS.cmpL (PathS.spl a) (PathS.spl b)) := by show _ = _; rw [PathS.cmp, PathS.split_spl, PathS.split_spl]
  have hla : (PathS.spl a).length ≤ 100000000 := by have := pcs_le a; unfold PathS.spl; split <;> simp; omega
  have hlb : (PathS.spl b).length ≤ 100000000 := by have := pcs_le b; unfold PathS.spl; split <;> simp; omega
  go_enter Tryz.func27, Tryz.ntmps27
  go_wp2_with fail
  refine (split_c a w hg (by omega)).mono ?_
  rintro e w1 ⟨a1, c1, rfl, hs1, hb1⟩
  go_wp2_with fail
  refine (split_c b w1 (hg.below hb1.1 (Nat.le_refl _)) (by omega)).mono ?_
  rintro e w2 ⟨a2, c2, rfl, hs2, hb2⟩
  go_wp2_with fail
  refine (scmp_c a1 a2 c1 c2 _ _ w2 (hs1.below hb2.1) hs2 hla hlb).mono ?_
  rintro e w3 ⟨rfl, rfl⟩
  go_wp2_with fail
  go_ret
  exact ⟨ret_i64 HC.out, hb1.trans hb2⟩

theorem cmp_c (a b : ByteArray) (w : World) (hg : Gl w) (ha : a.size ≤ 10000000) (hb : b.size ≤ 10000000) :
    Calls Tryz.prog 27 #[.string a, .string b] w fun e w' => e = .returned (.int .i64 (PathS.cmp a b)) ∧ Below w.heap.size w w' :=
  (cmp_g a b w hg ha hb).mono fun _ _ ⟨he, h⟩ => ⟨he, h.1⟩

end Go.Proofs.YtpcipdkoncmdcaaGreatDoor
namespace Go.Proofs.YtpcipdkoncmdcaaGreatDoor
open Go Go.RowKit
end Go.Proofs.YtpcipdkoncmdcaaGreatDoor
namespace Go.Proofs.YtpcipdkoncmdcaaGreatDoor
open Go Go.RowKit
set_option maxRecDepth 100000 in
theorem at_c (t o g n wd i k : Nat) (w : World) (h0 : w.cell? ⟨t, o, none⟩ = some (.slice (some ⟨g, 0, none⟩) n n)) (h1 : w.cell? ⟨t, o + 1, none⟩ = some (.int .i64 wd)) (hn : i * wd + k < n) (hb : n ≤ 100000000) :
    Calls Tryz.prog 125 #[.pointer (some ⟨t, o, none⟩), .int .i64 i, .int .i64 k] w fun e w' => e = .returned (.pointer (some ⟨g, i * wd + k, none⟩)) ∧ ∃ q, w' = w.drewN q := by
  have hm : IntKind.i64.wrap ((i : Int) * (wd : Int)) = ((i * wd : Nat) : Int) := by rw [← Int.natCast_mul]; exact IntWalk.i64_in _ (by omega)
  have hm2 : IntKind.i64.wrap (((i * wd : Nat) : Int) + (k : Int)) = ((i * wd + k : Nat) : Int) := by rw [← Int.natCast_add]; exact IntWalk.i64_in _ (by omega)
  go_enter Tryz.func125, Tryz.ntmps125
  go_wp2_with fail
  go_quiet (fail)
  go_wp2_with fail
  go_ret
  exact ⟨rfl, _, rfl⟩
end Go.Proofs.YtpcipdkoncmdcaaGreatDoor
namespace Go.Proofs.YtpcipdkoncmdcaaGreatDoor
namespace ScoreS
variable {β : Type} [DecidableEq β]
/-- The place in the row is the place in the table. -/
theorem place_inj {wd i k i' k' : Nat} (h1 : k < wd) (h2 : k' < wd) (h : i * wd + k = i' * wd + k') : i = i' ∧ k = k' := by
  have e1 : (i * wd + k) / wd = i := by rw [Nat.mul_comm, Nat.mul_add_div (by omega), Nat.div_eq_of_lt h1]; rfl
  have e2 : (i' * wd + k') / wd = i' := by rw [Nat.mul_comm, Nat.mul_add_div (by omega), Nat.div_eq_of_lt h2]; rfl
  have e3 : i = i' := by rw [← e1, ← e2, h]
  subst e3
  exact ⟨rfl, by omega⟩

theorem place_lt {m n i k : Nat} (h1 : i ≤ m) (h2 : k ≤ n) : i * (n + 1) + k < (m + 1) * (n + 1) := by
  have : i * (n + 1) ≤ m * (n + 1) := Nat.mul_le_mul_right _ h1
  rw [Nat.add_mul, Nat.one_mul]; omega

/-- What the table holds when the rows from i + 1 on, and of row i the places from k on, are filled: i, k: the next to be filled is (i, k - 1). -/
def Done (a b : List β) (i k : Nat) (f : Nat → Nat) : Prop :=
  ∀ i' k', i' ≤ a.length → k' ≤ b.length → (i < i' ∨ (i' = i ∧ k ≤ k') ∨ i' = a.length ∨ k' = b.length) → f (i' * (b.length + 1) + k') = L (a.drop i') (b.drop k')

theorem done_start (a b : List β) : Done a b a.length 0 fun _ => 0 := by
  intro i' k' h1 h2 h
  rcases h with h | ⟨h, _⟩ | h | h
  · omega
  · rw [h, List.drop_length, L_nil]
  · rw [h, List.drop_length, L_nil]
  · rw [h, List.drop_length, L_nil']

theorem done_row {a b : List β} {i : Nat} {f : Nat → Nat} (h : Done a b (i + 1) 0 f) : Done a b i b.length f := by
  intro i' k' h1 h2 h3
  refine h i' k' h1 h2 ?_
  omega

theorem done_set {a b : List β} {i k : Nat} {f : Nat → Nat} (hi : i < a.length) (hk : k < b.length) (h : Done a b i (k + 1) f) (v : Nat) (hv : v = L (a.drop i) (b.drop k)) :
    Done a b i k fun x => if x = i * (b.length + 1) + k then v else f x := by
  intro i' k' h1 h2 h3
  by_cases e : i' * (b.length + 1) + k' = i * (b.length + 1) + k
  · obtain ⟨rfl, rfl⟩ := place_inj (by omega) (by omega) e
    show (if _ then _ else _) = _
    rw [if_pos rfl, hv]
  · show (if _ then _ else _) = _
    rw [if_neg e]
    refine h i' k' h1 h2 ?_
    rcases h3 with h3 | ⟨rfl, h3⟩ | h3 | h3
    · exact .inl h3
    · have : k' ≠ k := fun e2 => e (by rw [e2])
      exact .inr (.inl ⟨rfl, by omega⟩)
    · exact .inr (.inr (.inl h3))
    · exact .inr (.inr (.inr h3))

/-- The three neighbours, and what is put. -/
theorem done_next {a b : List β} {i k : Nat} {f : Nat → Nat} (hi : i < a.length) (hk : k < b.length) (h : Done a b i (k + 1) f) :
    f ((i + 1) * (b.length + 1) + k) = L (a.drop (i + 1)) (b.drop k) ∧ f (i * (b.length + 1) + (k + 1)) = L (a.drop i) (b.drop (k + 1)) ∧ f ((i + 1) * (b.length + 1) + (k + 1)) = L (a.drop (i + 1)) (b.drop (k + 1)) :=
  ⟨h _ _ (by omega) (by omega) (.inl (by omega)), h _ _ (by omega) (by omega) (.inr (.inl ⟨rfl, by omega⟩)), h _ _ (by omega) (by omega) (.inl (by omega))⟩

theorem L_at {a b : List β} {i k : Nat} (hi : i < a.length) (hk : k < b.length) :
    L (a.drop i) (b.drop k) = if a[i] = b[k] then L (a.drop (i + 1)) (b.drop (k + 1)) + 1 else max (L (a.drop (i + 1)) (b.drop k)) (L (a.drop i) (b.drop (k + 1))) := by
  rw [List.drop_eq_getElem_cons hi, List.drop_eq_getElem_cons hk, L]

theorem P_at {a b : List β} {i k : Nat} (hi : i < a.length) (hk : k < b.length) :
    P i k (a.drop i) (b.drop k) = if a[i] = b[k] then (i, k) :: P (i + 1) (k + 1) (a.drop (i + 1)) (b.drop (k + 1)) else if L (a.drop i) (b.drop (k + 1)) ≤ L (a.drop (i + 1)) (b.drop k) then P (i + 1) k (a.drop (i + 1)) (b.drop k) else P i (k + 1) (a.drop i) (b.drop (k + 1)) := by
  rw [List.drop_eq_getElem_cons hi, List.drop_eq_getElem_cons hk, P]

end ScoreS
end Go.Proofs.YtpcipdkoncmdcaaGreatDoor
namespace Go.Proofs.YtpcipdkoncmdcaaGreatDoor
open Go
section
variable {P : Program} {ops : Array Oper} {md : Region.Mode} {C : World → Prop}
/-- The head's operations come up in any order; then T holds of what has come up. -/
def HeadAny (P : Program) (md : Region.Mode) (ops : Array Oper) (C : World → Prop) (n : Nat) (T : Array Bool → Act → Prop) : Nat → Array Bool → Act → Prop
  | 0, up, a => T up a
  | f + 1, up, a => Region.ready md ops up ≠ [] ∧ ∀ i ∈ Region.ready md ops up, i < n ∧ qOp P ops C i (HeadAny P md ops C n T f (up.setIfInBounds i true)) a

theorem headAny_wp {n g : Nat} {T : Array Bool → Act → Prop} {Q' : Exit → Act → World → Prop} (hT : ∀ up a w, C w → T up a → wpAny P md ops Q' g up a w) :
    ∀ (f : Nat) (up : Array Bool) (a : Act) (w : World), C w → HeadAny P md ops C n T f up a → wpAny P md ops Q' (f + g) up a w
  | 0, up, a, w, hw, h => by rw [Nat.zero_add]; exact hT _ _ _ hw h
  | f + 1, up, a, w, hw, h => by
    rw [show f + 1 + g = (f + g) + 1 by omega]
    exact ⟨fun h0 => absurd h0 h.1, fun i hi => wpOp_of_qOp hw (fun a' w' hw' h' => headAny_wp hT f _ a' w' hw' h') (h.2 i hi).2⟩

theorem headAny_first {n i : Nat} {oi : Oper} {v : Value} {T : Array Bool → Act → Prop} (hi : ops[i]? = some oi) (hsel : ∀ (j : Nat) (o : Oper) cs b, ops[j]? = some o → o.op ≠ .select cs b)
    (hs : Region.sinkB md ops n = true) (hc : Region.chainB md ops n = true) (hn : n < ops.size) (hin : i < n)
    (hT : ∀ up a, T up a → ∀ j ∈ Region.ready md ops up, n ≤ j) (f : Nat) :
    ∀ (up : Array Bool) (a : Act), HeadInv md ops n up →
      (∀ j oj, ops[j]? = some oj → j ≠ i → up.getD j true = false → (∀ e ∈ oj.after, Region.binds md e = true → e.on ≠ i) → oi.apart ops oj = true) →
      i ∈ Region.ready md ops up → YieldsIn P ops C oi v a →
      HeadAny P md ops C n T f (up.setIfInBounds i true) (a.put oi.dst v) → HeadAny P md ops C n T (f + 1) up a := by
  induction f with
  | zero =>
    intro up a inv _ hr hy H
    have hun := (mem_ready.1 hr).1
    refine ⟨fun h => (by rw [h] at hr; cases hr), fun j hj => ?_⟩
    have hjn : j < n := Nat.lt_of_not_le fun h => tail_waits hs hc hn inv _ i rfl hin hun j h hj
    refine ⟨hjn, ?_⟩
    by_cases hji : j = i
    · subst hji; exact hy.qOp hi H
    · have := hT _ _ H j (ready_mono hj hji)
      omega
  | succ f ih =>
    intro up a inv hfree hr hy H
    have hun := (mem_ready.1 hr).1
    refine ⟨fun h => (by rw [h] at hr; cases hr), fun j hj => ?_⟩
    have hjn : j < n := Nat.lt_of_not_le fun h => tail_waits hs hc hn inv _ i rfl hin hun j h hj
    refine ⟨hjn, ?_⟩
    by_cases hji : j = i
    · subst hji; exact hy.qOp hi H
    · obtain ⟨hjun, oj, hoj, hall⟩ := mem_ready.1 hj
      have hnot : ∀ e ∈ oj.after, Region.binds md e = true → e.on ≠ i := by
        intro e he hb heq
        have h1 := hall e he hb
        rw [heq, getD_both hun] at h1
        cases h1
      have h2 := qOp_put hoj (hfree j oj hoj hji hjun hnot) (fun cs b => hsel i oi cs b hi) (fun cs b => hsel j oj cs b hoj) hy (H.2 j (ready_mono hj hji)).2
      refine qOp_mono (fun a' h3 => ?_) h2
      refine ih (up.setIfInBounds j true) a' (inv.set hj hjn) ?_ (ready_mono hr (Ne.symm hji)) h3.1 ?_
      · intro k ok hk hki hkun hno
        refine hfree k ok hk hki ?_ hno
        by_cases hjk : j = k
        · subst hjk; exact hjun
        · rwa [getD_set_ne true hjk] at hkun
      · rw [Array.setIfInBounds_comm _ _ hji]
        exact h3.2

theorem headAny_lex {n g : Nat} {K : Act → Prop} (hsel : Region.noSelect ops = true) (hs : Region.sinkB md ops n = true) (hc : Region.chainB md ops n = true) (hn : n < ops.size) :
    ∀ (l : List Oper) (k : Nat) (up : Array Bool) (a : Act), (∀ j, j < l.length → l[j]? = ops[k + j]?) → k + l.length = n → HeadInv md ops n up →
    Region.lexHead md ops g l.length k up = true → wpQuiet P ops C K l a → HeadAny P md ops C n (fun up' a' => Region.seqB md ops g n up' = true ∧ K a') l.length up a
  | [], k, up, a, _, hk, _, hB, h => by
    obtain rfl : k = n := by simpa using hk
    exact ⟨by simpa [Region.lexHead] using hB, h⟩
  | o :: l, k, up, a, hl, hk, inv, hB, h => by
    have h0 : ops[k]? = some o := by simpa using (hl 0 (by simp)).symm
    simp only [List.length_cons, Region.lexHead, Bool.and_eq_true] at hB hk
    obtain ⟨⟨hr, hf⟩, hB'⟩ := hB
    have hr' : k ∈ Region.ready md ops up := by simpa using hr
    have hq : qOp P ops C k (wpQuiet P ops C K l) a := by unfold qOp; simp only [h0]; exact h
    obtain ⟨v, hy, hK⟩ := yieldsIn_of_qOp h0 hq
    refine headAny_first h0 (Region.noSelect_spec hsel) hs hc hn (by omega) (fun up' a' hL => seqB_ready hL.1) l.length up a inv (Region.free_spec h0 hf) hr' hy ?_
    refine headAny_lex hsel hs hc hn l (k + 1) _ _ (fun j hj => ?_) (by omega) (inv.set hr' (by omega)) hB' hK
    have := hl (j + 1) (by simp; omega)
    simpa [Nat.add_assoc, Nat.add_comm 1 j] using this

/-- The first n operations quiet in a class of worlds, the others in one order. -/
theorem wp_region_tail {id : Nat} {Q : Exit → Act → World → Prop} {a : Act} {w : World} {l : List Oper} (n : Nat) (hm : P.follows .mixedOrders = true) (hB : Region.lexTailB .any l.toArray n = true) (hC : C { w with drawn := w.drawn + 1 })
    (h : wpQuiet P l.toArray C (fun a' => ∀ w', C w' → wpList P l.toArray Q (l.drop n) a' w') (l.take n) a) : (Code.region id l.toArray true).wp P Q a w := by
  simp only [Region.lexTailB, Bool.and_eq_true, decide_eq_true_eq] at hB
  obtain ⟨⟨⟨⟨hsel, hn⟩, hs⟩, hc⟩, hlex⟩ := hB
  have hn' : n < l.length := by simpa using hn
  have htl : (l.take n).length = n := by simp; omega
  have hdl : (l.drop n).length = l.toArray.size - n := by simp
  have inv0 : HeadInv .any l.toArray n (Array.replicate l.toArray.size false) :=
    ⟨by simp, fun j oj _ hl => (by rw [getD_replicate_false] at hl; cases hl), fun t _ ht => getD_in (by simpa using ht) (getD_replicate_false _ _)⟩
  have H := headAny_lex (md := .any) (g := l.toArray.size - n) hsel hs hc hn (l.take n) 0 _ a (fun j hj => by
    have hj' : j < n := by rw [htl] at hj; exact hj
    simp [hj']) (by simpa using htl) inv0 (by rw [htl]; exact hlex) h
  refine wp_region_any hm ?_
  have := headAny_wp (Q' := Q) (g := l.toArray.size - n) (fun up a' w' hw' hL => by
    have := wpAny_of_seq (md := .any) (Q' := Q) (l.drop n) n up a' w' (fun j => by simp [List.getElem?_drop]) (by rw [hdl]; exact hL.1) (hL.2 w' hw')
    rwa [hdl] at this) _ _ _ { w with drawn := w.drawn + 1 } hC H
  rw [htl, show n + (l.toArray.size - n) = l.toArray.size by omega] at this
  exact this

theorem wp_region_quiet_tail {id : Nat} {Q : Exit → Act → World → Prop} {a : Act} {w : World} {l : List Oper} (n : Nat) (hm : P.follows .mixedOrders = true) (hB : Region.lexTailB .any l.toArray n = true)
    (h : wpQuiet P l.toArray (fun w' => ∃ q, w' = w.drewN q) (fun a' => ∀ w', (∃ q, w' = w.drewN q) → wpList P l.toArray Q (l.drop n) a' w') (l.take n) a) : (Code.region id l.toArray true).wp P Q a w :=
  wp_region_tail (C := fun w' => ∃ q, w' = w.drewN q) n hm hB ⟨1, rfl⟩ h
end
end Go.Proofs.YtpcipdkoncmdcaaGreatDoor
