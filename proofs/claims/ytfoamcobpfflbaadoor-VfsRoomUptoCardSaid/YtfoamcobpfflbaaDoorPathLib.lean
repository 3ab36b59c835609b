/- Walks of package path's functions that look at one path or two. -/
import Derived.Test.YtfoamcobpfflbaaDoorPathRefA
import Derived.Test.YtfoamcobpfflbaaDoorPathRunes
import Derived.Test.YtfoamcobpfflbaaDoorShelf
namespace Go.Proofs.YtfoamcobpfflbaaDoor
open Go Go.RowKit

/-- What the walks take of the library's variables. -/
structure Gl (w : World) : Prop where
  ml : ∃ m, w.cell? ⟨0, 0, none⟩ = some (.int .i64 m)
  sz : 0 < w.heap.size

theorem Gl.below {w w' : World} {B : Nat} (h : Gl w) (hb : Below B w w') (hB : w.heap.size ≤ B) : Gl w' := by
  obtain ⟨⟨m, hm⟩, hs⟩ := h
  exact ⟨⟨m, by rw [hb.cell (p := ⟨0, 0, none⟩) (Nat.lt_of_lt_of_le hs hB)]; exact hm⟩, Nat.lt_of_lt_of_le hs hb.size⟩

set_option maxHeartbeats 400000 in
theorem bad_c (x : Nat) (w : World) : Calls Tryd.prog 106 #[.int .i32 x] w fun e w' => e = .returned (.bool (PathS.badR x)) ∧ w = w' := by
  have h : (decide ((x : Int) < 32) = true ∧ Hid (PathS.badR x = true)) ∨ (decide ((x : Int) < 32) = false ∧ ((x : Int) == 127) = true ∧ Hid (PathS.badR x = true)) ∨ (decide ((x : Int) < 32) = false ∧ ((x : Int) == 127) = false ∧ ((x : Int) == 47) = true ∧ Hid (PathS.badR x = true)) ∨ (decide ((x : Int) < 32) = false ∧ ((x : Int) == 127) = false ∧ ((x : Int) == 47) = false ∧ Hid (PathS.badR x = false)) := by
    by_cases h1 : x < 32
    · exact .inl ⟨decide_eq_true (by omega), by show PathS.badR x = true; simp [PathS.badR, h1]⟩
    · by_cases h2 : x = 127
      · subst h2; exact .inr (.inl ⟨rfl, rfl, by show _ = true; decide⟩)
      · by_cases h3 : x = 47
        · subst h3; exact .inr (.inr (.inl ⟨rfl, rfl, rfl, by show _ = true; decide⟩))
        · exact .inr (.inr (.inr ⟨decide_eq_false (by omega), beq_eq_false_iff_ne.2 (by omega), beq_eq_false_iff_ne.2 (by omega), by show PathS.badR x = false; simp [PathS.badR, h2, h3]; omega⟩))
  go_enter Tryd.func106, Tryd.ntmps106
  rcases h with ⟨h1, H⟩ | ⟨h1, h2, H⟩ | ⟨h1, h2, h3, H⟩ | ⟨h1, h2, h3, H⟩
  all_goals
    go_wp2_with fail
    go_ret
    exact ⟨ret_bool H.out, rfl⟩

theorem bad_pred (w : World) : PredAt Tryd.prog 106 #[] encR PathS.badR w := fun W x _ =>
  (bad_c x W).mono fun _ _ ⟨he, hw⟩ => ⟨he, 0, by rw [← hw]; rfl⟩

theorem enter_bad : ∀ args w, (callFunc 106 args).run Tryd.prog w = .ok (.enter 106 args) w := enters_of Tryd.func106 (by kernel_rfl) rfl

theorem idxbad_c (s : ByteArray) (w : World) : Calls Tryd.prog 105 #[.string s, .func (.func 106) #[] #[]] w fun e w' => ∃ n : Int, e = .returned (.int .i64 n) ∧ (n < 0 ↔ s.data.toList.all PathS.okB = true) ∧ Below w.heap.size w w' :=
  (Tryd.strings_IndexFunc 106 #[] enter_bad PathS.badR s w (bad_pred w)).mono fun _ _ ⟨he, hb⟩ => ⟨_, he, by rw [← PathS.idx_neg, decide_eq_true_iff], hb⟩

set_option maxRecDepth 100000 in
set_option maxHeartbeats 400000 in
theorem name_c (s : ByteArray) (w : World) : Calls Tryd.prog 98 #[.string s] w fun e w' => e = .returned (.bool (PathS.name s)) ∧ Below w.heap.size w w' := by
  have HN := Lib.hid (@PathS.name_no s)
  have HM := Lib.hid (@PathS.name_rest s)
  have HZ := Lib.hid (Lib.size_eq s)
  go_enter Tryd.func98, Tryd.ntmps98
  go_wp2_with fail
  · go_ret; exact ⟨ret_bool (HN.out (.inl (by rw [← Lib.toList_data]; assumption))), Below.refl _ _⟩
  · go_ret; exact ⟨ret_bool (HN.out (.inr (.inl (by rw [← Lib.toList_data]; assumption)))), Below.refl _ _⟩
  · go_ret; exact ⟨ret_bool (HN.out (.inr (.inr (.inl (by rw [← Lib.toList_data]; assumption))))), Below.refl _ _⟩
  · have g1 : ¬ s.toList = [] := by assumption
    have g2 : ¬ s.toList = [46] := by assumption
    have g3 : ¬ s.toList = [46, 46] := by assumption
    have g4 : (s.size : Int) ≤ 64 := by assumption
    have HQ : Hid (PathS.name s = s.data.toList.all PathS.okB) := by
      show _ = _
      rw [HM.out (by rw [← Lib.toList_data]; exact g1) (by rw [← Lib.toList_data]; exact g2) (by rw [← Lib.toList_data]; exact g3) (by rw [← HZ.out]; omega), List.drop_zero]
    refine (idxbad_c s w).mono ?_
    rintro e w1 ⟨n, rfl, hn, hb⟩
    have HI : Hid (n < 0 ↔ s.data.toList.all PathS.okB = true) := hn
    clear hn
    have e1 : s.toList.isEmpty = false := by cases h : s.toList with | nil => exact absurd h g1 | cons => rfl
    have e2 : (s.toList == [46]) = false := by simpa using g2
    have e3 : (s.toList == [46, 46]) = false := by simpa using g3
    by_cases hn : n < 0
    · have hd : decide (n < 0) = true := by simpa using hn
      go_wp2_with fail
      go_ret
      exact ⟨ret_bool (by rw [HQ.out, HI.out.1 hn]), hb⟩
    · have hd : decide (n < 0) = false := by simpa using hn
      go_wp2_with fail
      go_ret
      refine ⟨ret_bool ?_, hb⟩
      rw [HQ.out]
      cases h : s.data.toList.all PathS.okB
      · rfl
      · exact absurd (HI.out.2 h) (by omega)
  · have g4 : 64 < (s.size : Int) := by assumption
    go_ret
    refine ⟨ret_bool ?_, Below.refl _ _⟩
    rw [HN.out (.inr (.inr (.inr (by rw [← HZ.out]; omega))))]

theorem notname_c (s : ByteArray) (w : World) : Calls Tryd.prog 97 #[.string s] w fun e w' => e = .returned (.bool (!PathS.name s)) ∧ Below w.heap.size w w' := by
  go_enter Tryd.func97, Tryd.ntmps97
  go_wp2_with (go_at_call 98; refine (name_c s w).mono ?_; rintro e w1 ⟨rfl, hb⟩)
  go_ret
  exact ⟨rfl, by assumption⟩

set_option maxRecDepth 100000 in
set_option maxHeartbeats 400000 in
theorem idxname_c (a : Option Addr) (c : Nat) (ss : List ByteArray) (w : World) (hs : Sl w a (ss.map Value.string)) (hl : ss.length ≤ 100000000) :
    Calls Tryd.prog 104 #[.slice a ss.length c, .func (.func 97) #[] #[]] w fun e w' => ∃ n : Int, e = .returned (.int .i64 n) ∧ (n < 0 ↔ ss.all PathS.name = true) ∧ Below w.heap.size w w' := by
  go_enter Tryd.func104, Tryd.ntmps104
  go_wp2_with fail
  go_loopw [8] (fun i wr => ∃ k : Nat, k ≤ ss.length ∧ i = .int .i64 k ∧ Below w.heap.size w wr ∧ Hid ((ss.take k).all PathS.name = true)) (fun i _ => ss.length - (intOf i).toNat)
  case atStart => exact ⟨0, by omega, rfl, Below.refl _ _, by show _ = _; rfl⟩
  case round =>
    obtain ⟨k, hk, rfl, hb, HP⟩ := hrel
    by_cases hlt : k < ss.length
    · obtain ⟨b, o, rfl, hbl, hc⟩ := hs.at (k := k) (by simpa using hlt)
      have hcell : wr.cell? ⟨b, o + k, none⟩ = some (.string ss[k]) := by
        rw [hb.cell (p := ⟨b, o + k, none⟩) hbl, hc k (by simpa using hlt), List.getElem_map]
      clear hc
      have htk : ss.take (k + 1) = ss.take k ++ [ss[k]] := List.take_succ_eq_append_getElem hlt
      have HT := Lib.hid htk
      clear htk
      cases hn : PathS.name ss[k]
      · have HN := Lib.hid hn
        clear hn
        have HF : Hid (((k : Int) < 0 ↔ ss.all PathS.name = true)) := by
          show _ ↔ _
          constructor
          · intro h; omega
          · intro h; have := List.all_eq_true.1 h ss[k] (List.getElem_mem hlt); rw [HN.out] at this; cases this
        go_wp2_with (go_at_call 97; refine (notname_c _ _).mono ?_; rw [HN.out]; rintro e w1 ⟨rfl, hb1⟩)
        go_ret
        exact ⟨_, rfl, HF.out, hb.trans (Below.mono (by assumption) hb.size)⟩
      · have HN := Lib.hid hn
        clear hn
        go_wp2_with (go_at_call 97; refine (notname_c _ _).mono ?_; rw [HN.out]; rintro e w1 ⟨rfl, hb1⟩)
        go_roundw
        case rel => exact ⟨k + 1, by omega, by go_num, hb.trans (Below.mono (by assumption) hb.size), by show _ = _; rw [HT.out, List.all_append, HP.out]; simp [HN.out]⟩
        case measure => simp [intOf]; omega
    · have HF : Hid (((-1 : Int) < 0 ↔ ss.all PathS.name = true)) := by
        show _ ↔ _
        have := HP.out
        rw [List.take_of_length_le (by omega)] at this
        simp [this]
      go_wp2_with fail
      go_ret
      exact ⟨_, rfl, HF.out, hb⟩

theorem contname_c (a : Option Addr) (c : Nat) (ss : List ByteArray) (w : World) (hs : Sl w a (ss.map Value.string)) (hl : ss.length ≤ 100000000) :
    Calls Tryd.prog 96 #[.slice a ss.length c, .func (.func 97) #[] #[]] w fun e w' => e = .returned (.bool (!ss.all PathS.name)) ∧ Below w.heap.size w w' := by
  go_enter Tryd.func96, Tryd.ntmps96
  go_wp2_with fail
  refine (idxname_c a c ss w hs hl).mono ?_
  rintro e w1 ⟨n, rfl, hn, hb⟩
  have HI : Hid (n < 0 ↔ ss.all PathS.name = true) := hn
  clear hn
  by_cases hn : n < 0
  · have hd : decide (0 ≤ n) = false := by simp; omega
    go_wp2_with fail
    go_ret
    exact ⟨ret_bool (by rw [HI.out.1 hn]; rfl), hb⟩
  · have hd : decide (0 ≤ n) = true := by simp; omega
    go_wp2_with fail
    go_ret
    refine ⟨ret_bool ?_, hb⟩
    cases h : ss.all PathS.name
    · rfl
    · exact absurd (HI.out.2 h) (by omega)

theorem pcs_length (s : ByteArray) : Lib.countB s ⟨#[47]⟩ + 1 = (PathS.pcs s).length := by
  rw [← PathS.splitB_pcs s.size s (Nat.le_refl _), Lib.splitB_all ⟨#[47]⟩ (by decide) 0 _ s rfl]

theorem lsplit_c (s : ByteArray) (w : World) (hg : Gl w) (hs : s.size ≤ 100000000) :
    Calls Tryd.prog 95 #[.string s, .string ⟨#[47]⟩] w fun e w' => ∃ b, e = .returned (.slice (some ⟨b, 0, none⟩) (PathS.pcs s).length (PathS.pcs s).length) ∧ Sl w' (some ⟨b, 0, none⟩) ((PathS.pcs s).map Value.string) ∧ Gr w w' := by
  obtain ⟨m, hm⟩ := hg.ml
  refine (Tryd.strings_Split s ⟨#[47]⟩ m w (by omega) hm (by decide)).mono ?_
  rintro e w1 ⟨rfl, rfl⟩
  rw [pcs_length, PathS.splitB_pcs s.size s (Nat.le_refl _)]
  refine ⟨_, rfl, .inr ⟨_, _, rfl, by simp, fun i u hu => ?_⟩, (Gr.refl _).alloc _⟩
  rw [World.cell?_alloc_at _ _ _ _ rfl]
  simpa using hu

theorem pcs_le (s : ByteArray) : (PathS.pcs s).length ≤ s.size + 1 := by
  rw [← pcs_length]
  have := Lib.countB_le ⟨#[47]⟩ (by decide) s.size s (Nat.le_refl _)
  omega

set_option maxRecDepth 100000 in
set_option maxHeartbeats 400000 in
theorem check_c (s : ByteArray) (w : World) (hg : Gl w) (hs : s.size ≤ 100000000) :
    Calls Tryd.prog 80 #[.string s] w fun e w' => e = .returned (.int .i64 (PathS.check s)) ∧ Below w.heap.size w w' := by
  have hpl := pcs_le s
  have HC : Hid (PathS.check s = if 255 < s.size ∨ 16 < (PathS.pcs s).length then 2 else if (PathS.pcs s).all PathS.name then 0 else 50) := by
    show _ = _
    unfold PathS.check
    rw [PathS.split_spl]
    by_cases he : s.size = 0
    · have : PathS.spl s = [] := by simp [PathS.spl, he]
      rw [this]
      have h0 : s = ByteArray.empty := PathS.ba_ext (by rw [List.eq_nil_of_length_eq_zero (l := s.data.toList) (by rw [← Lib.size_eq]; exact he)]; rfl)
      subst h0
      decide
    · have : PathS.spl s = PathS.pcs s := by simp [PathS.spl, he]
      rw [this]
      have hlen : (PathS.pcs s).length ≠ 0 := by rw [← pcs_length]; omega
      simp only [hlen, if_false]
  go_enter Tryd.func80, Tryd.ntmps80
  go_wp2_with fail
  refine (lsplit_c s w hg hs).mono ?_
  rintro e w1 ⟨b, rfl, hsl, hgr⟩
  have hb := hgr.1
  clear hgr
  generalize PathS.pcs s = l at *
  by_cases h1 : 255 < s.size
  · have g1 : decide (255 < (s.size : Int)) = true := by simp; omega
    go_wp2_with fail
    go_ret
    exact ⟨ret_i64 (by rw [HC.out, if_pos (.inl h1)]), hb⟩
  · have g1 : decide (255 < (s.size : Int)) = false := by simp; omega
    by_cases h2 : 16 < l.length
    · have g2 : decide (16 < (l.length : Int)) = true := by simp; omega
      go_wp2_with fail
      go_ret
      exact ⟨ret_i64 (by rw [HC.out, if_pos (.inr h2)]), hb⟩
    · have g2 : decide (16 < (l.length : Int)) = false := by simp; omega
      go_wp2_with fail
      refine (contname_c _ _ l w1 hsl (by omega)).mono ?_
      rintro e w2 ⟨rfl, hb2⟩
      have hb3 := hb.trans (hb2.mono hb.size)
      cases hn : l.all PathS.name
      · have HN := Lib.hid hn; clear hn
        go_wp2_with fail
        go_ret
        exact ⟨ret_i64 (by rw [HC.out, if_neg (by omega), HN.out]; rfl), hb3⟩
      · have HN := Lib.hid hn; clear hn
        go_wp2_with fail
        go_ret
        exact ⟨ret_i64 (by rw [HC.out, if_neg (by omega), HN.out]; rfl), hb3⟩
end Go.Proofs.YtfoamcobpfflbaaDoor
