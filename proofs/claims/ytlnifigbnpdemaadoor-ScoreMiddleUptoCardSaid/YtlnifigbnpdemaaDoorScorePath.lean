/- Walks: paths are compared. -/
import Derived.Test.YtlnifigbnpdemaaDoorPathRefA
import Derived.Test.YtlnifigbnpdemaaDoorPathOrd
import Derived.Test.YtlnifigbnpdemaaDoorShelf
import Derived.Sort.Walk0
namespace Go.Proofs.YtlnifigbnpdemaaDoor
open Go Go.RowKit

/-- What the walks take of the library's variables. -/
structure Gl (w : World) : Prop where
  ml : ∃ m, w.cell? ⟨1, 0, none⟩ = some (.int .i64 m)
  sz : 1 < w.heap.size

theorem Gl.below {w w' : World} {B : Nat} (h : Gl w) (hb : Below B w w') (hB : w.heap.size ≤ B) : Gl w' := by
  obtain ⟨⟨m, hm⟩, hs⟩ := h
  exact ⟨⟨m, by rw [hb.cell (p := ⟨1, 0, none⟩) (Nat.lt_of_lt_of_le hs hB)]; exact hm⟩, Nat.lt_of_lt_of_le hs hb.size⟩

theorem pcs_length (s : ByteArray) : Lib.countB s ⟨#[47]⟩ + 1 = (PathS.pcs s).length := by
  rw [← PathS.splitB_pcs s.size s (Nat.le_refl _), Lib.splitB_all ⟨#[47]⟩ (by decide) 0 _ s rfl]

theorem lsplit_c (s : ByteArray) (w : World) (hg : Gl w) (hs : s.size ≤ 100000000) :
    Calls Tryd.prog 62 #[.string s, .string ⟨#[47]⟩] w fun e w' => ∃ b, e = .returned (.slice (some ⟨b, 0, none⟩) (PathS.pcs s).length (PathS.pcs s).length) ∧ Sl w' (some ⟨b, 0, none⟩) ((PathS.pcs s).map Value.string) ∧ Gr w w' := by
  obtain ⟨m, hm⟩ := hg.ml
  refine (Tryd.strings_Split s ⟨#[47]⟩ m w (by omega) hm (by decide)).mono ?_
  rintro e w1 ⟨rfl, rfl⟩
  rw [pcs_length, PathS.splitB_pcs s.size s (Nat.le_refl _)]
  refine ⟨_, rfl, .inr ⟨_, _, rfl, by simp, fun i u hu => ?_⟩, (Gr.refl _).alloc _⟩
  rw [World.cell?_alloc_at _ _ _ _ rfl]
  simpa using hu

theorem pcs_le (s : ByteArray) : (PathS.pcs s).length ≤ s.size + 1 := by
  rw [← pcs_length]
  have := Lib.countB_le ⟨#[47]⟩ (by decide) s.size s (Nat.le_refl _)
  omega

theorem split_c2 (s : ByteArray) (w : World) (hg : Gl w) (hs : s.size ≤ 100000000) :
    Calls Tryd.prog 48 #[.string s] w fun e w' => ∃ a c, e = .returned (.slice a (PathS.spl s).length c) ∧ (PathS.spl s).length ≤ c ∧ Sl w' a ((PathS.spl s).map Value.string) ∧ Gr w w' := by
  go_enter Tryd.func48, Tryd.ntmps48
  by_cases he : s.size = 0
  · have h1 : s.toList.isEmpty = true := by rw [isEmpty_iff]; simpa using he
    have HE : Hid (PathS.spl s = []) := by show _ = _; simp [PathS.spl, he]
    clear he
    go_wp2_with fail
    go_ret
    exact ⟨none, 0, by rw [HE.out]; rfl, by rw [HE.out]; exact Nat.le_refl _, by rw [HE.out]; exact .nil _ _, Gr.refl _⟩
  · have h1 : s.toList.isEmpty = false := by rw [isEmpty_iff]; simpa using he
    have HE : Hid (PathS.spl s = PathS.pcs s) := by show _ = _; simp [PathS.spl, he]
    clear he
    go_wp2_with (go_at_call 62; refine (lsplit_c s w hg hs).mono ?_; rintro e w1 ⟨b, rfl, hsl, hb⟩)
    go_ret
    exact ⟨_, _, by rw [HE.out]; rfl, by rw [HE.out]; exact Nat.le_refl _, by rw [HE.out]; assumption, by assumption⟩

theorem split_c (s : ByteArray) (w : World) (hg : Gl w) (hs : s.size ≤ 100000000) :
    Calls Tryd.prog 48 #[.string s] w fun e w' => ∃ a c, e = .returned (.slice a (PathS.spl s).length c) ∧ Sl w' a ((PathS.spl s).map Value.string) ∧ Gr w w' :=
  (split_c2 s w hg hs).mono fun _ _ ⟨a, c, he, _, hs, hg⟩ => ⟨a, c, he, hs, hg⟩

theorem cmpB_cases (a b : ByteArray) : (Op.bytesLess a.toList b.toList = true ∧ Hid (PathS.cmpB a b = -1)) ∨ (Op.bytesLess a.toList b.toList = false ∧ (a.toList == b.toList) = true ∧ Hid (PathS.cmpB a b = 0)) ∨ (Op.bytesLess a.toList b.toList = false ∧ (a.toList == b.toList) = false ∧ Hid (PathS.cmpB a b = 1)) := by
  rw [bytesLess_eq, Lib.toList_data, Lib.toList_data]
  by_cases h1 : a.data.toList < b.data.toList
  · exact .inl ⟨decide_eq_true h1, by show _ = _; simp [PathS.cmpB, h1]⟩
  · by_cases h2 : a.data.toList = b.data.toList
    · exact .inr (.inl ⟨decide_eq_false h1, by simpa using h2, by show _ = _; simp only [PathS.cmpB, if_neg h1, if_pos h2]⟩)
    · exact .inr (.inr ⟨decide_eq_false h1, by simpa using h2, by show _ = _; simp only [PathS.cmpB, if_neg h1, if_neg h2]⟩)

set_option maxRecDepth 100000 in
set_option maxHeartbeats 400000 in
theorem cmps_c (a b : ByteArray) (w : World) : Calls Tryd.prog 61 #[.string a, .string b] w fun e w' => e = .returned (.int .i64 (PathS.cmpB a b)) ∧ w = w' := by
  have hc := cmpB_cases a b
  go_enter Tryd.func61, Tryd.ntmps61
  rcases hc with ⟨h1, H⟩ | ⟨h1, h2, H⟩ | ⟨h1, h2, H⟩
  all_goals
    go_wp2_with go_in
    go_ret
    exact ⟨ret_i64 H.out, rfl⟩

theorem cmpL_drop (x y : List ByteArray) (k : Nat) (h1 : k < x.length) (h2 : k < y.length) : PathS.cmpL (x.drop k) (y.drop k) = if PathS.cmpB x[k] y[k] = 0 then PathS.cmpL (x.drop (k + 1)) (y.drop (k + 1)) else PathS.cmpB x[k] y[k] := by
  rw [List.drop_eq_getElem_cons h1, List.drop_eq_getElem_cons h2, PathS.cmpL]

set_option maxRecDepth 100000 in
set_option maxHeartbeats 400000 in
theorem scmp_c (a1 a2 : Option Addr) (c1 c2 : Nat) (x y : List ByteArray) (w : World) (hx : Sl w a1 (x.map Value.string)) (hy : Sl w a2 (y.map Value.string)) (hlx : x.length ≤ 100000000) (hly : y.length ≤ 100000000) :
    Calls Tryd.prog 47 #[.slice a1 x.length c1, .slice a2 y.length c2] w fun e w' => e = .returned (.int .i64 (PathS.cmpL x y)) ∧ w = w' := by
  have HS : Hid (PathS.cmpL x y = PathS.cmpL (x.drop 0) (y.drop 0)) := by show _ = _; rfl
  go_enter Tryd.func47, Tryd.ntmps47
  go_wp2_with fail
  go_loop [11] (fun i => ∃ k : Nat, k ≤ x.length ∧ k ≤ y.length ∧ i = .int .i64 k ∧ Hid (PathS.cmpL x y = PathS.cmpL (x.drop k) (y.drop k))) (fun i => x.length - (intOf i).toNat)
  case atStart => exact ⟨0, by omega, by omega, rfl, HS⟩
  case round =>
    obtain ⟨k, hk, hk2, rfl, HP⟩ := hrel
    clear HS
    by_cases hlt : k < x.length
    · obtain ⟨b, o, rfl, hbl, hc⟩ := hx.at (k := k) (by simpa using hlt)
      have hcell : w.cell? ⟨b, o + k, none⟩ = some (.string x[k]) := by rw [hc k (by simpa using hlt), List.getElem_map]
      clear hc
      by_cases hlt2 : k < y.length
      · obtain ⟨b2, o2, rfl, hbl2, hc2⟩ := hy.at (k := k) (by simpa using hlt2)
        have hcell2 : w.cell? ⟨b2, o2 + k, none⟩ = some (.string y[k]) := by rw [hc2 k (by simpa using hlt2), List.getElem_map]
        clear hc2
        have HD := Lib.hid (cmpL_drop x y k hlt hlt2)
        have g1 : decide ((y.length : Int) ≤ (k : Int)) = false := by simp; omega
        generalize hz : PathS.cmpB x[k] y[k] = z at *
        have HZ := Lib.hid hz; clear hz
        by_cases hn : z = 0
        · have g2 : (z != 0) = false := by simp [hn]
          have HN := Lib.hid hn; clear hn
          go_wp2_with (go_at_call 61; refine (cmps_c _ _ _).mono ?_; rw [HZ.out]; rintro e w1 ⟨rfl, rfl⟩)
          go_round
          case rel => exact ⟨k + 1, by omega, by omega, by go_num, by show _ = _; rw [HP.out, HD.out, if_pos HN.out]⟩
          case measure => simp [intOf]; omega
        · have g2 : (z != 0) = true := by simp [hn]
          have HN := Lib.hid hn; clear hn
          go_wp2_with (go_at_call 61; refine (cmps_c _ _ _).mono ?_; rw [HZ.out]; rintro e w1 ⟨rfl, rfl⟩)
          go_ret
          exact ⟨ret_i64 (by rw [HP.out, HD.out, if_neg HN.out]), rfl⟩
      · have g1 : decide ((y.length : Int) ≤ (k : Int)) = true := by simp; omega
        have HF : Hid (PathS.cmpL x y = 1) := by
          show _ = _
          have e : y.drop k = [] := List.drop_eq_nil_of_le (by omega)
          rw [HP.out, List.drop_eq_getElem_cons hlt, e]; rfl
        go_wp2_with fail
        go_ret
        exact ⟨ret_i64 HF.out, rfl⟩
    · by_cases hlt2 : x.length < y.length
      · have HF : Hid (PathS.cmpL x y = -1) := by
          show _ = _
          have e : x.drop k = [] := List.drop_eq_nil_of_le (by omega)
          rw [HP.out, e, List.drop_eq_getElem_cons (show k < y.length by omega)]; rfl
        go_wp2_with fail
        go_ret
        exact ⟨ret_i64 HF.out, rfl⟩
      · have HF : Hid (PathS.cmpL x y = 0) := by
          show _ = _
          have e : x.drop k = [] := List.drop_eq_nil_of_le (by omega)
          have e2 : y.drop k = [] := List.drop_eq_nil_of_le (by omega)
          rw [HP.out, e, e2]; rfl
        go_wp2_with fail
        go_ret
        exact ⟨ret_i64 HF.out, rfl⟩

theorem cmp_g (a b : ByteArray) (w : World) (hg : Gl w) (ha : a.size ≤ 10000000) (hb : b.size ≤ 10000000) :
    Calls Tryd.prog 41 #[.string a, .string b] w fun e w' => e = .returned (.int .i64 (PathS.cmp a b)) ∧ Gr w w' := by
  have HC : Hid (PathS.cmp a b = PathS.cmpL (PathS.spl a) (PathS.spl b)) := by show _ = _; rw [PathS.cmp, PathS.split_spl, PathS.split_spl]
  have hla : (PathS.spl a).length ≤ 100000000 := by have := pcs_le a; unfold PathS.spl; split <;> simp; omega
  have hlb : (PathS.spl b).length ≤ 100000000 := by have := pcs_le b; unfold PathS.spl; split <;> simp; omega
  go_enter Tryd.func41, Tryd.ntmps41
  go_wp2_with fail
  refine (split_c a w hg (by omega)).mono ?_
  rintro e w1 ⟨a1, c1, rfl, hs1, hb1⟩
  go_wp2_with fail
  refine (split_c b w1 (hg.below hb1.1 (Nat.le_refl _)) (by omega)).mono ?_
  rintro e w2 ⟨a2, c2, rfl, hs2, hb2⟩
  go_wp2_with fail
  refine (scmp_c a1 a2 c1 c2 _ _ w2 (hs1.below hb2.1) hs2 hla hlb).mono ?_
  rintro e w3 ⟨rfl, rfl⟩
  go_wp2_with fail
  go_ret
  exact ⟨ret_i64 HC.out, hb1.trans hb2⟩

theorem cmp_c (a b : ByteArray) (w : World) (hg : Gl w) (ha : a.size ≤ 10000000) (hb : b.size ≤ 10000000) :
    Calls Tryd.prog 41 #[.string a, .string b] w fun e w' => e = .returned (.int .i64 (PathS.cmp a b)) ∧ Below w.heap.size w w' :=
  (cmp_g a b w hg ha hb).mono fun _ _ ⟨he, h⟩ => ⟨he, h.1⟩

end Go.Proofs.YtlnifigbnpdemaaDoor
