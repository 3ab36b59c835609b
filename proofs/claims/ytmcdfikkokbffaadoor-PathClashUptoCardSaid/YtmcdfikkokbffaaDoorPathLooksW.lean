/- Walks: path.Join, and the law PathLooks. -/
import Derived.Test.YtmcdfikkokbffaaDoorPathRefB
import Derived.Test.YtmcdfikkokbffaaDoorPathMore
import Derived.Test.YtmcdfikkokbffaaDoorPathJoin
namespace Go.Proofs.YtmcdfikkokbffaaDoor
open Go Go.RowKit

theorem join_eq (l : List ByteArray) : (⟨(Lib.join (l.map (·.data.toList)) (⟨#[47]⟩ : ByteArray).data.toList).toArray⟩ : ByteArray) = PathS.joinTo l l.length := by
  apply PathS.ba_ext
  rw [PathS.joinTo_data l _ (Nat.le_refl _), List.take_length]
  show (Lib.join (l.map (·.data.toList)) [47]) = _
  rw [PathS.join_joinL]

theorem ljoin_c (a : Option Addr) (c : Nat) (l : List ByteArray) (w : World) (hs : Sl w a (l.map Value.string)) (hc : l.length ≤ c) (ht : tot l ≤ 100000000) (hl : l.length ≤ 100000000) :
    Calls Tryd.prog 37 #[.slice a l.length c, .string ⟨#[47]⟩] w fun e w' => e = .returned (.string (PathS.joinTo l l.length)) ∧ Below w.heap.size w w' := by
  rcases hs with h | ⟨b, o, rfl, hlt, hcell⟩
  · have : l = [] := by simpa using h
    subst this
    refine (Tryd.strings_Join_none a c ⟨#[47]⟩ w).mono ?_
    rintro e w1 ⟨rfl, rfl⟩
    exact ⟨rfl, Below.refl _ _⟩
  · refine (Tryd.strings_Join b o c l ⟨#[47]⟩ w (fun j x hj => hcell j _ (by rw [List.getElem?_map, hj]; rfl)) hlt (by omega) hc ?_).mono ?_
    · have h1 : (Lib.join (l.map (·.data.toList)) (⟨#[47]⟩ : ByteArray).data.toList).length = (PathS.joinTo l l.length).size := by rw [← join_eq, Lib.size_eq]
      have h2 := joinTo_size l l.length (Nat.le_refl _)
      rw [List.take_length] at h2
      omega
    · rintro e w1 ⟨rfl, hb⟩
      exact ⟨ret_str (join_eq l).symm, hb⟩

theorem pjoin_c (a : Option Addr) (c : Nat) (l : List ByteArray) (w : World) (hs : Sl w a (l.map Value.string)) (hc : l.length ≤ c) (ht : tot l ≤ 100000000) (hl : l.length ≤ 100000000) :
    Calls Tryd.prog 20 #[.slice a l.length c] w fun e w' => e = .returned (.string (PathS.joinTo l l.length)) ∧ Below w.heap.size w w' := by
  go_enter Tryd.func20, Tryd.ntmps20
  go_wp2_with (go_at_call 37; refine (ljoin_c a c l w hs hc ht hl).mono ?_; rintro e w1 ⟨rfl, hb⟩)
  go_ret
  exact ⟨rfl, by assumption⟩

theorem tot_split (s : ByteArray) (h : s.size ≤ 10000000) : tot (PathS.split s) ≤ 100000000 := by
  have key : ∀ (l cur : List UInt8), ((PathS.piecesA cur l).map fun b => b.length + 1).sum ≤ cur.length + l.length + 1 := by
    intro l
    induction l with
    | nil => intro cur; simp [PathS.piecesA]
    | cons c l ih =>
      intro cur
      unfold PathS.piecesA
      split
      · have := ih []
        simp at this ⊢; omega
      · have := ih (cur ++ [c])
        simp at this ⊢; omega
  have h1 : tot (PathS.spl s) ≤ s.size + 1 := by
    unfold tot PathS.spl
    split
    · simp
    · have := key s.data.toList []
      unfold PathS.pcs
      rw [List.map_map]
      have e : ((fun b : ByteArray => b.size + 1) ∘ PathS.mkB) = fun b => b.length + 1 := funext fun b => by simp [PathS.mkB_size]
      rw [e, Lib.size_eq]
      simpa using this
  rw [PathS.split_spl]; omega

set_option maxRecDepth 100000 in
set_option maxHeartbeats 2000000 in
theorem looks_c (a b : ByteArray) (an : Option Addr) (cn : Nat) (ss : List ByteArray) (w : World) (hg : Gl w) (ha : a.size ≤ 10000000) (hb : b.size ≤ 10000000) (hs : Sl w an (ss.map Value.string)) (hcn : ss.length ≤ cn) (ht : tot ss ≤ 100000000) (hl : ss.length ≤ 100000000) :
    Calls Tryd.prog 5 #[.string a, .string b, .slice an ss.length cn] w fun e w' => e = .returned (.bool true) ∧ Below w.heap.size w w' := by
  have HSP := Lib.hid (PathS.split_spl a)
  have HPL := Lib.hid (PathS.parent_last a)
  have hla := split_len a
  go_enter Tryd.func5, Tryd.ntmps5
  go_wp2_with fail
  refine (awake_c w hg).mono ?_
  rintro e w1 ⟨rfl, b1⟩
  have g1 := hg.below b1 (Nat.le_refl _)
  go_wp2_with fail
  refine (split_c a w1 g1 (by omega)).mono ?_
  rintro e w2 ⟨a1, c1, rfl, hx, b2⟩
  have b12 := b1.trans (b2.1.mono b1.size)
  go_wp2_with fail
  refine (ref_split a w2 ha).mono ?_
  rw [HSP.out]
  rintro e w3 ⟨v, rfl, b3, hown⟩
  obtain ⟨a2, c2, rfl, -, -, hy⟩ := own_sl hown
  have hx := hx.below b3
  have b13 := b12.trans (b3.mono b12.size)
  clear hown b1 b2 b3 b12
  rw [HSP.out] at hla
  generalize PathS.spl a = l at *
  have g3 := hg.below b13 (Nat.le_refl _)
  go_wp2_with fail
  go_loopw [23] (fun i wr => ∃ k : Nat, k ≤ l.length ∧ i = .int .i64 k ∧ Below w.heap.size w wr ∧ Below w3.heap.size w3 wr) (fun i _ => l.length - (intOf i).toNat)
  case atStart => exact ⟨0, by omega, rfl, b13, Below.refl _ _⟩
  case round =>
    obtain ⟨k, hk, rfl, hbw, hb3w⟩ := hrel
    by_cases hlt : k < l.length
    · obtain ⟨b1, o1, rfl, hbl1, hc1⟩ := hx.at (k := k) (by simpa using hlt)
      obtain ⟨b2, o2, rfl, hbl2, hc2⟩ := hy.at (k := k) (by simpa using hlt)
      have hcell1 : wr.cell? ⟨b1, o1 + k, none⟩ = some (.string l[k]) := by rw [hb3w.cell (p := ⟨b1, o1 + k, none⟩) hbl1, hc1 k (by simpa using hlt), List.getElem_map]
      have hcell2 : wr.cell? ⟨b2, o2 + k, none⟩ = some (.string l[k]) := by rw [hb3w.cell (p := ⟨b2, o2 + k, none⟩) hbl2, hc2 k (by simpa using hlt), List.getElem_map]
      clear hc1 hc2
      go_wp2_with fail
      go_quiet (fail)
      go_wp2_with fail
      go_roundw
      case rel => exact ⟨k + 1, by omega, by go_num, below_dN hbw _, below_dN hb3w _⟩
      case measure => simp [intOf]; omega
    · have gr := hg.below hbw (Nat.le_refl _)
      go_wp2_with fail
      refine (check_c a wr gr (by omega)).mono ?_
      rintro e w4 ⟨rfl, b4⟩
      have b14 := hbw.trans (b4.mono hbw.size)
      go_wp2_with fail
      refine (ref_check a w4 ha).mono ?_
      rintro e w5 ⟨rfl, b5⟩
      have b15 := b14.trans (b5.mono b14.size)
      go_wp2_with fail
      refine (name_c a w5).mono ?_
      rintro e w6 ⟨rfl, b6⟩
      have b16 := b15.trans (b6.mono b15.size)
      go_wp2_with fail
      refine (ref_name a w6 ha).mono ?_
      rintro e w7 ⟨rfl, rfl⟩
      go_wp2_with fail
      have hs6 := hs.below b16
      refine (pjoin_c an cn ss w6 hs6 hcn ht hl).mono ?_
      rintro e w8 ⟨rfl, b8⟩
      have hs8 := hs6.below b8
      have b18 := b16.trans (b8.mono b16.size)
      go_wp2_with fail
      refine (ref_join an cn ss w8 hs8 ht hl).mono ?_
      rintro e w9 ⟨rfl, rfl⟩
      go_wp2_with fail
      refine (parent_c a w8 (by omega)).mono ?_
      rintro e w10 ⟨rfl, rfl⟩
      go_wp2_with fail
      refine (ref_parent a w8 ha (tot_split a ha)).mono ?_
      rw [HPL.out]
      rintro e w11 ⟨rfl, b11⟩
      have b111 := b18.trans (b11.mono b18.size)
      go_wp2_with fail
      refine (under_c a b w11 (by omega)).mono ?_
      rintro e w12 ⟨rfl, rfl⟩
      go_wp2_with fail
      refine (ref_under a b w11 (by omega) (by omega)).mono ?_
      rintro e w13 ⟨rfl, rfl⟩
      have g11 := hg.below b111 (Nat.le_refl _)
      go_wp2_with fail
      refine (cmp_c a b w11 g11 ha hb).mono ?_
      rintro e w14 ⟨rfl, b14'⟩
      have b114 := b111.trans (b14'.mono b111.size)
      go_wp2_with fail
      refine (ref_cmp a b w14 ha hb).mono ?_
      rintro e w15 ⟨rfl, b15'⟩
      have b115 := b114.trans (b15'.mono b114.size)
      go_wp2_with fail
      go_ret
      exact ⟨rfl, b115⟩
end Go.Proofs.YtmcdfikkokbffaaDoor
