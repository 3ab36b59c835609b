/- Walks: Clash, the program's and the reference's. -/
import Derived.Test.YtmcdfikkokbffaaDoorPathSortF
import Derived.Test.YtmcdfikkokbffaaDoorPathSortW
namespace Go.Proofs.YtmcdfikkokbffaaDoor
open Go Go.RowKit

theorem clone_c (a : Option Addr) (c : Nat) (l : List ByteArray) (w : World) (hs : Sl w a (l.map Value.string)) (hc0 : a = none → c = 0) (hl : l.length ≤ 10000000) :
    Calls Tryd.prog 39 #[.slice a l.length c] w fun e w' => ∃ v', e = .returned v' ∧ w'.ownsRow w.heap.size 9 1 v' l.length (l.map Value.string) ∧ Below w.heap.size w w' := by
  by_cases h0 : l = []
  · subst h0
    cases a with
    | none =>
      refine (Tryd.slices_Clone_string_nil 0 c w).mono ?_
      rintro e w' ⟨rfl, rfl⟩
      exact ⟨_, rfl, World.ownsRow_nil _ _ _ _, Below.refl _ _⟩
    | some ad =>
      refine (Tryd.slices_Clone_string_zero ad c w).mono ?_
      rintro e w' ⟨v', rfl, h1, _, h2⟩
      exact ⟨_, rfl, h1, h2⟩
  · obtain ⟨b, o, rfl, hlt, hcell⟩ := hs.at (k := 0) (by simpa using List.length_pos_iff.2 h0)
    refine (Tryd.slices_Clone_string b o l.length c l w (Nat.le_refl _) (by omega) (fun j hj => by rw [hcell j (by simpa using hj), List.getElem_map, PathS.getD_at l j hj])).mono ?_
    rintro e w' ⟨v', rfl, h1, _, h2⟩
    rw [List.take_length] at h1
    exact ⟨_, rfl, h1, h2⟩

theorem under_q (p f : ByteArray) (w : World) (hp : p.size ≤ 100000000) (hf : f.size ≤ 100000000) :
    Calls Tryd.prog 24 #[.string p, .string f] w fun e w' => e = .returned (.bool (PathS.under p f)) ∧ w' = w :=
  (ref_under p f w hp hf).mono fun _ _ ⟨h, k⟩ => ⟨h, k.symm⟩

set_option maxRecDepth 100000 in
set_option maxHeartbeats 2000000 in
theorem ref_clash (a : Option Addr) (c : Nat) (l : List ByteArray) (w : World) (hs : Sl w a (l.map Value.string)) (hl : l.length ≤ 10000000) (hz : ∀ s ∈ l, s.size ≤ 10000000) :
    Calls Tryd.prog 27 #[.slice a l.length c] w fun e w' => e = .returned (.tuple #[.string (PathS.clash l).1, .string (PathS.clash l).2]) ∧ Below w.heap.size w w' := by
  have HC : Hid (PathS.clash l = PathS.clashA (PathS.sorted l)) := by show _ = _; rfl
  have hlen := PathS.sorted_length l
  have hpw := PathS.sorted_pw l
  have hzs : ∀ s ∈ PathS.sorted l, s.size ≤ 10000000 := fun s h => hz s ((PathS.sorted_perm l).mem_iff.1 h)
  have HE : Hid (PathS.sortTo l l.length = PathS.sorted l) := by show _ = _; rfl
  go_enter Tryd.func27, Tryd.ntmps27
  go_wp2_with fail
  refine (ref_sorted a c l w hs hl hz).mono ?_
  rw [HE.out]
  rintro e w1 ⟨v, rfl, hown, hb⟩
  generalize PathS.sorted l = s at *
  rw [← hlen] at hown
  obtain ⟨a1, c1, rfl, -, -, hx⟩ := own_sl hown
  have hsl : s.length ≤ 10000000 := by omega
  have HP := Lib.hid hpw
  have HZ := Lib.hid hzs
  clear hown hlen hpw hzs hs hz HE
  go_wp2_with fail
  go_loopw [5] (fun i wr => ∃ k : Nat, k ≤ s.length ∧ i = .int .i64 k ∧ Below w.heap.size w wr ∧ Below w1.heap.size w1 wr ∧ Hid (∀ i' (hi : i' < s.length), i' < k → ∀ k' (hk : k' < i'), ¬ PathS.cl (s[i']'hi) (s[k']'(by omega)))) (fun i _ => s.length - (intOf i).toNat)
  case atStart => exact ⟨0, by omega, rfl, hb, Below.refl _ _, fun i' _ h => by omega⟩
  case round =>
    obtain ⟨k, hk, rfl, hbw, hb1, HN⟩ := hrel
    by_cases hlt : k < s.length
    · obtain ⟨b, o, rfl, hbl, hc⟩ := hx.at (k := k) (by simpa using hlt)
      obtain ⟨wo, rfl⟩ : ∃ wo : World, wo = wr := ⟨_, rfl⟩
      have HK : Hid (∀ j (hj : j < s.length), w1.cell? ⟨b, o + j, none⟩ = some (.string s[j])) := fun j hj => by rw [hc j (by simpa using hj), List.getElem_map]
      clear hc
      go_wp2_with fail
      go_loopw [6] (fun t wi => ∃ j : Nat, j ≤ k ∧ t = .int .i64 ((j : Int) - 1) ∧ Below w.heap.size w wi ∧ Below w1.heap.size w1 wi ∧ Hid (∀ k' (h1 : j ≤ k') (h2 : k' < k), ¬ PathS.cl (s[k]'hlt) (s[k']'(by omega)))) (fun t _ => ((intOf t) + 1).toNat)
      case atStart => exact ⟨k, by omega, by go_num, hbw, hb1, fun k' h1 h2 => by omega⟩
      case round =>
        obtain ⟨j, hj, rfl, hbi, hb1i, HJ⟩ := hrel
        rcases j with _ | j'
        · have HN2 : Hid (∀ i' (hi : i' < s.length), i' < k + 1 → ∀ k' (hk : k' < i'), ¬ PathS.cl (s[i']'hi) (s[k']'(by omega))) := by
            intro i' hi hik k' hk'
            by_cases e : i' = k
            · subst e; exact HJ.out k' (by omega) hk'
            · exact HN.out i' hi (by omega) k' hk'
          go_wp2_with fail
          go_roundw
          case rel => exact ⟨k + 1, by omega, by go_num, hbi, hb1i, HN2⟩
          case measure => simp [intOf]; omega
        · have hcj : wr.cell? ⟨b, o + j', none⟩ = some (.string (s[j']'(by omega))) := by rw [hb1i.cell (p := ⟨b, o + j', none⟩) hbl]; exact HK.out j' (by omega)
          have hck : wr.cell? ⟨b, o + k, none⟩ = some (.string s[k]) := by rw [hb1i.cell (p := ⟨b, o + k, none⟩) hbl]; exact HK.out k hlt
          have hzj := HZ.out _ (List.getElem_mem (show j' < s.length by omega))
          have hzk := HZ.out _ (List.getElem_mem hlt)
          have HD : Hid (PathS.cl s[k] (s[j']'(by omega)) → PathS.clash l = (s[k], s[j']'(by omega))) := by
            intro hcl
            have he := PathS.first_just s HP.out k j' hlt (by omega) hcl (fun i' hi' h => HN.out i' hi' h)
            rw [HC.out]
            subst he
            exact PathS.clashA_hit s j' hlt (fun m hm hmj => HN.out (m + 1) hm (by omega) m (by omega)) hcl
          have HJ2 : Hid (¬ PathS.cl s[k] (s[j']'(by omega)) → ∀ k' (h1 : j' ≤ k') (h2 : k' < k), ¬ PathS.cl (s[k]'hlt) (s[k']'(by omega))) := by
            intro hn k' h1 h2
            by_cases e : k' = j'
            · subst e; exact hn
            · exact HJ.out k' (by omega) h2
          generalize s[k] = p at *
          generalize s[j'] = q at *
          have hw1 : IntKind.i64.wrap ((j' : Int) + 1 - 1) = j' := by rw [Int.add_sub_cancel]; exact IntWalk.i64_in _ (by omega)
          have hw2 : IntKind.i64.wrap (j' : Int) = j' := IntWalk.i64_in _ (by omega)
          have hj0 : (0 : Int) ≤ j' := by omega
          have hj1 : (j' : Int) < s.length := by omega
          have hk0 : (0 : Int) ≤ k := by omega
          have hk1 : (k : Int) < s.length := by omega
          by_cases e : p = q
          · have e1 : (q.toList == p.toList) = true := by rw [e]; simp
            have HF := Lib.hid (HD.out (.inl e))
            clear e
            go_wp2_with fail
            go_quiet (fail)
            go_wp2_with fail
            go_quiet (fail)
            go_wp2_with fail
            go_ret2
            exact ⟨ret_pair HF.out, below_dN (below_dN hbi _) _⟩
          · have e1 : (q.toList == p.toList) = false := by
              rw [beq_eq_false_iff_ne, Lib.toList_data, Lib.toList_data]; intro h; exact e (PathS.ba_ext h.symm)
            have e2 : (p.toList == q.toList) = false := by
              rw [beq_eq_false_iff_ne, Lib.toList_data, Lib.toList_data]; intro h; exact e (PathS.ba_ext h)
            cases hu : PathS.under p q
            · have HU := Lib.hid hu
              have HQ := Lib.hid (fun W : World => (under_q p q W (by omega) (by omega)).mono fun _ _ (h : _ = Ending.returned (.bool (PathS.under p q)) ∧ _ = W) => (⟨h.1.trans (ret_bool HU.out.symm), h.2⟩ : _ = Ending.returned (.bool false) ∧ _ = W))
              have HN3 : Hid (∀ k' (h1 : j' ≤ k') (h2 : k' < k), ¬ PathS.cl p (s[k']'(by omega))) := HJ2.out (by rintro (h | h); exact e h; rw [HU.out] at h; cases h)
              clear e hu HD
              go_wp2_with fail
              go_quiet ((go_at_call 24; exact Calls.quiet_of_same (HQ.out _)))
              go_wp2_with fail
              go_roundw
              case rel => exact ⟨j', by omega, by go_num, below_dN hbi _, below_dN hb1i _, HN3.out⟩
              case measure => simp [intOf]
            · have HU := Lib.hid hu
              have HQ := Lib.hid (fun W : World => (under_q p q W (by omega) (by omega)).mono fun _ _ (h : _ = Ending.returned (.bool (PathS.under p q)) ∧ _ = W) => (⟨h.1.trans (ret_bool HU.out.symm), h.2⟩ : _ = Ending.returned (.bool true) ∧ _ = W))
              have HF := Lib.hid (HD.out (.inr hu))
              clear e hu HD
              go_wp2_with fail
              go_quiet ((go_at_call 24; exact Calls.quiet_of_same (HQ.out _)))
              go_wp2_with fail
              go_quiet (fail)
              go_wp2_with fail
              go_ret2
              exact ⟨ret_pair HF.out, below_dN (below_dN hbi _) _⟩
    · have HF : Hid (PathS.clash l = (ByteArray.empty, ByteArray.empty)) := by
        show _ = _
        rw [HC.out]
        exact PathS.clashA_none s (fun m hm => HN.out (m + 1) hm (by omega) m (by omega))
      go_wp2_with fail
      go_ret2
      exact ⟨ret_pair HF.out, hbw⟩

end Go.Proofs.YtmcdfikkokbffaaDoor
