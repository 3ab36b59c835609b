/- The walk of the program's Clash. -/
import Derived.Test.YtmcdfikkokbffaaDoorPathClashW
namespace Go.Proofs.YtmcdfikkokbffaaDoor
open Go Go.RowKit

set_option maxRecDepth 100000 in
set_option maxHeartbeats 2000000 in
theorem pclash_c (a : Option Addr) (c : Nat) (l : List ByteArray) (w : World) (hg : Gl w) (hs : Sl w a (l.map Value.string)) (hc0 : a = none → c = 0) (hl : l.length ≤ 10000000) (hz : ∀ s ∈ l, s.size ≤ 10000000) :
    Calls Tryd.prog 26 #[.slice a l.length c] w fun e w' => e = .returned (.tuple #[.string (PathS.clash l).1, .string (PathS.clash l).2]) ∧ Below w.heap.size w w' := by
  have HC : Hid (PathS.clash l = PathS.clashA (PathS.sorted l)) := by show _ = _; rfl
  have hlen := PathS.sorted_length l
  have HZ : Hid (∀ s ∈ PathS.sorted l, s.size ≤ 10000000) := fun s h => hz s ((PathS.sorted_perm l).mem_iff.1 h)
  go_enter Tryd.func26, Tryd.ntmps26
  go_wp2_with fail
  refine (clone_c a c l w hs hc0 hl).mono ?_
  rintro e w1 ⟨v, rfl, hown, hb⟩
  have g1 := hg.below hb (Nat.le_refl _)
  have hsort : ∃ a1 c1, v = .slice a1 l.length c1 ∧ Hid (Calls Tryd.prog 40 #[v, .func (.func 11) #[] #[]] w1 fun e w' => e = .returned (.tuple #[]) ∧ Sl w' a1 ((PathS.sorted l).map Value.string) ∧ Below w.heap.size w1 w') := by
    obtain ⟨a1, c1, rfl, -, hc1, hs1⟩ := own_sl hown
    refine ⟨a1, c1, rfl, ?_⟩
    by_cases h0 : l.length = 0
    · show Calls _ _ _ _ _
      rw [h0]
      refine (Tryd.slices_SortFunc_none (α := ByteArray) a1 c1 _ w1).mono ?_
      rintro e w' ⟨rfl, rfl⟩
      exact ⟨rfl, by rw [List.eq_nil_of_length_eq_zero (hlen.trans h0)]; exact .nil _ _, Below.refl _ _⟩
    · obtain ⟨g, c2, he, _⟩ := own_some hown (own_ne hown (by omega))
      rw [he] at hown
      injection he with h1 _ h3
      subst h1 h3
      exact psort_c w.heap.size g c1 l w1 g1 hg.sz hown hz hl
  obtain ⟨a1, c1, rfl, HSORT⟩ := hsort
  clear hown hz hs
  generalize PathS.sorted l = s at *
  have hsl : s.length ≤ 10000000 := by omega
  have HL := Lib.hid hlen
  go_wp2_with fail
  refine HSORT.out.mono ?_
  rintro e w3 ⟨rfl, hx, hb3⟩
  have b13 := hb.trans hb3
  clear HSORT hb hb3
  rw [← HL.out]
  clear hlen
  go_wp2_with fail
  go_loopw [5, 15] (fun t i wr => ∃ (k m : Nat) (os : List ByteArray), k ≤ s.length ∧ i = .int .i64 k ∧ wr.ownsRow w3.heap.size 9 1 t m (os.map Value.string) ∧ ((k = 0 ∧ m = 0) ∨ (m = 1 ∧ ∃ j, ∃ h : j < s.length, k = j + 1 ∧ os = [s[j]])) ∧ Below w.heap.size w wr ∧ Below w3.heap.size w3 wr ∧ Hid (∀ j (h : j + 1 < s.length), j + 1 < k → ¬ PathS.cl (s[j + 1]'h) (s[j]'(by omega)))) (fun _ i _ => s.length - (intOf i).toNat)
  case atStart => exact ⟨0, 0, [], by omega, rfl, World.ownsRow_nil _ _ _ _, .inl ⟨rfl, rfl⟩, b13, Below.refl _ _, fun j _ h => by omega⟩
  case round =>
    obtain ⟨k, m, os, hk, rfl, hown, hcase, hbw, hb3, HN⟩ := hrel
    by_cases hlt : k < s.length
    · obtain ⟨b, o, rfl, hbl, hc⟩ := hx.at (k := k) (by simpa using hlt)
      have hck : wr.cell? ⟨b, o + k, none⟩ = some (.string s[k]) := by rw [hb3.cell (p := ⟨b, o + k, none⟩) hbl, hc k (by simpa using hlt), List.getElem_map]
      clear hc
      have hzk := HZ.out _ (List.getElem_mem hlt)
      rcases hcase with ⟨hk0, rfl⟩ | ⟨rfl, j, hj, hkj, rfl⟩
      · have hos : os = [] := by have := hown.1; simpa using this
        subst hos
        have HN2 : Hid (∀ j (h : j + 1 < s.length), j + 1 < k + 1 → ¬ PathS.cl (s[j + 1]'h) (s[j]'(by omega))) := fun j h hh => by omega
        have HK0 := Lib.hid hk0
        clear hk0
        obtain ⟨av, cv, rfl, -, -, -⟩ := own_sl hown
        go_wp2_with fail
        refine wp_loop_rounds 1 ?_
        rw [rounds_succ]
        go_wp2_with (at_builtin; refine wp_app1 rfl _ _ _ rfl ES rfl rfl hown rfl rfl (by omega) (by simp [maxLen]) hb3.size ?_)
        intro v2 w2 hown2 _ hb2
        go_wp2_with fail
        go_roundw
        case rel => exact ⟨k + 1, 1, [s[k]], by omega, by go_num, by simpa using hown2, .inr ⟨rfl, k, hlt, rfl, rfl⟩, hbw.trans (hb2.mono b13.size), hb3.trans hb2, HN2⟩
        case measure => simp [intOf]; omega
      · obtain ⟨g, cv, rfl, hcv, hgb, hgl, hso⟩ := own_some hown (own_ne hown (by omega))
        have hcq : wr.cell? ⟨g, 0, none⟩ = some (.string s[j]) := by
          obtain ⟨b2, o2, hb2, _, hc2⟩ := hso.at (k := 0) (by simp)
          cases hb2
          have := hc2 0 (by simp)
          simpa using this
        have hzq := HZ.out _ (List.getElem_mem hj)
        have HD : Hid (PathS.cl s[k] s[j] → PathS.clash l = (s[k], s[j])) := by
          intro hcl
          rw [HC.out]
          subst hkj
          exact PathS.clashA_hit s j hlt (fun m hm hmj => HN.out m hm (by omega)) hcl
        have HN2 : Hid (¬ PathS.cl s[k] s[j] → ∀ j (h : j + 1 < s.length), j + 1 < k + 1 → ¬ PathS.cl (s[j + 1]'h) (s[j]'(by omega))) := by
          intro hn j' h hh
          by_cases e : j' = j
          · subst e
            simp only [← hkj]
            exact hn
          · exact HN.out j' h (by omega)
        have HKE : Hid ([s[k]] = [s[k]]) := rfl
        have HKL := Lib.hid hlt
        have hend : ∀ (v : Value) (W : World), W.ownsRow w3.heap.size 9 1 v 1 [Value.string s[k]] → W.ownsRow w3.heap.size 9 1 v 1 ([s[k]].map Value.string) := fun _ _ h => h
        have HEND : Hid (∃ os' : List ByteArray, os'.map Value.string = [Value.string s[k]] ∧ ∃ j, ∃ h : j < s.length, k + 1 = j + 1 ∧ os' = [s[j]]) := ⟨[s[k]], rfl, k, hlt, rfl, rfl⟩
        clear hend HKE hso
        generalize hpk : s[k] = p at *
        generalize hqk : s[j] = q at *
        have HKJ := Lib.hid hkj
        clear hpk hqk hkj
        by_cases e : p = q
        · have e1 : (q.toList == p.toList) = true := by rw [e]; simp
          have HF := Lib.hid (HD.out (.inl e))
          clear e HD
          go_wp2_with fail
          refine wp_loop_rounds 1 ?_
          rw [rounds_succ]
          go_wp2_with fail
          go_quiet (fail)
          go_wp2_with fail
          go_ret2
          exact ⟨ret_pair HF.out, below_dN hbw _⟩
        · have e1 : (q.toList == p.toList) = false := by
            rw [beq_eq_false_iff_ne, Lib.toList_data, Lib.toList_data]; intro h; exact e (PathS.ba_ext h.symm)
          cases hu : PathS.under p q
          · have HU := Lib.hid hu
            have HN3 := Lib.hid (HN2.out (by rintro (h | h); exact e h; rw [HU.out] at h; cases h))
            clear e hu HD HN2
            have hpop : wr.ownsRow w3.heap.size 9 1 (.slice (some ⟨g, 0, none⟩) 0 cv) 0 [] := ownsRow_pop (last := [Value.string q]) rfl (by simpa using hown)
            go_wp2_with fail
            refine wp_loop_rounds 2 ?_
            rw [rounds_succ]
            go_wp2_with (go_at_call 12; refine (under_c p q _ (by omega)).mono ?_; rw [HU.out]; rintro e w7 ⟨rfl, rfl⟩)
            rw [rounds_succ]
            go_wp2_with (at_builtin; refine wp_app1 rfl _ _ _ rfl ES rfl rfl hpop rfl rfl (by omega) (by simp [maxLen]) hb3.size ?_)
            intro v2 w2 hown2 _ hb2
            go_wp2_with fail
            go_roundw
            case rel =>
              obtain ⟨os', ho, j', hj', hkj', ho'⟩ := HEND.out
              exact ⟨k + 1, 1, os', by omega, by go_num, by rw [ho]; simpa using hown2, .inr ⟨rfl, j', hj', hkj', ho'⟩, hbw.trans (hb2.mono b13.size), hb3.trans hb2, HN3⟩
            case measure => simp [intOf]; omega
          · have HU := Lib.hid hu
            have HF := Lib.hid (HD.out (.inr hu))
            clear e hu HD HN2
            go_wp2_with fail
            refine wp_loop_rounds 1 ?_
            rw [rounds_succ]
            go_wp2_with (go_at_call 12; refine (under_c p q _ (by omega)).mono ?_; rw [HU.out]; rintro e w7 ⟨rfl, rfl⟩)
            go_quiet (fail)
            go_wp2_with fail
            go_ret2
            exact ⟨ret_pair HF.out, below_dN hbw _⟩
    · obtain rfl : k = s.length := by omega
      have HF : Hid (PathS.clash l = (ByteArray.empty, ByteArray.empty)) := by
        show _ = _
        rw [HC.out]
        exact PathS.clashA_none s (fun m hm => HN.out m hm (by omega))
      clear hcase
      go_wp2_with fail
      go_ret2
      exact ⟨ret_pair HF.out, hbw⟩
end Go.Proofs.YtmcdfikkokbffaaDoor
