/- The walk of the reference's Common. -/
import Derived.Test.YtmcdfikkokbffaaDoorPathComW
namespace Go.Proofs.YtmcdfikkokbffaaDoor
open Go Go.RowKit

def strSize : Value → Nat | .string s => s.size | _ => 0

set_option maxRecDepth 100000 in
set_option maxHeartbeats 2000000 in
theorem ref_common (a : Option Addr) (c : Nat) (l : List ByteArray) (w : World) (hs : Sl w a (l.map Value.string)) (hl : l.length ≤ 10000000) (hz : ∀ s ∈ l, s.size ≤ 10000000) (hv : ∀ s ∈ l, PathS.check s = 0) :
    Calls Tryd.prog 29 #[.slice a l.length c] w fun e w' => e = .returned (.string (PathS.joinB (PathS.com l))) ∧ Below w.heap.size w w' := by
  by_cases h0 : l = []
  · subst h0
    go_enter Tryd.func29, Tryd.ntmps29
    go_wp2_with fail
    go_ret
    exact ⟨rfl, Below.refl _ _⟩
  obtain ⟨p0, r, rfl⟩ := List.exists_cons_of_ne_nil h0
  obtain ⟨b, o, rfl, hbl, hc⟩ := hs.at (k := 0) (by simp)
  have hc0 : w.cell? ⟨b, o, none⟩ = some (.string p0) := by have := hc 0 (by simp); simpa using this
  have hz0 := hz p0 (by simp)
  have hv0 := hv p0 (by simp)
  have HPJ : Hid (PathS.parent p0 = PathS.joinB ((PathS.D p0).take (PathS.D p0).length)) := by
    show _ = _
    rw [List.take_length, ← PathS.spl_parent p0 hv0, PathS.join_spl]
  have hps := PathS.parent_size p0
  have HUN := Lib.hid (PathS.com_under p0 r hv)
  have HTK := Lib.hid (PathS.com_take p0 r)
  have HUP := Lib.hid (PathS.joinB_up p0 hv0)
  have hFl : (PathS.com (p0 :: r)).length ≤ (PathS.D p0).length := (PathS.com_each (p0 :: r) p0 (by simp)).length_le
  have HNE : Hid (∀ m, m ≤ (PathS.D p0).length → m ≠ 0 → (PathS.joinB ((PathS.D p0).take m)).size ≠ 0) := by
    intro m h1 h2
    exact PathS.joinB_ne (by intro e; have := congrArg List.length e; rw [List.length_take, List.length_nil] at this; omega) (PathS.all_prefix (List.take_prefix _ _) (PathS.D_names p0 hv0))
  have HZ := Lib.hid hz
  have HC : Hid (∀ j (hj : j < (p0 :: r).length), w.cell? ⟨b, o + j, none⟩ = some (.string (p0 :: r)[j])) := fun j hj => by rw [hc j (by simpa using hj), List.getElem_map]
  clear hc h0 hv hv0 hz
  have hne : ((r.length : Int) + 1 == 0) = false := beq_eq_false_iff_ne.2 (by omega)
  have hl' : r.length + 1 ≤ 10000000 := by simpa using hl
  generalize PathS.D p0 = d at *
  generalize PathS.com (p0 :: r) = F at *
  clear hl
  go_enter Tryd.func29, Tryd.ntmps29
  go_wp2_with fail
  refine (ref_parent p0 w hz0 (tot_split p0 hz0)).mono ?_
  rw [HPJ.out]
  rintro e w1 ⟨rfl, hb1⟩
  rw [HPJ.out] at hps
  go_wp2_with fail
  go_loopw [3] (fun t wr => ∃ m : Nat, F.length ≤ m ∧ m ≤ d.length ∧ t = .string (PathS.joinB (d.take m)) ∧ (PathS.joinB (d.take m)).size ≤ p0.size ∧ Below w.heap.size w wr) (fun t _ => strSize t)
  case atStart => exact ⟨d.length, hFl, by omega, by rw [List.take_length], hps, hb1⟩
  case round =>
    obtain ⟨m, hm1, hm2, rfl, hsz, hbw⟩ := hrel
    by_cases hm0 : m = 0
    · have hF0 : F = [] := List.eq_nil_of_length_eq_zero (by omega)
      have HJ0 : Hid (PathS.joinB (d.take m) = ⟨#[]⟩) := by show _ = _; rw [hm0]; rfl
      have HJF : Hid (PathS.joinB F = ⟨#[]⟩) := by show _ = _; rw [hF0]; rfl
      clear hm0 hF0
      rw [HJ0.out]
      go_wp2_with fail
      go_ret
      exact ⟨ret_str HJF.out, hbw⟩
    · have HB := Lib.hid (HUN.out m hm1 hm2 hm0)
      have hB0 := HNE.out m hm2 hm0
      have HUP2 : Hid (PathS.parent (PathS.joinB (d.take m)) = PathS.joinB (d.take (m - 1))) := by
        have := HUP.out (m - 1) (by omega)
        rwa [show m - 1 + 1 = m by omega] at this
      have HLT := PathS.parent_lt _ hB0
      have HJT : Hid (m = F.length → PathS.joinB (d.take m) = PathS.joinB F) := by intro e; rw [e, HTK.out]
      generalize PathS.joinB (d.take m) = B at *
      have e0 : B.toList.isEmpty = false := by rw [isEmpty_iff]; simpa using hB0
      obtain ⟨wo, rfl⟩ : ∃ wo : World, wo = wr := ⟨_, rfl⟩
      go_wp2_with fail
      go_loopw [4, 5] (fun t i wi => ∃ (k : Nat) (g : Bool), k ≤ r.length + 1 ∧ i = .int .i64 k ∧ t = .bool g ∧ Hid (g = true ↔ ∀ x ∈ (p0 :: r).take k, PathS.under x B = true) ∧ wo = wi) (fun _ i _ => r.length + 1 - (intOf i).toNat)
      case atStart => exact ⟨0, true, by omega, rfl, rfl, by constructor; intro _ x hx; simp at hx; intro _; rfl, rfl⟩
      case round =>
        obtain ⟨k, g, hk, rfl, rfl, HG, rfl⟩ := hrel
        by_cases hlt : k < r.length + 1
        · have hlt' : k < (p0 :: r).length := by simpa using hlt
          have hck : wo.cell? ⟨b, o + k, none⟩ = some (.string (p0 :: r)[k]) := by rw [hbw.cell (p := ⟨b, o + k, none⟩) hbl]; exact HC.out k hlt'
          have hzk := HZ.out _ (List.getElem_mem hlt')
          have HT := Lib.hid (show (p0 :: r).take (k + 1) = (p0 :: r).take k ++ [(p0 :: r)[k]] from List.take_succ_eq_append_getElem hlt')
          generalize (p0 :: r)[k] = x at *
          cases g
          · have HG2 : Hid (false = true ↔ ∀ x ∈ (p0 :: r).take (k + 1), PathS.under x B = true) := by
              constructor
              · intro h; cases h
              · intro h; exact HG.out.2 (fun y hy => h y (by rw [HT.out]; simp [hy]))
            go_wp2_with fail
            go_roundw
            case rel => exact ⟨k + 1, false, by omega, by go_num, rfl, HG2, by first | rfl | trivial⟩
            case measure => simp [intOf]; omega
          · have HGT := Lib.hid (HG.out.1 rfl)
            clear HG
            cases hu : PathS.under x B
            all_goals
              have HU := Lib.hid hu
              clear hu
            · have HG2 : Hid (false = true ↔ ∀ x ∈ (p0 :: r).take (k + 1), PathS.under x B = true) := by
                constructor
                · intro h; cases h
                · intro h; have := h x (by rw [HT.out]; simp); rw [HU.out] at this; cases this
              go_wp2_with (go_at_call 24; refine (ref_under x B _ (by omega) (by omega)).mono ?_; rw [HU.out]; rintro e w7 ⟨rfl, rfl⟩)
              go_roundw
              case rel => exact ⟨k + 1, false, by omega, by go_num, rfl, HG2, by first | rfl | trivial⟩
              case measure => simp [intOf]; omega
            · have HG2 : Hid (true = true ↔ ∀ x ∈ (p0 :: r).take (k + 1), PathS.under x B = true) := by
                constructor
                · intro _ y hy
                  rw [HT.out, List.mem_append, List.mem_singleton] at hy
                  rcases hy with hy | rfl
                  · exact HGT.out y hy
                  · exact HU.out
                · intro _; rfl
              go_wp2_with (go_at_call 24; refine (ref_under x B _ (by omega) (by omega)).mono ?_; rw [HU.out]; rintro e w7 ⟨rfl, rfl⟩)
              go_roundw
              case rel => exact ⟨k + 1, true, by omega, by go_num, rfl, Iff.intro (fun _ => HG2.out.1 trivial) (fun _ => rfl), by first | rfl | trivial⟩
              case measure => simp [intOf]; omega
        · have hall : g = true ↔ m = F.length := by
            have := HG.out
            rw [List.take_of_length_le (by simp; omega)] at this
            exact this.trans HB.out
          cases g
          · have hmF : m ≠ F.length := by intro e; have := hall.2 e; cases this
            clear hall HG
            go_wp2_with fail
            refine (ref_parent B wo (by omega) (tot_split B (by omega))).mono ?_
            rw [HUP2.out]
            rintro e w8 ⟨rfl, hb8⟩
            have hlt8 : (PathS.joinB (d.take (m - 1))).size < B.size := by rw [← HUP2.out]; exact HLT
            go_wp2_with fail
            go_roundw
            case rel => exact ⟨m - 1, by omega, by omega, rfl, by omega, hbw.trans (hb8.mono hbw.size)⟩
            case measure => exact hlt8
          · have HE := Lib.hid (HJT.out (hall.1 rfl))
            clear hall HG
            go_wp2_with fail
            go_ret
            exact ⟨ret_str HE.out.symm, hbw⟩
end Go.Proofs.YtmcdfikkokbffaaDoor
