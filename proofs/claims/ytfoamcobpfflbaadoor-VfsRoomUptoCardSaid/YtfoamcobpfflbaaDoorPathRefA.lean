/- Walks of the reference's path functions. -/
import Derived.Test.YtfoamcobpfflbaaDoorRows
import Derived.Test.YtfoamcobpfflbaaDoorKitA
import Derived.Test.YtfoamcobpfflbaaDoorPathSpec
namespace Go.Proofs.YtfoamcobpfflbaaDoor
open Go Go.RowKit

theorem ES : Elem Tryd.prog 42 9 (.string ByteArray.empty) 1 16 := ⟨by kernel_rfl, by kernel_rfl⟩

set_option maxRecDepth 100000 in
set_option maxHeartbeats 400000 in
theorem ref_split (s : ByteArray) (w : World) (hs : s.size ≤ 10000000) :
    Calls Tryd.prog 85 #[.string s] w fun e w' => ∃ v, e = .returned v ∧ Below w.heap.size w w' ∧ w'.ownsRow w.heap.size 9 1 v (PathS.split s).length ((PathS.split s).map Value.string) := by
  go_enter Tryd.func85, Tryd.ntmps85
  by_cases he : s.size = 0
  · have h1 : s.toList.isEmpty = true := by rw [isEmpty_iff]; simpa using he
    go_wp2_with fail
    go_ret
    exact ⟨_, rfl, Below.refl _ _, by simp only [PathS.split, he, if_true]; exact World.ownsRow_nil _ _ _ _⟩
  · have h1 : s.toList.isEmpty = false := by rw [isEmpty_iff]; simpa using he
    have hl : (PathS.splitTo s (s.size + 1)).1 = PathS.split s := by simp [PathS.split, he]
    have HL := Lib.hid hl; clear hl
    go_wp2_with fail
    go_loopw [3, 4, 5] (fun out fr i wr => ∃ k : Nat, k ≤ s.size + 1 ∧ i = .int .i64 k ∧ fr = .int .i64 (PathS.splitTo s k).2 ∧ wr.ownsRow w.heap.size 9 1 out (PathS.splitTo s k).1.length ((PathS.splitTo s k).1.map Value.string) ∧ Below w.heap.size w wr) (fun _ _ i _ => s.size + 1 - (intOf i).toNat)
    case atStart => exact ⟨0, by omega, rfl, rfl, World.ownsRow_made w #[] 0 (Nat.le_refl _) (by simp [maxLen]) rfl, (Below.refl _ _).alloc (Nat.le_refl _) _⟩
    case round =>
      obtain ⟨k, hk, rfl, rfl, hown, hb⟩ := hrel
      have hle := PathS.splitTo_le s k
      have hln := PathS.splitTo_len s k
      have HS : Hid (PathS.splitTo s (k + 1) = if k = s.size ∨ s[k]! = 47 then ((PathS.splitTo s k).1 ++ [s.extract (PathS.splitTo s k).2 k], k + 1) else PathS.splitTo s k) := by show _ = _; rfl
      generalize hA : (PathS.splitTo s k).1 = acc at hown hln HS
      have HA := Lib.hid hA; clear hA
      generalize hF : (PathS.splitTo s k).2 = f at hle HS
      have HF := Lib.hid hF; clear hF
      by_cases h2 : k = s.size + 1
      · have h3 : ¬ (k ≤ s.size) := by omega
        subst h2
        go_wp2_with fail
        go_ret
        exact ⟨_, rfl, hb, by rw [← HL.out, HA.out]; exact hown⟩
      · have h3 : k ≤ s.size := by omega
        by_cases h4 : k = s.size
        · have h5 : ((k : Int) == (s.size : Int)) = true := by simp [h4]
          have h5 : f ≤ s.size := by omega
          have HS' : Hid (PathS.splitTo s (k + 1) = (acc ++ [s.extract f k], k + 1)) := by show _ = _; rw [HS.out, if_pos (.inl h4)]
          go_wp2_with (at_builtin; refine wp_app1 rfl _ _ _ rfl ES rfl rfl hown rfl rfl (by omega) (by simp [maxLen]; omega) hb.size ?_)
          intro v' w' hown' _ hb'
          go_wp2_with fail
          go_roundw
          case rel => exact ⟨k + 1, by omega, by go_num, by rw [HS'.out]; go_num, by rw [HS'.out]; simpa [h4] using hown', hb.trans hb'⟩
          case measure => simp [intOf]; omega
        · have h5 : ((k : Int) == (s.size : Int)) = false := beq_eq_false_iff_ne.2 (by omega)
          have h6 : k < s.size := by omega
          have hget : s[k]! = s[k] := getElem!_pos s k h6
          by_cases h7 : s[k] = 47
          · have h8 : ((s[k].toNat : Int) == 47) = true := by rw [h7]; rfl
            have HS' : Hid (PathS.splitTo s (k + 1) = (acc ++ [s.extract f k], k + 1)) := by show _ = _; rw [HS.out, if_pos (.inr (by rw [hget]; exact h7))]
            clear h7 hget
            go_wp2_with (at_builtin; refine wp_app1 rfl _ _ _ rfl ES rfl rfl hown rfl rfl (by omega) (by simp [maxLen]; omega) hb.size ?_)
            intro v' w' hown' _ hb'
            go_wp2_with fail
            go_roundw
            case rel => exact ⟨k + 1, by omega, by go_num, by rw [HS'.out]; go_num, by rw [HS'.out]; simpa using hown', hb.trans hb'⟩
            case measure => simp [intOf]; omega
          · have h8 : ((s[k].toNat : Int) == 47) = false := by
              rw [beq_eq_false_iff_ne]; intro h; exact h7 (UInt8.toNat_inj.1 (by simpa using Int.ofNat.inj h))
            have HS' : Hid (PathS.splitTo s (k + 1) = PathS.splitTo s k) := by show _ = _; rw [HS.out, if_neg (by rw [hget]; simp [h4, h7])]
            clear h7 hget
            go_wp2_with fail
            go_roundw
            case rel => exact ⟨k + 1, by omega, by go_num, by rw [HS'.out, HF.out], by rw [HS'.out, HA.out]; exact hown, hb⟩
            case measure => simp [intOf]; omega
end Go.Proofs.YtfoamcobpfflbaaDoor
