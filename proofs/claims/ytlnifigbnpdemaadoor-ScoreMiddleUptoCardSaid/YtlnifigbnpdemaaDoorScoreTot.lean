/- Walks: the sum of numbers. -/
import Derived.Test.YtlnifigbnpdemaaDoorScoreMo
namespace Go.Proofs.YtlnifigbnpdemaaDoor
open Go Go.RowKit

/-- The sum of what are numbers, in their order, and how many aren't; nothing where a sum is not one. -/
def totF (s o : Nat) : List Nat → Option (Nat × Nat)
  | [] => some (s, o)
  | x :: l => if nanB x then totF s (o + 1) l else match FloatKind.f64.format.add s x with
    | some r => totF r o l
    | none => none

set_option maxRecDepth 100000 in
theorem total_c (a : Option Addr) (c : Nat) (xs : List Nat) (w : World) (s o : Nat) (hs : Sl w a (xs.map (Value.float .f64))) (hl : xs.length ≤ 10000000) (ht : totF 0 0 xs = some (s, o)) :
    Calls Tryd.prog 19 #[.slice a xs.length c] w fun e w' => e = .returned (.tuple #[.float .f64 (cn s), .int .i64 o]) ∧ w' = w := by
  have HS : Hid (totF 0 0 (xs.drop 0) = some (s, o)) := by show _ = _; rw [List.drop_zero]; exact ht
  clear ht
  go_enter Tryd.func19, Tryd.ntmps19
  go_wp2_with fail
  go_loopw [4, 5, 10] (fun sv ov v wr => ∃ k s1 o1 : Nat, k ≤ xs.length ∧ v = .int .i64 k ∧ sv = .float .f64 s1 ∧ ov = .int .i64 o1 ∧ o1 ≤ k ∧ Hid (totF s1 o1 (xs.drop k) = some (s, o)) ∧ wr = w) (fun _ _ v _ => xs.length - (intOf v).toNat)
  case atStart => exact ⟨0, 0, 0, by omega, rfl, rfl, rfl, Nat.le_refl _, HS, rfl⟩
  case round =>
    clear HS
    obtain ⟨k, s1, o1, hk, rfl, rfl, rfl, hok, HT, rfl⟩ := hrel
    by_cases hlt : k < xs.length
    · obtain ⟨b, o', rfl, hbl, hc⟩ := hs.at (k := k) (by simpa using hlt)
      have hck : wr.cell? ⟨b, o' + k, none⟩ = some (.float .f64 xs[k]) := by rw [hc k (by simpa using hlt), List.getElem_map]
      have hd : xs.drop k = xs[k] :: xs.drop (k + 1) := List.drop_eq_getElem_cons hlt
      have HD := Lib.hid hd
      clear hc hd
      have hlti : (k : Int) < xs.length := by omega
      generalize xs[k] = x at *
      cases hx : nanB x
      · cases ha : FloatKind.f64.format.add s1 x with
        | none =>
          have h := HT.out
          rw [HD.out, totF, hx, ha] at h
          simp at h
        | some r =>
          have HN : Hid (totF r o1 (xs.drop (k + 1)) = some (s, o)) := by
            have h := HT.out
            rw [HD.out, totF, hx, ha] at h
            show _ = _
            simpa using h
          have h2 : FloatKind.f64.format.order x x = some .eq := by simpa [nanB] using hx
          have hq := fun (P : Program) (w : World) (t : TypeId) => run_float_arith (P := P) w .add t .f64 s1 x r ha
          clear HT HD hx ha
          go_wp2_with fail
          go_roundw
          case rel => exact ⟨k + 1, r, o1, by omega, by go_num, rfl, rfl, by omega, HN, by first | trivial | rfl⟩
          case measure => simp [intOf]; omega
      · have HN : Hid (totF s1 (o1 + 1) (xs.drop (k + 1)) = some (s, o)) := by
          have h := HT.out
          rw [HD.out, totF, hx] at h
          show _ = _
          simpa using h
        have h2 : (FloatKind.f64.format.order x x != some .eq) = true := hx
        clear HT HD hx
        go_wp2_with fail
        go_roundw
        case rel => exact ⟨k + 1, s1, o1 + 1, by omega, by go_num, rfl, by go_num, by omega, HN, by first | trivial | rfl⟩
        case measure => simp [intOf]; omega
    · have h := HT.out
      rw [List.drop_eq_nil_of_le (by omega), totF] at h
      injection h with h
      injection h with h1 h2
      subst h1 h2
      have hlti : ¬ (k : Int) < xs.length := by omega
      clear HT
      go_wp2_with fail
      refine (canon_c s1 wr).mono ?_
      rintro e w1 ⟨rfl, rfl⟩
      go_wp2_with fail
      go_ret2
      exact ⟨rfl, by first | trivial | rfl⟩

set_option maxRecDepth 100000 in
theorem nan_c (w : World) : Calls Tryd.prog 20 #[] w fun e w' => e = .returned (.float .f64 9221120237041090561) ∧ w' = w := by
  have hr : ∀ w, (callFunc 34 #[.int .u64 9221120237041090561]).run Tryd.prog w = .ok (.value (.float .f64 9221120237041090561)) w := run_frombits 9221120237041090561
  go_enter Tryd.func20, Tryd.ntmps20
  go_wp2_with fail
  go_ret
  exact ⟨rfl, rfl⟩
end Go.Proofs.YtlnifigbnpdemaaDoor
