/- A text has a rune that no name has just if it has such a byte. No program in sight. -/
import Derived.Test.YtfoamcobpfflbaaDoorPathPlain
import Derived.Lib.MapLaws
import Derived.Shelf.GgClosure.StringsIndexFunc
namespace Go.Proofs.YtfoamcobpfflbaaDoor
namespace PathS
open Go

def badR (r : Nat) : Bool := decide (r < 32) || r == 127 || r == 47

theorem okB_high (c : UInt8) (h : 128 ≤ c.toNat) : okB c = true := by
  unfold okB
  have h1 : ¬ c < 32 := by rw [UInt8.lt_iff_toNat_lt]; have : (32 : UInt8).toNat = 32 := rfl; omega
  have h2 : ¬ c = 127 := by intro e; subst e; simp at h
  have h3 : ¬ c = 47 := by intro e; subst e; simp at h
  simp [h2, h3]
  rw [UInt8.le_iff_toNat_le]; have : (32 : UInt8).toNat = 32 := rfl; omega

theorem okB_low (c : UInt8) : okB c = !badR c.toNat := by
  unfold okB badR
  have e1 : (c < 32) = (c.toNat < 32) := by rw [UInt8.lt_iff_toNat_lt]; rfl
  have e2 : (c == 127) = (c.toNat == 127) := by rw [Bool.eq_iff_iff]; simp [← UInt8.toNat_inj]
  have e3 : (c == 47) = (c.toNat == 47) := by rw [Bool.eq_iff_iff]; simp [← UInt8.toNat_inj]
  simp only [e1, e2, e3]

theorem get_bang (s : ByteArray) (i : Nat) (h : i < s.size) : s.get! i = s[i] := by
  have : s.get! i = s.data[i]! := rfl
  rw [this, getElem!_pos s.data i (by simpa using h)]; rfl

theorem all_step (s : ByteArray) (k : Nat) (h : k < s.size) : (s.data.toList.drop k).all okB = (okB (s.get! k) && (s.data.toList.drop (k + 1)).all okB) := by
  rw [drop_at s k h, List.all_cons, get_bang s k h]

theorem idx_all (s : ByteArray) : ∀ (f pos : Nat), s.size ≤ pos + f → (Lib.idxFuncFrom badR true s f pos = -1 ↔ (s.data.toList.drop pos).all okB = true) := by
  intro f
  induction f with
  | zero =>
    intro pos h
    have : s.data.toList.drop pos = [] := List.drop_eq_nil_of_le (by rw [← Lib.size_eq]; omega)
    simp [Lib.idxFuncFrom, this]
  | succ f ih =>
    intro pos h
    unfold Lib.idxFuncFrom
    by_cases hlt : pos < s.size
    · rw [if_pos hlt, Lib.decode_at, all_step s pos hlt]
      have g0 := UInt8.toNat_lt (s.get! pos)
      have g1 := UInt8.toNat_lt (s.get! (pos + 1))
      rcases Lib.decodeN_shape (s.size - pos) (s.get! pos).toNat (s.get! (pos + 1)).toNat (s.get! (pos + 2)).toNat (s.get! (pos + 3)).toNat with ⟨h1, e⟩ | ⟨h1, h2, h3, h4, e⟩ | ⟨h1, h2, h3, h4, h5, h6, e⟩ | ⟨h1, h2, h3, h4, h5, h6, h7, e⟩ | e
      · rw [e]
        simp only
        rw [okB_low]
        cases hb : badR (s.get! pos).toNat
        · simp only [Bool.false_eq_true, if_false, Bool.not_false, Bool.true_and]
          exact ih (pos + 1) (by omega)
        · simp
      · rw [e]
        have hb : badR ((s.get! pos).toNat % 32 * 64 + (s.get! (pos + 1)).toNat % 64) = false := by simp [badR]; omega
        simp only [hb, Bool.false_eq_true, if_false]
        rw [ih (pos + 2) (by omega), okB_high _ (by omega), all_step s (pos + 1) (by omega), okB_high _ (by omega)]
        simp
      · rw [e]
        have hb : badR ((s.get! pos).toNat % 16 * 4096 + (s.get! (pos + 1)).toNat % 64 * 64 + (s.get! (pos + 2)).toNat % 64) = false := by simp [badR]; omega
        simp only [hb, Bool.false_eq_true, if_false]
        rw [ih (pos + 3) (by omega), okB_high _ (by omega), all_step s (pos + 1) (by omega), okB_high _ (by omega), show pos + 1 + 1 = pos + 2 from rfl, all_step s (pos + 2) (by omega), okB_high _ (by omega)]
        simp
      · rw [e]
        have hb : badR ((s.get! pos).toNat % 8 * 262144 + (s.get! (pos + 1)).toNat % 64 * 4096 + (s.get! (pos + 2)).toNat % 64 * 64 + (s.get! (pos + 3)).toNat % 64) = false := by simp [badR]; omega
        simp only [hb, Bool.false_eq_true, if_false]
        rw [ih (pos + 4) (by omega), okB_high _ (by omega), all_step s (pos + 1) (by omega), okB_high _ (by omega), show pos + 1 + 1 = pos + 2 from rfl, all_step s (pos + 2) (by omega), okB_high _ (by omega), show pos + 2 + 1 = pos + 3 from rfl, all_step s (pos + 3) (by omega), okB_high _ (by omega)]
        simp
      · rw [e]
        have hb : badR 65533 = false := by decide
        simp only [hb, Bool.false_eq_true, if_false]
        by_cases hl : (s.get! pos).toNat < 128
        · exfalso
          rw [show Lib.decodeN (s.size - pos) (s.get! pos).toNat (s.get! (pos + 1)).toNat (s.get! (pos + 2)).toNat (s.get! (pos + 3)).toNat = ((s.get! pos).toNat, 1) from by unfold Lib.decodeN; rw [if_pos hl]] at e
          have := congrArg Prod.fst e
          simp at this
          omega
        · rw [ih (pos + 1) (by omega), okB_high _ (by omega)]
          simp
    · rw [if_neg hlt]
      have : s.data.toList.drop pos = [] := List.drop_eq_nil_of_le (by rw [← Lib.size_eq]; omega)
      simp [this]

theorem idx_ge (s : ByteArray) : Lib.idxFunc badR true s = -1 ∨ 0 ≤ Lib.idxFunc badR true s := by
  rcases Lib.idxFuncFrom_range badR true s s.size 0 with h | ⟨h, _⟩
  · exact .inl h
  · exact .inr (by have : (0 : Int) ≤ Lib.idxFuncFrom badR true s s.size 0 := by simpa using h
                   exact this)

theorem idx_neg (s : ByteArray) : decide (Lib.idxFunc badR true s < 0) = s.data.toList.all okB := by
  have h := idx_all s s.size 0 (by omega)
  rw [List.drop_zero] at h
  have h2 := idx_ge s
  rw [Bool.eq_iff_iff, decide_eq_true_iff, ← h]
  show _ ↔ Lib.idxFunc badR true s = -1
  omega
end PathS
end Go.Proofs.YtfoamcobpfflbaaDoor
