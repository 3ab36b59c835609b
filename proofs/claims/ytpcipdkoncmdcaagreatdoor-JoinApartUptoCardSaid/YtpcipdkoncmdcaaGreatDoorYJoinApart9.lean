/- Texts of mine, joined: How the places of two lists of pairs go forward together. No program in sight. -/
import Derived.Test.YtpcipdkoncmdcaaGreatDoorYJoinApart8
namespace Go.Proofs.YtpcipdkoncmdcaaGreatDoor
namespace JoinS
/-- Pairs that grow in both places, from i, j on, below m, n. -/
def Inc (m n : Nat) : Nat → Nat → List (Nat × Nat) → Prop
  | _, _, [] => True
  | i, j, p :: l => i ≤ p.1 ∧ j ≤ p.2 ∧ p.1 < m ∧ p.2 < n ∧ Inc m n (p.1 + 1) (p.2 + 1) l
theorem Inc.weak {m n i j i' j' : Nat} (hi : i' ≤ i) (hj : j' ≤ j) : ∀ {l : List (Nat × Nat)}, Inc m n i j l → Inc m n i' j' l
  | [], _ => trivial
  | _ :: _, h => ⟨Nat.le_trans hi h.1, Nat.le_trans hj h.2.1, h.2.2⟩
section
variable {β : Type} [DecidableEq β]
theorem P_inc : ∀ (i k : Nat) (x y : List β), Inc (i + x.length) (k + y.length) i k (ScoreS.P i k x y)
  | i, k, [], y => by rw [ScoreS.P]; trivial
  | i, k, a :: x, [] => by rw [ScoreS.P]; trivial
  | i, k, a :: x, b :: y => by
    rw [ScoreS.P]
    split
    · refine ⟨Nat.le_refl _, Nat.le_refl _, by simp, by simp, ?_⟩
      have := P_inc (i + 1) (k + 1) x y
      simp only [List.length_cons]
      rw [show i + (x.length + 1) = i + 1 + x.length by omega, show k + (y.length + 1) = k + 1 + y.length by omega]; exact this
    · split
      · have := P_inc (i + 1) k x (b :: y)
        simp only [List.length_cons] at this ⊢
        rw [show i + (x.length + 1) = i + 1 + x.length by omega]; exact this.weak (by omega) (Nat.le_refl _)
      · have := P_inc i (k + 1) (a :: x) y
        simp only [List.length_cons] at this ⊢
        rw [show k + (y.length + 1) = k + 1 + y.length by omega]; exact this.weak (Nat.le_refl _) (by omega)
termination_by _ _ x y => x.length + y.length
end
theorem meets_nil_l (b : List (Nat × Nat)) : meets [] b = [] := by rw [meets]; intro x a y b' h; cases h
theorem meets_nil_r (a : List (Nat × Nat)) : meets a [] = [] := by rw [meets]; intro x a' y b' _ h; cases h
theorem meets_eq {x y : Nat × Nat} {a b : List (Nat × Nat)} (h : x.1 = y.1) : meets (x :: a) (y :: b) = (x.1, x.2, y.2) :: meets a b := by rw [meets, if_pos h]
theorem meets_lt {x y : Nat × Nat} {a b : List (Nat × Nat)} (h : x.1 < y.1) : meets (x :: a) (y :: b) = meets a (y :: b) := by rw [meets, if_neg (by omega), if_pos h]
theorem meets_gt {x y : Nat × Nat} {a b : List (Nat × Nat)} (h : y.1 < x.1) : meets (x :: a) (y :: b) = meets (x :: a) b := by rw [meets, if_neg (by omega), if_neg (by omega)]

/-- Where the weaving stands: so many lines of each list are taken, these parts are made. -/
structure At (b o t : List ByteArray) (ps : List (Pt ByteArray)) (i j k : Nat) (A B : List (Nat × Nat)) : Prop where
  ia : Inc b.length o.length i j A
  ib : Inc b.length t.length i k B
  li : i ≤ b.length
  lj : j ≤ o.length
  lk : k ≤ t.length
  fin : joinAll ps (raw (b.drop i) (o.drop j) (t.drop k) i j k (meets A B)) = joinAll [] (parts b o t)
theorem At.start (b o t : List ByteArray) : At b o t [] 0 0 0 (ScoreS.P 0 0 b o) (ScoreS.P 0 0 b t) where
  ia := by have := P_inc 0 0 b o; simpa using this
  ib := by have := P_inc 0 0 b t; simpa using this
  li := Nat.zero_le _
  lj := Nat.zero_le _
  lk := Nat.zero_le _
  fin := rfl
section
variable {b o t : List ByteArray} {ps : List (Pt ByteArray)} {i j k : Nat} {A B : List (Nat × Nat)} {x y : Nat × Nat}
theorem At.eq (h : At b o t ps i j k (x :: A) (y :: B)) (e : x.1 = y.1) :
    At b o t (join (join ps ⟨(b.drop i).take (x.1 - i), (o.drop j).take (x.2 - j), (t.drop k).take (y.2 - k)⟩) ⟨((b.drop i).drop (x.1 - i)).take 1, ((o.drop j).drop (x.2 - j)).take 1, ((t.drop k).drop (y.2 - k)).take 1⟩) (x.1 + 1) (x.2 + 1) (y.2 + 1) A B where
  ia := h.ia.2.2.2.2
  ib := by rw [e]; exact h.ib.2.2.2.2
  li := h.ia.2.2.1
  lj := h.ia.2.2.2.1
  lk := h.ib.2.2.2.1
  fin := by
    rw [← h.fin, meets_eq e, raw]
    have h1 := h.ia.1
    have h2 := h.ia.2.1
    have h3 := h.ib.2.1
    rw [List.drop_drop, List.drop_drop, List.drop_drop, List.drop_drop, List.drop_drop, List.drop_drop]
    rw [show i + (x.1 - i + 1) = x.1 + 1 by omega, show j + (x.2 - j + 1) = x.2 + 1 by omega, show k + (y.2 - k + 1) = y.2 + 1 by omega]
    rfl
theorem At.lt (h : At b o t ps i j k (x :: A) (y :: B)) (e : x.1 < y.1) : At b o t ps i j k A (y :: B) where
  ia := h.ia.2.2.2.2.weak (by have := h.ia.1; omega) (by have := h.ia.2.1; omega)
  ib := h.ib
  li := h.li
  lj := h.lj
  lk := h.lk
  fin := by rw [← h.fin, meets_lt e]
theorem At.gt (h : At b o t ps i j k (x :: A) (y :: B)) (e : y.1 < x.1) : At b o t ps i j k (x :: A) B where
  ia := h.ia
  ib := h.ib.2.2.2.2.weak (by have := h.ib.1; omega) (by have := h.ib.2.1; omega)
  li := h.li
  lj := h.lj
  lk := h.lk
  fin := by rw [← h.fin, meets_gt e]
theorem At.done (h : At b o t ps i j k A B) (e : A = [] ∨ B = []) : join ps ⟨b.drop i, o.drop j, t.drop k⟩ = joinAll [] (parts b o t) := by
  rw [← h.fin]
  rcases e with rfl | rfl
  · rw [meets_nil_l]; rfl
  · rw [meets_nil_r]; rfl
end
end JoinS
end Go.Proofs.YtpcipdkoncmdcaaGreatDoor
