/- The reference's insertion sort of paths. No program in sight. -/
import Derived.Test.YtmcdfikkokbffaaDoorPathOrd
namespace Go.Proofs.YtmcdfikkokbffaaDoor
namespace PathS

/-- Where x is put into out, searched from place k down. -/
def insPos (x : ByteArray) (out : List ByteArray) : Nat → Nat
  | 0 => 0
  | k + 1 => if cmp x (out.getD k ByteArray.empty) < 0 then insPos x out k else k + 1

def ins (x : ByteArray) (out : List ByteArray) : List ByteArray := out.take (insPos x out out.length) ++ [x] ++ out.drop (insPos x out out.length)

def sortTo (l : List ByteArray) : Nat → List ByteArray
  | 0 => []
  | k + 1 => ins (l.getD k ByteArray.empty) (sortTo l k)

theorem insPos_le (x : ByteArray) (out : List ByteArray) : ∀ k, insPos x out k ≤ k
  | 0 => Nat.le_refl _
  | k + 1 => by unfold insPos; split; have := insPos_le x out k; omega; omega

theorem ins_length (x : ByteArray) (out : List ByteArray) : (ins x out).length = out.length + 1 := by
  have := insPos_le x out out.length
  simp [ins]; omega

theorem sortTo_length (l : List ByteArray) : ∀ k, (sortTo l k).length = k
  | 0 => rfl
  | k + 1 => by rw [sortTo, ins_length, sortTo_length]

theorem ins_mem (x y : ByteArray) (out : List ByteArray) : y ∈ ins x out ↔ y = x ∨ y ∈ out := by
  conv => rhs; rhs; rw [← List.take_append_drop (insPos x out out.length) out]
  unfold ins
  simp only [List.mem_append, List.mem_singleton]
  constructor
  · rintro ((h | h) | h)
    · exact .inr (.inl h)
    · exact .inl h
    · exact .inr (.inr h)
  · rintro (h | h | h)
    · exact .inl (.inr h)
    · exact .inl (.inl h)
    · exact .inr h

theorem sortTo_mem (l : List ByteArray) (y : ByteArray) : ∀ k, k ≤ l.length → (y ∈ sortTo l k ↔ y ∈ l.take k)
  | 0, _ => by simp [sortTo]
  | k + 1, h => by
    have hd : l.getD k ByteArray.empty = l[k] := by rw [List.getD_eq_getElem?_getD, List.getElem?_eq_getElem (by omega)]; rfl
    rw [sortTo, ins_mem, sortTo_mem l y k (by omega), hd]
    have ht : l.take (k + 1) = l.take k ++ [l[k]] := List.take_succ_eq_append_getElem (by omega)
    rw [ht, List.mem_append, List.mem_singleton, or_comm]

theorem insPos_below (x : ByteArray) (out : List ByteArray) : ∀ k, insPos x out k = 0 ∨ ¬ cmp x (out.getD (insPos x out k - 1) ByteArray.empty) < 0
  | 0 => .inl rfl
  | k + 1 => by
    unfold insPos
    split
    · exact insPos_below x out k
    · exact .inr (by rw [Nat.add_sub_cancel]; assumption)

theorem insPos_above (x : ByteArray) (out : List ByteArray) : ∀ k j, insPos x out k ≤ j → j < k → cmp x (out.getD j ByteArray.empty) < 0
  | 0, j, _, h => by omega
  | k + 1, j, h1, h2 => by
    unfold insPos at h1
    split at h1
    · by_cases e : j = k
      · subst e; assumption
      · exact insPos_above x out k j h1 (by omega)
    · omega

def le (a b : ByteArray) : Prop := cmp a b ≤ 0

theorem le_trans {a b c : ByteArray} (h1 : le a b) (h2 : le b c) : le a c := cmp_tw.le a b c h1 h2

theorem getD_at (l : List ByteArray) (k : Nat) (h : k < l.length) : l.getD k ByteArray.empty = l[k] := by rw [List.getD_eq_getElem?_getD, List.getElem?_eq_getElem h]; rfl

theorem ins_sorted (x : ByteArray) (out : List ByteArray) (h : out.Pairwise le) : (ins x out).Pairwise le := by
  have hle := insPos_le x out out.length
  have hb := insPos_below x out out.length
  have ha := insPos_above x out out.length
  unfold ins
  generalize insPos x out out.length = p at *
  have hp := List.pairwise_iff_getElem.1 h
  have h1 : ∀ a ∈ out.take p, le a x := by
    intro a hm
    obtain ⟨i, hi, rfl⟩ := List.getElem_of_mem hm
    rw [List.length_take] at hi
    rw [List.getElem_take]
    rcases hb with h0 | h0
    · omega
    · rw [getD_at _ _ (by omega)] at h0
      have h2 : le out[p - 1] x := by
        unfold le
        have := cmp_tw.anti out[p - 1] x
        omega
      by_cases e : i = p - 1
      · subst e; exact h2
      · exact le_trans (hp i (p - 1) (by omega) (by omega) (by omega)) h2
  have h2 : ∀ b ∈ out.drop p, le x b := by
    intro b hm
    obtain ⟨i, hi, rfl⟩ := List.getElem_of_mem hm
    rw [List.length_drop] at hi
    rw [List.getElem_drop]
    have := ha (p + i) (by omega) (by omega)
    rw [getD_at _ _ (by omega)] at this
    unfold le; omega
  have h3 : ∀ a ∈ out.take p, ∀ b ∈ out.drop p, le a b := fun a h4 b h5 => le_trans (h1 a h4) (h2 b h5)
  rw [List.append_assoc, List.pairwise_append]
  refine ⟨h.sublist (List.take_sublist _ _), ?_, ?_⟩
  · rw [List.singleton_append, List.pairwise_cons]
    exact ⟨h2, h.sublist (List.drop_sublist _ _)⟩
  · intro a h4 b h5
    rw [List.singleton_append, List.mem_cons] at h5
    rcases h5 with rfl | h5
    · exact h1 a h4
    · exact h3 a h4 b h5

theorem sortTo_sorted (l : List ByteArray) : ∀ k, (sortTo l k).Pairwise le
  | 0 => .nil
  | k + 1 => ins_sorted _ _ (sortTo_sorted l k)

/-- What PathSorted keeps of what it has seen. -/
def Seen (f : ByteArray) (l : List ByteArray) (k : Nat) (st : Int) : Prop :=
  st = 0 ∨ (st = 1 ∧ ∃ j, ∃ h : j < l.length, j < k ∧ under l[j] f = true) ∨ (st = 2 ∧ ∃ j, ∃ h : j < l.length, j < k ∧ under l[j] f = false ∧ cmp f l[j] < 0)

theorem under_after {p f : ByteArray} (h : under p f = true) : cmp f p < 0 := by
  have := cmp_tw.anti p f
  rw [under_cmp h] at this
  omega

theorem seen_in {f : ByteArray} {l : List ByteArray} {k : Nat} {st : Int} (hs : l.Pairwise le) (h : Seen f l k st) (hk : k < l.length) (hu : under l[k] f = true) : st ≠ 2 ∧ Seen f l (k + 1) 1 := by
  refine ⟨?_, .inr (.inl ⟨rfl, k, hk, by omega, hu⟩)⟩
  intro e
  rcases h with h | ⟨h, _⟩ | ⟨_, j, hj, hjk, h1, h2⟩
  · omega
  · omega
  · have h3 := order_last l[k] f l[j] hu h1 h2
    have h4 : le l[j] l[k] := List.pairwise_iff_getElem.1 hs j k hj hk hjk
    unfold le at h4
    have := cmp_tw.anti l[j] l[k]
    omega

theorem seen_out1 {f : ByteArray} {l : List ByteArray} {k : Nat} (hs : l.Pairwise le) (h : Seen f l k 1) (hk : k < l.length) (hu : under l[k] f = false) : Seen f l (k + 1) 2 := by
  rcases h with h | ⟨_, j, hj, hjk, h1⟩ | ⟨h, _⟩
  · omega
  · refine .inr (.inr ⟨rfl, k, hk, by omega, hu, ?_⟩)
    have h2 := under_after h1
    have h4 : le l[j] l[k] := List.pairwise_iff_getElem.1 hs j k hj hk hjk
    by_cases e : cmp l[j] l[k] = 0
    · rw [← (cmp_tw.eq0 _ _).1 e]; exact h2
    · exact cmp_tw.tr f l[j] l[k] h2 (by unfold le at h4; omega)
  · omega

theorem seen_out0 {f : ByteArray} {l : List ByteArray} {k : Nat} (hk : k < l.length) (hu : under l[k] f = false) (h : cmp f l[k] < 0) : Seen f l (k + 1) 2 := .inr (.inr ⟨rfl, k, hk, by omega, hu, h⟩)

theorem seen_stay {f : ByteArray} {l : List ByteArray} {k : Nat} {st : Int} (h : Seen f l k st) : Seen f l (k + 1) st := by
  rcases h with h | ⟨h, j, hj, hjk, h1⟩ | ⟨h, j, hj, hjk, h1, h2⟩
  · exact .inl h
  · exact .inr (.inl ⟨h, j, hj, by omega, h1⟩)
  · exact .inr (.inr ⟨h, j, hj, by omega, h1, h2⟩)

end PathS
end Go.Proofs.YtmcdfikkokbffaaDoor
