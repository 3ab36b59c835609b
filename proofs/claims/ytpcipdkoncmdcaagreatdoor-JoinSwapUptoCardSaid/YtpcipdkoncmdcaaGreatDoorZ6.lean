/- Texts of mine, joined: The order of paths in plain Lean. No program in sight. | The reference's insertion sort of paths. No program in sight. | Walk: slices.Clone over texts. | A struct that fills a block: loaded and stored whole. Of every program. -/
import Derived.Deep.MidRow
import Derived.Test.YtpcipdkoncmdcaaGreatDoorZ5
namespace Go.Proofs.YtpcipdkoncmdcaaGreatDoor
namespace PathS
open Go

/-- A three-way comparing that is an order. -/
structure Tw {α : Type} (f : α → α → Int) : Prop where
  rng : ∀ a b, f a b = -1 ∨ f a b = 0 ∨ f a b = 1
  eq0 : ∀ a b, f a b = 0 ↔ a = b
  anti : ∀ a b, f b a = -f a b
  tr : ∀ a b c, f a b < 0 → f b c < 0 → f a c < 0

theorem Tw.le {α : Type} {f : α → α → Int} (h : Tw f) (a b c : α) (h1 : f a b ≤ 0) (h2 : f b c ≤ 0) : f a c ≤ 0 := by
  by_cases e1 : f a b = 0
  · rw [(h.eq0 a b).1 e1]; exact h2
  · by_cases e2 : f b c = 0
    · rw [← (h.eq0 b c).1 e2]; exact h1
    · have := h.tr a b c (by omega) (by omega); omega

theorem lt_irrefl8 (a : List UInt8) : ¬ a < a := List.lt_irrefl a

theorem cmpB_tw : Tw cmpB where
  rng a b := by unfold cmpB; split; exact .inl rfl; split; exact .inr (.inl rfl); exact .inr (.inr rfl)
  eq0 a b := by
    unfold cmpB
    constructor
    · intro h
      split at h
      · cases h
      · split at h
        · exact ba_ext ‹_›
        · cases h
    · intro h; subst h; rw [if_neg (List.lt_irrefl _), if_pos rfl]
  anti a b := by
    unfold cmpB
    by_cases h1 : a.data.toList < b.data.toList
    · rw [if_pos h1, if_neg (List.lt_asymm h1), if_neg]
      · rfl
      · intro e; rw [e] at h1; exact List.lt_irrefl _ h1
    · by_cases h2 : a.data.toList = b.data.toList
      · rw [h2, if_neg (List.lt_irrefl _), if_pos rfl]; rfl
      · have h3 : b.data.toList < a.data.toList := by
          by_cases h3 : b.data.toList < a.data.toList
          · exact h3
          · exact absurd (List.le_antisymm (List.not_lt.1 h3) (List.not_lt.1 h1)) h2
        rw [if_pos h3, if_neg h1, if_neg h2]
  tr a b c := by
    unfold cmpB
    intro h1 h2
    have e1 : a.data.toList < b.data.toList := by
      by_cases h : a.data.toList < b.data.toList
      · exact h
      · rw [if_neg h] at h1; split at h1 <;> omega
    have e2 : b.data.toList < c.data.toList := by
      by_cases h : b.data.toList < c.data.toList
      · exact h
      · rw [if_neg h] at h2; split at h2 <;> omega
    rw [if_pos (List.lt_trans e1 e2)]; omega

theorem cmpL_rng : ∀ x y, cmpL x y = -1 ∨ cmpL x y = 0 ∨ cmpL x y = 1
  | [], [] => .inr (.inl rfl)
  | [], _ :: _ => .inl rfl
  | _ :: _, [] => .inr (.inr rfl)
  | a :: x, b :: y => by
    unfold cmpL
    split
    · exact cmpL_rng x y
    · exact cmpB_tw.rng a b

theorem cmpL_eq0 : ∀ x y, cmpL x y = 0 ↔ x = y
  | [], [] => by simp [cmpL]
  | [], _ :: _ => by simp [cmpL]
  | _ :: _, [] => by simp [cmpL]
  | a :: x, b :: y => by
    unfold cmpL
    split
    · rename_i h
      rw [cmpL_eq0 x y, (cmpB_tw.eq0 a b).1 h]; simp
    · rename_i h
      constructor
      · intro e; exact absurd e h
      · intro e; injection e with e1 e2; exact absurd ((cmpB_tw.eq0 a b).2 e1) h

theorem cmpL_anti : ∀ x y, cmpL y x = -cmpL x y
  | [], [] => rfl
  | [], _ :: _ => rfl
  | _ :: _, [] => rfl
  | a :: x, b :: y => by
    unfold cmpL
    have h := cmpB_tw.anti a b
    by_cases h0 : cmpB a b = 0
    · rw [if_pos h0, if_pos (by omega), cmpL_anti x y]
    · rw [if_neg h0, if_neg (by omega), h]

theorem cmpL_tr : ∀ x y z, cmpL x y < 0 → cmpL y z < 0 → cmpL x z < 0
  | [], [], z => by intro h; simp [cmpL] at h
  | _ :: _, [], z => by intro h; simp [cmpL] at h
  | x, _ :: _, [] => by intro _ h; simp [cmpL] at h
  | [], _ :: _, _ :: _ => by intro _ _; simp [cmpL]
  | a :: x, b :: y, c :: z => by
    unfold cmpL
    intro h1 h2
    by_cases e1 : cmpB a b = 0
    · rw [if_pos e1] at h1
      have := (cmpB_tw.eq0 a b).1 e1
      subst this
      by_cases e2 : cmpB a c = 0
      · rw [if_pos e2] at h2 ⊢
        exact cmpL_tr x y z h1 h2
      · rw [if_neg e2] at h2 ⊢
        exact h2
    · rw [if_neg e1] at h1
      by_cases e2 : cmpB b c = 0
      · have := (cmpB_tw.eq0 b c).1 e2
        subst this
        rw [if_neg e1]; exact h1
      · rw [if_neg e2] at h2
        have := cmpB_tw.tr a b c h1 h2
        rw [if_neg (by omega)]; exact this

theorem cmpL_tw : Tw cmpL := ⟨cmpL_rng, cmpL_eq0, cmpL_anti, cmpL_tr⟩

/-- Pieces put together again. -/
def joinL : List (List UInt8) → List UInt8
  | [] => []
  | [a] => a
  | a :: b :: l => a ++ 47 :: joinL (b :: l)

theorem piecesA_ne (cur l : List UInt8) : piecesA cur l ≠ [] := by
  induction l generalizing cur with
  | nil => simp [piecesA]
  | cons c l ih => unfold piecesA; split; simp; exact ih _

theorem joinL_piecesA : ∀ (l cur : List UInt8), joinL (piecesA cur l) = cur ++ l
  | [], cur => by simp [piecesA, joinL]
  | c :: l, cur => by
    unfold piecesA
    split
    · rename_i h
      subst h
      obtain ⟨b, r, hb⟩ := List.exists_cons_of_ne_nil (piecesA_ne [] l)
      have := joinL_piecesA l []
      rw [hb] at this ⊢
      rw [joinL, this]; simp
    · rw [joinL_piecesA l _]; simp

theorem joinL_append : ∀ (a b : List (List UInt8)), a ≠ [] → b ≠ [] → joinL (a ++ b) = joinL a ++ 47 :: joinL b
  | [], _, h, _ => absurd rfl h
  | [x], b, _, h => by
    obtain ⟨c, r, rfl⟩ := List.exists_cons_of_ne_nil h
    simp [joinL]
  | x :: y :: l, b, _, h => by
    have := joinL_append (y :: l) b (by simp) h
    simp only [List.cons_append, joinL] at this ⊢
    rw [this]; simp

theorem piecesA_append : ∀ (f r cur : List UInt8), piecesA cur (f ++ 47 :: r) = piecesA cur f ++ piecesA [] r
  | [], r, cur => by simp [piecesA]
  | c :: f, r, cur => by
    simp only [List.cons_append, piecesA]
    split
    · rw [piecesA_append f r []]; simp
    · exact piecesA_append f r _

def pl (s : ByteArray) : List (List UInt8) := if s.size = 0 then [] else piecesA [] s.data.toList

theorem spl_map (s : ByteArray) : spl s = (pl s).map mkB := by unfold spl pl; split <;> simp [pcs]

theorem joinL_pl (s : ByteArray) : joinL (pl s) = s.data.toList := by
  unfold pl
  split
  · rename_i h
    rw [List.eq_nil_of_length_eq_zero (l := s.data.toList) (by rw [← Lib.size_eq]; exact h)]; rfl
  · rw [joinL_piecesA]; rfl

theorem mkB_inj {a b : List UInt8} (h : mkB a = mkB b) : a = b := by rw [← data_mkB a, ← data_mkB b, h]

theorem pl_inj {a b : ByteArray} (h : pl a = pl b) : a = b := ba_ext (by rw [← joinL_pl a, ← joinL_pl b, h])

theorem spl_inj {a b : ByteArray} (h : spl a = spl b) : a = b := by
  rw [spl_map, spl_map] at h
  exact pl_inj (List.map_inj_right (fun _ _ e => mkB_inj e) |>.1 h)

theorem cmp_eq (a b : ByteArray) : cmp a b = cmpL (spl a) (spl b) := by rw [cmp, split_spl, split_spl]

theorem cmp_tw : Tw cmp where
  rng a b := by rw [cmp_eq]; exact cmpL_rng _ _
  eq0 a b := by
    rw [cmp_eq, cmpL_eq0]
    exact ⟨spl_inj, fun h => by rw [h]⟩
  anti a b := by rw [cmp_eq, cmp_eq]; exact cmpL_anti _ _
  tr a b c := by rw [cmp_eq, cmp_eq, cmp_eq]; exact cmpL_tr _ _ _

/-- What lies under a folder that isn't empty: its pieces go on. -/
theorem under_spl (p f : ByteArray) : under p f = true ↔ ∃ R, R ≠ [] ∧ spl p = spl f ++ R := by
  unfold under
  by_cases hf : f.size = 0
  · rw [if_pos hf]
    have hs : spl f = [] := by simp [spl, hf]
    rw [hs]
    by_cases hp : p.size = 0
    · have hs2 : spl p = [] := by simp [spl, hp]
      rw [hs2]
      simp [hp]
    · simp only [ne_eq, hp, not_false_eq_true, decide_true, true_iff, List.nil_append]
      exact ⟨spl p, by unfold spl; rw [if_neg hp]; simp [pcs, piecesA_ne], rfl⟩
  · rw [if_neg hf]
    have hpf : pl f = piecesA [] f.data.toList := by simp [pl, hf]
    rw [List.isPrefixOf_iff_prefix]
    constructor
    · rintro ⟨r, hr⟩
      have hr : f.data.toList ++ 47 :: r = p.data.toList := by rw [← hr]; simp
      have hp : ¬ p.size = 0 := by rw [Lib.size_eq, ← hr]; simp
      refine ⟨(piecesA [] r).map mkB, by simp [piecesA_ne], ?_⟩
      rw [spl_map, spl_map, hpf, pl, if_neg hp, ← hr, piecesA_append, List.map_append]
    · rintro ⟨R, hR, h⟩
      rw [spl_map, spl_map] at h
      have h2 : pl p = pl f ++ R.map (fun b => b.data.toList) := by
        have := congrArg (List.map (fun b : ByteArray => b.data.toList)) h
        simpa [List.map_map, Function.comp_def, data_mkB] using this
      have h3 := congrArg joinL h2
      rw [joinL_pl, joinL_append _ _ (by rw [hpf]; exact piecesA_ne _ _) (by simpa using hR), joinL_pl] at h3
      exact ⟨joinL (R.map (fun b => b.data.toList)), by rw [h3]; simp⟩

theorem cmpL_longer : ∀ (A R : List ByteArray), R ≠ [] → cmpL (A ++ R) A = 1
  | [], R, h => by obtain ⟨a, r, rfl⟩ := List.exists_cons_of_ne_nil h; rfl
  | a :: A, R, h => by
    simp only [List.cons_append, cmpL]
    rw [if_pos ((cmpB_tw.eq0 a a).2 rfl)]
    exact cmpL_longer A R h

theorem under_cmp {p f : ByteArray} (h : under p f = true) : cmp p f = 1 := by
  obtain ⟨R, hR, e⟩ := (under_spl p f).1 h
  rw [cmp_eq, e]; exact cmpL_longer _ _ hR

theorem cmpL_beyond : ∀ (B C : List ByteArray), cmpL B C = -1 → (∃ R, R ≠ [] ∧ C = B ++ R) ∨ ∀ r, cmpL (B ++ r) C = -1
  | [], [], h => by simp [cmpL] at h
  | [], c :: C, _ => .inl ⟨c :: C, by simp, rfl⟩
  | _ :: _, [], h => by simp [cmpL] at h
  | b :: B, c :: C, h => by
    unfold cmpL at h
    by_cases e : cmpB b c = 0
    · rw [if_pos e] at h
      have := (cmpB_tw.eq0 b c).1 e
      subst this
      rcases cmpL_beyond B C h with ⟨R, hR, rfl⟩ | h2
      · exact .inl ⟨R, hR, rfl⟩
      · refine .inr fun r => ?_
        simp only [List.cons_append, cmpL]
        rw [if_pos e]; exact h2 r
    · rw [if_neg e] at h
      refine .inr fun r => ?_
      simp only [List.cons_append, cmpL]
      rw [if_neg e]; exact h

/-- The last line of the law. -/
theorem order_last (a b c : ByteArray) (h1 : under a b = true) (h2 : under c b = false) (h3 : cmp b c < 0) : cmp a c < 0 := by
  obtain ⟨R, hR, e⟩ := (under_spl a b).1 h1
  rw [cmp_eq] at h3 ⊢
  have h3' : cmpL (spl b) (spl c) = -1 := by rcases cmpL_rng (spl b) (spl c) with h | h | h <;> omega
  rcases cmpL_beyond _ _ h3' with ⟨R', hR', e'⟩ | h
  · have := (under_spl c b).2 ⟨R', hR', e'⟩
    rw [this] at h2; cases h2
  · rw [e, h]; omega

end PathS
end Go.Proofs.YtpcipdkoncmdcaaGreatDoor
namespace Go.Proofs.YtpcipdkoncmdcaaGreatDoor
namespace PathS

/-- Where x is put into out, searched from place k down. -/
def insPos (x : ByteArray) (out : List ByteArray) : Nat → Nat
  | 0 => 0
  | k + 1 => if cmp x (out.getD k ByteArray.empty) < 0 then insPos x out k else k + 1

def ins (x : ByteArray) (out : List ByteArray) : List ByteArray := out.take (insPos x out out.length) ++ [x] ++ out.drop (insPos x out out.length)

def sortTo (l : List ByteArray) : Nat → List ByteArray
  | 0 => []
  | k + 1 => ins (l.getD k ByteArray.empty) (sortTo l k)

theorem insPos_le (x : ByteArray) (out : List ByteArray) : ∀ k, insPos x out k ≤ k
  | 0 => Nat.le_refl _
  | k + 1 => by unfold insPos; split; have := insPos_le x out k; omega; omega

theorem ins_length (x : ByteArray) (out : List ByteArray) : (ins x out).length = out.length + 1 := by
  have := insPos_le x out out.length
  simp [ins]; omega

theorem sortTo_length (l : List ByteArray) : ∀ k, (sortTo l k).length = k
  | 0 => rfl
  | k + 1 => by rw [sortTo, ins_length, sortTo_length]

theorem ins_mem (x y : ByteArray) (out : List ByteArray) : y ∈ ins x out ↔ y = x ∨ y ∈ out := by
  conv => rhs; rhs; rw [← List.take_append_drop (insPos x out out.length) out]
  unfold ins
  simp only [List.mem_append, List.mem_singleton]
  constructor
  · rintro ((h | h) | h)
    · exact .inr (.inl h)
    · exact .inl h
    · exact .inr (.inr h)
  · rintro (h | h | h)
    · exact .inl (.inr h)
    · exact .inl (.inl h)
    · exact .inr h

theorem sortTo_mem (l : List ByteArray) (y : ByteArray) : ∀ k, k ≤ l.length → (y ∈ sortTo l k ↔ y ∈ l.take k)
  | 0, _ => by simp [sortTo]
  | k + 1, h => by
    have hd : l.getD k ByteArray.empty = l[k] := by rw [List.getD_eq_getElem?_getD, List.getElem?_eq_getElem (by omega)]; rfl
    rw [sortTo, ins_mem, sortTo_mem l y k (by omega), hd]
    have ht : l.take (k + 1) = l.take k ++ [l[k]] := List.take_succ_eq_append_getElem (by omega)
    rw [ht, List.mem_append, List.mem_singleton, or_comm]

theorem insPos_below (x : ByteArray) (out : List ByteArray) : ∀ k, insPos x out k = 0 ∨ ¬ cmp x (out.getD (insPos x out k - 1) ByteArray.empty) < 0
  | 0 => .inl rfl
  | k + 1 => by
    unfold insPos
    split
    · exact insPos_below x out k
    · exact .inr (by rw [Nat.add_sub_cancel]; assumption)

theorem insPos_above (x : ByteArray) (out : List ByteArray) : ∀ k j, insPos x out k ≤ j → j < k → cmp x (out.getD j ByteArray.empty) < 0
  | 0, j, _, h => by omega
  | k + 1, j, h1, h2 => by
    unfold insPos at h1
    split at h1
    · by_cases e : j = k
      · subst e; assumption
      · exact insPos_above x out k j h1 (by omega)
    · omega

def le (a b : ByteArray) : Prop := cmp a b ≤ 0

theorem le_trans {a b c : ByteArray} (h1 : le a b) (h2 : le b c) : le a c := cmp_tw.le a b c h1 h2

theorem getD_at (l : List ByteArray) (k : Nat) (h : k < l.length) : l.getD k ByteArray.empty = l[k] := by rw [List.getD_eq_getElem?_getD, List.getElem?_eq_getElem h]; rfl

theorem ins_sorted (x : ByteArray) (out : List ByteArray) (h : out.Pairwise le) : (ins x out).Pairwise le := by
  have hle := insPos_le x out out.length
  have hb := insPos_below x out out.length
  have ha := insPos_above x out out.length
  unfold ins
  generalize insPos x out out.length = p at *
  have hp := List.pairwise_iff_getElem.1 h
  have h1 : ∀ a ∈ out.take p, le a x := by
    intro a hm
    obtain ⟨i, hi, rfl⟩ := List.getElem_of_mem hm
    rw [List.length_take] at hi
    rw [List.getElem_take]
    rcases hb with h0 | h0
    · omega
    · rw [getD_at _ _ (by omega)] at h0
      have h2 : le out[p - 1] x := by
        unfold le
        have := cmp_tw.anti out[p - 1] x
        omega
      by_cases e : i = p - 1
      · subst e; exact h2
      · exact le_trans (hp i (p - 1) (by omega) (by omega) (by omega)) h2
  have h2 : ∀ b ∈ out.drop p, le x b := by
    intro b hm
    obtain ⟨i, hi, rfl⟩ := List.getElem_of_mem hm
    rw [List.length_drop] at hi
    rw [List.getElem_drop]
    have := ha (p + i) (by omega) (by omega)
    rw [getD_at _ _ (by omega)] at this
    unfold le; omega
  have h3 : ∀ a ∈ out.take p, ∀ b ∈ out.drop p, le a b := fun a h4 b h5 => le_trans (h1 a h4) (h2 b h5)
  rw [List.append_assoc, List.pairwise_append]
  refine ⟨h.sublist (List.take_sublist _ _), ?_, ?_⟩
  · rw [List.singleton_append, List.pairwise_cons]
    exact ⟨h2, h.sublist (List.drop_sublist _ _)⟩
  · intro a h4 b h5
    rw [List.singleton_append, List.mem_cons] at h5
    rcases h5 with rfl | h5
    · exact h1 a h4
    · exact h3 a h4 b h5

theorem sortTo_sorted (l : List ByteArray) : ∀ k, (sortTo l k).Pairwise le
  | 0 => .nil
  | k + 1 => ins_sorted _ _ (sortTo_sorted l k)

/-- What PathSorted keeps of what it has seen. -/
def Seen (f : ByteArray) (l : List ByteArray) (k : Nat) (st : Int) : Prop :=
  st = 0 ∨ (st = 1 ∧ ∃ j, ∃ h : j < l.length, j < k ∧ under l[j] f = true) ∨ (st = 2 ∧ ∃ j, ∃ h : j < l.length, j < k ∧ under l[j] f = false ∧ cmp f l[j] < 0)

theorem under_after {p f : ByteArray} (h : under p f = true) : cmp f p < 0 := by
  have := cmp_tw.anti p f
  rw [under_cmp h] at this
  omega

theorem seen_in {f : ByteArray} {l : List ByteArray} {k : Nat} {st : Int} (hs : l.Pairwise le) (h : Seen f l k st) (hk : k < l.length) (hu : under l[k] f = true) : st ≠ 2 ∧ Seen f l (k + 1) 1 := by
  refine ⟨?_, .inr (.inl ⟨rfl, k, hk, by omega, hu⟩)⟩
  intro e
  rcases h with h | ⟨h, _⟩ | ⟨_, j, hj, hjk, h1, h2⟩
  · omega
  · omega
  · have h3 := order_last l[k] f l[j] hu h1 h2
    have h4 : le l[j] l[k] := List.pairwise_iff_getElem.1 hs j k hj hk hjk
    unfold le at h4
    have := cmp_tw.anti l[j] l[k]
    omega

theorem seen_out1 {f : ByteArray} {l : List ByteArray} {k : Nat} (hs : l.Pairwise le) (h : Seen f l k 1) (hk : k < l.length) (hu : under l[k] f = false) : Seen f l (k + 1) 2 := by
  rcases h with h | ⟨_, j, hj, hjk, h1⟩ | ⟨h, _⟩
  · omega
  · refine .inr (.inr ⟨rfl, k, hk, by omega, hu, ?_⟩)
    have h2 := under_after h1
    have h4 : le l[j] l[k] := List.pairwise_iff_getElem.1 hs j k hj hk hjk
    by_cases e : cmp l[j] l[k] = 0
    · rw [← (cmp_tw.eq0 _ _).1 e]; exact h2
    · exact cmp_tw.tr f l[j] l[k] h2 (by unfold le at h4; omega)
  · omega

theorem seen_out0 {f : ByteArray} {l : List ByteArray} {k : Nat} (hk : k < l.length) (hu : under l[k] f = false) (h : cmp f l[k] < 0) : Seen f l (k + 1) 2 := .inr (.inr ⟨rfl, k, hk, by omega, hu, h⟩)

theorem seen_stay {f : ByteArray} {l : List ByteArray} {k : Nat} {st : Int} (h : Seen f l k st) : Seen f l (k + 1) st := by
  rcases h with h | ⟨h, j, hj, hjk, h1⟩ | ⟨h, j, hj, hjk, h1, h2⟩
  · exact .inl h
  · exact .inr (.inl ⟨h, j, hj, by omega, h1⟩)
  · exact .inr (.inr ⟨h, j, hj, by omega, h1, h2⟩)

end PathS
end Go.Proofs.YtpcipdkoncmdcaaGreatDoor
namespace Go.Proofs.YtpcipdkoncmdcaaGreatDoor
open Go Go.RowKit

theorem clone_c (a : Option Addr) (c : Nat) (l : List ByteArray) (w : World) (hs : Sl w a (l.map Value.string)) (hc0 : a = none → c = 0) (hl : l.length ≤ 10000000) :
    Calls Tryz.prog 128 #[.slice a l.length c] w fun e w' => ∃ v', e = .returned v' ∧ w'.ownsRow w.heap.size 9 1 v' l.length (l.map Value.string) ∧ Below w.heap.size w w' := by
  by_cases h0 : l = []
  · subst h0
    cases a with
    | none =>
      refine (Tryz.slices_Clone_string_nil 0 c w).mono ?_
      rintro e w' ⟨rfl, rfl⟩
      exact ⟨_, rfl, World.ownsRow_nil _ _ _ _, Below.refl _ _⟩
    | some ad =>
      refine (Tryz.slices_Clone_string_zero ad c w).mono ?_
      rintro e w' ⟨v', rfl, h1, _, h2⟩
      exact ⟨_, rfl, h1, h2⟩
  · obtain ⟨b, o, rfl, hlt, hcell⟩ := hs.at (k := 0) (by simpa using List.length_pos_iff.2 h0)
    refine (Tryz.slices_Clone_string b o l.length c l w (Nat.le_refl _) (by omega) (fun j hj => by rw [hcell j (by simpa using hj), List.getElem_map, PathS.getD_at l j hj])).mono ?_
    rintro e w' ⟨v', rfl, h1, _, h2⟩
    rw [List.take_length] at h1
    exact ⟨_, rfl, h1, h2⟩
end Go.Proofs.YtpcipdkoncmdcaaGreatDoor
namespace Go.Proofs.YtpcipdkoncmdcaaGreatDoor
open Go Go.RowKit

section
variable {P : Program} {ops : Array Oper} {rest : List Oper} {op : Oper} {a : Act} {w : World} {Q : Exit → Act → World → Prop}

/-- The whole block is loaded. -/
theorem wp_loadB (hgd : op.guard = none) (ty : TypeId) (x : Operand) (ho : op.op = .load ty x) (b : Nat) (hx : a.eval x = .pointer (some ⟨b, 0, none⟩)) {cs : Array Value} {e : TypeId} {fr : Nat × Nat} (hb : w.heap[b]? = some (.cells cs e fr)) (d : TypeDesc)
    (hu : P.underlying ty = some d) (hd : d.isRow = true) (hi : (P.info? ty).map (·.size) = some cs.toList.length) (h : wpList P ops Q rest (a.put op.dst (.agg cs)) w) : wpList P ops Q (op :: rest) a w :=
  wpList_load_mid hgd ty x ho b 0 hx cs.toList d (fun j v hj => by
    rw [Nat.zero_add]; simp only [World.cell?, hb]; rw [← Array.getElem?_toList]; exact hj) hu hd hi h

/-- The whole block is stored. -/
theorem wp_storeB (hgd : op.guard = none) (ty : TypeId) (x y : Operand) (ho : op.op = .store ty x y) (b : Nat) (new : Array Value) (hx : a.eval x = .pointer (some ⟨b, 0, none⟩)) (hy : a.eval y = .agg new) {old : Array Value} {e : TypeId} (hb : w.heap[b]? = some (.cells old e (0, 0)))
    (hsz : old.size = new.size) (hi : (P.info? ty).map (·.size) = some new.size) (h1 : new.all (·.oneCell') = true)
    (h : ∀ w' : World, w'.heap[b]? = some (.cells new e (0, 0)) → w.grownBy w' (some b) → wpList P ops Q rest (a.put op.dst undef) w') : wpList P ops Q (op :: rest) a w := by
  refine wpList_store_mid hgd ty x y ho b 0 new hx hy (fun j hj => ⟨?_, ?_⟩) hi h1 ?_
  · simp only [World.cell?, hb, Nat.zero_add]
    rw [Array.getElem?_eq_getElem (by omega)]; rfl
  · simp [World.frozen?, hb]
  · obtain ⟨cur', c1, c2, c3⟩ := setCells_block b new.toList 0 w old e (0, 0) hb (by simp; omega)
    have : cur' = new := by
      apply Array.ext_getElem?
      intro i
      rw [c3]
      by_cases hi : i < new.size
      · rw [if_pos (by simp; omega), Nat.sub_zero, Array.getElem?_toList]
      · rw [if_neg (by simp; omega), Array.getElem?_eq_none (by omega), Array.getElem?_eq_none (by omega)]
    subst this
    exact h _ c1 (setCells_grown w b 0 _)
end
end Go.Proofs.YtpcipdkoncmdcaaGreatDoor
