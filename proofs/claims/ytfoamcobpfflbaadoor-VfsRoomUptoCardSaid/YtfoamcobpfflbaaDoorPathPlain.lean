/- Paths in plain Lean, second part: cutting at '/'. No program in sight. -/
import Derived.Test.YtfoamcobpfflbaaDoorPathSpec
import Derived.Lib.Split
import Derived.Lib.SplitLaws
import Derived.Lib.CountLaws
import Derived.Lib.CutLaws
import Derived.Lib.Strings
namespace Go.Proofs.YtfoamcobpfflbaaDoor
namespace PathS
open Go

def mkB (l : List UInt8) : ByteArray := ⟨l.toArray⟩
theorem mkB_data (s : ByteArray) : mkB s.data.toList = s := by cases s; simp [mkB]
theorem data_mkB (l : List UInt8) : (mkB l).data.toList = l := by simp [mkB]
theorem mkB_size (l : List UInt8) : (mkB l).size = l.length := by rw [Lib.size_eq, data_mkB]
theorem ba_ext {a b : ByteArray} (h : a.data.toList = b.data.toList) : a = b := by rw [← mkB_data a, ← mkB_data b, h]

def piecesA (cur : List UInt8) : List UInt8 → List (List UInt8)
  | [] => [cur]
  | c :: l => if c = 47 then cur :: piecesA [] l else piecesA (cur ++ [c]) l

def pcs (s : ByteArray) : List ByteArray := (piecesA [] s.data.toList).map mkB
def spl (s : ByteArray) : List ByteArray := if s.size = 0 then [] else pcs s

theorem piecesA_none : ∀ (l cur : List UInt8), 47 ∉ l → piecesA cur l = [cur ++ l]
  | [], cur, _ => by simp [piecesA]
  | c :: l, cur, h => by
    simp only [List.mem_cons, not_or] at h
    rw [piecesA, if_neg (fun e => h.1 e.symm), piecesA_none l _ h.2]; simp

theorem piecesA_cut : ∀ (p q cur : List UInt8), 47 ∉ p → piecesA cur (p ++ 47 :: q) = (cur ++ p) :: piecesA [] q
  | [], q, cur, _ => by simp [piecesA]
  | c :: p, q, cur, h => by
    simp only [List.mem_cons, not_or] at h
    rw [List.cons_append, piecesA, if_neg (fun e => h.1 e.symm), piecesA_cut p q _ h.2]; simp

theorem index_none : ∀ {l : List UInt8}, Lib.index l [47] = -1 → 47 ∉ l
  | [], _ => by simp
  | c :: l, h => by
    unfold Lib.index at h
    have hp : List.isPrefixOf [47] (c :: l) = (47 == c) := by simp [List.isPrefixOf]
    rw [hp] at h
    by_cases hc : c = 47
    · subst hc; simp at h
    · have : ((47 : UInt8) == c) = false := by simp; exact fun e => hc e.symm
      rw [this] at h
      have hg := Lib.index_ge l [47]
      by_cases hl : Lib.index l [47] = -1
      · have := index_none hl
        simp only [List.mem_cons, not_or]
        exact ⟨fun e => hc e.symm, this⟩
      · have h2 : (Lib.index l [47] == -1) = false := by simpa using hl
        rw [h2] at h
        simp at h
        omega

theorem index_some : ∀ {l : List UInt8} {i : Nat}, Lib.index l [47] = i → 47 ∉ l.take i ∧ l = l.take i ++ 47 :: l.drop (i + 1)
  | [], i, h => by simp [Lib.index] at h
  | c :: l, i, h => by
    unfold Lib.index at h
    have hp : List.isPrefixOf [47] (c :: l) = (47 == c) := by simp [List.isPrefixOf]
    rw [hp] at h
    by_cases hc : c = 47
    · subst hc
      simp at h
      have : i = 0 := by omega
      subst this
      simp
    · have : ((47 : UInt8) == c) = false := by simp; exact fun e => hc e.symm
      rw [this] at h
      have hg := Lib.index_ge l [47]
      by_cases hl : Lib.index l [47] = -1
      · rw [hl] at h; simp at h
      · have h2 : (Lib.index l [47] == -1) = false := by simpa using hl
        rw [h2] at h
        simp at h
        obtain ⟨j, rfl⟩ : ∃ j, i = j + 1 := ⟨i - 1, by omega⟩
        obtain ⟨a, b⟩ := index_some (l := l) (i := j) (by omega)
        refine ⟨?_, ?_⟩
        · simp only [List.take_succ_cons, List.mem_cons, not_or]
          exact ⟨fun e => hc e.symm, a⟩
        · simp only [List.take_succ_cons, List.cons_append, List.drop_succ_cons]
          rw [← b]

theorem extract_list (s : ByteArray) (i j : Nat) : (s.extract i j).data.toList = (s.data.toList.take j).drop i := by
  rw [ByteArray.data_extract, Array.toList_extract, List.extract_eq_take_drop, ← List.drop_take]

theorem splitB_pcs : ∀ (n : Nat) (s : ByteArray), s.size ≤ n → Lib.splitB ⟨#[47]⟩ 0 (Lib.countB s ⟨#[47]⟩) s = pcs s := by
  intro n
  induction n with
  | zero =>
    intro s h
    have h0 : s.data.toList = [] := List.eq_nil_of_length_eq_zero (by rw [← Lib.size_eq]; omega)
    have hs : s = ByteArray.empty := ba_ext (by rw [h0]; rfl)
    subst hs
    rfl
  | succ n ih =>
    intro s h
    rcases Lib.indexB_cases s ⟨#[47]⟩ with h1 | ⟨i, h1, h2⟩
    · rw [Lib.splitB_miss _ _ _ _ h1]
      have : 47 ∉ s.data.toList := index_none h1
      rw [pcs, piecesA_none _ _ this]
      simp [mkB_data]
    · have hsz : (⟨#[47]⟩ : ByteArray).size = 1 := rfl
      rw [hsz] at h2
      rw [Lib.countB_hit s ⟨#[47]⟩ i (by rw [hsz]; omega) h1, Nat.add_comm 1, Lib.splitB]
      have hne : (Lib.indexB s ⟨#[47]⟩ == -1) = false := by rw [h1]; simp
      rw [hne, h1, hsz]
      simp only [Bool.false_eq_true, if_false, Int.toNat_natCast, Nat.add_zero]
      have hsz2 : (s.extract (i + 1) s.size).size ≤ n := by rw [Lib.size_eq, extract_list, List.length_drop, List.length_take, ← Lib.size_eq]; omega
      rw [ih _ hsz2]
      obtain ⟨a, b⟩ := index_some (l := s.data.toList) h1
      conv => rhs; rw [pcs, b]
      rw [piecesA_cut _ _ _ a]
      simp only [List.map_cons, List.nil_append, pcs]
      congr 1
      · apply ba_ext; rw [extract_list, data_mkB]; simp
      · congr 2
        rw [extract_list, List.take_of_length_le (by rw [← Lib.size_eq]; omega)]

theorem splitTo_pcs (s : ByteArray) : ∀ k, k ≤ s.size → piecesA [] s.data.toList = (splitTo s k).1.map (fun b => b.data.toList) ++ piecesA ((s.data.toList.take k).drop (splitTo s k).2) (s.data.toList.drop k) := by
  intro k
  induction k with
  | zero => intro _; simp [splitTo]
  | succ k ih =>
    intro hk
    have hlt : k < s.size := by omega
    rw [ih (by omega), drop_at s k hlt, piecesA]
    have hget : s[k]! = s[k] := getElem!_pos s k hlt
    have hle := splitTo_le s k
    have htake : s.data.toList.take (k + 1) = s.data.toList.take k ++ [s[k]] := by
      rw [List.take_succ_eq_append_getElem (by simpa using hlt)]; rfl
    by_cases hc : s[k] = 47
    · rw [if_pos hc]
      have : splitTo s (k + 1) = ((splitTo s k).1 ++ [s.extract (splitTo s k).2 k], k + 1) := by rw [splitTo, if_pos (.inr (by rw [hget]; exact hc))]
      rw [this]
      simp only [List.map_append, List.map_cons, List.map_nil, List.append_assoc, List.cons_append, List.nil_append, extract_list]
      rw [List.drop_eq_nil_of_le (as := List.take (k + 1) s.data.toList) (by rw [List.length_take]; omega)]
    · rw [if_neg hc]
      have : splitTo s (k + 1) = splitTo s k := by rw [splitTo, if_neg (by rw [hget]; simp [hc]; omega)]
      rw [this, htake, List.drop_append_of_le_length (by rw [List.length_take, ← Lib.size_eq]; omega)]

theorem split_spl (s : ByteArray) : split s = spl s := by
  unfold split spl
  split
  · rfl
  · have h := splitTo_pcs s s.size (Nat.le_refl _)
    rw [splitTo, if_pos (.inl rfl)]
    simp only [pcs]
    rw [h, List.drop_eq_nil_of_le (as := s.data.toList) (by rw [← Lib.size_eq]; omega)]
    simp only [piecesA, List.map_append, List.map_map, List.map_cons, List.map_nil]
    congr 1
    · have e : (mkB ∘ fun b => b.data.toList) = id := funext mkB_data
      rw [e, List.map_id]
    · rw [← extract_list, mkB_data]

theorem piecesA_size : ∀ (l cur x : List UInt8), x ∈ piecesA cur l → x.length ≤ cur.length + l.length
  | [], cur, x, h => by simp [piecesA] at h; subst h; simp
  | c :: l, cur, x, h => by
    unfold piecesA at h
    split at h
    · rcases List.mem_cons.1 h with h | h
      · subst h; simp
      · have := piecesA_size l [] x h; simp at this ⊢; omega
    · have := piecesA_size l _ x h; simp at this ⊢; omega

theorem spl_size (s x : ByteArray) (h : x ∈ spl s) : x.size ≤ s.size := by
  unfold spl at h
  split at h
  · cases h
  · unfold pcs at h
    obtain ⟨l, hl, rfl⟩ := List.mem_map.1 h
    have := piecesA_size _ _ _ hl
    rw [mkB_size, Lib.size_eq]
    simpa using this

theorem pre_iff (p f : ByteArray) (h : f.size < p.size) : (f.data.toList ++ [47]).isPrefixOf p.data.toList = ((p.extract 0 f.size).toList == f.toList && ((p[f.size].toNat : Int) == 47)) := by
  have hd := drop_at p f.size h
  have hp : p.data.toList = p.data.toList.take f.size ++ p[f.size] :: p.data.toList.drop (f.size + 1) := by rw [← hd, List.take_append_drop]
  have ht : (p.data.toList.take f.size).length = f.data.toList.length := by rw [List.length_take, ← Lib.size_eq, ← Lib.size_eq]; omega
  rw [Lib.toList_data, Lib.toList_data, extract_list, List.drop_zero, Bool.eq_iff_iff, List.isPrefixOf_iff_prefix, Bool.and_eq_true, beq_iff_eq, beq_iff_eq]
  constructor
  · rintro ⟨r, hr⟩
    rw [hp, List.append_assoc] at hr
    obtain ⟨h1, h2⟩ := List.append_inj hr ht.symm
    refine ⟨h1.symm, ?_⟩
    injection h2 with h2 _
    rw [← h2]; rfl
  · rintro ⟨h1, h2⟩
    have h3 : p[f.size] = 47 := UInt8.toNat_inj.1 (by have : ((47 : UInt8).toNat : Int) = 47 := rfl; omega)
    exact ⟨p.data.toList.drop (f.size + 1), by conv => rhs; rw [hp, h1, h3]
                                               simp⟩

end PathS
end Go.Proofs.YtfoamcobpfflbaaDoor
