/- Texts of mine, joined: Paths in plain Lean, second part: cutting at '/'. No program in sight. | A text has a rune that no name has just if it has such a byte. No program in sight. | Walks of package path's functions that look at one path or two. | Walks: comparing, lying under, parents, and the filter 'valid'. -/
import Derived.Lib.Split
import Derived.Lib.SplitLaws
import Derived.Lib.CountLaws
import Derived.Lib.CutLaws
import Derived.Lib.Strings
import Derived.Lib.MapLaws
import Derived.Shelf.GgClosure.StringsIndexFunc
import Derived.Test.YtpcipdkoncmdcaaGreatDoorShelf
import Derived.Sort.Walk0
import Derived.Test.YtpcipdkoncmdcaaGreatDoorYJoinMerges2
namespace Go.Proofs.YtpcipdkoncmdcaaGreatDoor
namespace PathS
open Go
def mkB (l : List UInt8) : ByteArray := ⟨l.toArray⟩
theorem mkB_data (s : ByteArray) : mkB s.data.toList = s := by cases s; simp [mkB]
theorem data_mkB (l : List UInt8) : (mkB l).data.toList = l := by simp [mkB]
theorem mkB_size (l : List UInt8) : (mkB l).size = l.length := by rw [Lib.size_eq, data_mkB]
theorem ba_ext {a b : ByteArray} (h : a.data.toList = b.data.toList) : a = b := by rw [← mkB_data a, ← mkB_data b, h]

def piecesA (cur : List UInt8) : List UInt8 → List (List UInt8)
  | [] => [cur]
  | c :: l => if c = 47 then cur :: piecesA [] l else piecesA (cur ++ [c]) l

def pcs (s : ByteArray) : List ByteArray := (piecesA [] s.data.toList).map mkB
def spl (s : ByteArray) : List ByteArray := if s.size = 0 then [] else pcs s

theorem piecesA_none : ∀ (l cur : List UInt8), 47 ∉ l → piecesA cur l = [cur ++ l]
  | [], cur, _ => by simp [piecesA]
  | c :: l, cur, h => by
    simp only [List.mem_cons, not_or] at h
    rw [piecesA, if_neg (fun e => h.1 e.symm), piecesA_none l _ h.2]; simp

theorem piecesA_cut : ∀ (p q cur : List UInt8), 47 ∉ p → piecesA cur (p ++ 47 :: q) = (cur ++ p) :: piecesA [] q
  | [], q, cur, _ => by simp [piecesA]
  | c :: p, q, cur, h => by
    simp only [List.mem_cons, not_or] at h
    rw [List.cons_append, piecesA, if_neg (fun e => h.1 e.symm), piecesA_cut p q _ h.2]; simp

theorem index_none : ∀ {l : List UInt8}, Lib.index l [47] = -1 → 47 ∉ l
  | [], _ => by simp
  | c :: l, h => by
    unfold Lib.index at h
    have hp : List.isPrefixOf [47] (c :: l) = (47 == c) := by simp [List.isPrefixOf]
    rw [hp] at h
    by_cases hc : c = 47
    · subst hc; simp at h
    · have : ((47 : UInt8) == c) = false := by simp; exact fun e => hc e.symm
      rw [this] at h
      have hg := Lib.index_ge l [47]
      by_cases hl : Lib.index l [47] = -1
      · have := index_none hl
        simp only [List.mem_cons, not_or]
        exact ⟨fun e => hc e.symm, this⟩
      · have h2 : (Lib.index l [47] == -1) = false := by simpa using hl
        rw [h2] at h
        simp at h
        omega

theorem index_some : ∀ {l : List UInt8} {i : Nat}, Lib.index l [47] = i → 47 ∉ l.take i ∧ l = l.take i ++ 47 :: l.drop (i + 1)
  | [], i, h => by simp [Lib.index] at h
  | c :: l, i, h => by
    unfold Lib.index at h
    have hp : List.isPrefixOf [47] (c :: l) = (47 == c) := by simp [List.isPrefixOf]
    rw [hp] at h
    by_cases hc : c = 47
    · subst hc
      simp at h
      have : i = 0 := by omega
      subst this
      simp
    · have : ((47 : UInt8) == c) = false := by simp; exact fun e => hc e.symm
      rw [this] at h
      have hg := Lib.index_ge l [47]
      by_cases hl : Lib.index l [47] = -1
      · rw [hl] at h; simp at h
      · have h2 : (Lib.index l [47] == -1) = false := by simpa using hl
        rw [h2] at h
        simp at h
        obtain ⟨j, rfl⟩ : ∃ j, i = j + 1 := ⟨i - 1, by omega⟩
        obtain ⟨a, b⟩ := index_some (l := l) (i := j) (by omega)
        refine ⟨?_, ?_⟩
        · simp only [List.take_succ_cons, List.mem_cons, not_or]
          exact ⟨fun e => hc e.symm, a⟩
        · simp only [List.take_succ_cons, List.cons_append, List.drop_succ_cons]
          rw [← b]

theorem extract_list (s : ByteArray) (i j : Nat) : (s.extract i j).data.toList = (s.data.toList.take j).drop i := by
  rw [ByteArray.data_extract, Array.toList_extract, List.extract_eq_take_drop, ← List.drop_take]

theorem splitB_pcs : ∀ (n : Nat) (s : ByteArray), s.size ≤ n → Lib.splitB ⟨#[47]⟩ 0 (Lib.countB s ⟨#[47]⟩) s = pcs s := by
  intro n
  induction n with
  | zero =>
    intro s h
    have h0 : s.data.toList = [] := List.eq_nil_of_length_eq_zero (by rw [← Lib.size_eq]; omega)
    have hs : s = ByteArray.empty := ba_ext (by rw [h0]; rfl)
    subst hs
    rfl
  | succ n ih =>
    intro s h
    rcases Lib.indexB_cases s ⟨#[47]⟩ with h1 | ⟨i, h1, h2⟩
    · rw [Lib.splitB_miss _ _ _ _ h1]
      have : 47 ∉ s.data.toList := index_none h1
      rw [pcs, piecesA_none _ _ this]
      simp [mkB_data]
    · have hsz : (⟨#[47]⟩ : ByteArray).size = 1 := rfl
      rw [hsz] at h2
      rw [Lib.countB_hit s ⟨#[47]⟩ i (by rw [hsz]; omega) h1, Nat.add_comm 1, Lib.splitB]
      have hne : (Lib.indexB s ⟨#[47]⟩ == -1) = false := by rw [h1]; simp
      rw [hne, h1, hsz]
      simp only [Bool.false_eq_true, if_false, Int.toNat_natCast, Nat.add_zero]
      have hsz2 : (s.extract (i + 1) s.size).size ≤ n := by rw [Lib.size_eq, extract_list, List.length_drop, List.length_take, ← Lib.size_eq]; omega
      rw [ih _ hsz2]
      obtain ⟨a, b⟩ := index_some (l := s.data.toList) h1
      conv => rhs; rw [pcs, b]
      rw [piecesA_cut _ _ _ a]
      simp only [List.map_cons, List.nil_append, pcs]
      congr 1
      · apply ba_ext; rw [extract_list, data_mkB]; simp
      · congr 2
        rw [extract_list, List.take_of_length_le (by rw [← Lib.size_eq]; omega)]

theorem splitTo_pcs (s : ByteArray) : ∀ k, k ≤ s.size → piecesA [] s.data.toList = (splitTo s k).1.map (fun b => b.data.toList) ++ piecesA ((s.data.toList.take k).drop (splitTo s k).2) (s.data.toList.drop k) := by
  intro k
  induction k with
  | zero => intro _; simp [splitTo]
  | succ k ih =>
    intro hk
    have hlt : k < s.size := by omega
    rw [ih (by omega), drop_at s k hlt, piecesA]
    have hget : s[k]! = s[k] := getElem!_pos s k hlt
    have hle := splitTo_le s k
    have htake : s.data.toList.take (k + 1) = s.data.toList.take k ++ [s[k]] := by
      rw [List.take_succ_eq_append_getElem (by simpa using hlt)]; rfl
    by_cases hc : s[k] = 47
    · rw [if_pos hc]
      have : splitTo s (k + 1) = ((splitTo s k).1 ++ [s.extract (splitTo s k).2 k], k + 1) := by rw [splitTo, if_pos (.inr (by rw [hget]; exact hc))]
      rw [this]
      simp only [List.map_append, List.map_cons, List.map_nil, List.append_assoc, List.cons_append, List.nil_append, extract_list]
      rw [@List.drop_eq_nil_of_le _ (List.take (k + 1) s.data.toList) _ (by rw [List.length_take]; omega)]
    · rw [if_neg hc]
      have : splitTo s (k + 1) = splitTo s k := by rw [splitTo, if_neg (by rw [hget]; simp [hc]; omega)]
      rw [this, htake, List.drop_append_of_le_length (by rw [List.length_take, ← Lib.size_eq]; omega)]

theorem split_spl (s : ByteArray) : split s = spl s := by
  unfold split spl
  split
  · rfl
  · have h := splitTo_pcs s s.size (Nat.le_refl _)
    rw [splitTo, if_pos (.inl rfl)]
    simp only [pcs]
    rw [h, @List.drop_eq_nil_of_le _ s.data.toList _ (by rw [← Lib.size_eq]; omega)]
    simp only [piecesA, List.map_append, List.map_map, List.map_cons, List.map_nil]
    congr 1
    · have e : (mkB ∘ fun b => b.data.toList) = id := funext mkB_data
      rw [e, List.map_id]
    · rw [← extract_list, mkB_data]

theorem piecesA_size : ∀ (l cur x : List UInt8), x ∈ piecesA cur l → x.length ≤ cur.length + l.length
  | [], cur, x, h => by simp [piecesA] at h; subst h; simp
  | c :: l, cur, x, h => by
    unfold piecesA at h
    split at h
    · rcases List.mem_cons.1 h with h | h
      · subst h; simp
      · have := piecesA_size l [] x h; simp at this ⊢; omega
    · have := piecesA_size l _ x h; simp at this ⊢; omega

theorem spl_size (s x : ByteArray) (h : x ∈ spl s) : x.size ≤ s.size := by
  unfold spl at h
  split at h
  · cases h
  · unfold pcs at h
    obtain ⟨l, hl, rfl⟩ := List.mem_map.1 h
    have := piecesA_size _ _ _ hl
    rw [mkB_size, Lib.size_eq]
    simpa using this

theorem pre_iff (p f : ByteArray) (h : f.size < p.size) : (f.data.toList ++ [47]).isPrefixOf p.data.toList = ((p.extract 0 f.size).toList == f.toList && ((p[f.size].toNat : Int) == 47)) := by
  have hd := drop_at p f.size h
  have hp : p.data.toList = p.data.toList.take f.size ++ p[f.size] :: p.data.toList.drop (f.size + 1) := by rw [← hd, List.take_append_drop]
  have ht : (p.data.toList.take f.size).length = f.data.toList.length := by rw [List.length_take, ← Lib.size_eq, ← Lib.size_eq]; omega
  rw [Lib.toList_data, Lib.toList_data, extract_list, List.drop_zero, Bool.eq_iff_iff, List.isPrefixOf_iff_prefix, Bool.and_eq_true, beq_iff_eq, beq_iff_eq]
  constructor
  · rintro ⟨r, hr⟩
    rw [hp, List.append_assoc] at hr
    obtain ⟨h1, h2⟩ := List.append_inj hr ht.symm
    refine ⟨h1.symm, ?_⟩
    injection h2 with h2 _
    rw [← h2]; rfl
  · rintro ⟨h1, h2⟩
    have h3 : p[f.size] = 47 := UInt8.toNat_inj.1 (by have : ((47 : UInt8).toNat : Int) = 47 := rfl; omega)
    exact ⟨p.data.toList.drop (f.size + 1), by conv => rhs; rw [hp, h1, h3]
                                               simp⟩

end PathS
end Go.Proofs.YtpcipdkoncmdcaaGreatDoor
namespace Go.Proofs.YtpcipdkoncmdcaaGreatDoor
namespace PathS
open Go
def badR (r : Nat) : Bool := decide (r < 32) || r == 127 || r == 47

theorem okB_high (c : UInt8) (h : 128 ≤ c.toNat) : okB c = true := by
  unfold okB
  have h1 : ¬ c < 32 := by rw [UInt8.lt_iff_toNat_lt]; have : (32 : UInt8).toNat = 32 := rfl; omega
  have h2 : ¬ c = 127 := by intro e; subst e; simp at h
  have h3 : ¬ c = 47 := by intro e; subst e; simp at h
  simp [h2, h3]
  rw [UInt8.le_iff_toNat_le]; have : (32 : UInt8).toNat = 32 := rfl; omega

theorem okB_low (c : UInt8) : okB c = !badR c.toNat := by
  unfold okB badR
  have e1 : (c < 32) = (c.toNat < 32) := by rw [UInt8.lt_iff_toNat_lt]; rfl
  have e2 : (c == 127) = (c.toNat == 127) := by rw [Bool.eq_iff_iff]; simp [← UInt8.toNat_inj]
  have e3 : (c == 47) = (c.toNat == 47) := by rw [Bool.eq_iff_iff]; simp [← UInt8.toNat_inj]
  simp only [e1, e2, e3]

theorem get_bang (s : ByteArray) (i : Nat) (h : i < s.size) : s.get! i = s[i] := by
  have : s.get! i = s.data[i]! := rfl
  rw [this, getElem!_pos s.data i (by simpa using h)]; rfl

theorem all_step (s : ByteArray) (k : Nat) (h : k < s.size) : (s.data.toList.drop k).all okB = (okB (s.get! k) && (s.data.toList.drop (k + 1)).all okB) := by
  rw [drop_at s k h, List.all_cons, get_bang s k h]

theorem idx_all (s : ByteArray) : ∀ (f pos : Nat), s.size ≤ pos + f → (Lib.idxFuncFrom badR true s f pos = -1 ↔ (s.data.toList.drop pos).all okB = true) := by
  intro f
  induction f with
  | zero =>
    intro pos h
    have : s.data.toList.drop pos = [] := List.drop_eq_nil_of_le (by rw [← Lib.size_eq]; omega)
    simp [Lib.idxFuncFrom, this]
  | succ f ih =>
    intro pos h
    unfold Lib.idxFuncFrom
    by_cases hlt : pos < s.size
    · rw [if_pos hlt, Lib.decode_at, all_step s pos hlt]
      have g0 := UInt8.toNat_lt (s.get! pos)
      have g1 := UInt8.toNat_lt (s.get! (pos + 1))
      rcases Lib.decodeN_shape (s.size - pos) (s.get! pos).toNat (s.get! (pos + 1)).toNat (s.get! (pos + 2)).toNat (s.get! (pos + 3)).toNat with ⟨h1, e⟩ | ⟨h1, h2, h3, h4, e⟩ | ⟨h1, h2, h3, h4, h5, h6, e⟩ | ⟨h1, h2, h3, h4, h5, h6, h7, e⟩ | e
      · rw [e]
        simp only
        rw [okB_low]
        cases hb : badR (s.get! pos).toNat
        · simp only [Bool.false_eq_true, if_false, Bool.not_false, Bool.true_and]
          exact ih (pos + 1) (by omega)
        · simp
      · rw [e]
        have hb : badR ((s.get! pos).toNat % 32 * 64 + (s.get! (pos + 1)).toNat % 64) = false := by simp [badR]; omega
        simp only [hb, Bool.false_eq_true, if_false]
        rw [ih (pos + 2) (by omega), okB_high _ (by omega), all_step s (pos + 1) (by omega), okB_high _ (by omega)]
        simp
      · rw [e]
        have hb : badR ((s.get! pos).toNat % 16 * 4096 + (s.get! (pos + 1)).toNat % 64 * 64 + (s.get! (pos + 2)).toNat % 64) = false := by simp [badR]; omega
        simp only [hb, Bool.false_eq_true, if_false]
        rw [ih (pos + 3) (by omega), okB_high _ (by omega), all_step s (pos + 1) (by omega), okB_high _ (by omega), show pos + 1 + 1 = pos + 2 from rfl, all_step s (pos + 2) (by omega), okB_high _ (by omega)]
        simp
      · rw [e]
        have hb : badR ((s.get! pos).toNat % 8 * 262144 + (s.get! (pos + 1)).toNat % 64 * 4096 + (s.get! (pos + 2)).toNat % 64 * 64 + (s.get! (pos + 3)).toNat % 64) = false := by simp [badR]; omega
        simp only [hb, Bool.false_eq_true, if_false]
        rw [ih (pos + 4) (by omega), okB_high _ (by omega), all_step s (pos + 1) (by omega), okB_high _ (by omega), show pos + 1 + 1 = pos + 2 from rfl, all_step s (pos + 2) (by omega), okB_high _ (by omega), show pos + 2 + 1 = pos + 3 from rfl, all_step s (pos + 3) (by omega), okB_high _ (by omega)]
        simp
      · rw [e]
        have hb : badR 65533 = false := by decide
        simp only [hb, Bool.false_eq_true, if_false]
        by_cases hl : (s.get! pos).toNat < 128
        · exfalso
          rw [show Lib.decodeN (s.size - pos) (s.get! pos).toNat (s.get! (pos + 1)).toNat (s.get! (pos + 2)).toNat (s.get! (pos + 3)).toNat = ((s.get! pos).toNat, 1) from by unfold Lib.decodeN; rw [if_pos hl]] at e
          have := congrArg Prod.fst e
          simp at this
          omega
        · rw [ih (pos + 1) (by omega), okB_high _ (by omega)]
          simp
    · rw [if_neg hlt]
      have : s.data.toList.drop pos = [] := List.drop_eq_nil_of_le (by rw [← Lib.size_eq]; omega)
      simp [this]

theorem idx_ge (s : ByteArray) : Lib.idxFunc badR true s = -1 ∨ 0 ≤ Lib.idxFunc badR true s := by
  rcases Lib.idxFuncFrom_range badR true s s.size 0 with h | ⟨h, _⟩
  · exact .inl h
  · exact .inr (by have : (0 : Int) ≤ Lib.idxFuncFrom badR true s s.size 0 := by simpa using h
                   exact this)

theorem idx_neg (s : ByteArray) : decide (Lib.idxFunc badR true s < 0) = s.data.toList.all okB := by
  have h := idx_all s s.size 0 (by omega)
  rw [List.drop_zero] at h
  have h2 := idx_ge s
  rw [Bool.eq_iff_iff, decide_eq_true_iff, ← h]
  show _ ↔ Lib.idxFunc badR true s = -1
  omega
end PathS
end Go.Proofs.YtpcipdkoncmdcaaGreatDoor
namespace Go.Proofs.YtpcipdkoncmdcaaGreatDoor
open Go Go.RowKit
/-- What the walks take of the library's variables. -/
structure Gl (w : World) : Prop where
  ml : ∃ m, w.cell? ⟨1, 0, none⟩ = some (.int .i64 m)
  sz : 1 < w.heap.size

theorem Gl.below {w w' : World} {B : Nat} (h : Gl w) (hb : Below B w w') (hB : w.heap.size ≤ B) : Gl w' := by
  obtain ⟨⟨m, hm⟩, hs⟩ := h
  exact ⟨⟨m, by rw [hb.cell (p := ⟨1, 0, none⟩) (Nat.lt_of_lt_of_le hs hB)]; exact hm⟩, Nat.lt_of_lt_of_le hs hb.size⟩

set_option maxHeartbeats 400000 in
theorem bad_c (x : Nat) (w : World) : Calls Tryz.prog 101 #[.int .i32 x] w fun e w' => e = .returned (.bool (PathS.badR x)) ∧ w = w' := by
  have h : (decide ((x : Int) < 32) = true ∧ Hid (PathS.badR x = true)) ∨ (decide ((x : Int) < 32) = false ∧ ((x : Int) == 127) = true ∧ Hid (PathS.badR x = true)) ∨ (decide ((x : Int) < 32) = false ∧ ((x : Int) == 127) = false ∧ ((x : Int) == 47) = true ∧ Hid (PathS.badR x = true)) ∨ (decide ((x : Int) < 32) = false ∧ ((x : Int) == 127) = false ∧ ((x : Int) == 47) = false ∧ Hid (PathS.badR x = false)) := by
    by_cases h1 : x < 32
    · exact .inl ⟨decide_eq_true (by omega), by show PathS.badR x = true; simp [PathS.badR, h1]⟩
    · by_cases h2 : x = 127
      · subst h2; exact .inr (.inl ⟨rfl, rfl, by show _ = true; decide⟩)
      · by_cases h3 : x = 47
        · subst h3; exact .inr (.inr (.inl ⟨rfl, rfl, rfl, by show _ = true; decide⟩))
        · exact .inr (.inr (.inr ⟨decide_eq_false (by omega), beq_eq_false_iff_ne.2 (by omega), beq_eq_false_iff_ne.2 (by omega), by show PathS.badR x = false; simp [PathS.badR, h2, h3]; omega⟩))
  go_enter Tryz.func101, Tryz.ntmps101
  rcases h with ⟨h1, H⟩ | ⟨h1, h2, H⟩ | ⟨h1, h2, h3, H⟩ | ⟨h1, h2, h3, H⟩
  all_goals
    go_wp2_with fail
    go_ret
    exact ⟨ret_bool H.out, rfl⟩

theorem bad_pred (w : World) : PredAt Tryz.prog 101 #[] encR PathS.badR w := fun W x _ =>
  (bad_c x W).mono fun _ _ ⟨he, hw⟩ => ⟨he, 0, by rw [← hw]; rfl⟩

theorem enter_bad : ∀ args w, (callFunc 101 args).run Tryz.prog w = .ok (.enter 101 args) w := enters_of Tryz.func101 (by kernel_rfl) rfl

theorem idxbad_c (s : ByteArray) (w : World) : Calls Tryz.prog 100 #[.string s, .func (.func 101) #[] #[]] w fun e w' => ∃ n : Int, e = .returned (.int .i64 n) ∧ (n < 0 ↔ s.data.toList.all PathS.okB = true) ∧ Below w.heap.size w w' :=
  (Tryz.strings_IndexFunc 101 #[] enter_bad PathS.badR s w (bad_pred w)).mono fun _ _ ⟨he, hb⟩ => ⟨_, he, by rw [← PathS.idx_neg, decide_eq_true_iff], hb⟩

set_option maxRecDepth 100000 in
set_option maxHeartbeats 400000 in
theorem name_c (s : ByteArray) (w : World) : Calls Tryz.prog 68 #[.string s] w fun e w' => e = .returned (.bool (PathS.name s)) ∧ Below w.heap.size w w' := by
  have HN := Lib.hid (@PathS.name_no s)
  have HM := Lib.hid (@PathS.name_rest s)
  have HZ := Lib.hid (Lib.size_eq s)
  go_enter Tryz.func68, Tryz.ntmps68
  go_wp2_with fail
  · go_ret; exact ⟨ret_bool (HN.out (.inl (by rw [← Lib.toList_data]; assumption))), Below.refl _ _⟩
  · go_ret; exact ⟨ret_bool (HN.out (.inr (.inl (by rw [← Lib.toList_data]; assumption)))), Below.refl _ _⟩
  · go_ret; exact ⟨ret_bool (HN.out (.inr (.inr (.inl (by rw [← Lib.toList_data]; assumption))))), Below.refl _ _⟩
  · have g1 : ¬ s.toList = [] := by assumption
    have g2 : ¬ s.toList = [46] := by assumption
    have g3 : ¬ s.toList = [46, 46] := by assumption
    have g4 : (s.size : Int) ≤ 64 := by assumption
    have HQ : Hid (PathS.name s = s.data.toList.all PathS.okB) := by
      show _ = _
      rw [HM.out (by rw [← Lib.toList_data]; exact g1) (by rw [← Lib.toList_data]; exact g2) (by rw [← Lib.toList_data]; exact g3) (by rw [← HZ.out]; omega), List.drop_zero]
    refine (idxbad_c s w).mono ?_
    rintro e w1 ⟨n, rfl, hn, hb⟩
    have HI : Hid (n < 0 ↔ s.data.toList.all PathS.okB = true) := hn
    clear hn
    have e1 : s.toList.isEmpty = false := by cases h : s.toList with | nil => exact absurd h g1 | cons => rfl
    have e2 : (s.toList == [46]) = false := by simpa using g2
    have e3 : (s.toList == [46, 46]) = false := by simpa using g3
    by_cases hn : n < 0
    · have hd : decide (n < 0) = true := by simpa using hn
      go_wp2_with fail
      go_ret
      exact ⟨ret_bool (by rw [HQ.out, HI.out.1 hn]), hb⟩
    · have hd : decide (n < 0) = false := by simpa using hn
      go_wp2_with fail
      go_ret
      refine ⟨ret_bool ?_, hb⟩
      rw [HQ.out]
      cases h : s.data.toList.all PathS.okB
      · rfl
      · exact absurd (HI.out.2 h) (by omega)
  · have g4 : 64 < (s.size : Int) := by assumption
    go_ret
    refine ⟨ret_bool ?_, Below.refl _ _⟩
    rw [HN.out (.inr (.inr (.inr (by rw [← HZ.out]; omega))))]

theorem notname_c (s : ByteArray) (w : World) : Calls Tryz.prog 67 #[.string s] w fun e w' => e = .returned (.bool (!PathS.name s)) ∧ Below w.heap.size w w' := by
  go_enter Tryz.func67, Tryz.ntmps67
  go_wp2_with (go_at_call 68; refine (name_c s w).mono ?_; rintro e w1 ⟨rfl, hb⟩)
  go_ret
  exact ⟨rfl, by assumption⟩

set_option maxRecDepth 100000 in
set_option maxHeartbeats 400000 in
theorem idxname_c (a : Option Addr) (c : Nat) (ss : List ByteArray) (w : World) (hs : Sl w a (ss.map Value.string)) (hl : ss.length ≤ 100000000) :
    Calls Tryz.prog 99 #[.slice a ss.length c, .func (.func 67) #[] #[]] w fun e w' => ∃ n : Int, e = .returned (.int .i64 n) ∧ (n < 0 ↔ ss.all PathS.name = true) ∧ Below w.heap.size w w' := by
  go_enter Tryz.func99, Tryz.ntmps99
  go_wp2_with fail
  go_loopw [8] (fun i wr => ∃ k : Nat, k ≤ ss.length ∧ i = .int .i64 k ∧ Below w.heap.size w wr ∧ Hid ((ss.take k).all PathS.name = true)) (fun i _ => ss.length - (intOf i).toNat)
  case atStart => exact ⟨0, by omega, rfl, Below.refl _ _, by show _ = _; rfl⟩
  case round =>
    obtain ⟨k, hk, rfl, hb, HP⟩ := hrel
    by_cases hlt : k < ss.length
    · obtain ⟨b, o, rfl, hbl, hc⟩ := hs.at (k := k) (by simpa using hlt)
      have hcell : wr.cell? ⟨b, o + k, none⟩ = some (.string ss[k]) := by
        rw [hb.cell (p := ⟨b, o + k, none⟩) hbl, hc k (by simpa using hlt), List.getElem_map]
      clear hc
      have htk : ss.take (k + 1) = ss.take k ++ [ss[k]] := List.take_succ_eq_append_getElem hlt
      have HT := Lib.hid htk
      clear htk
      cases hn : PathS.name ss[k]
      · have HN := Lib.hid hn
        clear hn
        have HF : Hid (((k : Int) < 0 ↔ ss.all PathS.name = true)) := by
          show _ ↔ _
          constructor
          · intro h; omega
          · intro h; have := List.all_eq_true.1 h ss[k] (List.getElem_mem hlt); rw [HN.out] at this; cases this
        go_wp2_with (go_at_call 67; refine (notname_c _ _).mono ?_; rw [HN.out]; rintro e w1 ⟨rfl, hb1⟩)
        go_ret
        exact ⟨_, rfl, HF.out, hb.trans (Below.mono (by assumption) hb.size)⟩
      · have HN := Lib.hid hn
        clear hn
        go_wp2_with (go_at_call 67; refine (notname_c _ _).mono ?_; rw [HN.out]; rintro e w1 ⟨rfl, hb1⟩)
        go_roundw
        case rel => exact ⟨k + 1, by omega, by go_num, hb.trans (Below.mono (by assumption) hb.size), by show _ = _; rw [HT.out, List.all_append, HP.out]; simp [HN.out]⟩
        case measure => simp [intOf]; omega
    · have HF : Hid (((-1 : Int) < 0 ↔ ss.all PathS.name = true)) := by
        show _ ↔ _
        have := HP.out
        rw [List.take_of_length_le (by omega)] at this
        simp [this]
      go_wp2_with fail
      go_ret
      exact ⟨_, rfl, HF.out, hb⟩

theorem contname_c (a : Option Addr) (c : Nat) (ss : List ByteArray) (w : World) (hs : Sl w a (ss.map Value.string)) (hl : ss.length ≤ 100000000) :
    Calls Tryz.prog 66 #[.slice a ss.length c, .func (.func 67) #[] #[]] w fun e w' => e = .returned (.bool (!ss.all PathS.name)) ∧ Below w.heap.size w w' := by
  go_enter Tryz.func66, Tryz.ntmps66
  go_wp2_with fail
  refine (idxname_c a c ss w hs hl).mono ?_
  rintro e w1 ⟨n, rfl, hn, hb⟩
  have HI : Hid (n < 0 ↔ ss.all PathS.name = true) := hn
  clear hn
  by_cases hn : n < 0
  · have hd : decide (0 ≤ n) = false := by simp; omega
    go_wp2_with fail
    go_ret
    exact ⟨ret_bool (by rw [HI.out.1 hn]; rfl), hb⟩
  · have hd : decide (0 ≤ n) = true := by simp; omega
    go_wp2_with fail
    go_ret
    refine ⟨ret_bool ?_, hb⟩
    cases h : ss.all PathS.name
    · rfl
    · exact absurd (HI.out.2 h) (by omega)

theorem pcs_length (s : ByteArray) : Lib.countB s ⟨#[47]⟩ + 1 = (PathS.pcs s).length := by
  rw [← PathS.splitB_pcs s.size s (Nat.le_refl _), Lib.splitB_all ⟨#[47]⟩ (by decide) 0 _ s rfl]

theorem lsplit_c (s : ByteArray) (w : World) (hg : Gl w) (hs : s.size ≤ 100000000) :
    Calls Tryz.prog 65 #[.string s, .string ⟨#[47]⟩] w fun e w' => ∃ b, e = .returned (.slice (some ⟨b, 0, none⟩) (PathS.pcs s).length (PathS.pcs s).length) ∧ Sl w' (some ⟨b, 0, none⟩) ((PathS.pcs s).map Value.string) ∧ Gr w w' := by
  obtain ⟨m, hm⟩ := hg.ml
  refine (Tryz.strings_Split s ⟨#[47]⟩ m w (by omega) hm (by decide)).mono ?_
  rintro e w1 ⟨rfl, rfl⟩
  rw [pcs_length, PathS.splitB_pcs s.size s (Nat.le_refl _)]
  refine ⟨_, rfl, .inr ⟨_, _, rfl, by simp, fun i u hu => ?_⟩, (Gr.refl _).alloc _⟩
  rw [World.cell?_alloc_at _ _ _ _ rfl]
  simpa using hu

theorem pcs_le (s : ByteArray) : (PathS.pcs s).length ≤ s.size + 1 := by
  rw [← pcs_length]
  have := Lib.countB_le ⟨#[47]⟩ (by decide) s.size s (Nat.le_refl _)
  omega

theorem split_c2 (s : ByteArray) (w : World) (hg : Gl w) (hs : s.size ≤ 100000000) :
    Calls Tryz.prog 51 #[.string s] w fun e w' => ∃ a c, e = .returned (.slice a (PathS.spl s).length c) ∧ (PathS.spl s).length ≤ c ∧ Sl w' a ((PathS.spl s).map Value.string) ∧ Gr w w' := by
  go_enter Tryz.func51, Tryz.ntmps51
  by_cases he : s.size = 0
  · have h1 : s.toList.isEmpty = true := by rw [isEmpty_iff]; simpa using he
    have HE : Hid (PathS.spl s = []) := by show _ = _; simp [PathS.spl, he]
    clear he
    go_wp2_with fail
    go_ret
    exact ⟨none, 0, by rw [HE.out]; rfl, by rw [HE.out]; exact Nat.le_refl _, by rw [HE.out]; exact .nil _ _, Gr.refl _⟩
  · have h1 : s.toList.isEmpty = false := by rw [isEmpty_iff]; simpa using he
    have HE : Hid (PathS.spl s = PathS.pcs s) := by show _ = _; simp [PathS.spl, he]
    clear he
    go_wp2_with (go_at_call 65; refine (lsplit_c s w hg hs).mono ?_; rintro e w1 ⟨b, rfl, hsl, hb⟩)
    go_ret
    exact ⟨_, _, by rw [HE.out]; rfl, by rw [HE.out]; exact Nat.le_refl _, by rw [HE.out]; assumption, by assumption⟩

theorem split_c (s : ByteArray) (w : World) (hg : Gl w) (hs : s.size ≤ 100000000) :
    Calls Tryz.prog 51 #[.string s] w fun e w' => ∃ a c, e = .returned (.slice a (PathS.spl s).length c) ∧ Sl w' a ((PathS.spl s).map Value.string) ∧ Gr w w' :=
  (split_c2 s w hg hs).mono fun _ _ ⟨a, c, he, _, hs, hg⟩ => ⟨a, c, he, hs, hg⟩

set_option maxRecDepth 100000 in
set_option maxHeartbeats 400000 in
theorem check_c (s : ByteArray) (w : World) (hg : Gl w) (hs : s.size ≤ 100000000) :
    Calls Tryz.prog 38 #[.string s] w fun e w' => e = .returned (.int .i64 (PathS.check s)) ∧ Below w.heap.size w w' := by
  have hpl := pcs_le s
  have HC : Hid (PathS.check s = if 255 < s.size ∨ 16 < (PathS.pcs s).length then 2 else if (PathS.pcs s).all PathS.name then 0 else 50) := by
    show _ = _
    unfold PathS.check
    rw [PathS.split_spl]
    by_cases he : s.size = 0
    · have : PathS.spl s = [] := by simp [PathS.spl, he]
      rw [this]
      have h0 : s = ByteArray.empty := PathS.ba_ext (by rw [List.eq_nil_of_length_eq_zero (l := s.data.toList) (by rw [← Lib.size_eq]; exact he)]; rfl)
      subst h0
      decide
    · have : PathS.spl s = PathS.pcs s := by simp [PathS.spl, he]
      rw [this]
      have hlen : (PathS.pcs s).length ≠ 0 := by rw [← pcs_length]; omega
      simp only [hlen, if_false]
  go_enter Tryz.func38, Tryz.ntmps38
  go_wp2_with fail
  refine (lsplit_c s w hg hs).mono ?_
  rintro e w1 ⟨b, rfl, hsl, hgr⟩
  have hb := hgr.1
  clear hgr
  generalize PathS.pcs s = l at *
  by_cases h1 : 255 < s.size
  · have g1 : decide (255 < (s.size : Int)) = true := by simp; omega
    go_wp2_with fail
    go_ret
    exact ⟨ret_i64 (by rw [HC.out, if_pos (.inl h1)]), hb⟩
  · have g1 : decide (255 < (s.size : Int)) = false := by simp; omega
    by_cases h2 : 16 < l.length
    · have g2 : decide (16 < (l.length : Int)) = true := by simp; omega
      go_wp2_with fail
      go_ret
      exact ⟨ret_i64 (by rw [HC.out, if_pos (.inr h2)]), hb⟩
    · have g2 : decide (16 < (l.length : Int)) = false := by simp; omega
      go_wp2_with fail
      refine (contname_c _ _ l w1 hsl (by omega)).mono ?_
      rintro e w2 ⟨rfl, hb2⟩
      have hb3 := hb.trans (hb2.mono hb.size)
      cases hn : l.all PathS.name
      · have HN := Lib.hid hn; clear hn
        go_wp2_with fail
        go_ret
        exact ⟨ret_i64 (by rw [HC.out, if_neg (by omega), HN.out]; rfl), hb3⟩
      · have HN := Lib.hid hn; clear hn
        go_wp2_with fail
        go_ret
        exact ⟨ret_i64 (by rw [HC.out, if_neg (by omega), HN.out]; rfl), hb3⟩
end Go.Proofs.YtpcipdkoncmdcaaGreatDoor
namespace Go.Proofs.YtpcipdkoncmdcaaGreatDoor
open Go Go.RowKit
theorem cmpB_cases (a b : ByteArray) : (Op.bytesLess a.toList b.toList = true ∧ Hid (PathS.cmpB a b = -1)) ∨ (Op.bytesLess a.toList b.toList = false ∧ (a.toList == b.toList) = true ∧ Hid (PathS.cmpB a b = 0)) ∨ (Op.bytesLess a.toList b.toList = false ∧ (a.toList == b.toList) = false ∧ Hid (PathS.cmpB a b = 1)) := by
  rw [bytesLess_eq, Lib.toList_data, Lib.toList_data]
  by_cases h1 : a.data.toList < b.data.toList
  · exact .inl ⟨decide_eq_true h1, by show _ = _; simp [PathS.cmpB, h1]⟩
  · by_cases h2 : a.data.toList = b.data.toList
    · exact .inr (.inl ⟨decide_eq_false h1, by simpa using h2, by show _ = _; simp only [PathS.cmpB, if_neg h1, if_pos h2]⟩)
    · exact .inr (.inr ⟨decide_eq_false h1, by simpa using h2, by show _ = _; simp only [PathS.cmpB, if_neg h1, if_neg h2]⟩)

set_option maxRecDepth 100000 in
set_option maxHeartbeats 400000 in
theorem cmps_c (a b : ByteArray) (w : World) : Calls Tryz.prog 82 #[.string a, .string b] w fun e w' => e = .returned (.int .i64 (PathS.cmpB a b)) ∧ w = w' := by
  have hc := cmpB_cases a b
  go_enter Tryz.func82, Tryz.ntmps82
  rcases hc with ⟨h1, H⟩ | ⟨h1, h2, H⟩ | ⟨h1, h2, H⟩
  all_goals
    go_wp2_with go_in
    go_ret
    exact ⟨ret_i64 H.out, rfl⟩

theorem cmpL_drop (x y : List ByteArray) (k : Nat) (h1 : k < x.length) (h2 : k < y.length) : PathS.cmpL (x.drop k) (y.drop k) = if PathS.cmpB x[k] y[k] = 0 then PathS.cmpL (x.drop (k + 1)) (y.drop (k + 1)) else PathS.cmpB x[k] y[k] := by
  rw [List.drop_eq_getElem_cons h1, List.drop_eq_getElem_cons h2, PathS.cmpL]

set_option maxRecDepth 100000 in
set_option maxHeartbeats 400000 in
theorem scmp_c (a1 a2 : Option Addr) (c1 c2 : Nat) (x y : List ByteArray) (w : World) (hx : Sl w a1 (x.map Value.string)) (hy : Sl w a2 (y.map Value.string)) (hlx : x.length ≤ 100000000) (hly : y.length ≤ 100000000) :
    Calls Tryz.prog 50 #[.slice a1 x.length c1, .slice a2 y.length c2] w fun e w' => e = .returned (.int .i64 (PathS.cmpL x y)) ∧ w = w' := by
  have HS : Hid (PathS.cmpL x y = PathS.cmpL (x.drop 0) (y.drop 0)) := by show _ = _; rfl
  go_enter Tryz.func50, Tryz.ntmps50
  go_wp2_with fail
  go_loop [11] (fun i => ∃ k : Nat, k ≤ x.length ∧ k ≤ y.length ∧ i = .int .i64 k ∧ Hid (PathS.cmpL x y = PathS.cmpL (x.drop k) (y.drop k))) (fun i => x.length - (intOf i).toNat)
  case atStart => exact ⟨0, by omega, by omega, rfl, HS⟩
  case round =>
    obtain ⟨k, hk, hk2, rfl, HP⟩ := hrel
    clear HS
    by_cases hlt : k < x.length
    · obtain ⟨b, o, rfl, hbl, hc⟩ := hx.at (k := k) (by simpa using hlt)
      have hcell : w.cell? ⟨b, o + k, none⟩ = some (.string x[k]) := by rw [hc k (by simpa using hlt), List.getElem_map]
      clear hc
      by_cases hlt2 : k < y.length
      · obtain ⟨b2, o2, rfl, hbl2, hc2⟩ := hy.at (k := k) (by simpa using hlt2)
        have hcell2 : w.cell? ⟨b2, o2 + k, none⟩ = some (.string y[k]) := by rw [hc2 k (by simpa using hlt2), List.getElem_map]
        clear hc2
        have HD := Lib.hid (cmpL_drop x y k hlt hlt2)
        have g1 : decide ((y.length : Int) ≤ (k : Int)) = false := by simp; omega
        generalize hz : PathS.cmpB x[k] y[k] = z at *
        have HZ := Lib.hid hz; clear hz
        by_cases hn : z = 0
        · have g2 : (z != 0) = false := by simp [hn]
          have HN := Lib.hid hn; clear hn
          go_wp2_with (go_at_call 82; refine (cmps_c _ _ _).mono ?_; rw [HZ.out]; rintro e w1 ⟨rfl, rfl⟩)
          go_round
          case rel => exact ⟨k + 1, by omega, by omega, by go_num, by show _ = _; rw [HP.out, HD.out, if_pos HN.out]⟩
          case measure => simp [intOf]; omega
        · have g2 : (z != 0) = true := by simp [hn]
          have HN := Lib.hid hn; clear hn
          go_wp2_with (go_at_call 82; refine (cmps_c _ _ _).mono ?_; rw [HZ.out]; rintro e w1 ⟨rfl, rfl⟩)
          go_ret
          exact ⟨ret_i64 (by rw [HP.out, HD.out, if_neg HN.out]), rfl⟩
      · have g1 : decide ((y.length : Int) ≤ (k : Int)) = true := by simp; omega
        have HF : Hid (PathS.cmpL x y = 1) := by
          show _ = _
          have e : y.drop k = [] := List.drop_eq_nil_of_le (by omega)
          rw [HP.out, List.drop_eq_getElem_cons hlt, e]; rfl
        go_wp2_with fail
        go_ret
        exact ⟨ret_i64 HF.out, rfl⟩
    · by_cases hlt2 : x.length < y.length
      · have HF : Hid (PathS.cmpL x y = -1) := by
          show _ = _
          have e : x.drop k = [] := List.drop_eq_nil_of_le (by omega)
          rw [HP.out, e, List.drop_eq_getElem_cons (show k < y.length by omega)]; rfl
        go_wp2_with fail
        go_ret
        exact ⟨ret_i64 HF.out, rfl⟩
      · have HF : Hid (PathS.cmpL x y = 0) := by
          show _ = _
          have e : x.drop k = [] := List.drop_eq_nil_of_le (by omega)
          have e2 : y.drop k = [] := List.drop_eq_nil_of_le (by omega)
          rw [HP.out, e, e2]; rfl
        go_wp2_with fail
        go_ret
        exact ⟨ret_i64 HF.out, rfl⟩

theorem cmp_g (a b : ByteArray) (w : World) (hg : Gl w) (ha : a.size ≤ 10000000) (hb : b.size ≤ 10000000) :
    Calls Tryz.prog 27 #[.string a, .string b] w fun e w' => e = .returned (.int .i64 (PathS.cmp a b)) ∧ Gr w w' := by
  have HC : Hid (PathS.cmp a b = PathS.cmpL (PathS.spl a) (PathS.spl b)) := by show _ = _; rw [PathS.cmp, PathS.split_spl, PathS.split_spl]
  have hla : (PathS.spl a).length ≤ 100000000 := by have := pcs_le a; unfold PathS.spl; split <;> simp; omega
  have hlb : (PathS.spl b).length ≤ 100000000 := by have := pcs_le b; unfold PathS.spl; split <;> simp; omega
  go_enter Tryz.func27, Tryz.ntmps27
  go_wp2_with fail
  refine (split_c a w hg (by omega)).mono ?_
  rintro e w1 ⟨a1, c1, rfl, hs1, hb1⟩
  go_wp2_with fail
  refine (split_c b w1 (hg.below hb1.1 (Nat.le_refl _)) (by omega)).mono ?_
  rintro e w2 ⟨a2, c2, rfl, hs2, hb2⟩
  go_wp2_with fail
  refine (scmp_c a1 a2 c1 c2 _ _ w2 (hs1.below hb2.1) hs2 hla hlb).mono ?_
  rintro e w3 ⟨rfl, rfl⟩
  go_wp2_with fail
  go_ret
  exact ⟨ret_i64 HC.out, hb1.trans hb2⟩

theorem cmp_c (a b : ByteArray) (w : World) (hg : Gl w) (ha : a.size ≤ 10000000) (hb : b.size ≤ 10000000) :
    Calls Tryz.prog 27 #[.string a, .string b] w fun e w' => e = .returned (.int .i64 (PathS.cmp a b)) ∧ Below w.heap.size w w' :=
  (cmp_g a b w hg ha hb).mono fun _ _ ⟨he, h⟩ => ⟨he, h.1⟩

end Go.Proofs.YtpcipdkoncmdcaaGreatDoor
