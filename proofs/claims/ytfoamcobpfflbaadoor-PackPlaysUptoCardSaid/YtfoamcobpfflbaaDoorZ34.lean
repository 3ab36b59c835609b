/- Texts of mine, joined: Packs in plain Lean: what is known of a pack whose file is its records' frames. No program in sight. | The benches' first question of the pack: what the file system and the pack are, call by call. No program in sight. | The benches' first question of the file system. | The benches' first question of the file system: the walk. -/
import Derived.Test.YtfoamcobpfflbaaDoorZ33
namespace Go.Proofs.YtfoamcobpfflbaaDoor
namespace PackS
open VfsS (St readS appendS cutS)

theorem rhas_app (L : List (List Nat)) (d i : List Nat) : rhas (L ++ [d]) i = match rhas L i with | some o => some o | none => if Sha.sum d = i then some d else none := by
  unfold rhas
  rw [List.find?_append]
  cases h : L.find? fun d => decide (Sha.sum d = i) with
  | some o => rfl
  | none =>
    show ([d].find? fun d => decide (Sha.sum d = i)) = _
    by_cases e : Sha.sum d = i
    · rw [List.find?_cons_of_pos (by simpa using e), if_pos e]
    · rw [List.find?_cons_of_neg (by simpa using e), if_neg e]; rfl

theorem rhas_sum {L : List (List Nat)} {i d : List Nat} (h : rhas L i = some d) : Sha.sum d = i ∧ d ∈ L := by
  unfold rhas at h
  exact ⟨by simpa using List.find?_some h, List.mem_of_find?_eq_some h⟩

theorem frames_app (L M : List (List Nat)) : frames (L ++ M) = frames L ++ frames M := by unfold frames; rw [List.flatMap_append]
theorem frames_one (d : List Nat) : frames [d] = frame d := by unfold frames; simp

/-- Ids, each once. -/
def addId (o : List (List Nat)) (d : List Nat) : List (List Nat) := if Sha.sum d ∈ o then o else o ++ [Sha.sum d]
def ids (L : List (List Nat)) : List (List Nat) := L.foldl addId []

/-- The pack knows just the records of L. -/
structure Good (P : Pk) (nm : ByteArray) (L : List (List Nat)) : Prop where
  name : P.name = nm
  size : P.size = (frames L).length
  spots : ∀ i, match rhas L i with
    | none => P.spots i = none
    | some d => ∃ a, P.spots i = some (a, d.length) ∧ a + d.length ≤ (frames L).length ∧ ((frames L).drop a).take d.length = d
  order : P.order = ids L
  hid : ∀ i, i ∈ P.order ↔ (rhas L i).isSome = true

theorem Good.new (nm : ByteArray) : Good (new nm) nm [] := ⟨rfl, rfl, fun _ => rfl, rfl, fun i => by simp [PackS.new, rhas]⟩

theorem Good.has_iff {P : Pk} {nm : ByteArray} {L : List (List Nat)} (h : Good P nm L) (i : List Nat) : PackS.has P i = (rhas L i).isSome := by
  have := h.spots i
  unfold PackS.has
  cases e : rhas L i with
  | none => rw [e] at this; rw [this]; rfl
  | some d => rw [e] at this; obtain ⟨a, h1, _⟩ := this; rw [h1]; rfl

theorem Good.note {P : Pk} {nm : ByteArray} {L : List (List Nat)} (h : Good P nm L) (d : List Nat) : Good (note P d) nm (L ++ [d]) := by
  have hl : (frames (L ++ [d])).length = (frames L).length + (12 + d.length) := by rw [frames_app, List.length_append, frames_one, frame_len]
  have hold : ∀ a n, a + n ≤ (frames L).length → ((frames (L ++ [d])).drop a).take n = ((frames L).drop a).take n := fun a n ha => by
    rw [frames_app, List.drop_append_of_le_length (by omega), List.take_append_of_le_length (by rw [List.length_drop]; omega)]
  have hid : ids (L ++ [d]) = addId (ids L) d := by unfold ids; rw [List.foldl_append]; rfl
  by_cases hh : PackS.has P (Sha.sum d) = true
  · have e : PackS.note P d = { P with size := P.size + (12 + d.length) } := by unfold PackS.note; rw [if_pos hh]
    rw [e]
    rw [h.has_iff] at hh
    have hin : Sha.sum d ∈ ids L := by rw [← h.order]; exact (h.hid _).2 hh
    refine ⟨h.name, by rw [hl, ← h.size], fun i => ?_, ?_, fun i => ?_⟩
    · have hs := h.spots i
      rw [rhas_app]
      cases e2 : rhas L i with
      | some o => rw [e2] at hs; obtain ⟨a, h1, h2, h3⟩ := hs; exact ⟨a, h1, by omega, by rw [hold _ _ h2]; exact h3⟩
      | none =>
        rw [e2] at hs
        have hne : Sha.sum d ≠ i := fun e3 => by rw [e3, e2] at hh; cases hh
        simp only [if_neg hne]
        exact hs
    · show P.order = _
      rw [hid, addId, if_pos hin, h.order]
    · show i ∈ P.order ↔ _
      rw [h.hid i, rhas_app]
      cases e2 : rhas L i with
      | some o => simp
      | none =>
        have hne : Sha.sum d ≠ i := fun e3 => by rw [e3, e2] at hh; cases hh
        simp only [if_neg hne]
  · have e : PackS.note P d = { P with order := P.order ++ [Sha.sum d], spots := fun i => if i = Sha.sum d then some (P.size + 12, d.length) else P.spots i, size := P.size + (12 + d.length) } := by unfold PackS.note; rw [if_neg hh]
    rw [e]
    rw [h.has_iff] at hh
    have hno : rhas L (Sha.sum d) = none := by simpa using hh
    have hni : ¬ Sha.sum d ∈ ids L := by rw [← h.order, h.hid, hno]; simp
    refine ⟨h.name, by rw [hl, ← h.size], fun i => ?_, ?_, fun i => ?_⟩
    · have hs := h.spots i
      rw [rhas_app]
      by_cases ei : i = Sha.sum d
      · subst ei
        rw [hno]
        simp only [if_true]
        refine ⟨P.size + 12, rfl, by rw [hl, h.size]; omega, ?_⟩
        rw [frames_app, frames_one, h.size, ← List.drop_drop, drop_app rfl]
        unfold frame
        rw [drop_app (by rw [List.length_append, be4_len, id8_len]), List.take_length]
      · cases e2 : rhas L i with
        | some o =>
          rw [e2] at hs; obtain ⟨a, h1, h2, h3⟩ := hs
          exact ⟨a, by simp only [if_neg ei]; exact h1, by omega, by rw [hold _ _ h2]; exact h3⟩
        | none =>
          rw [e2] at hs
          have hne : Sha.sum d ≠ i := fun e3 => ei e3.symm
          simp only [if_neg hne, if_neg ei]
          exact hs
    · show P.order ++ [Sha.sum d] = _
      rw [hid, addId, if_neg hni, h.order]
    · show i ∈ P.order ++ [Sha.sum d] ↔ _
      rw [List.mem_append, h.hid i, rhas_app, List.mem_singleton]
      cases e2 : rhas L i with
      | some o => simp
      | none =>
        by_cases ei : Sha.sum d = i
        · simp only [if_pos ei]; simp [ei.symm]
        · simp only [if_neg ei]; simp; exact fun e => ei e.symm

theorem Good.fold {nm : ByteArray} : ∀ (M : List (List Nat)) {P : Pk} {L : List (List Nat)}, Good P nm L → Good (M.foldl PackS.note P) nm (L ++ M)
  | [], P, L, h => by rw [List.append_nil]; exact h
  | d :: M, P, L, h => by
    rw [List.foldl_cons, show L ++ d :: M = L ++ [d] ++ M by simp]
    exact Good.fold M (h.note d)

theorem Good.get {P : Pk} {nm : ByteArray} {L : List (List Nat)} (h : Good P nm L) {S : St} {t : ByteArray} (ht : readS S nm = some t) (hf : bl t = frames L) (i : List Nat) :
    get P S i = match rhas L i with | none => ([], 4) | some d => (d, 0) := by
  have hs := h.spots i
  unfold PackS.get
  cases e : rhas L i with
  | none => rw [e] at hs; rw [hs]
  | some d =>
    rw [e] at hs
    obtain ⟨a, h1, h2, h3⟩ := hs
    rw [h1, h.name, ht]
    simp only
    rw [← hf] at h2 h3
    rw [if_pos (by rw [← bl_len]; exact h2), h3, if_pos (rhas_sum e).1]

theorem read_append {S : St} {nm b t : ByteArray} (ht : readS S nm = some t) (hi : ∀ p ∈ S.now, p.2 < S.files.length) : (appendS S nm b).2 ≠ 0 ∧ (appendS S nm b).1 = S ∨ (appendS S nm b).2 = 0 ∧ readS (appendS S nm b).1 nm = some (t ++ b) := by
  unfold readS at ht
  unfold appendS
  cases hf : VfsS.find S.now nm with
  | none => rw [hf] at ht; cases ht
  | some i =>
    rw [hf] at ht
    injection ht with ht
    have ht : (VfsS.fl S i).text = t := ht
    simp only
    by_cases h1 : (S.room : Int) - VfsS.used S < b.size
    · rw [if_pos h1]; exact .inl ⟨by simp, rfl⟩
    · rw [if_neg h1]
      by_cases h2 : S.limit = 0
      · rw [if_pos h2]; exact .inl ⟨by simp, rfl⟩
      · rw [if_neg h2]
        refine .inr ⟨rfl, ?_⟩
        have hlt := hi _ (VfsS.find_mem hf)
        unfold readS
        show (VfsS.find (VfsS.stepS S).now nm).map _ = _
        rw [VfsS.stepS_now, hf]
        show some (VfsS.fl (VfsS.putS (VfsS.stepS S) i _) i).text = _
        rw [VfsS.fl_put (by rw [VfsS.stepS_files]; exact hlt), if_pos rfl]
        show some ((VfsS.fl S i).text ++ b) = _
        rw [ht]

theorem read_cut {S : St} {nm t : ByteArray} {n : Nat} (ht : readS S nm = some t) (hi : ∀ p ∈ S.now, p.2 < S.files.length) : (cutS S nm n).2 ≠ 0 ∧ (cutS S nm n).1 = S ∨ (cutS S nm n).2 = 0 ∧ readS (cutS S nm n).1 nm = some (t.extract 0 n) := by
  unfold readS at ht
  unfold cutS
  cases hf : VfsS.find S.now nm with
  | none => rw [hf] at ht; cases ht
  | some i =>
    rw [hf] at ht
    injection ht with ht
    have ht : (VfsS.fl S i).text = t := ht
    simp only
    by_cases h1 : (n : Int) < 0 ∨ ((VfsS.fl S i).text.size : Int) < n
    · rw [if_pos h1]; exact .inl ⟨by simp, rfl⟩
    · rw [if_neg h1]
      by_cases h2 : S.limit = 0
      · rw [if_pos h2]; exact .inl ⟨by simp, rfl⟩
      · rw [if_neg h2]
        refine .inr ⟨rfl, ?_⟩
        have hlt := hi _ (VfsS.find_mem hf)
        unfold readS
        show (VfsS.find (VfsS.stepS S).now nm).map _ = _
        rw [VfsS.stepS_now, hf]
        show some (VfsS.fl (VfsS.putS (VfsS.stepS S) i _) i).text = _
        rw [VfsS.fl_put (by rw [VfsS.stepS_files]; exact hlt), if_pos rfl]
        show some ((VfsS.fl S i).text.extract 0 (n : Int).toNat) = _
        rw [ht, Int.toNat_natCast]

/-- The pack and its file belong together. -/
structure Tied (S : St) (P : Pk) (nm : ByteArray) (L : List (List Nat)) : Prop where
  good : Good P nm L
  read : ∃ t, readS S nm = some t ∧ bl t = frames L
  len : ∀ d ∈ L, d.length ≤ 524288 ∧ ∀ x ∈ d, x < 256

theorem Tied.add {S : St} {P : Pk} {nm : ByteArray} {L : List (List Nat)} (h : Tied S P nm L) (hi : ∀ p ∈ S.now, p.2 < S.files.length) {d : List Nat} (hd : ∀ x ∈ d, x < 256) :
    Tied (add P S d).1 (add P S d).2.1 nm (radd S nm L d).2.1 ∧ (add P S d).1 = (radd S nm L d).1 ∧ (add P S d).2.2.1 = (radd S nm L d).2.2.1 ∧ (add P S d).2.2.2 = (radd S nm L d).2.2.2 := by
  obtain ⟨t, ht, hf⟩ := h.read
  unfold PackS.add radd
  by_cases h1 : 524288 < d.length
  · simp only [if_pos h1]; exact ⟨h, by simp⟩
  · simp only [if_neg h1]
    rw [h.good.has_iff, h.good.get ht hf, h.good.name]
    cases e : rhas L (Sha.sum d) with
    | some o =>
      simp only [Option.isSome_some, if_true]
      rw [if_neg (by simp)]
      by_cases e2 : o = d
      · simp only [if_pos e2]; exact ⟨h, by simp⟩
      · simp only [if_neg e2]; exact ⟨h, by simp⟩
    | none =>
      simp only [Option.isSome_none, Bool.false_eq_true, if_false]
      rcases read_append (b := ofL (frame d)) ht hi with ⟨k1, k2⟩ | ⟨k1, k2⟩
      · rw [if_pos k1, if_pos k1]
        refine ⟨?_, rfl, rfl, rfl⟩
        show Tied (appendS S nm (ofL (frame d))).1 P nm L
        rw [k2]; exact h
      · rw [if_neg (by rw [k1]; simp), if_neg (by rw [k1]; simp)]
        refine ⟨⟨h.good.note d, ⟨_, k2, ?_⟩, fun x hx => ?_⟩, rfl, rfl, rfl⟩
        · rw [bl_append, hf, bl_ofL (frame_lt hd)]
          show _ = frames (L ++ [d])
          rw [frames_app, frames_one]
        · rcases List.mem_append.1 hx with hx | hx
          · exact h.len x hx
          · rw [List.mem_singleton] at hx; subst hx; exact ⟨by omega, hd⟩

theorem tied_open {S : St} {nm : ByteArray} (hi : ∀ p ∈ S.now, p.2 < S.files.length) :
    (opened S nm).1 = (ropened S nm).1 ∧ (opened S nm).2.2 = (ropened S nm).2.2 ∧ ((opened S nm).2.1 = none ↔ (ropened S nm).2.2 ≠ 0) ∧ ∀ P, (opened S nm).2.1 = some P → Tied (opened S nm).1 P nm (ropened S nm).2.1 := by
  unfold opened ropened
  cases ht : readS S nm with
  | none => exact ⟨rfl, rfl, by simp, fun P h => by cases h⟩
  | some t =>
    obtain ⟨s1, s2, s3, s4, s5⟩ := scan_frames (bl t).length (bl t) (Nat.le_refl _) (bl_lt t)
    have hg := Good.fold (scan (bl t)).1 (Good.new nm)
    rw [List.nil_append] at hg
    simp only
    by_cases h1 : (scan (bl t)).2 < t.size
    · simp only [if_pos h1]
      rcases read_cut (n := (scan (bl t)).2) ht hi with ⟨k1, k2⟩ | ⟨k1, k2⟩
      · rw [if_pos k1, if_pos k1]
        exact ⟨rfl, rfl, by simp [k1], fun P h => by cases h⟩
      · rw [if_neg (by rw [k1]; simp), if_neg (by rw [k1]; simp)]
        refine ⟨rfl, rfl, by simp, fun P h => ?_⟩
        injection h with h
        subst h
        exact ⟨hg, ⟨_, k2, by rw [bl_extract, List.drop_zero]; exact s1⟩, s4⟩
    · simp only [if_neg h1]
      refine ⟨by simp, by simp, by simp, fun P h => ?_⟩
      injection h with h
      subst h
      refine ⟨hg, ⟨t, ht, ?_⟩, s4⟩
      rw [← s1, List.take_of_length_le (by rw [bl_len]; omega)]

end PackS
end Go.Proofs.YtfoamcobpfflbaaDoor
namespace Go.Proofs.YtfoamcobpfflbaaDoor
namespace PackT
open VfsS (St readS appendS cutS createS syncS flushAllS crashS newS)
open PackS (frame scan note new add get opened id8)

abbrev nm : ByteArray := ⟨#[112]⟩
abbrev A : List Nat := [97, 98, 99]
abbrev X : List Nat := [120, 121, 122]
/-- One file that is there for sure. -/
def F (t : ByteArray) (d k : Nat) : St := ⟨[⟨t, d⟩], [(nm, 0)], [(nm, 0)], [], 1000, k, -1⟩
def F0 : St := ⟨[⟨ByteArray.empty, 0⟩], [(nm, 0)], [], [⟨ByteArray.empty, nm, some 0⟩], 1000, 1, -1⟩
theorem find_nm : VfsS.find [(nm, 0)] nm = some 0 := by rfl
theorem check_nm : PathS.check nm = 0 := by decide
set_option maxRecDepth 10000
theorem t1 : createS (newS (1000 : Int).toNat) nm = (F0, 0) := by
  rw [createS, check_nm, if_neg (by decide)]; rfl
theorem t2 : flushAllS F0 = (F ByteArray.empty 0 2, 0) := by rfl
theorem app {t b : ByteArray} {d k : Nat} (h : t.size + b.size ≤ 1000) : appendS (F t d k) nm b = (F (t ++ b) d (k + 1), 0) := by
  unfold appendS
  rw [show VfsS.find (F t d k).now nm = some 0 from find_nm]
  simp only
  rw [if_neg (by show ¬ ((1000 : Nat) : Int) - ((([(nm, 0)] : List (ByteArray × Nat)).map fun p => (VfsS.fl (F t d k) p.2).text.size).sum : Nat) < b.size; show ¬ ((1000 : Nat) : Int) - ((t.size + 0 : Nat) : Int) < b.size; omega), if_neg (by show ¬ (-1 : Int) = 0; decide)]
  rfl
theorem syn {t : ByteArray} {d k : Nat} : syncS (F t d k) nm = (F t t.size (k + 1), 0) := by
  unfold syncS
  rw [show VfsS.find (F t d k).now nm = some 0 from find_nm]
  simp only
  rw [if_neg (by show ¬ (-1 : Int) = 0; decide)]
  rfl
theorem cut {t : ByteArray} {d k n : Nat} (h : n ≤ t.size) : cutS (F t d k) nm n = (F (t.extract 0 n) n (k + 1), 0) := by
  unfold cutS
  rw [show VfsS.find (F t d k).now nm = some 0 from find_nm]
  simp only
  rw [if_neg (by show ¬ ((n : Int) < 0 ∨ ((t.size : Nat) : Int) < n); omega), if_neg (by show ¬ (-1 : Int) = 0; decide), Int.toNat_natCast]
  rfl
theorem rd {t : ByteArray} {d k : Nat} : readS (F t d k) nm = some t := by
  unfold readS
  rw [show VfsS.find (F t d k).now nm = some 0 from find_nm]
  rfl
theorem cra {t : ByteArray} {d k : Nat} : crashS (F t d k) 0 5 = F (t.extract 0 (d + min 5 (t.size - d))) (d + min 5 (t.size - d)) k := by
  rfl

def fA : ByteArray := ofL (frame A)
theorem fA_size : fA.size = 15 := by unfold fA; rw [ofL_size, PackS.frame_len]; rfl
theorem bl_fA : bl fA = frame A := bl_ofL (PackS.frame_lt (by decide))
/-- The pack that knows A. -/
def PA : PackS.Pk := note (new nm) A
theorem add1 : add (new nm) (F ByteArray.empty 0 2) A = (F fA 0 3, PA, Sha.sum A, 0) := by
  have h : appendS (F ByteArray.empty 0 2) (new nm).name (ofL (frame A)) = (F fA 0 3, 0) := by
    have := app (t := ByteArray.empty) (b := fA) (d := 0) (k := 2) (by rw [fA_size]; decide)
    rw [ByteArray.empty_append] at this
    exact this
  unfold add
  rw [if_neg (by decide), if_neg (by show ¬ (false = true); decide), h]
  rfl
theorem has_PA : PackS.has PA (Sha.sum A) = true := by
  unfold PA note
  rw [if_neg (by show ¬ (false = true); decide)]
  unfold PackS.has
  simp
theorem size_PA : PA.size = 15 := by
  unfold PA note
  rw [if_neg (by show ¬ (false = true); decide)]; rfl
theorem name_PA : PA.name = nm := by
  unfold PA note
  rw [if_neg (by show ¬ (false = true); decide)]; rfl
theorem order_PA : PA.order = [Sha.sum A] := by
  unfold PA note
  rw [if_neg (by show ¬ (false = true); decide)]; rfl
theorem good_PA : PackS.Good PA nm [A] := (PackS.Good.new nm).note A
theorem fr_A : PackS.frames [A] = frame A := PackS.frames_one A

theorem get_PA {d k : Nat} : get PA (F fA d k) (Sha.sum A) = (A, 0) := by
  rw [good_PA.get (t := fA) rd (by rw [bl_fA, fr_A])]
  have : PackS.rhas [A] (Sha.sum A) = some A := by
    unfold PackS.rhas
    rw [List.find?_cons_of_pos (by simp)]
  rw [this]

theorem add2 : ∃ t k, (add PA (F fA 15 4) X).1 = F t 15 k ∧ (t = fA ∨ t = fA ++ ofL (frame X)) := by
  unfold add
  rw [if_neg (by decide)]
  by_cases h : PackS.has PA (Sha.sum X) = true
  · rw [if_pos h]
    split
    · exact ⟨_, _, rfl, .inl rfl⟩
    · split
      · exact ⟨_, _, rfl, .inl rfl⟩
      · exact ⟨_, _, rfl, .inl rfl⟩
  · rw [if_neg h, name_PA, app (by rw [fA_size, ofL_size, PackS.frame_len]; decide), if_neg (by simp)]
    exact ⟨_, _, rfl, .inr rfl⟩

theorem scan_short {b : List Nat} (h : b.length < 12) : scan b = ([], 0) := PackS.scan_bad (by unfold PackS.good; rw [decide_eq_false (by omega)]; rfl)
theorem scan_A {r : List Nat} (h : r.length < 12) : scan (frame A ++ r) = ([A], 15) := by
  obtain ⟨g1, g2, g3⟩ := PackS.frame_good (d := A) (by decide) r
  rw [PackS.scan_good g1, g2, g3, PackS.drop_app (by rw [PackS.frame_len]), scan_short h]
  rfl

/-- Behind the crash the file begins with A's frame, and little more. -/
theorem crash_t {t : ByteArray} {k : Nat} (h : t = fA ∨ t = fA ++ ofL (frame X)) : ∃ t' d, crashS (F t 15 k) 0 5 = F t' d k ∧ ∃ r, bl t' = frame A ++ r ∧ r.length < 12 := by
  refine ⟨_, _, cra, ?_⟩
  rcases h with rfl | rfl
  · refine ⟨[], ?_, by simp⟩
    rw [bl_extract, fA_size, bl_fA, List.drop_zero, List.append_nil, List.take_of_length_le (by rw [PackS.frame_len]; decide)]
  · refine ⟨(frame X).take 5, ?_, by rw [List.length_take]; omega⟩
    have hs : (fA ++ ofL (frame X)).size = 30 := by rw [ByteArray.size_append, fA_size, ofL_size, PackS.frame_len]; rfl
    rw [bl_extract, hs, bl_append, bl_fA, bl_ofL (PackS.frame_lt (by decide)), List.drop_zero, show 15 + min 5 (30 - 15) = 15 + 5 from rfl, List.take_add, List.take_append_of_le_length (by rw [PackS.frame_len]; decide), List.take_of_length_le (by rw [PackS.frame_len]; decide), PackS.drop_app (by rw [PackS.frame_len]; rfl)]

theorem open_A {t : ByteArray} {d k : Nat} (h : ∃ r, bl t = frame A ++ r ∧ r.length < 12) : ∃ d' k', opened (F t d k) nm = (F fA d' k', some PA, 0) := by
  obtain ⟨r, hr, hl⟩ := h
  have hs : scan (bl t) = ([A], 15) := by rw [hr]; exact scan_A hl
  have ht : t.size = 15 + r.length := by rw [← bl_len, hr, List.length_append, PackS.frame_len]; rfl
  unfold opened
  rw [rd]
  simp only [hs]
  by_cases h1 : 15 < t.size
  · rw [if_pos h1]
    have hc := cut (t := t) (d := d) (k := k) (n := 15) (by omega)
    have ht' : t.extract 0 15 = fA := by
      apply bl_inj
      rw [bl_extract, hr, bl_fA, List.drop_zero, PackS.take_app (by rw [PackS.frame_len]; rfl)]
    rw [ht'] at hc
    simp only [hc]
    exact ⟨_, _, rfl⟩
  · rw [if_neg h1]
    have : t = fA := by
      apply bl_inj
      have : r = [] := List.eq_nil_of_length_eq_zero (by omega)
      rw [hr, bl_fA, this, List.append_nil]
    subst this
    exact ⟨_, _, rfl⟩
end PackT
end Go.Proofs.YtfoamcobpfflbaaDoor
namespace Go.Proofs.YtfoamcobpfflbaaDoor
open Go Go.RowKit Go.Maps
open VfsS (St)

namespace VfsT
abbrev a : ByteArray := ⟨#[97]⟩
abbrev b : ByteArray := ⟨#[98]⟩
abbrev f : ByteArray := ⟨#[102]⟩
abbrev g : ByteArray := ⟨#[103]⟩
theorem check_a : PathS.check a = 0 := by decide
theorem check_b : PathS.check b = 0 := by decide
theorem check_f : PathS.check f = 0 := by decide
theorem check_g : PathS.check g = 0 := by decide
def E1 : St := ⟨[⟨⟨#[]⟩, 0⟩], [(a, 0)], [], [⟨⟨#[]⟩, a, some 0⟩], 100, 1, -1⟩
def E2 : St := ⟨[⟨⟨#[120, 121]⟩, 0⟩], [(a, 0)], [], [⟨⟨#[]⟩, a, some 0⟩], 100, 2, -1⟩
def E3 : St := ⟨[⟨⟨#[120, 121]⟩, 2⟩], [(a, 0)], [], [⟨⟨#[]⟩, a, some 0⟩], 100, 3, -1⟩
def E4 : St := ⟨[⟨⟨#[120, 121]⟩, 2⟩], [(a, 0)], [(a, 0)], [], 100, 4, -1⟩
def E5 : St := ⟨[⟨⟨#[120, 121]⟩, 2⟩], [(b, 0)], [(a, 0)], [⟨a, b, some 0⟩], 100, 5, -1⟩
def E6 : St := ⟨[⟨⟨#[120, 121, 122]⟩, 2⟩], [(b, 0)], [(a, 0)], [⟨a, b, some 0⟩], 100, 6, -1⟩
def E7 : St := ⟨[⟨⟨#[120, 121]⟩, 2⟩], [(a, 0)], [(a, 0)], [], 100, 6, -1⟩
set_option maxRecDepth 10000
theorem e1 : VfsS.createS (VfsS.newS (100 : Int).toNat) a = (E1, 0) := by
  rw [VfsS.createS, check_a, if_neg (by decide)]; rfl
theorem e2 : VfsS.appendS E1 a ⟨#[120, 121]⟩ = (E2, 0) := by rfl
theorem e3 : VfsS.syncS E2 a = (E3, 0) := by rfl
theorem e4 : VfsS.flushAllS E3 = (E4, 0) := by rfl
theorem e5 : VfsS.renameS E4 a b = (E5, 0) := by
  rw [VfsS.renameS, check_b, show VfsS.find E4.now a = some 0 from rfl]; rfl
theorem e6 : VfsS.appendS E5 b ⟨#[122]⟩ = (E6, 0) := by rfl
theorem e7 : VfsS.crashS E6 0 0 = E7 := by rfl
theorem r7a : VfsS.readS E7 a = some ⟨#[120, 121]⟩ := by rfl
theorem r7b : VfsS.readS E7 b = none := by rfl
theorem u7 : VfsS.used E7 = 2 := by rfl
end VfsT
end Go.Proofs.YtfoamcobpfflbaaDoor
namespace Go.Proofs.YtfoamcobpfflbaaDoor
open Go Go.RowKit Go.Maps
open VfsS (St)

theorem slA_new {w0 w1 : World} (cs : List Value) (e : TypeId) (f : Nat × Nat) : SlA w0 w1 (w1.alloc (.cells cs.toArray e f)) (some ⟨w1.heap.size, 0, none⟩) cs := by
  rcases sl_new w1 cs e f with h | ⟨b, o, h1, h2, h3⟩
  · exact .inl h
  · injection h1 with h1; injection h1 with h1 _; exact .inr ⟨_, _, rfl, by simp, .inr (Nat.le_refl _), fun i u hu => by have := h3 i u hu; subst h1; simp_all⟩

theorem SlA.sl {w0 w1 w : World} {a : Option Addr} {xs : List Value} (h : SlA w0 w1 w a xs) : Sl w a xs := by
  rcases h with h | ⟨b, o, h1, h2, h3, h4⟩
  · exact .inl h
  · exact .inr ⟨b, o, h1, h2, h4⟩

theorem below_alloc (w : World) (o : Obj) : Below w.heap.size w (w.alloc o) := (Below.refl _ w).alloc (Nat.le_refl _) o

set_option maxRecDepth 100000 in
set_option maxHeartbeats 4000000 in
theorem awake14_c (w : World) (hg : Gl w) : Calls Tryd.prog 44 #[] w fun e w' => e = .returned (.bool true) ∧ Below w.heap.size w w' := by
  have kc := fun (w : World) (C : Array Value) (n c : Nat) => Lib.run_convert_bytes_const (P := Tryd.prog) w 43 5 C n c Tryd.underlying43 Tryd.underlying5
  have ks := fun {w : World} {a : Option Addr} {b : ByteArray} (h : Sl w a (byteCells b)) (c : Nat) => run_str_of (P := Tryd.prog) Tryd.underlying43 Tryd.underlying5 Tryd.underlying9 h c
  go_enter Tryd.func44, Tryd.ntmps44
  go_wp2_with fail
  refine (new_a 100 w hg).mono ?_
  rintro e w1 (⟨h, _⟩ | ⟨-, p, rfl, h1⟩)
  · omega
  go_wp2_with fail
  refine (create_a h1 VfsT.a (by decide) (by omega)).mono ?_
  rw [VfsT.e1]
  rintro e w2 ⟨rfl, h2⟩
  clear h1
  go_wp2_with fail
  refine (append_a h2 (below_alloc w2 _) VfsT.a ⟨#[120, 121]⟩ (some ⟨w2.heap.size, 0, none⟩) 2 (by decide) (by decide) (slA_new _ _ _) (by omega)).mono ?_
  rw [VfsT.e2]
  rintro e w3 ⟨rfl, h3⟩
  clear h2
  go_wp2_with fail
  refine (sync_a h3 VfsT.a (by decide) (by omega)).mono ?_
  rw [VfsT.e3]
  rintro e w4 ⟨rfl, h4⟩
  clear h3
  go_wp2_with fail
  refine (flush_a h4 (by omega)).mono ?_
  rw [VfsT.e4]
  rintro e w5 ⟨rfl, h5⟩
  clear h4
  go_wp2_with fail
  refine (rename_a h5 VfsT.a VfsT.b (by decide) (by decide) (by omega)).mono ?_
  rw [VfsT.e5]
  rintro e w6 ⟨rfl, h6⟩
  clear h5
  go_wp2_with fail
  refine (append_a h6 (below_alloc w6 _) VfsT.b ⟨#[122]⟩ (some ⟨w6.heap.size, 0, none⟩) 1 (by decide) (by decide) (slA_new _ _ _) (by omega)).mono ?_
  rw [VfsT.e6]
  rintro e w7 ⟨rfl, h7⟩
  clear h6
  go_wp2_with fail
  refine (crash_a h7 0 0).mono ?_
  rw [VfsT.e7]
  rintro e w8 ⟨rfl, h8⟩
  clear h7
  go_wp2_with fail
  refine (read_a h8 VfsT.a (by decide)).mono ?_
  rw [VfsT.r7a]
  simp only [Option.getD_some, Option.isSome_some, if_true]
  rintro e w9 ⟨ra, rc, rfl, hsl, -, h9⟩
  clear h8
  go_wp2_with fail
  refine (read_a h9 VfsT.b (by decide)).mono ?_
  rw [VfsT.r7b]
  simp only [Option.getD_none, Option.isSome_none]
  rintro e wA ⟨sa, sc, rfl, -, hbA, hA⟩
  have hconv := ks (hsl.sl.below hbA) rc
  rw [show (ByteArray.size ⟨#[120, 121]⟩) = 2 from rfl] at hconv
  clear h9 hsl hbA
  go_wp2_with fail
  refine (left_a hA).mono ?_
  rw [VfsT.u7]
  rintro e wB ⟨rfl, hB⟩
  clear hA hconv
  go_wp2_with fail
  refine (list_a hB).mono ?_
  rintro e wC ⟨la, lc, rfl, -, -, hC⟩
  clear hB
  go_wp2_with fail
  refine (steps_a hC).mono ?_
  rintro e wD ⟨rfl, rfl⟩
  go_wp2_with fail
  go_ret
  exact ⟨rfl, hC.out⟩
end Go.Proofs.YtfoamcobpfflbaaDoor
