/- Texts of mine, joined: A file system in plain Lean: what each call makes of it. No program in sight. -/
import Derived.Test.YtfoamcobpfflbaaDoorZ4
namespace Go.Proofs.YtfoamcobpfflbaaDoor
namespace VfsS

structure File where
  text : ByteArray
  dur : Nat
instance : Inhabited File := ⟨⟨ByteArray.empty, 0⟩⟩

structure Chg where
  src : ByteArray
  dst : ByteArray
  file : Option Nat

abbrev Nm := List (ByteArray × Nat)

structure St where
  files : List File
  now : Nm
  sure : Nm
  acts : List Chg
  room : Nat
  steps : Nat
  limit : Int

def find (l : Nm) (s : ByteArray) : Option Nat := (l.find? fun p => decide (p.1 = s)).map (·.2)

def without (l : Nm) (s : ByteArray) : Nm := l.filter fun p => !decide (p.1 = s)

def less (a b : ByteArray) : Prop := a.data.toList < b.data.toList
instance (a b : ByteArray) : Decidable (less a b) := inferInstanceAs (Decidable (a.data.toList < b.data.toList))

/-- Where a name stands: behind the last one that it isn't less than, of the first k. -/
def insAt (l : Nm) (s : ByteArray) : Nat → Nat
  | 0 => 0
  | k + 1 => if less s (l.getD k (ByteArray.empty, 0)).1 then insAt l s k else k + 1

def ins (l : Nm) (s : ByteArray) (i : Nat) : Nm := l.take (insAt l s l.length) ++ [(s, i)] ++ l.drop (insAt l s l.length)

def doL (l : Nm) (a : Chg) : Nm :=
  match a.file with
  | none => if a.src.size = 0 then l else without l a.src
  | some i => ins (without (if a.src.size = 0 then l else without l a.src) a.dst) a.dst i

theorem find_none {l : Nm} {s : ByteArray} : find l s = none ↔ ∀ p ∈ l, p.1 ≠ s := by
  unfold find
  rw [Option.map_eq_none_iff, List.find?_eq_none]
  constructor
  · intro h p hp e; exact h p hp (decide_eq_true e)
  · intro h p hp e; exact h p hp (of_decide_eq_true e)

theorem find_some_iff {l : Nm} {s : ByteArray} : (find l s).isSome = true ↔ s ∈ l.map (·.1) := by
  rw [List.mem_map]
  constructor
  · intro h
    by_cases e : ∃ p ∈ l, p.1 = s
    · exact e
    · have : find l s = none := find_none.2 fun p hp he => e ⟨p, hp, he⟩
      rw [this] at h; cases h
  · rintro ⟨p, hp, he⟩
    cases h : find l s with
    | none => exact absurd he (find_none.1 h p hp)
    | some i => rfl

theorem find_mem {l : Nm} {s : ByteArray} {i : Nat} (h : find l s = some i) : (s, i) ∈ l := by
  unfold find at h
  rw [Option.map_eq_some_iff] at h
  obtain ⟨p, hp, rfl⟩ := h
  have h1 := List.find?_some hp
  have h2 := List.mem_of_find?_eq_some hp
  have : p.1 = s := of_decide_eq_true h1
  subst this
  exact h2

theorem find_of_mem {l : Nm} (hn : (l.map (·.1)).Nodup) {p : ByteArray × Nat} (h : p ∈ l) : find l p.1 = some p.2 := by
  induction l with
  | nil => cases h
  | cons q l ih =>
    rw [List.map_cons, List.nodup_cons] at hn
    unfold find
    rcases List.mem_cons.1 h with e | e
    · subst e; simp
    · have hne : q.1 ≠ p.1 := fun e2 => hn.1 (by rw [e2]; exact List.mem_map.2 ⟨p, e, rfl⟩)
      rw [List.find?_cons_of_neg (by simpa using hne)]
      exact ih hn.2 e

theorem find_cons (p : ByteArray × Nat) (l : Nm) (x : ByteArray) : find (p :: l) x = if p.1 = x then some p.2 else find l x := by
  unfold find
  by_cases h : p.1 = x
  · rw [if_pos h, List.find?_cons_of_pos (by simpa using h)]; rfl
  · rw [if_neg h, List.find?_cons_of_neg (by simpa using h)]

theorem find_append (l m : Nm) (x : ByteArray) : find (l ++ m) x = (find l x).or (find m x) := by
  induction l with
  | nil => simp [find]
  | cons p l ih =>
    rw [List.cons_append, find_cons, find_cons, ih]
    by_cases h : p.1 = x
    · rw [if_pos h, if_pos h]; rfl
    · rw [if_neg h, if_neg h]

theorem find_without (l : Nm) (s x : ByteArray) : find (without l s) x = if x = s then none else find l x := by
  induction l with
  | nil => simp [find, without]
  | cons p l ih =>
    unfold without at *
    by_cases h : p.1 = s
    · rw [List.filter_cons_of_neg (by simpa using h), ih, find_cons]
      by_cases e : x = s
      · rw [if_pos e, if_pos e]
      · rw [if_neg e, if_neg e, if_neg (fun e2 => e (e2.symm.trans h))]
    · rw [List.filter_cons_of_pos (by simpa using h), find_cons, ih, find_cons]
      by_cases e : x = s
      · subst e; rw [if_neg h, if_pos rfl, if_pos rfl]
      · rw [if_neg e]
        by_cases e2 : p.1 = x
        · rw [if_pos e2, if_neg e]
        · rw [if_neg e2, if_neg e]

theorem ins_split (l : Nm) (s : ByteArray) (i : Nat) : ∃ a b, l = a ++ b ∧ ins l s i = a ++ (s, i) :: b :=
  ⟨l.take (insAt l s l.length), l.drop (insAt l s l.length), (List.take_append_drop _ _).symm, by unfold ins; simp⟩

theorem find_ins {l : Nm} {s : ByteArray} (i : Nat) (h : find l s = none) (x : ByteArray) : find (ins l s i) x = if x = s then some i else find l x := by
  obtain ⟨a, b, e1, e2⟩ := ins_split l s i
  rw [e2, find_append, find_cons]
  rw [e1, find_append] at h
  by_cases e : x = s
  · subst e
    rw [if_pos rfl, if_pos rfl]
    cases ha : find a x with
    | none => rfl
    | some j => rw [ha] at h; cases h
  · rw [if_neg e, if_neg (fun e2 => e e2.symm), e1, find_append]

theorem find_doL (l : Nm) (a : Chg) (x : ByteArray) : find (doL l a) x =
    match a.file with
    | none => if a.src.size ≠ 0 ∧ x = a.src then none else find l x
    | some i => if x = a.dst then some i else if a.src.size ≠ 0 ∧ x = a.src then none else find l x := by
  have h1 : find (if a.src.size = 0 then l else without l a.src) x = if a.src.size ≠ 0 ∧ x = a.src then none else find l x := by
    by_cases h : a.src.size = 0
    · rw [if_pos h, if_neg (fun e => e.1 h)]
    · rw [if_neg h, find_without]
      by_cases e : x = a.src
      · rw [if_pos e, if_pos ⟨h, e⟩]
      · rw [if_neg e, if_neg (fun e2 => e e2.2)]
  unfold doL
  cases a.file with
  | none => exact h1
  | some i =>
    simp only
    rw [find_ins _ (by rw [find_without, if_pos rfl]), find_without, h1]
    by_cases e : x = a.dst
    · rw [if_pos e, if_pos e]
    · rw [if_neg e, if_neg e, if_neg e]

theorem without_sub (l : Nm) (s : ByteArray) : (without l s).Sublist l := List.filter_sublist

theorem ins_perm (l : Nm) (s : ByteArray) (i : Nat) : (ins l s i).Perm ((s, i) :: l) := by
  obtain ⟨a, b, e1, e2⟩ := ins_split l s i
  rw [e2, e1]
  exact List.perm_middle

/-- What doL leaves, and what it brings. -/
theorem doL_mem {l : Nm} {a : Chg} {p : ByteArray × Nat} (h : p ∈ doL l a) : p ∈ l ∨ (a.file = some p.2 ∧ p.1 = a.dst) := by
  have h1 : ∀ q, q ∈ (if a.src.size = 0 then l else without l a.src) → q ∈ l := by
    intro q hq
    split at hq
    · exact hq
    · exact (without_sub _ _).subset hq
  unfold doL at h
  cases hf : a.file with
  | none => rw [hf] at h; exact .inl (h1 p h)
  | some i =>
    rw [hf] at h
    simp only at h
    rcases List.mem_cons.1 ((ins_perm _ _ _).mem_iff.1 h) with e | e
    · right; subst e; exact ⟨rfl, rfl⟩
    · left; exact h1 p ((without_sub _ _).subset e)

theorem nodup_without {l : Nm} (h : (l.map (·.1)).Nodup) (s : ByteArray) : ((without l s).map (·.1)).Nodup := h.sublist ((without_sub l s).map _)

theorem nodup_doL {l : Nm} (h : (l.map (·.1)).Nodup) (a : Chg) : ((doL l a).map (·.1)).Nodup := by
  have h1 : ((if a.src.size = 0 then l else without l a.src).map (·.1)).Nodup := by
    split
    · exact h
    · exact nodup_without h _
  unfold doL
  cases a.file with
  | none => exact h1
  | some i =>
    simp only
    have h2 := nodup_without h1 a.dst
    have hp := (ins_perm (without (if a.src.size = 0 then l else without l a.src) a.dst) a.dst i).map (·.1)
    rw [hp.nodup_iff, List.map_cons, List.nodup_cons]
    refine ⟨fun hm => ?_, h2⟩
    have := find_some_iff.2 hm
    rw [find_without, if_pos rfl] at this
    cases this

/-- The file with a number. -/
def fl (S : St) (i : Nat) : File := S.files.getD i default

/-- How many bytes the named files have. -/
def used (S : St) : Nat := (S.now.map fun p => (fl S p.2).text.size).sum

def stepS (S : St) : St := if S.limit = 0 then S else { S with limit := if 0 < S.limit then S.limit - 1 else S.limit, steps := S.steps + 1 }
def changeS (S : St) (a : Chg) : St := { S with now := doL S.now a, acts := S.acts ++ [a] }
def putS (S : St) (i : Nat) (f : File) : St := { S with files := S.files.set i f }
def flushS (S : St) (n : Nat) : St := { S with sure := (S.acts.take n).foldl doL S.sure, acts := S.acts.drop n }
def newS (room : Nat) : St := ⟨[], [], [], [], room, 0, -1⟩

def createS (S : St) (s : ByteArray) : St × Int :=
  if PathS.check s ≠ 0 then (S, PathS.check s) else if (find S.now s).isSome then (S, 5) else if S.limit = 0 then (S, 190)
  else (changeS { stepS S with files := S.files ++ [⟨ByteArray.empty, 0⟩] } ⟨ByteArray.empty, s, some S.files.length⟩, 0)

def appendS (S : St) (s b : ByteArray) : St × Int :=
  match find S.now s with
  | none => (S, 4)
  | some i => if (S.room : Int) - used S < b.size then (S, 3) else if S.limit = 0 then (S, 190)
    else (putS (stepS S) i ⟨(fl S i).text ++ b, (fl S i).dur⟩, 0)

def cutS (S : St) (s : ByteArray) (n : Int) : St × Int :=
  match find S.now s with
  | none => (S, 4)
  | some i => if n < 0 ∨ ((fl S i).text.size : Int) < n then (S, 1) else if S.limit = 0 then (S, 190)
    else (putS (stepS S) i ⟨(fl S i).text.extract 0 n.toNat, n.toNat⟩, 0)

def syncS (S : St) (s : ByteArray) : St × Int :=
  match find S.now s with
  | none => (S, 4)
  | some i => if S.limit = 0 then (S, 190) else (putS (stepS S) i ⟨(fl S i).text, (fl S i).text.size⟩, 0)

def renameS (S : St) (s t : ByteArray) : St × Int :=
  match find S.now s with
  | none => (S, 4)
  | some i => if PathS.check t ≠ 0 then (S, PathS.check t) else if s = t then (S, 5) else if S.limit = 0 then (S, 190)
    else (changeS (stepS S) ⟨s, t, some i⟩, 0)

def removeS (S : St) (s : ByteArray) : St × Int :=
  if (find S.now s).isSome then if S.limit = 0 then (S, 190) else (changeS (stepS S) ⟨s, ByteArray.empty, none⟩, 0) else (S, 4)

def flushAllS (S : St) : St × Int := if S.limit = 0 then (S, 190) else (flushS (stepS S) S.acts.length, 0)

/-- A number within 0 and another one. -/
def clampN (n : Int) (most : Nat) : Nat := min n.toNat most

def cutF (n : Int) (f : File) : File := ⟨f.text.extract 0 (f.dur + clampN n (f.text.size - f.dur)), f.dur + clampN n (f.text.size - f.dur)⟩

def crashS (S : St) (acts bytes : Int) : St :=
  let T := flushS S (clampN acts S.acts.length)
  { T with acts := [], now := T.sure, files := T.files.map (cutF bytes), limit := -1 }

def readS (S : St) (s : ByteArray) : Option ByteArray := (find S.now s).map fun i => (fl S i).text

/-- Is a file meant by a name, or will it be? -/
def Live (S : St) (i : Nat) : Prop := (∃ s, (s, i) ∈ S.now) ∨ (∃ s, (s, i) ∈ S.sure) ∨ ∃ a ∈ S.acts, a.file = some i

structure Wf (S : St) : Prop where
  idx : ∀ i, Live S i → i < S.files.length
  dn : (S.now.map (·.1)).Nodup
  ds : (S.sure.map (·.1)).Nodup
  zn : ∀ p ∈ S.now, p.1.size ≤ 10000000
  zs : ∀ p ∈ S.sure, p.1.size ≤ 10000000
  za : ∀ a ∈ S.acts, a.src.size ≤ 10000000 ∧ a.dst.size ≤ 10000000
  dur : ∀ f ∈ S.files, f.dur ≤ f.text.size ∧ f.text.size ≤ 4194304
  room : S.room ≤ 4194304
  lim : -9223372036854775808 ≤ S.limit ∧ S.limit ≤ 9223372036854775807

theorem Wf.new {r : Nat} (h : r ≤ 4194304) : Wf (newS r) where
  idx i h := by rcases h with ⟨s, h⟩ | ⟨s, h⟩ | ⟨a, h, _⟩ <;> cases h
  dn := List.nodup_nil
  ds := List.nodup_nil
  zn p h := by cases h
  zs p h := by cases h
  za a h := by cases h
  dur f h := by cases h
  room := h
  lim := by show (-9223372036854775808 : Int) ≤ -1 ∧ (-1 : Int) ≤ 9223372036854775807; decide

theorem fl_step (S : St) (i : Nat) : fl (stepS S) i = fl S i := by unfold fl stepS; split <;> rfl
theorem stepS_files (S : St) : (stepS S).files = S.files := by unfold stepS; split <;> rfl
theorem stepS_now (S : St) : (stepS S).now = S.now := by unfold stepS; split <;> rfl
theorem stepS_sure (S : St) : (stepS S).sure = S.sure := by unfold stepS; split <;> rfl
theorem stepS_acts (S : St) : (stepS S).acts = S.acts := by unfold stepS; split <;> rfl
theorem stepS_room (S : St) : (stepS S).room = S.room := by unfold stepS; split <;> rfl
theorem live_step {S : St} {i : Nat} : Live (stepS S) i ↔ Live S i := by unfold Live; rw [stepS_now, stepS_sure, stepS_acts]

theorem Wf.step {S : St} (h : Wf S) : Wf (stepS S) where
  idx i hi := by rw [stepS_files]; exact h.idx i (live_step.1 hi)
  dn := by rw [stepS_now]; exact h.dn
  ds := by rw [stepS_sure]; exact h.ds
  zn := by rw [stepS_now]; exact h.zn
  zs := by rw [stepS_sure]; exact h.zs
  za := by rw [stepS_acts]; exact h.za
  dur := by rw [stepS_files]; exact h.dur
  room := by rw [stepS_room]; exact h.room
  lim := by
    have := h.lim
    unfold stepS
    split
    · exact this
    · simp only; split <;> omega

theorem live_change {S : St} {a : Chg} {i : Nat} (h : Live (changeS S a) i) : Live S i ∨ a.file = some i := by
  rcases h with ⟨s, h⟩ | ⟨s, h⟩ | ⟨b, h, hb⟩
  · rcases doL_mem h with h | h
    · exact .inl (.inl ⟨s, h⟩)
    · exact .inr h.1
  · exact .inl (.inr (.inl ⟨s, h⟩))
  · rcases List.mem_append.1 h with h | h
    · exact .inl (.inr (.inr ⟨b, h, hb⟩))
    · rw [List.mem_singleton] at h; subst h; exact .inr hb

theorem Wf.change {S : St} (h : Wf S) {a : Chg} (hf : ∀ i, a.file = some i → i < S.files.length) (h1 : a.src.size ≤ 10000000) (h2 : a.dst.size ≤ 10000000) : Wf (changeS S a) where
  idx i hi := by
    rcases live_change hi with hi | hi
    · exact h.idx i hi
    · exact hf i hi
  dn := nodup_doL h.dn a
  ds := h.ds
  zn p hp := by
    rcases doL_mem hp with hp | hp
    · exact h.zn p hp
    · rw [hp.2]; exact h2
  zs := h.zs
  za b hb := by
    rcases List.mem_append.1 hb with hb | hb
    · exact h.za b hb
    · rw [List.mem_singleton] at hb; subst hb; exact ⟨h1, h2⟩
  dur := h.dur
  room := h.room
  lim := h.lim

theorem fl_put {S : St} {i : Nat} (h : i < S.files.length) (f : File) (j : Nat) : fl (putS S i f) j = if j = i then f else fl S j := by
  show (S.files.set i f).getD j default = _
  unfold fl
  rw [List.getD_eq_getElem?_getD, List.getD_eq_getElem?_getD]
  by_cases e : j = i
  · subst e; rw [if_pos rfl, List.getElem?_set_self h]; rfl
  · rw [if_neg e, List.getElem?_set_ne (fun e2 => e e2.symm)]

theorem Wf.put {S : St} (h : Wf S) (i : Nat) {f : File} (hf : f.dur ≤ f.text.size ∧ f.text.size ≤ 4194304) : Wf (putS S i f) where
  idx j hj := by show j < (S.files.set i f).length; rw [List.length_set]; exact h.idx j hj
  dn := h.dn
  ds := h.ds
  zn := h.zn
  zs := h.zs
  za := h.za
  dur g hg := by
    rcases List.mem_or_eq_of_mem_set hg with hg | hg
    · exact h.dur g hg
    · subst hg; exact hf
  room := h.room
  lim := h.lim

theorem foldl_mem : ∀ (l : List Chg) (m : Nm) (p : ByteArray × Nat), p ∈ l.foldl doL m → p ∈ m ∨ ∃ a ∈ l, a.file = some p.2 ∧ p.1 = a.dst
  | [], m, p, h => .inl h
  | a :: l, m, p, h => by
    rw [List.foldl_cons] at h
    rcases foldl_mem l _ p h with h | ⟨b, hb, h⟩
    · rcases doL_mem h with h | h
      · exact .inl h
      · exact .inr ⟨a, by simp, h⟩
    · exact .inr ⟨b, by simp [hb], h⟩

theorem foldl_nodup : ∀ (l : List Chg) (m : Nm), (m.map (·.1)).Nodup → ((l.foldl doL m).map (·.1)).Nodup
  | [], m, h => h
  | a :: l, m, h => by rw [List.foldl_cons]; exact foldl_nodup l _ (nodup_doL h a)

theorem live_flush {S : St} {n i : Nat} (h : Live (flushS S n) i) : Live S i := by
  rcases h with ⟨s, h⟩ | ⟨s, h⟩ | ⟨b, h, hb⟩
  · exact .inl ⟨s, h⟩
  · rcases foldl_mem _ _ _ h with h | ⟨a, ha, h⟩
    · exact .inr (.inl ⟨s, h⟩)
    · exact .inr (.inr ⟨a, List.mem_of_mem_take ha, h.1⟩)
  · exact .inr (.inr ⟨b, List.mem_of_mem_drop h, hb⟩)

theorem Wf.flush {S : St} (h : Wf S) (n : Nat) : Wf (flushS S n) where
  idx i hi := h.idx i (live_flush hi)
  dn := h.dn
  ds := foldl_nodup _ _ h.ds
  zn := h.zn
  zs p hp := by
    rcases foldl_mem _ _ _ hp with hp | ⟨a, ha, hp⟩
    · exact h.zs p hp
    · rw [hp.2]; exact (h.za a (List.mem_of_mem_take ha)).2
  za a ha := h.za a (List.mem_of_mem_drop ha)
  dur := h.dur
  room := h.room
  lim := h.lim

theorem cutF_ok {f : File} (h : f.dur ≤ f.text.size ∧ f.text.size ≤ 4194304) (n : Int) : (cutF n f).dur = (cutF n f).text.size ∧ (cutF n f).text.size ≤ 4194304 := by
  unfold cutF clampN
  simp only [ByteArray.size_extract]
  omega

theorem live_crash {S : St} {x y : Int} {i : Nat} (h : Live (crashS S x y) i) : ∃ s, (s, i) ∈ (flushS S (clampN x S.acts.length)).sure := by
  rcases h with ⟨s, h⟩ | ⟨s, h⟩ | ⟨b, h, hb⟩
  · exact ⟨s, h⟩
  · exact ⟨s, h⟩
  · cases h

theorem Wf.crash {S : St} (h : Wf S) (x y : Int) : Wf (crashS S x y) where
  idx i hi := by
    obtain ⟨s, hs⟩ := live_crash hi
    show i < ((flushS S (clampN x S.acts.length)).files.map _).length
    rw [List.length_map]
    exact (h.flush _).idx i (.inr (.inl ⟨s, hs⟩))
  dn := (h.flush _).ds
  ds := (h.flush _).ds
  zn := (h.flush _).zs
  zs := (h.flush _).zs
  za a ha := by cases ha
  dur f hf := by
    obtain ⟨g, hg, rfl⟩ := List.mem_map.1 hf
    have := cutF_ok (h.dur g hg) y
    omega
  room := h.room
  lim := by show (-9223372036854775808 : Int) ≤ -1 ∧ (-1 : Int) ≤ 9223372036854775807; decide
end VfsS
end Go.Proofs.YtfoamcobpfflbaaDoor
