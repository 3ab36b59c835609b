/- Texts of mine, joined: Graphs in plain Lean: nodes are numbers in the order in which they were added. No program in sight. | What graphs answer, in plain Lean, and the laws of these answers. No program in sight. -/
namespace Go.Proofs.Ytoeoablmcelohaa
namespace DagS

/-- Who comes from whom, over nodes of which 'd' holds (the last one aside). -/
inductive Frd (d : Nat → Bool) (par : Nat → List Nat) : Nat → Nat → Prop
  | refl (i : Nat) : Frd d par i i
  | step {i j k : Nat} : d i = true → j ∈ par i → Frd d par j k → Frd d par i k

section
variable {d : Nat → Bool} {par : Nat → List Nat}
theorem Frd.trans {i j k : Nat} (h : Frd d par i j) (h2 : Frd d par j k) : Frd d par i k := by
  induction h with
  | refl => exact h2
  | step a b _ ih => exact .step a b (ih h2)
theorem Frd.le (hp : ∀ i, ∀ j ∈ par i, j < i) {i j : Nat} (h : Frd d par i j) : j ≤ i := by
  induction h with
  | refl => exact Nat.le_refl _
  | step a b _ ih => have := hp _ _ b; omega
theorem Frd.mono {d' : Nat → Bool} {i j : Nat} (h : Frd d par i j) (hd : ∀ k, d k = true → d' k = true) : Frd d' par i j := by
  induction h with
  | refl => exact .refl _
  | step a b _ ih => exact .step (hd _ a) b ih
/-- The last step. -/
theorem Frd.last {i k : Nat} (h : Frd d par i k) : i = k ∨ ∃ j, Frd d par i j ∧ d j = true ∧ k ∈ par j := by
  induction h with
  | refl => exact .inl rfl
  | @step i j k a b c ih =>
    rcases ih with rfl | ⟨m, h1, h2, h3⟩
    · exact .inr ⟨i, .refl _, a, b⟩
    · exact .inr ⟨m, .step a b h1, h2, h3⟩
end

/-- The places that are told: those that come from some of 'from', the greatest first. -/
def W (d : Nat → Bool) (par : Nat → List Nat) (from' : List Nat) (i : Nat) : Prop := ∃ f ∈ from', Frd d par f i

/-- One round of the walk in numbers: 'hs' what lies in the heap and is there, 'v' the least that was told. -/
structure St (d : Nat → Bool) (par : Nat → List Nat) (from' : List Nat) (hs : List Nat) (v : Nat) : Prop where
  all : ∀ h ∈ hs, W d par from' h ∧ h ≤ v
  rest : ∀ i, W d par from' i → i < v → ∃ h ∈ hs, h < v ∧ Frd d par h i

section
variable {d : Nat → Bool} {par : Nat → List Nat} {from' hs hs' : List Nat} {v m : Nat}
theorem W.le (hp : ∀ i, ∀ j ∈ par i, j < i) {i n : Nat} (h : W d par from' i) (hn : ∀ f ∈ from', f < n) : i < n := by
  obtain ⟨f, hf, hi⟩ := h
  have := hi.le hp
  have := hn f hf
  omega
theorem St.start (h : ∀ f ∈ from', f < v) : St d par from' from' v :=
  ⟨fun f hf => ⟨⟨f, hf, .refl _⟩, Nat.le_of_lt (h f hf)⟩, fun _ ⟨f, hf, hi⟩ _ => ⟨f, hf, h f hf, hi⟩⟩
/-- The heap in another order. -/
theorem St.perm (h : St d par from' hs v) (hm : ∀ x, x ∈ hs' ↔ x ∈ hs) : St d par from' hs' v :=
  ⟨fun x hx => h.all x ((hm x).1 hx), fun i hi hv => by
    obtain ⟨x, h1, h2, h3⟩ := h.rest i hi hv
    exact ⟨x, (hm x).2 h1, h2, h3⟩⟩
/-- What was told already is taken away. -/
theorem St.skip (h : St d par from' (v :: hs) v) : St d par from' hs v :=
  ⟨fun x hx => h.all x (.tail _ hx), fun i hi hv => by
    obtain ⟨x, h1, h2, h3⟩ := h.rest i hi hv
    rcases List.mem_cons.1 h1 with rfl | h1
    · omega
    · exact ⟨x, h1, h2, h3⟩⟩
/-- The greatest one is told. -/
theorem St.take (hp : ∀ i, ∀ j ∈ par i, j < i) (h : St d par from' (m :: hs) v) (hm : ∀ x ∈ hs, x ≤ m) (hv : m < v) :
    St d par from' ((if d m then par m else []) ++ hs) m := by
  refine ⟨fun x hx => ?_, fun i hi hv' => ?_⟩
  · rcases List.mem_append.1 hx with hx | hx
    · split at hx
      · rename_i hd
        obtain ⟨⟨f, hf, hfm⟩, _⟩ := h.all m (.head _)
        exact ⟨⟨f, hf, hfm.trans (.step hd hx (.refl _))⟩, Nat.le_of_lt (hp m x hx)⟩
      · cases hx
    · exact ⟨(h.all x (.tail _ hx)).1, hm x hx⟩
  · obtain ⟨x, h1, h2, h3⟩ := h.rest i hi (by omega)
    by_cases e : x = m
    · subst e
      cases h3 with
      | refl => omega
      | step a b c => exact ⟨_, List.mem_append.2 (.inl (by rw [if_pos a]; exact b)), hp _ _ b, c⟩
    · have h1 : x ∈ hs := (List.mem_cons.1 h1).resolve_left e
      exact ⟨x, List.mem_append.2 (.inr h1), by have := hm x h1; omega, h3⟩
/-- Nothing is passed over. -/
theorem St.gap (hp : ∀ i, ∀ j ∈ par i, j < i) (h : St d par from' (m :: hs) v) (hm : ∀ x ∈ hs, x ≤ m) {i : Nat} (hi : W d par from' i) (h1 : m < i) : v ≤ i := by
  apply Nat.le_of_not_lt
  intro h2
  obtain ⟨x, h3, h4, h5⟩ := h.rest i hi h2
  have := h5.le hp
  rcases List.mem_cons.1 h3 with rfl | h3
  · omega
  · have := hm x h3
    omega
theorem St.done (h : St d par from' [] v) {i : Nat} (hi : W d par from' i) : v ≤ i := by
  apply Nat.le_of_not_lt
  intro h2
  obtain ⟨x, h3, _⟩ := h.rest i hi h2
  cases h3
end

/-- What was told so far. -/
structure Told (d : Nat → Bool) (par : Nat → List Nat) (from' V : List Nat) (v : Nat) : Prop where
  desc : V.Pairwise (· > ·)
  mem : ∀ i, i ∈ V ↔ W d par from' i ∧ v ≤ i
section
variable {d : Nat → Bool} {par : Nat → List Nat} {from' hs V : List Nat} {v m : Nat}
theorem Told.start (hp : ∀ i, ∀ j ∈ par i, j < i) (h : ∀ f ∈ from', f < v) : Told d par from' [] v :=
  ⟨.nil, fun i => ⟨fun h => (nomatch h), fun x => by have := x.1.le hp h; have := x.2; omega⟩⟩
theorem Told.take (hp : ∀ i, ∀ j ∈ par i, j < i) (t : Told d par from' V v) (h : St d par from' (m :: hs) v) (hm : ∀ x ∈ hs, x ≤ m) (hv : m < v) : Told d par from' (V ++ [m]) m := by
  refine ⟨List.pairwise_append.2 ⟨t.desc, List.pairwise_singleton _ _, fun a ha b hb => ?_⟩, fun i => ?_⟩
  · rw [List.mem_singleton] at hb
    subst hb
    have := ((t.mem a).1 ha).2
    show a > b
    omega
  · rw [List.mem_append, t.mem, List.mem_singleton]
    constructor
    · rintro (⟨h1, h2⟩ | rfl)
      · exact ⟨h1, by omega⟩
      · exact ⟨(h.all _ (.head _)).1, Nat.le_refl _⟩
    · rintro ⟨h1, h2⟩
      by_cases e : i = m
      · exact .inr e
      · exact .inl ⟨h1, h.gap hp hm h1 (by omega)⟩
end

/-- The document's marks, when the nodes from i on were looked at. -/
def Rm (par : Nat → List Nat) (from' : List Nat) (i : Nat) (out : Nat → Prop) : Prop :=
  ∀ j, out j ↔ (i ≤ j ∧ W (fun _ => true) par from' j) ∨ ∃ k, i ≤ k ∧ W (fun _ => true) par from' k ∧ j ∈ par k
section
variable {par : Nat → List Nat} {from' : List Nat} {out out' : Nat → Prop} {i n : Nat}
theorem W.iff (j : Nat) : W (fun _ => true) par from' j ↔ j ∈ from' ∨ ∃ k, W (fun _ => true) par from' k ∧ j ∈ par k := by
  constructor
  · rintro ⟨f, hf, h⟩
    rcases h.last with rfl | ⟨k, h1, _, h3⟩
    · exact .inl hf
    · exact .inr ⟨k, ⟨f, hf, h1⟩, h3⟩
  · rintro (h | ⟨k, ⟨f, hf, h⟩, h3⟩)
    · exact ⟨j, h, .refl _⟩
    · exact ⟨f, hf, h.trans (.step rfl h3 (.refl _))⟩
theorem Rm.start (hp : ∀ i, ∀ j ∈ par i, j < i) (h : ∀ f ∈ from', f < n) : Rm par from' n (fun _ => False) := fun j => by
  refine ⟨False.elim, ?_⟩
  rintro (⟨h1, h2⟩ | ⟨k, h1, h2, _⟩)
  · have := h2.le hp h; omega
  · have := h2.le hp h; omega
theorem Rm.at (hp : ∀ i, ∀ j ∈ par i, j < i) (h : Rm par from' (i + 1) out) : (out i ∨ i ∈ from') ↔ W (fun _ => true) par from' i := by
  rw [W.iff, h i]
  constructor
  · rintro ((⟨h1, _⟩ | ⟨k, _, h2, h3⟩) | h)
    · omega
    · exact .inr ⟨k, h2, h3⟩
    · exact .inl h
  · rintro (h | ⟨k, h2, h3⟩)
    · exact .inr h
    · have := hp k i h3
      exact .inl (.inr ⟨k, by omega, h2, h3⟩)
theorem Rm.step (h : Rm par from' (i + 1) out) (ho : ∀ j, out' j ↔ out j ∨ (W (fun _ => true) par from' i ∧ (j = i ∨ j ∈ par i))) : Rm par from' i out' := fun j => by
  rw [ho, h j]
  constructor
  · rintro ((⟨h1, h2⟩ | ⟨k, h1, h2, h3⟩) | ⟨h1, rfl | h2⟩)
    · exact .inl ⟨by omega, h2⟩
    · exact .inr ⟨k, by omega, h2, h3⟩
    · exact .inl ⟨Nat.le_refl _, h1⟩
    · exact .inr ⟨i, Nat.le_refl _, h1, h2⟩
  · rintro (⟨h1, h2⟩ | ⟨k, h1, h2, h3⟩)
    · by_cases e : j = i
      · subst e; exact .inr ⟨h2, .inl rfl⟩
      · exact .inl (.inl ⟨by omega, h2⟩)
    · by_cases e : k = i
      · subst e; exact .inr ⟨h2, .inr h3⟩
      · exact .inl (.inr ⟨k, by omega, h2, h3⟩)
theorem Rm.done (h : Rm par from' 0 out) (j : Nat) : out j ↔ W (fun _ => true) par from' j := by
  rw [h j]
  constructor
  · rintro (⟨_, h⟩ | ⟨k, _, h2, h3⟩)
    · exact h
    · exact (W.iff j).2 (.inr ⟨k, h2, h3⟩)
  · exact fun h => .inl ⟨Nat.zero_le _, h⟩
end

theorem desc_ext : ∀ {a b : List Nat}, a.Pairwise (· > ·) → b.Pairwise (· > ·) → (∀ x, x ∈ a ↔ x ∈ b) → a = b
  | [], [], _, _, _ => rfl
  | [], y :: _, _, _, h => by have := (h y).2 (.head _); cases this
  | x :: _, [], _, _, h => by have := (h x).1 (.head _); cases this
  | x :: a, y :: b, ha, hb, h => by
    have ha' := List.pairwise_cons.1 ha
    have hb' := List.pairwise_cons.1 hb
    have e : x = y := by
      rcases List.mem_cons.1 ((h x).1 (.head _)) with e | h1
      · exact e
      · rcases List.mem_cons.1 ((h y).2 (.head _)) with e | h2
        · exact e.symm
        · have h3 := hb'.1 x h1
          have h4 := ha'.1 y h2
          omega
    subst e
    congr 1
    refine desc_ext ha'.2 hb'.2 fun z => ⟨fun hz => ?_, fun hz => ?_⟩
    · rcases List.mem_cons.1 ((h z).1 (.tail _ hz)) with rfl | h1
      · have := ha'.1 z hz; omega
      · exact h1
    · rcases List.mem_cons.1 ((h z).2 (.tail _ hz)) with rfl | h1
      · have := hb'.1 z hz; omega
      · exact h1

/-- A node's name and its parents. -/
structure Nd where
  name : ByteArray
  pars : List ByteArray

/-- The place of a name. -/
def find : List Nd → ByteArray → Option Nat
  | [], _ => none
  | x :: g, s => if x.name = s then some 0 else (find g s).map (· + 1)
def nm (g : List Nd) (i : Nat) : ByteArray := ((g[i]?).map Nd.name).getD ByteArray.empty
def pars (g : List Nd) (i : Nat) : List ByteArray := ((g[i]?).map Nd.pars).getD []
def par (g : List Nd) (i : Nat) : List Nat := (pars g i).filterMap (find g)
def ids (g : List Nd) (l : List ByteArray) : List Nat := l.filterMap (find g)

section
variable {g : List Nd} {s : ByteArray} {i j : Nat}
theorem find_lt : ∀ {g : List Nd} {i : Nat}, find g s = some i → i < g.length
  | [], _, h => (nomatch h)
  | x :: g, i, h => by
    rw [find] at h
    split at h
    · injection h with h; subst h; simp
    · cases e : find g s with
      | none => rw [e] at h; cases h
      | some k => rw [e] at h; injection h with h; subst h; have := find_lt e; simp; omega
theorem find_nm : ∀ {g : List Nd} {i : Nat}, find g s = some i → nm g i = s
  | [], _, h => (nomatch h)
  | x :: g, i, h => by
    rw [find] at h
    split at h
    · injection h with h; subst h; assumption
    · cases e : find g s with
      | none => rw [e] at h; cases h
      | some k => rw [e] at h; injection h with h; subst h; have := find_nm e; unfold nm at this ⊢; simpa using this
theorem find_none : ∀ {g : List Nd}, find g s = none ↔ ∀ i, i < g.length → nm g i ≠ s
  | [] => ⟨fun _ i h => (nomatch h), fun _ => rfl⟩
  | x :: g => by
    rw [find]
    constructor
    · intro h i hi
      split at h
      · cases h
      · rename_i hne
        cases i with
        | zero => exact hne
        | succ i =>
          have h2 : find g s = none := by cases e : find g s with | none => rfl | some k => rw [e] at h; cases h
          have := find_none.1 h2 i (by simpa using hi)
          unfold nm at this ⊢; simpa using this
    · intro h
      have h0 := h 0 (by simp)
      rw [if_neg (by unfold nm at h0; simpa using h0)]
      have h2 : find g s = none := find_none.2 fun i hi => by
        have := h (i + 1) (by simpa using hi)
        unfold nm at this ⊢; simpa using this
      rw [h2]; rfl
/-- Each name once. -/
def Dist (g : List Nd) : Prop := (g.map Nd.name).Nodup
theorem nm_get (h : i < g.length) : nm g i = g[i].name := by unfold nm; rw [List.getElem?_eq_getElem h]; rfl
theorem pars_get (h : i < g.length) : pars g i = g[i].pars := by unfold pars; rw [List.getElem?_eq_getElem h]; rfl
theorem Dist.inj (hd : Dist g) (hi : i < g.length) (hj : j < g.length) (h : nm g i = nm g j) : i = j := by
  rw [nm_get hi, nm_get hj] at h
  exact (List.getElem_inj (xs := g.map Nd.name) (h₀ := by simpa using hi) (h₁ := by simpa using hj) hd).1 (by simpa using h)
theorem Dist.find (hd : Dist g) (hi : i < g.length) : DagS.find g (nm g i) = some i := by
  cases e : DagS.find g (nm g i) with
  | none => exact absurd rfl (find_none.1 e i hi)
  | some k => rw [hd.inj (find_lt e) hi (find_nm e)]
theorem Dist.find_iff (hd : Dist g) : DagS.find g s = some i ↔ i < g.length ∧ nm g i = s :=
  ⟨fun h => ⟨find_lt h, find_nm h⟩, fun ⟨h1, h2⟩ => h2 ▸ hd.find h1⟩
end

def less (a b : ByteArray) : Prop := a.data.toList < b.data.toList
/-- Names in order, each once. -/
def Srt (l : List ByteArray) : Prop := l.Pairwise less

/-- A graph that is right. -/
structure Wf (g : List Nd) : Prop where
  dist : Dist g
  back : ∀ i, ∀ s ∈ pars g i, ∃ j, j < i ∧ find g s = some j
  srt : ∀ i, Srt (pars g i)

theorem Wf.par_lt {g : List Nd} (h : Wf g) : ∀ i, ∀ j ∈ par g i, j < i := by
  intro i j hj
  obtain ⟨s, hs, e⟩ := List.mem_filterMap.1 hj
  obtain ⟨k, hk, e2⟩ := h.back i s hs
  rw [e] at e2
  injection e2 with e2
  omega
theorem Wf.nil : Wf [] := ⟨.nil, fun _ _ h => (nomatch h), fun _ => .nil⟩

theorem find_append {g : List Nd} {x : Nd} {s : ByteArray} : find (g ++ [x]) s = (find g s).or (if x.name = s then some g.length else none) := by
  induction g with
  | nil => rw [List.nil_append, find, find]; split <;> rfl
  | cons y g ih =>
    rw [List.cons_append, find, find, ih]
    split
    · rfl
    · cases e : find g s with
      | none => simp only [Option.none_or, Option.map_none]; split <;> simp
      | some k => rfl

theorem less_irrefl (a : ByteArray) : ¬ less a a := List.lt_irrefl _
theorem less_trans {a b c : ByteArray} (h1 : less a b) (h2 : less b c) : less a c := List.lt_trans h1 h2
theorem ba_eq {x y : ByteArray} (e : x.data.toList = y.data.toList) : x = y := by cases x; cases y; congr 1; exact Array.toList_inj.1 e
theorem less_total {a b : ByteArray} (h : a ≠ b) (h2 : ¬ less a b) : less b a := by
  rcases List.le_iff_lt_or_eq.1 (List.not_lt.1 h2) with h3 | h3
  · exact h3
  · exact absurd (ba_eq h3).symm h
theorem srt_ext : ∀ {a b : List ByteArray}, Srt a → Srt b → (∀ x, x ∈ a ↔ x ∈ b) → a = b
  | [], [], _, _, _ => rfl
  | [], y :: _, _, _, h => (nomatch (h y).2 (.head _))
  | x :: _, [], _, _, h => (nomatch (h x).1 (.head _))
  | x :: a, y :: b, ha, hb, h => by
    have ha' := List.pairwise_cons.1 ha
    have hb' := List.pairwise_cons.1 hb
    have e : x = y := by
      rcases List.mem_cons.1 ((h x).1 (.head _)) with e | h1
      · exact e
      · rcases List.mem_cons.1 ((h y).2 (.head _)) with e | h2
        · exact e.symm
        · exact absurd (less_trans (hb'.1 x h1) (ha'.1 y h2)) (less_irrefl _)
    subst e
    congr 1
    refine srt_ext ha'.2 hb'.2 fun z => ⟨fun hz => ?_, fun hz => ?_⟩
    · rcases List.mem_cons.1 ((h z).1 (.tail _ hz)) with rfl | h1
      · exact absurd (ha'.1 z hz) (less_irrefl _)
      · exact h1
    · rcases List.mem_cons.1 ((h z).2 (.tail _ hz)) with rfl | h1
      · exact absurd (hb'.1 z hz) (less_irrefl _)
      · exact h1

section
open Classical
/-- The place of a name among names in order. -/
noncomputable def atS (l : List ByteArray) (s : ByteArray) : Nat → Nat
  | 0 => 0
  | k + 1 => if less s (l.getD k ByteArray.empty) then atS l s k else k + 1
noncomputable def withS (l : List ByteArray) (s : ByteArray) : List ByteArray := if s ∈ l then l else l.take (atS l s l.length) ++ [s] ++ l.drop (atS l s l.length)
theorem atS_le (l : List ByteArray) (s : ByteArray) : ∀ k, atS l s k ≤ k
  | 0 => Nat.le_refl _
  | k + 1 => by rw [atS]; split; · have := atS_le l s k; omega
                · omega
theorem atS_above (l : List ByteArray) (s : ByteArray) : ∀ k j, atS l s k ≤ j → j < k → less s (l.getD j ByteArray.empty)
  | 0, j, _, h => by omega
  | k + 1, j, h1, h2 => by
    rw [atS] at h1
    split at h1
    · by_cases e : j = k
      · subst e; assumption
      · exact atS_above l s k j h1 (by omega)
    · omega
theorem atS_below (l : List ByteArray) (s : ByteArray) : ∀ k, atS l s k = 0 ∨ ¬ less s (l.getD (atS l s k - 1) ByteArray.empty)
  | 0 => .inl rfl
  | k + 1 => by
    rw [atS]
    split
    · exact atS_below l s k
    · exact .inr (by simpa using ‹_›)
theorem withS_mem (l : List ByteArray) (s x : ByteArray) : x ∈ withS l s ↔ x = s ∨ x ∈ l := by
  unfold withS
  split
  · exact ⟨.inr, fun h => h.elim (fun e => e ▸ ‹_›) id⟩
  · have : x ∈ l ↔ x ∈ l.take (atS l s l.length) ∨ x ∈ l.drop (atS l s l.length) := by
      conv => lhs; rw [← List.take_append_drop (atS l s l.length) l]
      exact List.mem_append
    rw [this]
    simp only [List.mem_append, List.mem_singleton]
    constructor
    · rintro ((h | h) | h)
      · exact .inr (.inl h)
      · exact .inl h
      · exact .inr (.inr h)
    · rintro (h | h | h)
      · exact .inl (.inr h)
      · exact .inl (.inl h)
      · exact .inr h
theorem withS_srt {l : List ByteArray} (h : Srt l) (s : ByteArray) : Srt (withS l s) := by
  unfold withS
  split
  · exact h
  · rename_i hn
    have hle := atS_le l s l.length
    have hab := atS_above l s l.length
    have hbe := atS_below l s l.length
    generalize atS l s l.length = k at *
    have hget : ∀ j (hj : j < l.length), l.getD j ByteArray.empty = l[j] := fun j hj => by rw [List.getD_eq_getElem?_getD, List.getElem?_eq_getElem hj]; rfl
    have hpw := List.pairwise_iff_getElem.1 h
    have h1 : ∀ x ∈ l.take k, less x s := fun x hx => by
      obtain ⟨j, hj, rfl⟩ := List.getElem_of_mem hx
      rw [List.length_take] at hj
      rw [List.getElem_take]
      have hk : k ≠ 0 := by omega
      have hb := hbe.resolve_left hk
      rw [hget (k - 1) (by omega)] at hb
      have hne : s ≠ l[k - 1] := fun e => hn (e ▸ List.getElem_mem _)
      have hl := less_total hne hb
      by_cases e : j = k - 1
      · subst e; exact hl
      · exact less_trans (hpw j (k - 1) (by omega) (by omega) (by omega)) hl
    have h2 : ∀ x ∈ l.drop k, less s x := fun x hx => by
      obtain ⟨j, hj, rfl⟩ := List.getElem_of_mem hx
      rw [List.length_drop] at hj
      rw [List.getElem_drop]
      have := hab (k + j) (by omega) (by omega)
      rwa [hget (k + j) (by omega)] at this
    refine List.pairwise_append.2 ⟨List.pairwise_append.2 ⟨h.sublist (List.take_sublist _ _), List.pairwise_singleton _ _, fun a ha b hb => ?_⟩, h.sublist (List.drop_sublist _ _), fun a ha b hb => ?_⟩
    · rw [List.mem_singleton] at hb; subst hb; exact h1 a ha
    · rcases List.mem_append.1 ha with ha | ha
      · exact less_trans (h1 a ha) (h2 b hb)
      · rw [List.mem_singleton] at ha; subst ha; exact h2 b hb
noncomputable def withA (out l : List ByteArray) : List ByteArray := l.foldl withS out
theorem withA_mem : ∀ (l out : List ByteArray) (x : ByteArray), x ∈ withA out l ↔ x ∈ out ∨ x ∈ l
  | [], out, x => by simp [withA]
  | s :: l, out, x => by
    show x ∈ withA (withS out s) l ↔ _
    rw [withA_mem l, withS_mem, List.mem_cons]
    constructor
    · rintro ((h | h) | h)
      · exact .inr (.inl h)
      · exact .inl h
      · exact .inr (.inr h)
    · rintro (h | h | h)
      · exact .inl (.inr h)
      · exact .inl (.inl h)
      · exact .inr h
theorem withA_srt : ∀ (l : List ByteArray) {out : List ByteArray}, Srt out → Srt (withA out l)
  | [], _, h => h
  | s :: l, _, h => withA_srt l (withS_srt h s)

/-- A node more. -/
noncomputable def add (g : List Nd) (s : ByteArray) (l : List ByteArray) : List Nd × Int :=
  if (find g s).isSome then (g, 5) else if ∃ p ∈ l, find g p = none then (g, 4) else if 65536 ≤ g.length then (g, 3) else (g ++ [⟨s, withA [] l⟩], 0)
end

section
variable {g : List Nd} {x : Nd} {s : ByteArray} {i : Nat}
theorem nm_append_lt (h : i < g.length) : nm (g ++ [x]) i = nm g i := by unfold nm; rw [List.getElem?_append_left h]
theorem pars_append_lt (h : i < g.length) : pars (g ++ [x]) i = pars g i := by unfold pars; rw [List.getElem?_append_left h]
theorem nm_append_eq : nm (g ++ [x]) g.length = x.name := by unfold nm; rw [List.getElem?_concat_length]; rfl
theorem pars_append_eq : pars (g ++ [x]) g.length = x.pars := by unfold pars; rw [List.getElem?_concat_length]; rfl
theorem pars_over (h : g.length ≤ i) : pars g i = [] := by unfold pars; rw [List.getElem?_eq_none h]; rfl
theorem find_append_some (h : find g s = some i) : find (g ++ [x]) s = some i := by rw [find_append, h]; rfl
theorem Wf.append (h : Wf g) (hn : find g x.name = none) (hp : ∀ p ∈ x.pars, find g p ≠ none) (hs : Srt x.pars) : Wf (g ++ [x]) := by
  refine ⟨?_, fun i s hi => ?_, fun i => ?_⟩
  · unfold Dist
    rw [List.map_append, List.map_singleton]
    refine List.nodup_append.2 ⟨h.dist, List.pairwise_singleton _ _, fun a ha b hb => ?_⟩
    rw [List.mem_singleton] at hb
    subst hb
    obtain ⟨y, hy, rfl⟩ := List.mem_map.1 ha
    obtain ⟨j, hj, rfl⟩ := List.getElem_of_mem hy
    have := find_none.1 hn j hj
    rwa [nm_get hj] at this
  · rcases Nat.lt_trichotomy i g.length with h1 | rfl | h1
    · rw [pars_append_lt h1] at hi
      obtain ⟨j, hj, e⟩ := h.back i s hi
      exact ⟨j, hj, find_append_some e⟩
    · rw [pars_append_eq] at hi
      cases e : find g s with
      | none => exact absurd e (hp s hi)
      | some j => exact ⟨j, find_lt e, find_append_some e⟩
    · rw [pars_over (by simp; omega)] at hi; cases hi
  · rcases Nat.lt_trichotomy i g.length with h1 | rfl | h1
    · rw [pars_append_lt h1]; exact h.srt i
    · rw [pars_append_eq]; exact hs
    · rw [pars_over (by simp; omega)]; exact .nil
theorem Wf.add (h : Wf g) (s : ByteArray) (l : List ByteArray) : Wf (DagS.add g s l).1 := by
  unfold DagS.add
  split
  · exact h
  · rename_i h1
    split
    · exact h
    · rename_i h2
      split
      · exact h
      · refine h.append (by show DagS.find g s = none; cases e : DagS.find g s with | none => rfl | some k => rw [e] at h1; exact absurd rfl h1) (fun p hp e => h2 ⟨p, ?_, e⟩) (withA_srt l .nil)
        exact ((withA_mem l [] p).1 hp).resolve_left (fun h => nomatch h)
end
end DagS
end Go.Proofs.Ytoeoablmcelohaa
namespace Go.Proofs.Ytoeoablmcelohaa
namespace DagS
abbrev Fr (g : List Nd) : Nat → Nat → Prop := Frd (fun _ => true) (par g)

section
open Classical
/-- The places at which P holds, the least first. -/
noncomputable def upto (n : Nat) (P : Nat → Prop) : List Nat := (List.range n).filter fun i => decide (P i)
theorem mem_upto {n : Nat} {P : Nat → Prop} {i : Nat} : i ∈ upto n P ↔ i < n ∧ P i := by
  unfold upto
  rw [List.mem_filter, List.mem_range, decide_eq_true_iff]
theorem upto_asc (n : Nat) (P : Nat → Prop) : (upto n P).Pairwise (· < ·) := List.Pairwise.filter _ List.pairwise_lt_range
theorem upto_of {n : Nat} {P : Nat → Prop} {V : List Nat} (h : V.Pairwise (· > ·)) (hm : ∀ i, i ∈ V ↔ i < n ∧ P i) : V.reverse = upto n P := by
  have := desc_ext (b := (upto n P).reverse) h (by rw [List.pairwise_reverse]; exact upto_asc n P) (fun i => by rw [List.mem_reverse, mem_upto]; exact hm i)
  rw [this, List.reverse_reverse]
theorem upto_congr {n : Nat} {P Q : Nat → Prop} (h : ∀ i, i < n → (P i ↔ Q i)) : upto n P = upto n Q := by
  unfold upto
  refine List.filter_congr fun i hi => ?_
  rw [decide_eq_decide]
  exact h i (List.mem_range.1 hi)

def ancS (g : List Nd) (l : List ByteArray) (i : Nat) : Prop := W (fun _ => true) (par g) (ids g l) i
noncomputable def ancL (g : List Nd) (l : List ByteArray) : List ByteArray := (upto g.length (ancS g l)).map (nm g)
def Comes (g : List Nd) (a b : ByteArray) : Prop := ∃ i j, find g a = some i ∧ find g b = some j ∧ Fr g i j
def Tip (g : List Nd) (l : List ByteArray) (x : ByteArray) : Prop := x ∈ l ∧ find g x ≠ none ∧ ∀ y ∈ l, y = x ∨ ¬ Comes g y x
noncomputable def tipsL (g : List Nd) (l : List ByteArray) : List ByteArray := withA [] (l.filter fun x => decide (Tip g l x))
noncomputable def bothL (g : List Nd) (a b : ByteArray) : List ByteArray := (ancL g [a]).filter fun x => decide (x ∈ ancL g [b])
noncomputable def basesL (g : List Nd) (a b : ByteArray) : List ByteArray := tipsL g (bothL g a b)
noncomputable def missL (g : List Nd) (want have' : List ByteArray) : List ByteArray := (upto g.length fun i => ancS g want i ∧ ¬ ancS g have' i).map (nm g)
def parsL (g : List Nd) (a : ByteArray) : List ByteArray := ((find g a).map (pars g)).getD []
end

section
open Classical
variable {g : List Nd} {a b c x y : ByteArray} {l : List ByteArray} {i j : Nat}
theorem Wf.fr_le (h : Wf g) (hf : Fr g i j) : j ≤ i := hf.le h.par_lt
theorem Wf.anti (h : Wf g) (h1 : Fr g i j) (h2 : Fr g j i) : i = j := Nat.le_antisymm (h.fr_le h2) (h.fr_le h1)
theorem mem_ids : i ∈ ids g l ↔ ∃ s ∈ l, find g s = some i := List.mem_filterMap
theorem ids_lt : ∀ f ∈ ids g l, f < g.length := fun _ hf => by obtain ⟨s, _, e⟩ := mem_ids.1 hf; exact find_lt e
theorem Wf.anc_lt (h : Wf g) (hi : ancS g l i) : i < g.length := W.le h.par_lt hi ids_lt
theorem anc_iff : ancS g l i ↔ ∃ s ∈ l, ∃ k, find g s = some k ∧ Fr g k i := by
  constructor
  · rintro ⟨f, hf, hi⟩
    obtain ⟨s, hs, e⟩ := mem_ids.1 hf
    exact ⟨s, hs, f, e, hi⟩
  · rintro ⟨s, hs, k, e, hi⟩
    exact ⟨k, mem_ids.2 ⟨s, hs, e⟩, hi⟩
theorem Wf.mem_anc (h : Wf g) : x ∈ ancL g l ↔ ∃ s ∈ l, Comes g s x := by
  unfold ancL
  rw [List.mem_map]
  constructor
  · rintro ⟨i, hi, rfl⟩
    obtain ⟨h1, h2⟩ := mem_upto.1 hi
    obtain ⟨s, hs, k, e, hk⟩ := anc_iff.1 h2
    exact ⟨s, hs, k, i, e, h.dist.find h1, hk⟩
  · rintro ⟨s, hs, k, i, e, e2, hk⟩
    exact ⟨i, mem_upto.2 ⟨find_lt e2, anc_iff.2 ⟨s, hs, k, e, hk⟩⟩, find_nm e2⟩
theorem Wf.mem_anc1 (h : Wf g) : x ∈ ancL g [a] ↔ Comes g a x := by
  rw [h.mem_anc]
  exact ⟨fun ⟨s, hs, hc⟩ => by rw [List.mem_singleton] at hs; exact hs ▸ hc, fun hc => ⟨a, .head _, hc⟩⟩
theorem comes_refl : Comes g a a ↔ find g a ≠ none := by
  constructor
  · rintro ⟨i, _, e, _⟩; rw [e]; exact fun h => nomatch h
  · intro h
    cases e : find g a with
    | none => exact absurd e h
    | some i => exact ⟨i, i, e, e, .refl _⟩
theorem Comes.left (h : Comes g a b) : find g a ≠ none := by obtain ⟨i, _, e, _⟩ := h; rw [e]; exact fun h => nomatch h
theorem Comes.right (h : Comes g a b) : find g b ≠ none := by obtain ⟨_, i, _, e, _⟩ := h; rw [e]; exact fun h => nomatch h
theorem Comes.trans (h : Comes g a b) (h2 : Comes g b c) : Comes g a c := by
  obtain ⟨i, j, e1, e2, h1⟩ := h
  obtain ⟨j', k, e3, e4, h3⟩ := h2
  rw [e2] at e3; injection e3 with e3; subst e3
  exact ⟨i, k, e1, e4, h1.trans h3⟩
theorem find_inj (h1 : find g a = some i) (h2 : find g b = some i) : a = b := by rw [← find_nm h1, ← find_nm h2]
theorem Wf.comes_anti (h : Wf g) (h1 : Comes g a b) (h2 : Comes g b a) : a = b := by
  obtain ⟨i, j, e1, e2, h1⟩ := h1
  obtain ⟨j', k, e3, e4, h3⟩ := h2
  rw [e2] at e3; injection e3 with e3; subst e3
  rw [e1] at e4; injection e4 with e4; subst e4
  have := h.anti h1 h3
  subst this
  exact find_inj e1 e2
theorem mem_tips : x ∈ tipsL g l ↔ Tip g l x := by
  unfold tipsL
  rw [withA_mem, List.mem_filter, decide_eq_true_iff]
  exact ⟨fun h => (h.resolve_left (fun h => nomatch h)).2, fun h => .inr ⟨h.1, h⟩⟩
theorem tips_srt (g : List Nd) (l : List ByteArray) : Srt (tipsL g l) := withA_srt _ .nil
theorem Wf.mem_both (h : Wf g) : x ∈ bothL g a b ↔ Comes g a x ∧ Comes g b x := by
  unfold bothL
  rw [List.mem_filter, decide_eq_true_iff, h.mem_anc1, h.mem_anc1]
/-- A greatest one of those from which one comes. -/
theorem Wf.greatest (h : Wf g) (P : Nat → Prop) : ∀ (m i : Nat), g.length - i ≤ m → i < g.length → P i → (∀ k, P k → k < g.length) → ∃ t, P t ∧ Fr g t i ∧ ∀ k, P k → Fr g k t → k = t
  | m, i, hm, hi, hp, hP => by
    by_cases e : ∃ k, P k ∧ Fr g k i ∧ k ≠ i
    · obtain ⟨k, h1, h2, h3⟩ := e
      have h4 := h.fr_le h2
      have h5 := hP k h1
      cases m with
      | zero => omega
      | succ m =>
        obtain ⟨t, t1, t2, t3⟩ := h.greatest P m k (by omega) h5 h1 hP
        exact ⟨t, t1, t2.trans h2, t3⟩
    · exact ⟨i, hp, .refl _, fun k h1 h2 => Classical.byContradiction fun h3 => e ⟨k, h1, h2, h3⟩⟩
/-- From some tip each one comes. -/
theorem Wf.tip_above (h : Wf g) (hx : x ∈ l) (hf : find g x ≠ none) : ∃ t, t ∈ tipsL g l ∧ Comes g t x := by
  cases e : find g x with
  | none => exact absurd e hf
  | some i =>
    obtain ⟨t, ⟨s, hs, et⟩, h2, h3⟩ := h.greatest (fun k => ∃ s ∈ l, find g s = some k) _ i (Nat.le_refl _) (find_lt e) ⟨x, hx, e⟩ (fun k ⟨s, _, e⟩ => find_lt e)
    refine ⟨s, mem_tips.2 ⟨hs, (by rw [et]; exact fun h => (nomatch h)), fun y hy => ?_⟩, t, i, et, e, h2⟩
    by_cases e2 : Comes g y s
    · obtain ⟨k, t', e3, e4, h5⟩ := e2
      rw [et] at e4; injection e4 with e4; subst e4
      have := h3 k ⟨y, hy, e3⟩ h5
      subst this
      exact .inl (find_inj e3 et)
    · exact .inr e2
theorem tips_apart (hx : x ∈ tipsL g l) (hy : y ∈ tipsL g l) (hne : x ≠ y) : ¬ Comes g x y :=
  ((mem_tips.1 hy).2.2 x (mem_tips.1 hx).1).resolve_left hne
theorem tips_there (hx : x ∈ tipsL g l) : find g x ≠ none := (mem_tips.1 hx).2.1
theorem tips_ext {l' : List ByteArray} (h : ∀ x, Tip g l x ↔ Tip g l' x) : tipsL g l = tipsL g l' :=
  srt_ext (tips_srt _ _) (tips_srt _ _) fun x => by rw [mem_tips, mem_tips]; exact h x
theorem tips_tips : tipsL g (tipsL g l) = tipsL g l := by
  refine srt_ext (tips_srt _ _) (tips_srt _ _) fun x => ?_
  rw [mem_tips]
  exact ⟨fun h => h.1, fun h => ⟨h, tips_there h, fun y hy => by
    by_cases e : y = x
    · exact .inl e
    · exact .inr (tips_apart hy h e)⟩⟩
theorem Tip.congr {l' : List ByteArray} (h : ∀ x, x ∈ l ↔ x ∈ l') : Tip g l x ↔ Tip g l' x := by
  unfold Tip
  constructor
  · rintro ⟨h1, h2, h3⟩; exact ⟨(h x).1 h1, h2, fun y hy => h3 y ((h y).2 hy)⟩
  · rintro ⟨h1, h2, h3⟩; exact ⟨(h x).2 h1, h2, fun y hy => h3 y ((h y).1 hy)⟩
theorem Wf.bases_swap (h : Wf g) : basesL g a b = basesL g b a :=
  tips_ext fun x => Tip.congr fun x => by rw [h.mem_both, h.mem_both]; exact And.comm
theorem srt_one {l : List ByteArray} (h : Srt l) (hm : ∀ x, x ∈ l ↔ x = b) : l = [b] :=
  srt_ext h (List.pairwise_singleton _ _) fun x => by rw [hm, List.mem_singleton]
theorem Wf.bases_of (h : Wf g) (hc : Comes g a b) : basesL g a b = [b] := by
  refine srt_one (tips_srt _ _) fun x => ?_
  show x ∈ tipsL g (bothL g a b) ↔ _
  rw [mem_tips]
  constructor
  · rintro ⟨h1, h2, h3⟩
    obtain ⟨_, h5⟩ := h.mem_both.1 h1
    rcases h3 b (h.mem_both.2 ⟨hc, comes_refl.2 hc.right⟩) with e | e
    · exact e.symm
    · exact absurd h5 e
  · rintro rfl
    refine ⟨h.mem_both.2 ⟨hc, comes_refl.2 hc.right⟩, hc.right, fun y hy => ?_⟩
    obtain ⟨_, h5⟩ := h.mem_both.1 hy
    by_cases e : Comes g y x
    · exact .inl (h.comes_anti e h5)
    · exact .inr e
theorem Wf.mem_miss (h : Wf g) {want have' : List ByteArray} : x ∈ missL g want have' ↔ (∃ s ∈ want, Comes g s x) ∧ ¬ ∃ s ∈ have', Comes g s x := by
  unfold missL
  rw [List.mem_map]
  have key : ∀ {l : List ByteArray} {i : Nat}, i < g.length → (ancS g l i ↔ ∃ s ∈ l, Comes g s (nm g i)) := fun {l i} hi => by
    rw [← h.mem_anc]
    unfold ancL
    rw [List.mem_map]
    exact ⟨fun hh => ⟨i, mem_upto.2 ⟨hi, hh⟩, rfl⟩, fun ⟨k, hk, e⟩ => by
      obtain ⟨h1, h2⟩ := mem_upto.1 hk
      rw [← h.dist.inj h1 hi e]; exact h2⟩
  constructor
  · rintro ⟨i, hi, rfl⟩
    obtain ⟨h1, h2, h3⟩ := mem_upto.1 hi
    exact ⟨(key h1).1 h2, fun hh => h3 ((key h1).2 hh)⟩
  · rintro ⟨⟨s, hs, k, i, e1, e2, e3⟩, h2⟩
    have hi := find_lt e2
    have hn := find_nm e2
    refine ⟨i, mem_upto.2 ⟨hi, (key hi).2 (by rw [hn]; exact ⟨s, hs, k, i, e1, e2, e3⟩), fun hh => h2 ?_⟩, hn⟩
    rw [← hn]
    exact (key hi).1 hh
end
end DagS
end Go.Proofs.Ytoeoablmcelohaa
