/- What the merging in place does to a row, place by place. No program in sight. -/
import Derived.Sort.Lot0
import Derived.Sort.LotA
namespace Go.Proofs.YtlnifigbnpdemaaDoor
namespace SymS
open Go.Sort
variable {α : Type} [Inhabited α] {lt : α → α → Bool}

theorem swp_at (d : Array α) (i j x : Nat) (hi : i < d.size) (hj : j < d.size) (hij : i ≠ j) : (swp d i j)[x]! = if x = i then d[j]! else if x = j then d[i]! else d[x]! := by
  by_cases h1 : x = i
  · subst h1; rw [if_pos rfl]; exact swp_left d x j hi hij
  · rw [if_neg h1]
    by_cases h2 : x = j
    · subst h2; rw [if_pos rfl]; exact swp_right d i x hj
    · rw [if_neg h2]; exact swp_other d i j x h1 h2

theorem asymm {β : Type} {lt : β → β → Bool} (hS : SWO lt) {x y : β} (h : lt x y = true) : lt y x = false := by
  cases h2 : lt y x
  · rfl
  · have := hS.trans _ _ _ h h2; rw [hS.irrefl] at this; cases this

/-- x may stand before y, y stands before z. -/
theorem le_lt {β : Type} {lt : β → β → Bool} (hS : SWO lt) {x y z : β} (h1 : lt y x = false) (h2 : lt y z = true) : lt x z = true := by
  cases h : lt x z
  · have := hS.ntrans _ _ _ h1 h; rw [h2] at this; cases this
  · rfl
theorem lt_le {β : Type} {lt : β → β → Bool} (hS : SWO lt) {x y z : β} (h1 : lt x y = true) (h2 : lt z y = false) : lt x z = true := by
  cases h : lt x z
  · have := hS.ntrans _ _ _ h h2; rw [h1] at this; cases this
  · rfl

/-- The first y places of two parts are exchanged. -/
structure SwR (lo hi a b y : Nat) (d d' : Array α) : Prop where
  perm : PermIn lo hi d d'
  left : ∀ t, t < y → d'[a + t]! = d[b + t]!
  right : ∀ t, t < y → d'[b + t]! = d[a + t]!
  other : ∀ x, (x < a ∨ (a + y ≤ x ∧ x < b) ∨ b + y ≤ x) → d'[x]! = d[x]!

theorem SwR.start (lo hi a b : Nat) (d : Array α) : SwR lo hi a b 0 d d := ⟨permIn_refl _ _ _, fun t h => by omega, fun t h => by omega, fun _ _ => rfl⟩

theorem SwR.step {lo hi a b y : Nat} {d d' : Array α} (h : SwR lo hi a b y d d') (hab : a + y < b) (hlo : lo ≤ a) (hhi : b + y < hi) (hs : hi ≤ d.size) : SwR lo hi a b (y + 1) d (swp d' (a + y) (b + y)) := by
  have hsz : d'.size = d.size := h.perm.1
  have hat := swp_at d' (a + y) (b + y)
  refine ⟨permIn_trans _ _ _ _ _ h.perm (swp_permIn d' lo hi (a + y) (b + y) (by omega) (by omega) (by omega) (by omega) (by omega)), fun t ht => ?_, fun t ht => ?_, fun x hx => ?_⟩
  · rw [hat _ (by omega) (by omega) (by omega)]
    by_cases e : t = y
    · subst e; rw [if_pos rfl]; exact h.other _ (by omega)
    · rw [if_neg (by omega), if_neg (by omega)]; exact h.left t (by omega)
  · rw [hat _ (by omega) (by omega) (by omega)]
    by_cases e : t = y
    · subst e; rw [if_neg (by omega), if_pos rfl]; exact h.other _ (by omega)
    · rw [if_neg (by omega), if_neg (by omega)]; exact h.right t (by omega)
  · rw [hat _ (by omega) (by omega) (by omega), if_neg (by omega), if_neg (by omega)]
    exact h.other x (by omega)

/-- Where a place's element comes from when [a, m) and [m, b) are turned about. -/
def src (a m b x : Nat) : Nat := if x < a + (b - m) then x + (m - a) else x - (b - m)

/-- The turning about under way: [m - i, m) and [m, m + j) are left. -/
structure Rot (a m b i j : Nat) (d dk : Array α) : Prop where
  perm : PermIn a b d dk
  done : ∀ x, a ≤ x → x < b → (x < m - i ∨ m + j ≤ x) → dk[x]! = d[src a m b x]!
  l : ∀ x, m - i ≤ x → x < m - i + j → dk[x + i]! = d[src a m b x]!
  r : ∀ x, m - i + j ≤ x → x < m + j → dk[x - j]! = d[src a m b x]!
  hi : 0 < i ∧ i ≤ m - a
  hj : 0 < j ∧ j ≤ b - m

theorem Rot.start {a m b : Nat} {d : Array α} (h1 : a < m) (h2 : m < b) : Rot a m b (m - a) (b - m) d d := by
  refine ⟨permIn_refl _ _ _, fun x _ _ _ => by omega, fun x hx hx2 => ?_, fun x hx hx2 => ?_, by omega, by omega⟩
  · rw [src, if_pos (by omega)]
  · rw [src, if_neg (by omega)]

theorem Rot.big {a m b i j : Nat} {d dk dk' : Array α} (h : Rot a m b i j d dk) (ham : a < m) (hmb : m < b) (hij : j < i) (hw : SwR a b (m - i) m j dk dk') : Rot a m b (i - j) j d dk' := by
  have h1 := h.hi
  have h2 := h.hj
  refine ⟨permIn_trans _ _ _ _ _ h.perm hw.perm, fun x hx hx2 hx3 => ?_, fun x hx hx2 => ?_, fun x hx hx2 => ?_, by omega, by omega⟩
  · by_cases e : m - i ≤ x ∧ x < m
    · have e2 := hw.left (x - (m - i)) (by omega)
      rw [show m - i + (x - (m - i)) = x by omega, show m + (x - (m - i)) = x + i by omega] at e2
      rw [e2]; exact h.l x (by omega) (by omega)
    · rw [hw.other x (by omega)]; exact h.done x hx hx2 (by omega)
  · have e2 := hw.right (x + (i - j) - m) (by omega)
    rw [show m + (x + (i - j) - m) = x + (i - j) by omega, show m - i + (x + (i - j) - m) = x - j by omega] at e2
    rw [e2]; exact h.r x (by omega) (by omega)
  · rw [hw.other (x - j) (by omega)]; exact h.r x (by omega) (by omega)

theorem Rot.small {a m b i j : Nat} {d dk dk' : Array α} (h : Rot a m b i j d dk) (ham : a < m) (hmb : m < b) (hij : i < j) (hw : SwR a b (m - i) (m + j - i) i dk dk') : Rot a m b i (j - i) d dk' := by
  have h1 := h.hi
  have h2 := h.hj
  refine ⟨permIn_trans _ _ _ _ _ h.perm hw.perm, fun x hx hx2 hx3 => ?_, fun x hx hx2 => ?_, fun x hx hx2 => ?_, by omega, by omega⟩
  · by_cases e : m + (j - i) ≤ x ∧ x < m + j
    · have e2 := hw.right (x - (m + j - i)) (by omega)
      rw [show m + j - i + (x - (m + j - i)) = x by omega, show m - i + (x - (m + j - i)) = x - j by omega] at e2
      rw [e2]; exact h.r x (by omega) (by omega)
    · rw [hw.other x (by omega)]; exact h.done x hx hx2 (by omega)
  · rw [hw.other (x + i) (by omega)]; exact h.l x (by omega) (by omega)
  · have e2 := hw.left (x - (j - i) - (m - i)) (by omega)
    rw [show m - i + (x - (j - i) - (m - i)) = x - (j - i) by omega, show m + j - i + (x - (j - i) - (m - i)) = x + i by omega] at e2
    rw [e2]; exact h.l x (by omega) (by omega)

/-- Turned about. -/
structure RotD (a m b : Nat) (d d' : Array α) : Prop where
  perm : PermIn a b d d'
  at' : ∀ x, a ≤ x → x < b → d'[x]! = d[src a m b x]!

theorem Rot.last {a m b i : Nat} {d dk dk' : Array α} (h : Rot a m b i i d dk) (ham : a < m) (hmb : m < b) (hw : SwR a b (m - i) m i dk dk') : RotD a m b d dk' := by
  have h1 := h.hi
  have h2 := h.hj
  refine ⟨permIn_trans _ _ _ _ _ h.perm hw.perm, fun x hx hx2 => ?_⟩
  by_cases e : m - i ≤ x ∧ x < m
  · have e2 := hw.left (x - (m - i)) (by omega)
    rw [show m - i + (x - (m - i)) = x by omega, show m + (x - (m - i)) = x + i by omega] at e2
    rw [e2]; exact h.l x (by omega) (by omega)
  · by_cases e' : m ≤ x ∧ x < m + i
    · have e2 := hw.right (x - m) (by omega)
      rw [show m + (x - m) = x by omega, show m - i + (x - m) = x - i by omega] at e2
      rw [e2]; exact h.r x (by omega) (by omega)
    · rw [hw.other x (by omega)]; exact h.done x hx hx2 (by omega)

/-- Nothing to turn about. -/
theorem rotD_refl {a m b : Nat} {d : Array α} (ham : a ≤ m) (hmb : m ≤ b) (h : a = m ∨ m = b) : RotD a m b d d := by
  refine ⟨permIn_refl _ _ _, fun x hx hx2 => ?_⟩
  rw [src]
  split
  · rw [show x + (m - a) = x by omega]
  · rw [show x - (b - m) = x by omega]

/-- The element of place a is moved up to place k. -/
structure ShUp (a b k : Nat) (d dk : Array α) : Prop where
  perm : PermIn a b d dk
  low : ∀ x, a ≤ x → x < k → dk[x]! = d[x + 1]!
  it : dk[k]! = d[a]!
  high : ∀ x, k < x → dk[x]! = d[x]!

theorem ShUp.start (a b : Nat) (d : Array α) : ShUp a b a d d := ⟨permIn_refl _ _ _, fun x h1 h2 => by omega, rfl, fun _ _ => rfl⟩

theorem ShUp.step {a b k : Nat} {d dk : Array α} (h : ShUp a b k d dk) (hak : a ≤ k) (hk : k + 1 < b) (hb : b ≤ d.size) : ShUp a b (k + 1) d (swp dk k (k + 1)) := by
  have hsz : dk.size = d.size := h.perm.1
  have hat := fun x => swp_at dk k (k + 1) x (by omega) (by omega) (by omega)
  refine ⟨permIn_trans _ _ _ _ _ h.perm (swp_permIn dk a b k (k + 1) hak (by omega) (by omega) hk (by omega)), fun x h1 h2 => ?_, ?_, fun x hx => ?_⟩
  · rw [hat]
    by_cases e : x = k
    · subst e; rw [if_pos rfl]; exact h.high _ (by omega)
    · rw [if_neg e, if_neg (by omega)]; exact h.low x h1 (by omega)
  · rw [hat, if_neg (by omega), if_pos rfl]; exact h.it
  · rw [hat, if_neg (by omega), if_neg (by omega)]; exact h.high x (by omega)

theorem ShUp.sorted {a b i : Nat} {d dk : Array α} (h : ShUp a b (i - 1) d dk) (hai : a < i) (hib : i ≤ b) (hs : SortedIn lt (a + 1) b d) (h1 : ∀ x, a + 1 ≤ x → x < i → lt d[x]! d[a]! = true) (h2 : ∀ x, i ≤ x → x < b → lt d[x]! d[a]! = false) (hS : SWO lt) : SortedIn lt a b dk := by
  intro p q hap hpq hqb
  rcases Nat.lt_trichotomy p (i - 1) with e | e | e
  · rw [h.low p hap e]
    rcases Nat.lt_trichotomy q (i - 1) with f | f | f
    · rw [h.low q (by omega) f]; exact hs _ _ (by omega) (by omega) (by omega)
    · rw [f, h.it]; exact asymm hS (h1 _ (by omega) (by omega))
    · rw [h.high q f]; exact hs _ _ (by omega) (by omega) (by omega)
  · rw [e, h.it, h.high q (by omega)]; exact h2 q (by omega) hqb
  · rw [h.high p e, h.high q (by omega)]; exact hs _ _ (by omega) hpq hqb

/-- The element of place m is moved down to place k. -/
structure ShDn (a b m k : Nat) (d dk : Array α) : Prop where
  perm : PermIn a b d dk
  high : ∀ x, k < x → x ≤ m → dk[x]! = d[x - 1]!
  it : dk[k]! = d[m]!
  low : ∀ x, x < k → dk[x]! = d[x]!

theorem ShDn.start (a b m : Nat) (d : Array α) : ShDn a b m m d d := ⟨permIn_refl _ _ _, fun x h1 h2 => by omega, rfl, fun _ _ => rfl⟩

theorem ShDn.step {a b m k : Nat} {d dk : Array α} (h : ShDn a b m k d dk) (hak : a < k) (hk : k ≤ m) (hm : m < b) (hb : b ≤ d.size) : ShDn a b m (k - 1) d (swp dk k (k - 1)) := by
  have hsz : dk.size = d.size := h.perm.1
  have hat := fun x => swp_at dk k (k - 1) x (by omega) (by omega) (by omega)
  refine ⟨permIn_trans _ _ _ _ _ h.perm (swp_permIn dk a b k (k - 1) (by omega) (by omega) (by omega) (by omega) (by omega)), fun x h1 h2 => ?_, ?_, fun x hx => ?_⟩
  · rw [hat]
    by_cases e : x = k
    · subst e; rw [if_pos rfl]; exact h.low _ (by omega)
    · rw [if_neg e, if_neg (by omega)]; exact h.high x (by omega) h2
  · rw [hat, if_neg (by omega), if_pos rfl]; exact h.it
  · rw [hat, if_neg (by omega), if_neg (by omega)]; exact h.low x (by omega)

theorem ShDn.sorted {a m i : Nat} {d dk : Array α} (h : ShDn a (m + 1) m i d dk) (hai : a ≤ i) (him : i ≤ m) (hs : SortedIn lt a m d) (h1 : ∀ x, a ≤ x → x < i → lt d[m]! d[x]! = false) (h2 : ∀ x, i ≤ x → x < m → lt d[m]! d[x]! = true) (hS : SWO lt) : SortedIn lt a (m + 1) dk := by
  intro p q hap hpq hqb
  rcases Nat.lt_trichotomy p i with e | e | e
  · rw [h.low p e]
    rcases Nat.lt_trichotomy q i with f | f | f
    · rw [h.low q f]; exact hs _ _ hap hpq (by omega)
    · rw [f, h.it]; exact h1 p hap e
    · rw [h.high q f (by omega)]; exact hs _ _ hap (by omega) (by omega)
  · rw [e, h.it, h.high q (by omega) (by omega)]; exact asymm hS (h2 _ (by omega) (by omega))
  · rw [h.high p e (by omega), h.high q (by omega) (by omega)]; exact hs _ _ (by omega) (by omega) (by omega)

/-- What a sorted merge leaves. -/
def Merged (lt : α → α → Bool) (a b : Nat) (d d' : Array α) : Prop := PermIn a b d d' ∧ SortedIn lt a b d'

/-- Two halves, each sorted anew, all of the one before all of the other. -/
theorem halves {a mid b : Nat} {d1 d2 d3 : Array α} (ham : a ≤ mid) (hmb : mid ≤ b) (hb : b ≤ d1.size) (hx : ∀ p q, a ≤ p → p < mid → mid ≤ q → q < b → lt d1[q]! d1[p]! = false) (hl : Merged lt a mid d1 d2) (hr : Merged lt mid b d2 d3) : Merged lt a b d1 d3 := by
  obtain ⟨l1, l2⟩ := hl
  obtain ⟨r1, r2⟩ := hr
  have s2 : d2.size = d1.size := l1.1
  refine ⟨permIn_trans _ _ _ _ _ (permIn_mono _ _ _ _ _ _ (Nat.le_refl _) hmb hb l1) (permIn_mono _ _ _ _ _ _ ham (Nat.le_refl _) (by omega) r1), fun p q hap hpq hqb => ?_⟩
  by_cases hp : p < mid
  · rw [r1.2.1 p (.inl hp)]
    by_cases hq : q < mid
    · rw [r1.2.1 q (.inl hq)]; exact l2 p q hap hpq hq
    · have h1 : ∀ u, a ≤ u → u < mid → lt d3[q]! d1[u]! = false := by
        intro u hu1 hu2
        refine permIn_all d2 d3 mid b (fun z => lt z d1[u]! = false) (by omega) r1 (fun v hv1 hv2 => ?_) q (by omega) hqb
        rw [l1.2.1 v (.inr hv1)]
        exact hx u v hu1 hu2 hv1 hv2
      exact permIn_all d1 d2 a mid (fun z => lt d3[q]! z = false) (by omega) l1 h1 p hap hp
  · exact r2 p q (by omega) hpq hqb

/-- The places that a merge by halves looks at. -/
structure Cut (lt : α → α → Bool) (a m b mid s : Nat) (d : Array α) : Prop where
  has : a ≤ s
  hsm : s ≤ m
  hse : s ≤ mid
  hme : m ≤ mid + m - s
  heb : mid + m - s ≤ b
  hlo : s = a ∨ mid + m - s = b ∨ lt d[mid + m - s]! d[s - 1]! = false
  hhi : s = m ∨ s = mid ∨ lt d[mid + m - 1 - s]! d[s]! = true

/-- Behind the turning about: all of the left half before all of the right one, in sorted runs. -/
theorem cut_cross {a m b mid s : Nat} {d d1 : Array α} (hS : SWO lt) (h : Cut lt a m b mid s d) (hu : SortedIn lt a m d) (hv : SortedIn lt m b d) (hr : RotD s m (mid + m - s) d d1) :
    (∀ p q, a ≤ p → p < mid → mid ≤ q → q < b → lt d1[q]! d1[p]! = false) ∧ SortedIn lt a s d1 ∧ SortedIn lt s mid d1 ∧ SortedIn lt mid (mid + m - s) d1 ∧ SortedIn lt (mid + m - s) b d1 := by
  obtain ⟨has, hsm, hse, hme, heb, hlo, hhi⟩ := h
  have out : ∀ x, x < s ∨ mid + m - s ≤ x → d1[x]! = d[x]! := fun x hx => hr.perm.2.1 x hx
  have mid1 : ∀ x, s ≤ x → x < mid → d1[x]! = d[x + (m - s)]! := by
    intro x h1 h2
    rw [hr.at' x h1 (by omega), src, if_pos (by omega)]
  have mid2 : ∀ x, mid ≤ x → x < mid + m - s → d1[x]! = d[x - (mid - s)]! := by
    intro x h1 h2
    rw [hr.at' x (by omega) h2, src, if_neg (by omega)]
    congr 1; omega
  have hle : ∀ (p q : Nat), a ≤ p → p ≤ q → q < m → lt d[q]! d[p]! = false := by
    intro p q h1 h2 h3
    rcases Nat.lt_or_ge p q with e | e
    · exact hu p q h1 e h3
    · rw [show p = q by omega]; exact hS.irrefl _
  have hle2 : ∀ (p q : Nat), m ≤ p → p ≤ q → q < b → lt d[q]! d[p]! = false := by
    intro p q h1 h2 h3
    rcases Nat.lt_or_ge p q with e | e
    · exact hv p q h1 e h3
    · rw [show p = q by omega]; exact hS.irrefl _
  refine ⟨fun p q hp1 hp2 hq1 hq2 => ?_, fun p q h1 h2 h3 => ?_, fun p q h1 h2 h3 => ?_, fun p q h1 h2 h3 => ?_, fun p q h1 h2 h3 => ?_⟩
  · by_cases hps : p < s
    · rw [out p (.inl hps)]
      by_cases hqe : q < mid + m - s
      · rw [mid2 q hq1 hqe]; exact hle _ _ hp1 (by omega) (by omega)
      · rw [out q (.inr (by omega))]
        rcases hlo with e | e | e
        · omega
        · omega
        · -- d[q] ≥ d[end] ≥ d[s-1] ≥ d[p]
          exact hS.ntrans _ _ _ (hS.ntrans _ _ _ (hle2 (mid + m - s) q hme (by omega) hq2) e) (hle p (s - 1) hp1 (by omega) (by omega))
    · rw [mid1 p (by omega) hp2]
      by_cases hqe : q < mid + m - s
      · rw [mid2 q hq1 hqe]
        rcases hhi with e | e | e
        · omega
        · omega
        · -- d[p'] ≤ d[end-1] < d[s] ≤ d[q']
          have e1 : lt d[p + (m - s)]! d[s]! = true := le_lt hS (hle2 (p + (m - s)) (mid + m - 1 - s) (by omega) (by omega) (by omega)) e
          exact asymm hS (lt_le hS e1 (hle s (q - (mid - s)) (by omega) (by omega) (by omega)))
      · rw [out q (.inr (by omega))]; exact hle2 _ _ (by omega) (by omega) hq2
  · rw [out p (.inl (by omega)), out q (.inl h3)]; exact hu p q h1 h2 (by omega)
  · rw [mid1 p h1 (by omega), mid1 q (by omega) h3]; exact hv _ _ (by omega) (by omega) (by omega)
  · rw [mid2 p h1 (by omega), mid2 q (by omega) h3]; exact hu _ _ (by omega) (by omega) (by omega)
  · rw [out p (.inr h1), out q (.inr (by omega))]; exact hv _ _ (by omega) h2 h3

theorem sortedIn_one {a b : Nat} {d : Array α} (h : b ≤ a + 1) : SortedIn lt a b d := fun p q h1 h2 h3 => by omega

theorem merged_refl {a b : Nat} {d : Array α} (h : SortedIn lt a b d) : Merged lt a b d d := ⟨permIn_refl _ _ _, h⟩

/-- What stands outside of a part stays sorted. -/
theorem sortedIn_out {a b p q : Nat} {d d' : Array α} (h : PermIn a b d d') (hs : SortedIn lt p q d) (ho : q ≤ a ∨ b ≤ p) : SortedIn lt p q d' := by
  intro i j h1 h2 h3
  rw [h.2.1 i (by omega), h.2.1 j (by omega)]
  exact hs i j h1 h2 h3

end SymS
end Go.Proofs.YtlnifigbnpdemaaDoor
