/- Texts of mine, joined: What merging answers, path by path: plain. | One side is the base, or both are alike: plain. | The files of a clean merge are a snapshot's: plain. | What tree.Diff and tree.Apply come to on files in their order: plain. | Sides that change other paths than each other: plain. -/
import Derived.Test.YtpcipdkoncmdcaaGreatDoorYJoinApart27
namespace Go.Proofs.YtpcipdkoncmdcaaGreatDoor
open Go Go.RowKit
/-- The file of a path. -/
def fiAt (l : List Fi) (p : ByteArray) : Option Fi := l.find? fun f => decide (f.path = p)
def thAt (L : List Th) (p : ByteArray) : Option Th := L.find? fun t => decide (t.path = p)
theorem fiAt_some {l : List Fi} {p : ByteArray} {f : Fi} (h : fiAt l p = some f) : f ∈ l ∧ f.path = p := ⟨List.mem_of_find?_eq_some h, by simpa using List.find?_some h⟩
theorem fiAt_none {l : List Fi} {p : ByteArray} : fiAt l p = none ↔ p ∉ l.map (·.path) := by
  unfold fiAt
  rw [List.find?_eq_none]
  constructor
  · intro h hm
    obtain ⟨f, hf, rfl⟩ := List.mem_map.1 hm
    exact h f hf (decide_eq_true rfl)
  · intro h f hf e
    exact h (List.mem_map.2 ⟨f, hf, by simpa using e⟩)
theorem fiAt_mem {l : List Fi} (hn : (l.map (·.path)).Nodup) {f : Fi} (hf : f ∈ l) : fiAt l f.path = some f := by
  induction l with
  | nil => cases hf
  | cons g l ih =>
    rw [List.map_cons, List.nodup_cons] at hn
    unfold fiAt
    rw [List.find?_cons]
    rcases List.mem_cons.1 hf with rfl | hf
    · simp
    · have : g.path ≠ f.path := fun e => hn.1 (e ▸ List.mem_map_of_mem hf)
      rw [decide_eq_false this]
      exact ih hn.2 hf
theorem thAt_taken (i : Nat) (f : Fi) (p : ByteArray) : ∀ L : List Th, thAt (taken i f L) p = if p = f.path then some (((thAt L p).getD { zTh with path := p }).add i f) else thAt L p
  | [] => by
    show thAt [({ zTh with path := f.path } : Th).add i f] p = _
    by_cases h : p = f.path
    · rw [if_pos h, h]; simp [thAt, Th.add]
    · rw [if_neg h]
      have h' : ¬ f.path = p := fun e => h e.symm
      simp [thAt, Th.add, h']
  | t :: L => by
    have ih := thAt_taken i f p L
    show thAt (if t.path = f.path then t.add i f :: L else t :: taken i f L) p = _
    have hc : ∀ (s : Th) (M : List Th), thAt (s :: M) p = if s.path = p then some s else thAt M p := by
      intro s M
      unfold thAt
      rw [List.find?_cons]
      by_cases h : s.path = p <;> simp [h]
    by_cases h1 : t.path = f.path
    · rw [if_pos h1, hc, hc]
      show (if t.path = p then _ else _) = _
      by_cases h2 : p = f.path
      · rw [if_pos (h1.trans h2.symm), if_pos h2, if_pos (h1.trans h2.symm)]; rfl
      · have h3 : ¬ t.path = p := fun e => h2 (e.symm.trans h1)
        rw [if_neg h3, if_neg h2, if_neg h3]
    · rw [if_neg h1, hc, hc, ih]
      by_cases h2 : p = f.path
      · have h3 : ¬ t.path = p := fun e => h1 (e.trans h2)
        rw [if_neg h3, if_pos h2, if_pos h2, if_neg h3]
      · rw [if_neg h2, if_neg h2]
theorem thAt_takenAll (i : Nat) (p : ByteArray) : ∀ (fs : List Fi) (L : List Th), (fs.map (·.path)).Nodup → thAt (takenAll i L fs) p = match fiAt fs p with | none => thAt L p | some f => some (((thAt L p).getD { zTh with path := p }).add i f)
  | [], L, _ => rfl
  | f :: fs, L, hn => by
    rw [List.map_cons, List.nodup_cons] at hn
    show thAt (takenAll i (taken i f L) fs) p = _
    rw [thAt_takenAll i p fs (taken i f L) hn.2, thAt_taken]
    have hc : fiAt (f :: fs) p = if f.path = p then some f else fiAt fs p := by
      unfold fiAt
      rw [List.find?_cons]
      by_cases h : f.path = p <;> simp [h]
    rw [hc]
    by_cases h : p = f.path
    · subst h
      have : fiAt fs f.path = none := fiAt_none.2 hn.1
      rw [this, if_pos rfl, if_pos rfl]
    · rw [if_neg h, if_neg (fun e => h e.symm)]
def okT3 (T : T3 (List Fi)) : Prop := (T.a.map (·.path)).Nodup ∧ (T.b.map (·.path)).Nodup ∧ (T.c.map (·.path)).Nodup
/-- A path's three, out of the snapshots. -/
def hasT (T : T3 (List Fi)) (p : ByteArray) : T3 Bool := ⟨(fiAt T.a p).isSome, (fiAt T.b p).isSome, (fiAt T.c p).isSome⟩
def idF : Option Fi → List Nat | none => zId | some f => f.id
def stF : Option Fi → Nat | none => 0 | some f => f.stamp
def idsT (T : T3 (List Fi)) (p : ByteArray) : T3 (List Nat) := ⟨idF (fiAt T.a p), idF (fiAt T.b p), idF (fiAt T.c p)⟩
def stsT (T : T3 (List Fi)) (p : ByteArray) : T3 Nat := ⟨stF (fiAt T.a p), stF (fiAt T.b p), stF (fiAt T.c p)⟩
def thT (T : T3 (List Fi)) (p : ByteArray) : Th := { zTh with path := p, has := hasT T p, ids := idsT T p, sts := stsT T p }
theorem thAt_upT {T : T3 (List Fi)} (h : okT3 T) (p : ByteArray) : thAt (upT T 3) p = if fiAt T.a p = none ∧ fiAt T.b p = none ∧ fiAt T.c p = none then none else some (thT T p) := by
  show thAt (takenAll 2 (takenAll 1 (takenAll 0 [] T.a) T.b) T.c) p = _
  rw [thAt_takenAll 2 p _ _ h.2.2, thAt_takenAll 1 p _ _ h.2.1, thAt_takenAll 0 p _ _ h.1]
  unfold thT hasT idsT stsT
  cases fiAt T.a p <;> cases fiAt T.b p <;> cases fiAt T.c p <;> rfl
theorem thOf_thAt (L : List Th) (p : ByteArray) : thOf L p = (thAt L p).getD zTh := rfl
theorem mem_thAt {L : List Th} {p : ByteArray} : p ∈ L.map (·.path) ↔ thAt L p ≠ none := by
  unfold thAt
  rw [Ne, List.find?_eq_none]
  constructor
  · intro hm h
    obtain ⟨t, ht, rfl⟩ := List.mem_map.1 hm
    exact h t ht (decide_eq_true rfl)
  · intro h
    false_or_by_contra
    rename_i hm
    exact h fun t ht e => hm (List.mem_map.2 ⟨t, ht, by simpa using e⟩)
theorem mem_upT {T : T3 (List Fi)} (h : okT3 T) (p : ByteArray) : p ∈ (upT T 3).map (·.path) ↔ (p ∈ T.a.map (·.path) ∨ p ∈ T.b.map (·.path) ∨ p ∈ T.c.map (·.path)) := by
  rw [mem_thAt, thAt_upT h]
  have e : ∀ l : List Fi, fiAt l p = none ↔ p ∉ l.map (·.path) := fun l => fiAt_none
  by_cases ha : fiAt T.a p = none
  · by_cases hb : fiAt T.b p = none
    · by_cases hc : fiAt T.c p = none
      · rw [if_pos ⟨ha, hb, hc⟩]
        exact ⟨fun h => absurd rfl h, fun h => (h.elim ((e _).1 ha) (fun h => h.elim ((e _).1 hb) ((e _).1 hc))).elim⟩
      · rw [if_neg (fun h => hc h.2.2)]
        exact ⟨fun _ => .inr (.inr (Classical.not_not.1 (fun h => hc ((e _).2 h)))), fun _ => by simp⟩
    · rw [if_neg (fun h => hb h.2.1)]
      exact ⟨fun _ => .inr (.inl (Classical.not_not.1 (fun h => hb ((e _).2 h)))), fun _ => by simp⟩
  · rw [if_neg (fun h => ha h.1)]
    exact ⟨fun _ => .inl (Classical.not_not.1 (fun h => ha ((e _).2 h))), fun _ => by simp⟩
/-- The names that are merged. -/
def nmsT (T : T3 (List Fi)) : List ByteArray := PathS.sorted ((upT T 3).map (·.path))
theorem upT_nodup (T : T3 (List Fi)) : ((upT T 3).map (·.path)).Nodup := takenAll_nodup (takenAll_nodup (takenAll_nodup List.nodup_nil))
theorem nms_nodup (T : T3 (List Fi)) : (nmsT T).Nodup := (PathS.sorted_perm _).nodup_iff.2 (upT_nodup T)
theorem nms_pw (T : T3 (List Fi)) : (nmsT T).Pairwise PathS.le := PathS.sorted_pw _
theorem mem_nms {T : T3 (List Fi)} (h : okT3 T) (p : ByteArray) : p ∈ nmsT T ↔ (p ∈ T.a.map (·.path) ∨ p ∈ T.b.map (·.path) ∨ p ∈ T.c.map (·.path)) := (PathS.sorted_perm _).mem_iff.trans (mem_upT h p)
theorem thOf_nms {T : T3 (List Fi)} (h : okT3 T) {p : ByteArray} (hp : p ∈ nmsT T) : thOf (upT T 3) p = thT T p := by
  have hm := mem_thAt.1 ((PathS.sorted_perm _).mem_iff.1 hp)
  rw [thAt_upT h] at hm
  rw [thOf_thAt, thAt_upT h]
  split at hm
  · exact absurd rfl hm
  · rename_i hn; rw [if_neg hn]; rfl
def decT (src : List Nat → ByteArray × Int) (T : T3 (List Fi)) (p : ByteArray) : Dec := decS src (hasT T p) (idsT T p) zId
def outT (src : List Nat → ByteArray × Int) (T : T3 (List Fi)) (p : ByteArray) : Option Ou := if (decT src T p).keep then some (outOf (decT src T p) (thT T p)) else none
theorem decGo_acc {src : List Nat → ByteArray × Int} {T : T3 (List Fi)} (h : okT3 T) : ∀ (l : List ByteArray) (acc : List Ou), (∀ p ∈ l, p ∈ nmsT T) → (∀ p ∈ l, (decT src T p).err = 0) → decGo src (upT T 3) acc l = (0, acc ++ l.filterMap (outT src T))
  | [], acc, _, _ => by simp [decGo]
  | p :: l, acc, hm, he => by
    have h1 := thOf_nms h (hm p (by simp))
    have h2 := he p (by simp)
    rw [decGo_step (d := decT src T p) h1 rfl, if_neg (by simp [h2]), decGo_acc h l _ (fun q hq => hm q (by simp [hq])) (fun q hq => he q (by simp [hq]))]
    rw [List.filterMap_cons]
    unfold outT
    by_cases hk : (decT src T p).keep = true
    · rw [if_pos hk, if_pos hk]; simp
    · rw [if_neg hk, if_neg hk]
/-- Merging whole. -/
theorem merge_ok {src : List Nat → ByteArray × Int} {T : T3 (List Fi)} (h : okT3 T) (hc : chkA T 3 = 0) (he : ∀ p ∈ nmsT T, (decT src T p).err = 0) : mergeS src (upT T 3) (chkA T 3) = (0, clashed ((nmsT T).filterMap (outT src T))) := by
  unfold mergeS
  rw [hc, if_neg (by simp), show PathS.sorted ((upT T 3).map (·.path)) = nmsT T from rfl, decGo_acc h _ _ (fun p hp => hp) he]
  simp

-- snapshots in their order
theorem chkF_zero {l : List Fi} : ∀ (n k : Nat), chkF l n k = 0 → ∀ j, k ≤ j → j < k + n → chk1 l j = 0
  | 0, k, _, j, h1, h2 => by omega
  | n + 1, k, h, j, h1, h2 => by
    rw [show chkF l (n + 1) k = if chk1 l k ≠ 0 then chk1 l k else chkF l n (k + 1) from rfl] at h
    split at h
    · rename_i hne; exact absurd h hne
    · rename_i he
      by_cases e : j = k
      · subst e; simpa using he
      · exact chkF_zero n (k + 1) h j (by omega) (by omega)
theorem chkF_of {l : List Fi} : ∀ (n k : Nat), (∀ j, k ≤ j → j < k + n → chk1 l j = 0) → chkF l n k = 0
  | 0, k, _ => rfl
  | n + 1, k, h => by
    rw [show chkF l (n + 1) k = if chk1 l k ≠ 0 then chk1 l k else chkF l n (k + 1) from rfl, if_neg (by simp [h k (Nat.le_refl _) (by omega)])]
    exact chkF_of n (k + 1) fun j h1 h2 => h j (by omega) (by omega)
structure OkS (l : List Fi) : Prop where
  n : l.length ≤ 256
  ck : ∀ f ∈ l, PathS.check f.path = 0
  lt : ∀ j (h : j + 1 < l.length), PathS.cmp (l[j]'(by omega)).path l[j + 1].path < 0
  un : ∀ j (h : j + 1 < l.length), PathS.under l[j + 1].path (l[j]'(by omega)).path = false
theorem okS_of {l : List Fi} (h : chkS l = 0) : OkS l := by
  have hn := chkS_len h
  unfold chkS at h
  rw [if_neg (by omega)] at h
  have h1 := chkF_zero _ _ h
  have hck : ∀ j (hj : j < l.length), PathS.check l[j].path = 0 := by
    intro j hj
    false_or_by_contra
    rename_i hne
    have := h1 j (Nat.zero_le _) (by omega)
    rw [chk1_bad hj hne] at this
    exact hne this
  refine ⟨hn, fun f hf => ?_, fun j hj => ?_, fun j hj => ?_⟩
  · obtain ⟨j, hj, rfl⟩ := List.getElem_of_mem hf; exact hck j hj
  · have := h1 (j + 1) (Nat.zero_le _) (by omega)
    rw [chk1_succ hj (hck _ hj)] at this
    split at this
    · cases this
    · omega
  · have := h1 (j + 1) (Nat.zero_le _) (by omega)
    rw [chk1_succ hj (hck _ hj)] at this
    split at this
    · cases this
    · split at this
      · cases this
      · rename_i hu; simpa using hu
theorem chkS_of {l : List Fi} (h : OkS l) : chkS l = 0 := by
  unfold chkS
  rw [if_neg (by have := h.n; omega)]
  refine chkF_of _ _ fun j _ hj => ?_
  have hj : j < l.length := by omega
  cases j with
  | zero => exact chk1_zero hj (h.ck _ (List.getElem_mem hj))
  | succ j => rw [chk1_succ hj (h.ck _ (List.getElem_mem hj)), if_neg (by have := h.lt j hj; omega), h.un j hj]; rfl
theorem cmp_trans {a b c : ByteArray} (h1 : PathS.cmp a b < 0) (h2 : PathS.cmp b c < 0) : PathS.cmp a c < 0 := PathS.cmp_tw.tr a b c h1 h2
theorem OkS.far {l : List Fi} (h : OkS l) : ∀ (d i : Nat) (hj : i + d + 1 < l.length), PathS.cmp (l[i]'(by omega)).path l[i + d + 1].path < 0
  | 0, i, hj => h.lt i hj
  | d + 1, i, hj => cmp_trans (h.far d i (by omega)) (h.lt (i + d + 1) hj)
theorem OkS.far' {l : List Fi} (h : OkS l) {i j : Nat} (hij : i < j) (hj : j < l.length) : PathS.cmp (l[i]'(by omega)).path l[j].path < 0 := by
  have := h.far (j - i - 1) i (by omega)
  simpa only [show i + (j - i - 1) + 1 = j by omega] using this
theorem cmp_self (a : ByteArray) : PathS.cmp a a = 0 := (PathS.cmp_tw.eq0 a a).2 rfl
theorem OkS.nodup {l : List Fi} (h : OkS l) : (l.map (·.path)).Nodup := by
  rw [List.nodup_iff_pairwise_ne, List.pairwise_map, List.pairwise_iff_getElem]
  intro i j hi hj hij e
  have := h.far' hij hj
  rw [e, cmp_self] at this
  omega
theorem OkS.pw {l : List Fi} (h : OkS l) : (l.map (·.path)).Pairwise PathS.le := by
  rw [List.pairwise_map, List.pairwise_iff_getElem]
  intro i j hi hj hij
  exact Int.le_of_lt (h.far' hij hj)
theorem filterMap_same {α β : Type} {f g : α → Option β} : ∀ {l : List α}, (∀ x ∈ l, f x = g x) → l.filterMap f = l.filterMap g
  | [], _ => rfl
  | x :: l, h => by rw [List.filterMap_cons, List.filterMap_cons, h x (by simp), filterMap_same fun y hy => h y (by simp [hy])]
/-- What a side's file becomes when it is kept. -/
def keptO (T : T3 (List Fi)) (f : Fi) : Ou := ⟨f.path, 1, f.id, cn f.stamp, ByteArray.empty, hasT T f.path, idsT T f.path⟩
end Go.Proofs.YtpcipdkoncmdcaaGreatDoor
namespace Go.Proofs.YtpcipdkoncmdcaaGreatDoor
open Go Go.RowKit
theorem eqS_same (b : Bool) (x : List Nat) : eqS b b x x = true := by simp [eqS]
theorem chkA_of {T : T3 (List Fi)} (ha : OkS T.a) (hb : OkS T.b) (hc : OkS T.c) : chkA T 3 = 0 := by
  have e0 : chkS (T.get 0) = 0 := chkS_of ha
  have e1 : chkS (T.get 1) = 0 := chkS_of hb
  have e2 : chkS (T.get 2) = 0 := chkS_of hc
  show (if chkS (T.get 0) ≠ 0 then chkS (T.get 0) else if chkS (T.get 1) ≠ 0 then chkS (T.get 1) else if chkS (T.get 2) ≠ 0 then chkS (T.get 2) else 0) = 0
  rw [e0, e1, e2]; rfl
end Go.Proofs.YtpcipdkoncmdcaaGreatDoor
namespace Go.Proofs.YtpcipdkoncmdcaaGreatDoor
open Go Go.RowKit
end Go.Proofs.YtpcipdkoncmdcaaGreatDoor
namespace Go.Proofs.YtpcipdkoncmdcaaGreatDoor
open Go Go.RowKit
/-- Files in their order, each path once. -/
def Srt (l : List Fi) : Prop := l.Pairwise fun f g => PathS.cmp f.path g.path < 0
theorem OkS.srt {l : List Fi} (h : OkS l) : Srt l := List.pairwise_iff_getElem.2 fun i j _ hj hij => h.far' hij hj
theorem Srt.nodup {l : List Fi} (h : Srt l) : (l.map (·.path)).Nodup := by
  rw [List.nodup_iff_pairwise_ne, List.pairwise_map]
  exact h.imp fun hc e => by rw [e, cmp_self] at hc; omega
theorem Srt.pw {l : List Fi} (h : Srt l) : (l.map (·.path)).Pairwise PathS.le := by
  rw [List.pairwise_map]
  exact h.imp fun hc => Int.le_of_lt hc
theorem cmp_anti (a b : ByteArray) : PathS.cmp b a = -PathS.cmp a b := PathS.cmp_tw.anti a b
theorem fiAt_cons (f : Fi) (l : List Fi) (p : ByteArray) : fiAt (f :: l) p = if f.path = p then some f else fiAt l p := by
  unfold fiAt
  rw [List.find?_cons]
  by_cases h : f.path = p <;> simp [h]
theorem fiAt_nil (p : ByteArray) : fiAt [] p = none := rfl
theorem fiAt_app (l m : List Fi) (p : ByteArray) : fiAt (l ++ m) p = (fiAt l p).or (fiAt m p) := by
  induction l with
  | nil => rw [List.nil_append, fiAt_nil]; rfl
  | cons f l ih =>
    rw [List.cons_append, fiAt_cons, fiAt_cons, ih]
    by_cases h : f.path = p
    · rw [if_pos h, if_pos h]; rfl
    · rw [if_neg h, if_neg h]

-- the search
theorem bsF_split {p : ByteArray} {l : List Fi} (h : Srt l) : ∀ (m i j : Nat), j - i ≤ m → i ≤ j → j ≤ l.length → (∀ k (hk : k < l.length), k < i → PathS.cmp l[k].path p < 0) → (∀ k (hk : k < l.length), j ≤ k → ¬ PathS.cmp l[k].path p < 0) →
    (∀ k (hk : k < l.length), k < bsF p l m i j → PathS.cmp l[k].path p < 0) ∧ (∀ k (hk : k < l.length), bsF p l m i j ≤ k → ¬ PathS.cmp l[k].path p < 0)
  | m, i, j, hm, hij, hj, h1, h2 => by
    by_cases hlt : i < j
    · obtain ⟨m', rfl⟩ : ∃ m', m = m' + 1 := ⟨m - 1, by omega⟩
      rw [bsF_step hlt hj]
      have hpw := List.pairwise_iff_getElem.1 h
      by_cases hc : PathS.cmp (l[(i + j) / 2]'(by omega)).path p < 0
      · rw [if_pos hc]
        refine bsF_split h m' _ _ (by omega) (by omega) hj (fun k hk hki => ?_) h2
        by_cases e : k = (i + j) / 2
        · subst e; exact hc
        · exact cmp_trans (hpw k ((i + j) / 2) hk (by omega) (by omega)) hc
      · rw [if_neg hc]
        refine bsF_split h m' _ _ (by omega) (by omega) (by omega) h1 (fun k hk hki => ?_)
        by_cases e : k = (i + j) / 2
        · subst e; exact hc
        · exact fun hk2 => hc (cmp_trans (hpw ((i + j) / 2) k (by omega) hk (by omega)) hk2)
    · have e : i = j := by omega
      subst e
      rw [bsF_done hlt]
      exact ⟨h1, h2⟩
theorem bs_split {p : ByteArray} {l : List Fi} (h : Srt l) : (∀ f ∈ l.take (bsI p l), PathS.cmp f.path p < 0) ∧ (∀ f ∈ l.drop (bsI p l), ¬ PathS.cmp f.path p < 0) := by
  obtain ⟨h1, h2⟩ := bsF_split (p := p) h l.length 0 l.length (by omega) (Nat.zero_le _) (Nat.le_refl _) (fun k hk h0 => by omega) (fun k hk h0 => by omega)
  refine ⟨fun f hf => ?_, fun f hf => ?_⟩
  · obtain ⟨k, hk, rfl⟩ := List.getElem_of_mem hf
    rw [List.length_take] at hk
    rw [List.getElem_take]
    exact h1 k (by omega) (by show k < bsI p l; omega)
  · obtain ⟨k, hk, rfl⟩ := List.getElem_of_mem hf
    rw [List.length_drop] at hk
    rw [List.getElem_drop]
    exact h2 _ (by omega) (by show bsI p l ≤ _; omega)
theorem cmp_gt {a b : ByteArray} (h : ¬ PathS.cmp a b < 0) (hne : a ≠ b) : PathS.cmp b a < 0 := by
  have h0 : PathS.cmp a b ≠ 0 := fun e => hne ((PathS.cmp_tw.eq0 a b).1 e)
  have := cmp_anti a b
  omega
theorem fiAt_lo {l : List Fi} {p : ByteArray} (h : ∀ f ∈ l, PathS.cmp f.path p < 0) : fiAt l p = none := fiAt_none.2 fun hm => by
  obtain ⟨f, hf, rfl⟩ := List.mem_map.1 hm
  have := h f hf
  rw [cmp_self] at this; omega
theorem fiAt_hi {l : List Fi} {p : ByteArray} (h : ∀ f ∈ l, PathS.cmp p f.path < 0) : fiAt l p = none := fiAt_none.2 fun hm => by
  obtain ⟨f, hf, rfl⟩ := List.mem_map.1 hm
  have := h f hf
  rw [cmp_self] at this; omega
/-- Where the search ends: nothing there. -/
theorem bs_none {p : ByteArray} {l : List Fi} (h : Srt l) (hp : fiAt l p = none) : bsB p l = false ∧ ∀ f ∈ l.drop (bsI p l), PathS.cmp p f.path < 0 := by
  have hne : ∀ f ∈ l, f.path ≠ p := fun f hf e => fiAt_none.1 hp (e ▸ List.mem_map_of_mem hf)
  refine ⟨?_, fun f hf => cmp_gt ((bs_split h).2 f hf) (hne f (List.mem_of_mem_drop hf))⟩
  unfold bsB
  split
  · rfl
  · rename_i f hf
    exact decide_eq_false fun e => hne f (List.mem_of_getElem? hf) ((PathS.cmp_tw.eq0 _ _).1 e)
theorem bs_some {p : ByteArray} {l : List Fi} (h : Srt l) {f : Fi} (hp : fiAt l p = some f) : bsB p l = true ∧ l[bsI p l]? = some f ∧ l.drop (bsI p l) = f :: l.drop (bsI p l + 1) := by
  obtain ⟨hf, rfl⟩ := fiAt_some hp
  have hd : f ∈ l.drop (bsI f.path l) := by
    rw [← List.take_append_drop (bsI f.path l) l] at hf
    rcases List.mem_append.1 hf with hf | hf
    · have := (bs_split h).1 f hf; rw [cmp_self] at this; omega
    · exact hf
  have hlt : bsI f.path l < l.length := by
    false_or_by_contra
    rw [List.drop_eq_nil_of_le (by omega)] at hd; cases hd
  have hdr := List.drop_eq_getElem_cons hlt
  have he : l[bsI f.path l]'hlt = f := by
    rw [hdr] at hd
    rcases List.mem_cons.1 hd with e | hd
    · exact e.symm
    · have hpw : Srt (l.drop (bsI f.path l)) := List.Pairwise.sublist (List.drop_sublist _ _) h
      rw [hdr] at hpw
      have h1 := (List.pairwise_cons.1 hpw).1 f hd
      exact absurd h1 ((bs_split h).2 _ (by rw [hdr]; exact List.mem_cons_self))
  have hg : l[bsI f.path l]? = some f := by rw [List.getElem?_eq_getElem hlt, he]
  refine ⟨?_, hg, by rw [hdr, he]⟩
  unfold bsB
  rw [hg]
  exact decide_eq_true (cmp_self _)

-- one change applied
def valC (c : Ch) : Option Fi := if c.kind = 2 then none else some c.new
structure PreC (o : Option Fi) (c : Ch) : Prop where
  lo : 1 ≤ c.kind
  hi : c.kind ≤ 4
  add : c.kind = 1 → o = none
  old : c.kind ≠ 1 → ∃ f, o = some f ∧ f.id = c.old.id
  path : c.kind ≠ 1 → c.kind ≠ 2 → c.new.path = c.old.path
theorem app1_spec {l : List Fi} (h : Srt l) {c : Ch} (hc : PreC (fiAt l (appP c)) c) : ∃ L, app1 l c = some L ∧ Srt L ∧ ∀ p, fiAt L p = if p = appP c then valC c else fiAt l p := by
  obtain ⟨p, hp⟩ : ∃ p, appP c = p := ⟨_, rfl⟩
  rw [hp] at hc ⊢
  have hsp := bs_split (p := p) h
  have hcat := List.take_append_drop (bsI p l) l
  have hps : Srt (l.take (bsI p l) ++ l.drop (bsI p l)) := by rw [hcat]; exact h
  obtain ⟨s1, s2, s3⟩ := List.pairwise_append.1 hps
  have hfa : ∀ q, fiAt l q = (fiAt (l.take (bsI p l)) q).or (fiAt (l.drop (bsI p l)) q) := fun q => by rw [← fiAt_app, hcat]
  by_cases hk : c.kind = 1
  · have hn := hc.add hk
    obtain ⟨b1, b2⟩ := bs_none h hn
    have hpn : c.new.path = p := by rw [← hp]; unfold appP; rw [if_pos hk]
    refine ⟨_, app1_ins hp hk b1 rfl, ?_, fun q => ?_⟩
    · refine List.pairwise_append.2 ⟨s1, List.pairwise_cons.2 ⟨fun g hg => by rw [hpn]; exact b2 g hg, s2⟩, fun f hf g hg => ?_⟩
      rcases List.mem_cons.1 hg with rfl | hg
      · rw [hpn]; exact hsp.1 f hf
      · exact s3 f hf g hg
    · rw [fiAt_app, fiAt_cons, hpn]
      by_cases hq : q = p
      · subst hq
        rw [if_pos rfl, if_pos rfl, fiAt_lo hsp.1]
        unfold valC; rw [if_neg (by omega)]; rfl
      · rw [if_neg hq, if_neg (fun e => hq e.symm), hfa]
  · obtain ⟨f, hf, hid⟩ := hc.old hk
    obtain ⟨b1, b2, b3⟩ := bs_some h hf
    obtain ⟨-, hfp⟩ := fiAt_some hf
    rw [b3] at s2 s3 hfa
    obtain ⟨t1, t2⟩ := List.pairwise_cons.1 s2
    by_cases hk2 : c.kind = 2
    · refine ⟨_, app1_del hp hk2 b1 rfl b2 hid, List.pairwise_append.2 ⟨s1, t2, fun a ha b hb => s3 a ha b (List.mem_cons_of_mem _ hb)⟩, fun q => ?_⟩
      rw [fiAt_app]
      by_cases hq : q = p
      · subst hq
        rw [if_pos rfl, fiAt_lo hsp.1, fiAt_hi (fun g hg => by rw [← hfp]; exact t1 g hg)]
        unfold valC; rw [if_pos hk2]; rfl
      · rw [if_neg hq, hfa, fiAt_cons, if_neg (fun e => hq (by rw [← e, hfp]))]
    · have hpn : c.new.path = p := by rw [hc.path hk hk2, ← hp]; unfold appP; rw [if_neg hk]
      refine ⟨_, app1_set hp hk hk2 b1 (by have := hc.lo; omega) (by have := hc.hi; omega) rfl b2 hid hpn, ?_, fun q => ?_⟩
      · refine List.pairwise_append.2 ⟨s1, List.pairwise_cons.2 ⟨fun g hg => by rw [hpn, ← hfp]; exact t1 g hg, t2⟩, fun a ha g hg => ?_⟩
        rcases List.mem_cons.1 hg with rfl | hg
        · rw [hpn, ← hfp]; exact s3 a ha f List.mem_cons_self
        · exact s3 a ha g (List.mem_cons_of_mem _ hg)
      · rw [fiAt_app, fiAt_cons, hpn]
        by_cases hq : q = p
        · subst hq
          rw [if_pos rfl, if_pos rfl, fiAt_lo hsp.1]
          unfold valC; rw [if_neg hk2]; rfl
        · rw [if_neg hq, if_neg (fun e => hq e.symm), hfa, fiAt_cons, if_neg (fun e => hq (by rw [← e, hfp]))]
/-- Changes of paths of their own, applied. -/
theorem applyS_spec : ∀ {cs : List Ch} {l : List Fi}, Srt l → (cs.map appP).Nodup → (∀ c ∈ cs, PreC (fiAt l (appP c)) c) → ∃ L, applyS l cs = some L ∧ Srt L ∧ (∀ p, (∀ c ∈ cs, appP c ≠ p) → fiAt L p = fiAt l p) ∧ ∀ c ∈ cs, fiAt L (appP c) = valC c
  | [], l, h, _, _ => ⟨l, rfl, h, fun _ _ => rfl, fun _ hc => nomatch hc⟩
  | c :: cs, l, h, hn, hp => by
    rw [List.map_cons, List.nodup_cons] at hn
    obtain ⟨l1, e1, s1, f1⟩ := app1_spec h (hp c (by simp))
    have hne : ∀ d ∈ cs, appP d ≠ appP c := fun d hd e => hn.1 (e ▸ List.mem_map_of_mem hd)
    obtain ⟨L, e2, s2, f2, f3⟩ := applyS_spec s1 hn.2 (fun d hd => by rw [f1, if_neg (hne d hd)]; exact hp d (by simp [hd]))
    refine ⟨L, by show (app1 l c).bind _ = _; rw [e1]; exact e2, s2, fun p hq => ?_, fun d hd => ?_⟩
    · rw [f2 p (fun d hd => hq d (by simp [hd])), f1, if_neg (fun e => hq c (by simp) e.symm)]
    · rcases List.mem_cons.1 hd with rfl | hd
      · rw [f2 _ hne, f1, if_pos rfl]
      · exact f3 d hd

-- the differences
def Alike (a b : Option Fi) : Prop := match a, b with
  | none, none => True
  | some f, some g => f.id = g.id ∧ cn f.stamp = cn g.stamp
  | _, _ => False
inductive DifC (A B : List Fi) (c : Ch) : Prop
  | add (h : c.kind = 1) (o : c.old = zF) (a : fiAt A c.new.path = none) (b : fiAt B c.new.path = some c.new)
  | del (h : c.kind = 2) (n : c.new = zF) (a : fiAt A c.old.path = some c.old) (b : fiAt B c.old.path = none)
  | chg (h : c.kind = 3 ∨ c.kind = 4) (e : c.new.path = c.old.path) (a : fiAt A c.old.path = some c.old) (b : fiAt B c.old.path = some c.new)
structure DifS (A B : List Fi) (cs : List Ch) : Prop where
  each : ∀ c ∈ cs, DifC A B c
  nodup : (cs.map appP).Nodup
  rest : ∀ p, (∀ c ∈ cs, appP c ≠ p) → Alike (fiAt A p) (fiAt B p)
theorem DifC.near {A B : List Fi} {c : Ch} (h : DifC A B c) : (fiAt A (appP c) ≠ none ∨ fiAt B (appP c) ≠ none) := by
  unfold Go.Proofs.YtpcipdkoncmdcaaGreatDoor.appP
  cases h with
  | add h o a b => rw [if_pos h]; exact .inr (by rw [b]; simp)
  | del h n a b => rw [if_neg (by omega)]; exact .inl (by rw [a]; simp)
  | chg h e a b => rw [if_neg (by omega)]; exact .inl (by rw [a]; simp)
end Go.Proofs.YtpcipdkoncmdcaaGreatDoor
namespace Go.Proofs.YtpcipdkoncmdcaaGreatDoor
open Go Go.RowKit
theorem DifC.lift {A B A' B' : List Fi} {c : Ch} (h : DifC A B c) (ha : fiAt A' (appP c) = fiAt A (appP c)) (hb : fiAt B' (appP c) = fiAt B (appP c)) : DifC A' B' c := by
  unfold Go.Proofs.YtpcipdkoncmdcaaGreatDoor.appP at ha hb
  cases h with
  | add h o a b => rw [if_pos h] at ha hb; exact .add h o (ha.trans a) (hb.trans b)
  | del h n a b => rw [if_neg (by omega)] at ha hb; exact .del h n (ha.trans a) (hb.trans b)
  | chg h e a b => rw [if_neg (by omega)] at ha hb; exact .chg h e (ha.trans a) (hb.trans b)
theorem DifC.above {A B : List Fi} {c : Ch} {p : ByteArray} (h : DifC A B c) (ha : ∀ f ∈ A, PathS.cmp p f.path < 0) (hb : ∀ f ∈ B, PathS.cmp p f.path < 0) : PathS.cmp p (appP c) < 0 := by
  rcases h.near with h | h
  · obtain ⟨f, hf⟩ := Option.ne_none_iff_exists'.1 h
    obtain ⟨h1, h2⟩ := fiAt_some hf
    rw [← h2]; exact ha f h1
  · obtain ⟨f, hf⟩ := Option.ne_none_iff_exists'.1 h
    obtain ⟨h1, h2⟩ := fiAt_some hf
    rw [← h2]; exact hb f h1
theorem lt_ne {a b : ByteArray} (h : PathS.cmp a b < 0) : a ≠ b := fun e => by rw [e, cmp_self] at h; omega
theorem DifS.nil : DifS [] [] [] := ⟨(fun _ h => nomatch h), List.nodup_nil, fun _ _ => trivial⟩
theorem DifS.put {A B A' B' : List Fi} {cs : List Ch} {c : Ch} {p : ByteArray} (hs : DifS A B cs) (hp : appP c = p) (ha : ∀ f ∈ A, PathS.cmp p f.path < 0) (hb : ∀ f ∈ B, PathS.cmp p f.path < 0)
    (hA : ∀ q, q ≠ p → fiAt A' q = fiAt A q) (hB : ∀ q, q ≠ p → fiAt B' q = fiAt B q) (hc : DifC A' B' c) : DifS A' B' (c :: cs) := by
  have hne : ∀ d ∈ cs, appP d ≠ p := fun d hd e => lt_ne ((hs.each d hd).above ha hb) e.symm
  refine ⟨fun d hd => ?_, ?_, fun q hq => ?_⟩
  · rcases List.mem_cons.1 hd with rfl | hd
    · exact hc
    · exact (hs.each d hd).lift (hA _ (hne d hd)) (hB _ (hne d hd))
  · rw [List.map_cons, List.nodup_cons, hp]
    refine ⟨fun hm => ?_, hs.nodup⟩
    obtain ⟨d, hd, e⟩ := List.mem_map.1 hm
    exact hne d hd e
  · have h1 : q ≠ p := fun e => hq c (by simp) (by rw [hp, e])
    rw [hA q h1, hB q h1]
    exact hs.rest q fun d hd => hq d (by simp [hd])
theorem DifS.skip {A B A' B' : List Fi} {cs : List Ch} {p : ByteArray} (hs : DifS A B cs) (ha : ∀ f ∈ A, PathS.cmp p f.path < 0) (hb : ∀ f ∈ B, PathS.cmp p f.path < 0)
    (hA : ∀ q, q ≠ p → fiAt A' q = fiAt A q) (hB : ∀ q, q ≠ p → fiAt B' q = fiAt B q) (hc : Alike (fiAt A' p) (fiAt B' p)) : DifS A' B' cs := by
  have hne : ∀ d ∈ cs, appP d ≠ p := fun d hd e => lt_ne ((hs.each d hd).above ha hb) e.symm
  refine ⟨fun d hd => (hs.each d hd).lift (hA _ (hne d hd)) (hB _ (hne d hd)), hs.nodup, fun q hq => ?_⟩
  by_cases h1 : q = p
  · rw [h1]; exact hc
  · rw [hA q h1, hB q h1]; exact hs.rest q hq
theorem cons_ne {x : Fi} {l : List Fi} (q : ByteArray) (h : q ≠ x.path) : fiAt (x :: l) q = fiAt l q := by rw [fiAt_cons, if_neg (fun e => h e.symm)]
theorem cons_eq {x : Fi} {l : List Fi} : fiAt (x :: l) x.path = some x := by rw [fiAt_cons, if_pos rfl]
theorem difS : ∀ (A B : List Fi), Srt A → Srt B → DifS A B (diffS A B)
  | [], [], _, _ => by rw [diffS]; exact DifS.nil
  | x :: a, [], hA, _ => by
    obtain ⟨h1, h2⟩ := List.pairwise_cons.1 hA
    rw [diffS]
    exact (difS a [] h2 List.Pairwise.nil).put (p := x.path) rfl h1 (fun _ h => nomatch h) (fun q hq => cons_ne q hq) (fun _ _ => rfl) (.del rfl rfl cons_eq rfl)
  | [], y :: b, _, hB => by
    obtain ⟨h1, h2⟩ := List.pairwise_cons.1 hB
    rw [diffS]
    exact (difS [] b List.Pairwise.nil h2).put (p := y.path) rfl (fun _ h => nomatch h) h1 (fun _ _ => rfl) (fun q hq => cons_ne q hq) (.add rfl rfl rfl cons_eq)
  | x :: a, y :: b, hA, hB => by
    obtain ⟨h1, h2⟩ := List.pairwise_cons.1 hA
    obtain ⟨h3, h4⟩ := List.pairwise_cons.1 hB
    rw [diffS]
    by_cases hlt : PathS.cmp x.path y.path < 0
    · rw [if_pos hlt]
      have hy : ∀ f ∈ y :: b, PathS.cmp x.path f.path < 0 := fun f hf => by
        rcases List.mem_cons.1 hf with rfl | hf
        · exact hlt
        · exact cmp_trans hlt (h3 f hf)
      exact (difS a (y :: b) h2 hB).put (p := x.path) rfl h1 hy (fun q hq => cons_ne q hq) (fun _ _ => rfl) (.del rfl rfl cons_eq (fiAt_hi hy))
    · rw [if_neg hlt]
      by_cases hgt : PathS.cmp x.path y.path > 0
      · rw [if_pos hgt]
        have hlt' : PathS.cmp y.path x.path < 0 := by have := cmp_anti x.path y.path; omega
        have hx : ∀ f ∈ x :: a, PathS.cmp y.path f.path < 0 := fun f hf => by
          rcases List.mem_cons.1 hf with rfl | hf
          · exact hlt'
          · exact cmp_trans hlt' (h1 f hf)
        exact (difS (x :: a) b hA h4).put (p := y.path) rfl hx h3 (fun _ _ => rfl) (fun q hq => cons_ne q hq) (.add rfl rfl (fiAt_hi hx) cons_eq)
      · rw [if_neg hgt]
        have he : x.path = y.path := (PathS.cmp_tw.eq0 _ _).1 (by omega)
        have h3' : ∀ f ∈ b, PathS.cmp x.path f.path < 0 := fun f hf => by rw [he]; exact h3 f hf
        have hb' : fiAt (y :: b) x.path = some y := by rw [he]; exact cons_eq
        have hr := difS a b h2 h4
        by_cases hid : x.id ≠ y.id
        · rw [if_pos hid]
          exact hr.put (p := x.path) rfl h1 h3' (fun q hq => cons_ne q hq) (fun q hq => cons_ne q (by rw [← he]; exact hq)) (.chg (.inl rfl) he.symm cons_eq hb')
        · rw [if_neg hid]
          by_cases hst : cn x.stamp ≠ cn y.stamp
          · rw [if_pos hst]
            exact hr.put (p := x.path) rfl h1 h3' (fun q hq => cons_ne q hq) (fun q hq => cons_ne q (by rw [← he]; exact hq)) (.chg (.inr rfl) he.symm cons_eq hb')
          · rw [if_neg hst]
            refine hr.skip (p := x.path) h1 h3' (fun q hq => cons_ne q hq) (fun q hq => cons_ne q (by rw [← he]; exact hq)) ?_
            rw [cons_eq, hb']
            exact ⟨by simpa using hid, by simpa using hst⟩
termination_by A B => A.length + B.length

-- what is decided
theorem alike_eq {a b : Option Fi} (h : Alike a b) : a.isSome = b.isSome ∧ idF a = idF b ∧ cn (stF a) = cn (stF b) := by
  cases a <;> cases b
  · exact ⟨rfl, rfl, rfl⟩
  · exact h.elim
  · exact h.elim
  · exact ⟨rfl, h.1, h.2⟩
theorem dec_apart {a o t r : Option Fi} (h : (r = t ∧ Alike a o) ∨ (r = o ∧ Alike a t)) (src : List Nat → ByteArray × Int) : decS src ⟨a.isSome, o.isSome, t.isSome⟩ ⟨idF a, idF o, idF t⟩ zId = ⟨r.isSome, 0, 1, idF r, ByteArray.empty⟩ := by
  unfold decS
  rcases h with ⟨rfl, h⟩ | ⟨rfl, h⟩
  · obtain ⟨e1, e2, -⟩ := alike_eq h
    rw [← e1, ← e2]
    simp only [eqS_same, if_true]
    by_cases h : (eqS a.isSome r.isSome (idF a) (idF r) || eqS a.isSome r.isSome (idF a) (idF r)) = true
    · rw [if_pos h]
      rw [Bool.or_self] at h
      unfold eqS at h
      simp only [Bool.and_eq_true, decide_eq_true_eq] at h
      rw [h.1, h.2]
    · rw [if_neg h]
  · obtain ⟨e1, e2, -⟩ := alike_eq h
    rw [← e1, ← e2]
    simp only [eqS_same, Bool.or_true, if_true]
theorem when_apart {a o t : Option Fi} {f : Fi} (h : (some f = t ∧ Alike a o) ∨ (some f = o ∧ Alike a t)) : whenS ⟨a.isSome, o.isSome, t.isSome⟩ ⟨stF a, stF o, stF t⟩ = cn f.stamp := by
  unfold whenS
  rcases h with ⟨rfl, h⟩ | ⟨rfl, h⟩
  · obtain ⟨e1, -, e3⟩ := alike_eq h
    rw [← e1]
    show (if a.isSome = false then cn f.stamp else if (some f).isSome = false then _ else _) = _
    by_cases h1 : a.isSome = false
    · rw [if_pos h1]
    · rw [if_neg h1, if_neg (by simp), if_pos ⟨(by cases h : a.isSome with | true => rfl | false => exact absurd h h1), e3.symm⟩]; rfl
  · obtain ⟨e1, -, e3⟩ := alike_eq h
    rw [← e1]
    show (if (some f).isSome = false then _ else if a.isSome = false then cn f.stamp else _) = _
    rw [if_neg (by simp)]
    by_cases h1 : a.isSome = false
    · rw [if_pos h1]
    · rw [if_neg h1]
      by_cases h2 : cn f.stamp = cn (stF a)
      · rw [if_pos ⟨(by cases h : a.isSome with | true => rfl | false => exact absurd h h1), h2⟩]
        show cn (stF t) = _
        rw [← e3, h2]
      · rw [if_neg (fun e => h2 e.2), if_pos ⟨(by cases h : a.isSome with | true => rfl | false => exact absurd h h1), e3.symm⟩]; rfl
/-- One list of files is the outcome, but for clashes. -/
theorem merge_srt {src : List Nat → ByteArray × Int} {T : T3 (List Fi)} (h : okT3 T) (hc : chkA T 3 = 0) {O : List Fi} (hO : Srt O) (hin : ∀ p ∈ O.map (·.path), p ∈ nmsT T)
    (hd : ∀ p ∈ nmsT T, decT src T p = ⟨(fiAt O p).isSome, 0, 1, idF (fiAt O p), ByteArray.empty⟩) (hw : ∀ f ∈ O, whenS (hasT T f.path) (stsT T f.path) = cn f.stamp) :
    mergeS src (upT T 3) (chkA T 3) = (0, clashed (O.map (keptO T))) := by
  rw [merge_ok h hc (fun p hp => by rw [hd p hp])]
  have e1 : (nmsT T).filterMap (outT src T) = ((nmsT T).filter fun p => (fiAt O p).isSome).filterMap fun p => (fiAt O p).map (keptO T) := by
    rw [List.filterMap_filter]
    refine filterMap_same fun p hp => ?_
    unfold outT
    rw [hd p hp]
    cases e : fiAt O p with
    | none => rfl
    | some f =>
      obtain ⟨hf, rfl⟩ := fiAt_some e
      show some (outOf _ _) = some (keptO T f)
      unfold outOf keptO
      show some (Ou.mk f.path 1 f.id (whenS (hasT T f.path) (stsT T f.path)) ByteArray.empty (hasT T f.path) (idsT T f.path)) = _
      rw [hw f hf]
  have e2 : ((nmsT T).filter fun p => (fiAt O p).isSome) = O.map (·.path) := by
    have hp : ((nmsT T).filter fun p => (fiAt O p).isSome).Perm (O.map (·.path)) := by
      rw [List.perm_ext_iff_of_nodup ((nms_nodup T).filter _) hO.nodup]
      intro p
      rw [List.mem_filter]
      have hs : (fiAt O p).isSome = true ↔ p ∈ O.map (·.path) := by
        cases e : fiAt O p with
        | none => simp; have := fiAt_none.1 e; simpa using this
        | some f => obtain ⟨hf, rfl⟩ := fiAt_some e; simp; exact ⟨f, hf, rfl⟩
      rw [hs]
      exact ⟨fun h => h.2, fun h => ⟨hin p h, h⟩⟩
    rw [PathS.sorted_one hp ((nms_pw T).filter _)]
    exact (PathS.sorted_one (List.Perm.refl _) hO.pw).symm
  have e3 : ((O.map (·.path)).filterMap fun p => (fiAt O p).map (keptO T)) = O.map (keptO T) := by
    rw [List.filterMap_map]
    rw [← List.filterMap_eq_map]
    refine filterMap_same fun f hf => ?_
    show (fiAt O f.path).map (keptO T) = some (keptO T f)
    rw [fiAt_mem hO.nodup hf]; rfl
  rw [e1, e2, e3]

/-- Two changes meet at a path. -/
def meetsC (x y : Ch) : Prop := x.old.path ++ x.new.path = ByteArray.empty ∨ (x.old.path = y.old.path ∧ x.old.path ≠ ByteArray.empty) ∨ (x.new.path = y.new.path ∧ x.new.path ≠ ByteArray.empty)
theorem fiAt_ne {l : List Fi} (h : OkS l) {p : ByteArray} {f : Fi} (hf : fiAt l p = some f) : p ≠ ByteArray.empty := fun e => by
  obtain ⟨h1, h2⟩ := fiAt_some hf
  have := h.ck f h1
  rw [h2, e] at this
  revert this
  decide
theorem apart_meet {A O T : List Fi} (hA : OkS A) (hO : OkS O) (hno : ∀ x ∈ diffS A O, ∀ y ∈ diffS A T, ¬ meetsC x y) (dO : DifS A O (diffS A O)) (dT : DifS A T (diffS A T)) {y : Ch} (hy : y ∈ diffS A T) : Alike (fiAt A (appP y)) (fiAt O (appP y)) := by
  refine dO.rest _ fun x hx e => hno x hx y hy ?_
  have h1 := dO.each x hx
  have h2 := dT.each y hy
  unfold appP at e
  cases h1 with
  | add h o a b =>
    rw [if_pos h] at e
    cases h2 with
    | add h' o' a' b' => rw [if_pos h'] at e; exact .inr (.inr ⟨e, fiAt_ne hO b⟩)
    | del h' n' a' b' => rw [if_neg (by omega)] at e; rw [e, a'] at a; cases a
    | chg h' n' a' b' => rw [if_neg (by omega)] at e; rw [e, a'] at a; cases a
  | del h n a b =>
    rw [if_neg (by omega)] at e
    cases h2 with
    | add h' o' a' b' => rw [if_pos h'] at e; rw [e, a'] at a; cases a
    | del h' n' a' b' => rw [if_neg (by omega)] at e; exact .inr (.inl ⟨e, fiAt_ne hA a⟩)
    | chg h' n' a' b' => rw [if_neg (by omega)] at e; exact .inr (.inl ⟨e, fiAt_ne hA a⟩)
  | chg h n a b =>
    rw [if_neg (by omega)] at e
    cases h2 with
    | add h' o' a' b' => rw [if_pos h'] at e; rw [e, a'] at a; cases a
    | del h' n' a' b' => rw [if_neg (by omega)] at e; exact .inr (.inl ⟨e, fiAt_ne hA a⟩)
    | chg h' n' a' b' => rw [if_neg (by omega)] at e; exact .inr (.inl ⟨e, fiAt_ne hA a⟩)
theorem apart_plain {A O T : List Fi} (hA : OkS A) (hO : OkS O) (hT : OkS T) (hno : ∀ x ∈ diffS A O, ∀ y ∈ diffS A T, ¬ meetsC x y) (src : List Nat → ByteArray × Int) :
    ∃ R, applyS O (diffS A T) = some R ∧ Srt R ∧ mergeS src (upT ⟨A, O, T⟩ 3) (chkA ⟨A, O, T⟩ 3) = (0, clashed (R.map (keptO ⟨A, O, T⟩))) := by
  have dO := difS A O hA.srt hO.srt
  have dT := difS A T hA.srt hT.srt
  have hal : ∀ y ∈ diffS A T, Alike (fiAt A (appP y)) (fiAt O (appP y)) := fun y hy => apart_meet hA hO hno dO dT hy
  have hpre : ∀ c ∈ diffS A T, PreC (fiAt O (appP c)) c := by
    intro c hc
    have h1 := dT.each c hc
    have h2 := hal c hc
    unfold appP at h2 ⊢
    cases h1 with
    | add h o a b =>
      rw [if_pos h] at h2 ⊢
      rw [a] at h2
      refine ⟨by omega, by omega, fun _ => ?_, fun h' => absurd h h', fun h' => absurd h h'⟩
      cases e : fiAt O c.new.path with
      | none => rfl
      | some g => rw [e] at h2; exact h2.elim
    | del h n a b =>
      rw [if_neg (by omega)] at h2 ⊢
      rw [a] at h2
      refine ⟨by omega, by omega, fun h' => by omega, fun _ => ?_, fun _ h' => absurd h h'⟩
      cases e : fiAt O c.old.path with
      | none => rw [e] at h2; exact h2.elim
      | some g => rw [e] at h2; exact ⟨g, rfl, h2.1.symm⟩
    | chg h n a b =>
      rw [if_neg (by omega)] at h2 ⊢
      rw [a] at h2
      refine ⟨by omega, by omega, fun h' => by omega, fun _ => ?_, fun _ _ => n⟩
      cases e : fiAt O c.old.path with
      | none => rw [e] at h2; exact h2.elim
      | some g => rw [e] at h2; exact ⟨g, rfl, h2.1.symm⟩
  obtain ⟨R, hR, hS, hr1, hr2⟩ := applyS_spec hO.srt dT.nodup hpre
  have hcase : ∀ p, (fiAt R p = fiAt T p ∧ Alike (fiAt A p) (fiAt O p)) ∨ (fiAt R p = fiAt O p ∧ Alike (fiAt A p) (fiAt T p)) := by
    intro p
    by_cases hp : ∀ c ∈ diffS A T, appP c ≠ p
    · exact .inr ⟨hr1 p hp, dT.rest p hp⟩
    · obtain ⟨c, hc, rfl⟩ : ∃ c ∈ diffS A T, appP c = p := by
        false_or_by_contra
        rename_i h
        exact hp fun c hc e => h ⟨c, hc, e⟩
      refine .inl ⟨?_, hal c hc⟩
      rw [hr2 c hc]
      have h1 := dT.each c hc
      unfold valC appP
      cases h1 with
      | add h o a b => rw [if_neg (by omega), if_pos h, b]
      | del h n a b => rw [if_pos h, if_neg (by omega), b]
      | chg h n a b => rw [if_neg (by omega), if_neg (by omega), b]
  have hk : okT3 ⟨A, O, T⟩ := ⟨hA.nodup, hO.nodup, hT.nodup⟩
  refine ⟨R, hR, hS, merge_srt hk (chkA_of hA hO hT) hS (fun p hp => ?_) (fun p _ => dec_apart (hcase p) src) (fun f hf => ?_)⟩
  · rw [mem_nms hk]
    obtain ⟨f, hf, rfl⟩ := List.mem_map.1 hp
    have h1 := fiAt_mem hS.nodup hf
    rcases hcase f.path with ⟨h, -⟩ | ⟨h, -⟩
    · rw [h1] at h
      obtain ⟨h3, h4⟩ := fiAt_some h.symm
      exact .inr (.inr (h4 ▸ List.mem_map_of_mem h3))
    · rw [h1] at h
      obtain ⟨h3, h4⟩ := fiAt_some h.symm
      exact .inr (.inl (h4 ▸ List.mem_map_of_mem h3))
  · have h1 := fiAt_mem hS.nodup hf
    have h2 := hcase f.path
    rw [h1] at h2
    exact when_apart h2
end Go.Proofs.YtpcipdkoncmdcaaGreatDoor
