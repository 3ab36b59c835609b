/- The law JoinKeeps answers true for all arguments of bulk at most 1048576: the row's statement and its card. Conditions: the row's own (laid tables as the card ties them; bulk). -/
import Derived.Test.YtpcipdkoncmdcaaGreatDoorZ28
namespace Go.Proofs.YtpcipdkoncmdcaaGreatDoor
open Go Go.RowKit

/-- The file of a path. -/
def fiAt (l : List Fi) (p : ByteArray) : Option Fi := l.find? fun f => decide (f.path = p)
def thAt (L : List Th) (p : ByteArray) : Option Th := L.find? fun t => decide (t.path = p)
theorem fiAt_some {l : List Fi} {p : ByteArray} {f : Fi} (h : fiAt l p = some f) : f ∈ l ∧ f.path = p := ⟨List.mem_of_find?_eq_some h, by simpa using List.find?_some h⟩
theorem fiAt_none {l : List Fi} {p : ByteArray} : fiAt l p = none ↔ p ∉ l.map (·.path) := by
  unfold fiAt
  rw [List.find?_eq_none]
  constructor
  · intro h hm
    obtain ⟨f, hf, rfl⟩ := List.mem_map.1 hm
    exact h f hf (decide_eq_true rfl)
  · intro h f hf e
    exact h (List.mem_map.2 ⟨f, hf, by simpa using e⟩)
theorem fiAt_mem {l : List Fi} (hn : (l.map (·.path)).Nodup) {f : Fi} (hf : f ∈ l) : fiAt l f.path = some f := by
  induction l with
  | nil => cases hf
  | cons g l ih =>
    rw [List.map_cons, List.nodup_cons] at hn
    unfold fiAt
    rw [List.find?_cons]
    rcases List.mem_cons.1 hf with rfl | hf
    · simp
    · have : g.path ≠ f.path := fun e => hn.1 (e ▸ List.mem_map_of_mem hf)
      rw [decide_eq_false this]
      exact ih hn.2 hf
theorem thAt_taken (i : Nat) (f : Fi) (p : ByteArray) : ∀ L : List Th, thAt (taken i f L) p = if p = f.path then some (((thAt L p).getD { zTh with path := p }).add i f) else thAt L p
  | [] => by
    show thAt [({ zTh with path := f.path } : Th).add i f] p = _
    by_cases h : p = f.path
    · rw [if_pos h, h]; simp [thAt, Th.add]
    · rw [if_neg h]
      have h' : ¬ f.path = p := fun e => h e.symm
      simp [thAt, Th.add, h']
  | t :: L => by
    have ih := thAt_taken i f p L
    show thAt (if t.path = f.path then t.add i f :: L else t :: taken i f L) p = _
    have hc : ∀ (s : Th) (M : List Th), thAt (s :: M) p = if s.path = p then some s else thAt M p := by
      intro s M
      unfold thAt
      rw [List.find?_cons]
      by_cases h : s.path = p <;> simp [h]
    by_cases h1 : t.path = f.path
    · rw [if_pos h1, hc, hc]
      show (if t.path = p then _ else _) = _
      by_cases h2 : p = f.path
      · rw [if_pos (h1.trans h2.symm), if_pos h2, if_pos (h1.trans h2.symm)]; rfl
      · have h3 : ¬ t.path = p := fun e => h2 (e.symm.trans h1)
        rw [if_neg h3, if_neg h2, if_neg h3]
    · rw [if_neg h1, hc, hc, ih]
      by_cases h2 : p = f.path
      · have h3 : ¬ t.path = p := fun e => h1 (e.trans h2)
        rw [if_neg h3, if_pos h2, if_pos h2, if_neg h3]
      · rw [if_neg h2, if_neg h2]
theorem thAt_takenAll (i : Nat) (p : ByteArray) : ∀ (fs : List Fi) (L : List Th), (fs.map (·.path)).Nodup → thAt (takenAll i L fs) p = match fiAt fs p with | none => thAt L p | some f => some (((thAt L p).getD { zTh with path := p }).add i f)
  | [], L, _ => rfl
  | f :: fs, L, hn => by
    rw [List.map_cons, List.nodup_cons] at hn
    show thAt (takenAll i (taken i f L) fs) p = _
    rw [thAt_takenAll i p fs (taken i f L) hn.2, thAt_taken]
    have hc : fiAt (f :: fs) p = if f.path = p then some f else fiAt fs p := by
      unfold fiAt
      rw [List.find?_cons]
      by_cases h : f.path = p <;> simp [h]
    rw [hc]
    by_cases h : p = f.path
    · subst h
      have : fiAt fs f.path = none := fiAt_none.2 hn.1
      rw [this, if_pos rfl, if_pos rfl]
    · rw [if_neg h, if_neg (fun e => h e.symm)]
def okT3 (T : T3 (List Fi)) : Prop := (T.a.map (·.path)).Nodup ∧ (T.b.map (·.path)).Nodup ∧ (T.c.map (·.path)).Nodup
/-- A path's three, out of the snapshots. -/
def hasT (T : T3 (List Fi)) (p : ByteArray) : T3 Bool := ⟨(fiAt T.a p).isSome, (fiAt T.b p).isSome, (fiAt T.c p).isSome⟩
def idF : Option Fi → List Nat | none => zId | some f => f.id
def stF : Option Fi → Nat | none => 0 | some f => f.stamp
def idsT (T : T3 (List Fi)) (p : ByteArray) : T3 (List Nat) := ⟨idF (fiAt T.a p), idF (fiAt T.b p), idF (fiAt T.c p)⟩
def stsT (T : T3 (List Fi)) (p : ByteArray) : T3 Nat := ⟨stF (fiAt T.a p), stF (fiAt T.b p), stF (fiAt T.c p)⟩
def thT (T : T3 (List Fi)) (p : ByteArray) : Th := { zTh with path := p, has := hasT T p, ids := idsT T p, sts := stsT T p }
theorem thAt_upT {T : T3 (List Fi)} (h : okT3 T) (p : ByteArray) : thAt (upT T 3) p = if fiAt T.a p = none ∧ fiAt T.b p = none ∧ fiAt T.c p = none then none else some (thT T p) := by
  show thAt (takenAll 2 (takenAll 1 (takenAll 0 [] T.a) T.b) T.c) p = _
  rw [thAt_takenAll 2 p _ _ h.2.2, thAt_takenAll 1 p _ _ h.2.1, thAt_takenAll 0 p _ _ h.1]
  unfold thT hasT idsT stsT
  cases fiAt T.a p <;> cases fiAt T.b p <;> cases fiAt T.c p <;> rfl
theorem thOf_thAt (L : List Th) (p : ByteArray) : thOf L p = (thAt L p).getD zTh := rfl
theorem mem_thAt {L : List Th} {p : ByteArray} : p ∈ L.map (·.path) ↔ thAt L p ≠ none := by
  unfold thAt
  rw [Ne, List.find?_eq_none]
  constructor
  · intro hm h
    obtain ⟨t, ht, rfl⟩ := List.mem_map.1 hm
    exact h t ht (decide_eq_true rfl)
  · intro h
    false_or_by_contra
    rename_i hm
    exact h fun t ht e => hm (List.mem_map.2 ⟨t, ht, by simpa using e⟩)
theorem mem_upT {T : T3 (List Fi)} (h : okT3 T) (p : ByteArray) : p ∈ (upT T 3).map (·.path) ↔ (p ∈ T.a.map (·.path) ∨ p ∈ T.b.map (·.path) ∨ p ∈ T.c.map (·.path)) := by
  rw [mem_thAt, thAt_upT h]
  have e : ∀ l : List Fi, fiAt l p = none ↔ p ∉ l.map (·.path) := fun l => fiAt_none
  by_cases ha : fiAt T.a p = none
  · by_cases hb : fiAt T.b p = none
    · by_cases hc : fiAt T.c p = none
      · rw [if_pos ⟨ha, hb, hc⟩]
        exact ⟨fun h => absurd rfl h, fun h => (h.elim ((e _).1 ha) (fun h => h.elim ((e _).1 hb) ((e _).1 hc))).elim⟩
      · rw [if_neg (fun h => hc h.2.2)]
        exact ⟨fun _ => .inr (.inr (Classical.not_not.1 (fun h => hc ((e _).2 h)))), fun _ => by simp⟩
    · rw [if_neg (fun h => hb h.2.1)]
      exact ⟨fun _ => .inr (.inl (Classical.not_not.1 (fun h => hb ((e _).2 h)))), fun _ => by simp⟩
  · rw [if_neg (fun h => ha h.1)]
    exact ⟨fun _ => .inl (Classical.not_not.1 (fun h => ha ((e _).2 h))), fun _ => by simp⟩
/-- The names that are merged. -/
def nmsT (T : T3 (List Fi)) : List ByteArray := PathS.sorted ((upT T 3).map (·.path))
theorem upT_nodup (T : T3 (List Fi)) : ((upT T 3).map (·.path)).Nodup := takenAll_nodup (takenAll_nodup (takenAll_nodup List.nodup_nil))
theorem nms_nodup (T : T3 (List Fi)) : (nmsT T).Nodup := (PathS.sorted_perm _).nodup_iff.2 (upT_nodup T)
theorem nms_pw (T : T3 (List Fi)) : (nmsT T).Pairwise PathS.le := PathS.sorted_pw _
theorem mem_nms {T : T3 (List Fi)} (h : okT3 T) (p : ByteArray) : p ∈ nmsT T ↔ (p ∈ T.a.map (·.path) ∨ p ∈ T.b.map (·.path) ∨ p ∈ T.c.map (·.path)) := (PathS.sorted_perm _).mem_iff.trans (mem_upT h p)
theorem thOf_nms {T : T3 (List Fi)} (h : okT3 T) {p : ByteArray} (hp : p ∈ nmsT T) : thOf (upT T 3) p = thT T p := by
  have hm := mem_thAt.1 ((PathS.sorted_perm _).mem_iff.1 hp)
  rw [thAt_upT h] at hm
  rw [thOf_thAt, thAt_upT h]
  split at hm
  · exact absurd rfl hm
  · rename_i hn; rw [if_neg hn]; rfl
def decT (src : List Nat → ByteArray × Int) (T : T3 (List Fi)) (p : ByteArray) : Dec := decS src (hasT T p) (idsT T p) zId
def outT (src : List Nat → ByteArray × Int) (T : T3 (List Fi)) (p : ByteArray) : Option Ou := if (decT src T p).keep then some (outOf (decT src T p) (thT T p)) else none
theorem decGo_acc {src : List Nat → ByteArray × Int} {T : T3 (List Fi)} (h : okT3 T) : ∀ (l : List ByteArray) (acc : List Ou), (∀ p ∈ l, p ∈ nmsT T) → (∀ p ∈ l, (decT src T p).err = 0) → decGo src (upT T 3) acc l = (0, acc ++ l.filterMap (outT src T))
  | [], acc, _, _ => by simp [decGo]
  | p :: l, acc, hm, he => by
    have h1 := thOf_nms h (hm p (by simp))
    have h2 := he p (by simp)
    rw [decGo_step (d := decT src T p) h1 rfl, if_neg (by simp [h2]), decGo_acc h l _ (fun q hq => hm q (by simp [hq])) (fun q hq => he q (by simp [hq]))]
    rw [List.filterMap_cons]
    unfold outT
    by_cases hk : (decT src T p).keep = true
    · rw [if_pos hk, if_pos hk]; simp
    · rw [if_neg hk, if_neg hk]
/-- Merging whole. -/
theorem merge_ok {src : List Nat → ByteArray × Int} {T : T3 (List Fi)} (h : okT3 T) (hc : chkA T 3 = 0) (he : ∀ p ∈ nmsT T, (decT src T p).err = 0) : mergeS src (upT T 3) (chkA T 3) = (0, clashed ((nmsT T).filterMap (outT src T))) := by
  unfold mergeS
  rw [hc, if_neg (by simp), show PathS.sorted ((upT T 3).map (·.path)) = nmsT T from rfl, decGo_acc h _ _ (fun p hp => hp) he]
  simp

-- snapshots in their order
theorem chkF_zero {l : List Fi} : ∀ (n k : Nat), chkF l n k = 0 → ∀ j, k ≤ j → j < k + n → chk1 l j = 0
  | 0, k, _, j, h1, h2 => by omega
  | n + 1, k, h, j, h1, h2 => by
    rw [show chkF l (n + 1) k = if chk1 l k ≠ 0 then chk1 l k else chkF l n (k + 1) from rfl] at h
    split at h
    · rename_i hne; exact absurd h hne
    · rename_i he
      by_cases e : j = k
      · subst e; simpa using he
      · exact chkF_zero n (k + 1) h j (by omega) (by omega)
theorem chkF_of {l : List Fi} : ∀ (n k : Nat), (∀ j, k ≤ j → j < k + n → chk1 l j = 0) → chkF l n k = 0
  | 0, k, _ => rfl
  | n + 1, k, h => by
    rw [show chkF l (n + 1) k = if chk1 l k ≠ 0 then chk1 l k else chkF l n (k + 1) from rfl, if_neg (by simp [h k (Nat.le_refl _) (by omega)])]
    exact chkF_of n (k + 1) fun j h1 h2 => h j (by omega) (by omega)
structure OkS (l : List Fi) : Prop where
  n : l.length ≤ 256
  ck : ∀ f ∈ l, PathS.check f.path = 0
  lt : ∀ j (h : j + 1 < l.length), PathS.cmp (l[j]'(by omega)).path l[j + 1].path < 0
  un : ∀ j (h : j + 1 < l.length), PathS.under l[j + 1].path (l[j]'(by omega)).path = false
theorem okS_of {l : List Fi} (h : chkS l = 0) : OkS l := by
  have hn := chkS_len h
  unfold chkS at h
  rw [if_neg (by omega)] at h
  have h1 := chkF_zero _ _ h
  have hck : ∀ j (hj : j < l.length), PathS.check l[j].path = 0 := by
    intro j hj
    false_or_by_contra
    rename_i hne
    have := h1 j (Nat.zero_le _) (by omega)
    rw [chk1_bad hj hne] at this
    exact hne this
  refine ⟨hn, fun f hf => ?_, fun j hj => ?_, fun j hj => ?_⟩
  · obtain ⟨j, hj, rfl⟩ := List.getElem_of_mem hf; exact hck j hj
  · have := h1 (j + 1) (Nat.zero_le _) (by omega)
    rw [chk1_succ hj (hck _ hj)] at this
    split at this
    · cases this
    · omega
  · have := h1 (j + 1) (Nat.zero_le _) (by omega)
    rw [chk1_succ hj (hck _ hj)] at this
    split at this
    · cases this
    · split at this
      · cases this
      · rename_i hu; simpa using hu
theorem chkS_of {l : List Fi} (h : OkS l) : chkS l = 0 := by
  unfold chkS
  rw [if_neg (by have := h.n; omega)]
  refine chkF_of _ _ fun j _ hj => ?_
  have hj : j < l.length := by omega
  cases j with
  | zero => exact chk1_zero hj (h.ck _ (List.getElem_mem hj))
  | succ j => rw [chk1_succ hj (h.ck _ (List.getElem_mem hj)), if_neg (by have := h.lt j hj; omega), h.un j hj]; rfl
theorem cmp_trans {a b c : ByteArray} (h1 : PathS.cmp a b < 0) (h2 : PathS.cmp b c < 0) : PathS.cmp a c < 0 := PathS.cmp_tw.tr a b c h1 h2
theorem OkS.far {l : List Fi} (h : OkS l) : ∀ (d i : Nat) (hj : i + d + 1 < l.length), PathS.cmp (l[i]'(by omega)).path l[i + d + 1].path < 0
  | 0, i, hj => h.lt i hj
  | d + 1, i, hj => cmp_trans (h.far d i (by omega)) (h.lt (i + d + 1) hj)
theorem OkS.far' {l : List Fi} (h : OkS l) {i j : Nat} (hij : i < j) (hj : j < l.length) : PathS.cmp (l[i]'(by omega)).path l[j].path < 0 := by
  have := h.far (j - i - 1) i (by omega)
  simpa only [show i + (j - i - 1) + 1 = j by omega] using this
theorem cmp_self (a : ByteArray) : PathS.cmp a a = 0 := (PathS.cmp_tw.eq0 a a).2 rfl
theorem OkS.nodup {l : List Fi} (h : OkS l) : (l.map (·.path)).Nodup := by
  rw [List.nodup_iff_pairwise_ne, List.pairwise_map, List.pairwise_iff_getElem]
  intro i j hi hj hij e
  have := h.far' hij hj
  rw [e, cmp_self] at this
  omega
theorem OkS.pw {l : List Fi} (h : OkS l) : (l.map (·.path)).Pairwise PathS.le := by
  rw [List.pairwise_map, List.pairwise_iff_getElem]
  intro i j hi hj hij
  exact Int.le_of_lt (h.far' hij hj)
theorem OkS.no_under {l : List Fi} (h : OkS l) {i j : Nat} (hij : i < j) (hj : j < l.length) : PathS.under l[j].path (l[i]'(by omega)).path = false := by
  cases e : PathS.under l[j].path (l[i]'(by omega)).path with
  | false => rfl
  | true =>
    by_cases h1 : j = i + 1
    · subst h1; rw [h.un i hj] at e; cases e
    · have hb := PathS.between (m := (l[i + 1]'(by omega)).path) (Int.le_of_lt (h.lt i (by omega))) (Int.le_of_lt (h.far' (i := i + 1) (j := j) (by omega) hj)) (.inr e)
      rcases hb with hb | hb
      · have := h.lt i (by omega); rw [hb, cmp_self] at this; omega
      · rw [h.un i (by omega)] at hb; cases hb
/-- Where the outcomes' paths are a snapshot's, there is no clash. -/
theorem clashed_id {l : List Fi} (h : OkS l) {os : List Ou} (hp : os.map (·.path) = l.map (·.path)) : clashed os = os := by
  have hlen : os.length = l.length := by have := congrArg List.length hp; simpa using this
  have hpa : ∀ j (hj : j < os.length), os[j].path = (l[j]'(by omega)).path := by
    intro j hj
    have h1 : (os.map (·.path))[j]? = (l.map (·.path))[j]? := by rw [hp]
    rw [List.getElem?_map, List.getElem?_map, List.getElem?_eq_getElem hj, List.getElem?_eq_getElem (by omega)] at h1
    exact Option.some.inj h1
  apply List.ext_getElem?
  intro i
  unfold clashed
  rw [List.getElem?_mapIdx]
  by_cases hi : i < os.length
  · rw [List.getElem?_eq_getElem hi]
    show some (clash1 os i os[i]) = some os[i]
    unfold clash1
    rw [if_neg]
    rw [Bool.not_eq_true, List.any_eq_false]
    intro x hx
    obtain ⟨k, hk, rfl⟩ := List.getElem_of_mem hx
    rw [List.length_take] at hk
    rw [List.getElem_take, hpa i hi, hpa k (by omega), h.no_under (by omega) (by omega)]
    simp
  · rw [List.getElem?_eq_none (by omega)]; rfl
theorem filterMap_same {α β : Type} {f g : α → Option β} : ∀ {l : List α}, (∀ x ∈ l, f x = g x) → l.filterMap f = l.filterMap g
  | [], _ => rfl
  | x :: l, h => by rw [List.filterMap_cons, List.filterMap_cons, h x (by simp), filterMap_same fun y hy => h y (by simp [hy])]
/-- What a side's file becomes when it is kept. -/
def keptO (T : T3 (List Fi)) (f : Fi) : Ou := ⟨f.path, 1, f.id, cn f.stamp, ByteArray.empty, hasT T f.path, idsT T f.path⟩
/-- One snapshot is the outcome. -/
theorem merge_side {src : List Nat → ByteArray × Int} {T : T3 (List Fi)} (h : okT3 T) (hc : chkA T 3 = 0) {O : List Fi} (hO : OkS O) (hin : ∀ p ∈ O.map (·.path), p ∈ nmsT T)
    (hd : ∀ p ∈ nmsT T, decT src T p = ⟨(fiAt O p).isSome, 0, 1, idF (fiAt O p), ByteArray.empty⟩) (hw : ∀ f ∈ O, whenS (hasT T f.path) (stsT T f.path) = cn f.stamp) :
    mergeS src (upT T 3) (chkA T 3) = (0, O.map (keptO T)) := by
  rw [merge_ok h hc (fun p hp => by rw [hd p hp])]
  have e1 : (nmsT T).filterMap (outT src T) = ((nmsT T).filter fun p => (fiAt O p).isSome).filterMap fun p => (fiAt O p).map (keptO T) := by
    rw [List.filterMap_filter]
    refine filterMap_same fun p hp => ?_
    unfold outT
    rw [hd p hp]
    cases e : fiAt O p with
    | none => rfl
    | some f =>
      obtain ⟨hf, rfl⟩ := fiAt_some e
      show some (outOf _ _) = some (keptO T f)
      unfold outOf keptO
      show some (Ou.mk f.path 1 f.id (whenS (hasT T f.path) (stsT T f.path)) ByteArray.empty (hasT T f.path) (idsT T f.path)) = _
      rw [hw f hf]
  have e2 : ((nmsT T).filter fun p => (fiAt O p).isSome) = O.map (·.path) := by
    have hp : ((nmsT T).filter fun p => (fiAt O p).isSome).Perm (O.map (·.path)) := by
      rw [List.perm_ext_iff_of_nodup ((nms_nodup T).filter _) hO.nodup]
      intro p
      rw [List.mem_filter]
      have hs : (fiAt O p).isSome = true ↔ p ∈ O.map (·.path) := by
        cases e : fiAt O p with
        | none => simp; have := fiAt_none.1 e; simpa using this
        | some f => obtain ⟨hf, rfl⟩ := fiAt_some e; simp; exact ⟨f, hf, rfl⟩
      rw [hs]
      exact ⟨fun h => h.2, fun h => ⟨hin p h, h⟩⟩
    rw [PathS.sorted_one hp ((nms_pw T).filter _)]
    exact (PathS.sorted_one (List.Perm.refl _) hO.pw).symm
  have e3 : ((O.map (·.path)).filterMap fun p => (fiAt O p).map (keptO T)) = O.map (keptO T) := by
    rw [List.filterMap_map]
    rw [← List.filterMap_eq_map]
    refine filterMap_same fun f hf => ?_
    show (fiAt O f.path).map (keptO T) = some (keptO T f)
    rw [fiAt_mem hO.nodup hf]; rfl
  rw [e1, e2, e3, clashed_id hO (by rw [List.map_map]; rfl)]
end Go.Proofs.YtpcipdkoncmdcaaGreatDoor
namespace Go.Proofs.YtpcipdkoncmdcaaGreatDoor
open Go Go.RowKit

theorem eqS_same (b : Bool) (x : List Nat) : eqS b b x x = true := by simp [eqS]
theorem chkA_of {T : T3 (List Fi)} (ha : OkS T.a) (hb : OkS T.b) (hc : OkS T.c) : chkA T 3 = 0 := by
  have e0 : chkS (T.get 0) = 0 := chkS_of ha
  have e1 : chkS (T.get 1) = 0 := chkS_of hb
  have e2 : chkS (T.get 2) = 0 := chkS_of hc
  show (if chkS (T.get 0) ≠ 0 then chkS (T.get 0) else if chkS (T.get 1) ≠ 0 then chkS (T.get 1) else if chkS (T.get 2) ≠ 0 then chkS (T.get 2) else 0) = 0
  rw [e0, e1, e2]; rfl
theorem side1 {B O : List Fi} (hB : OkS B) (hO : OkS O) (src : List Nat → ByteArray × Int) : mergeS src (upT ⟨B, O, B⟩ 3) (chkA ⟨B, O, B⟩ 3) = (0, O.map (keptO ⟨B, O, B⟩)) := by
  have hk : okT3 ⟨B, O, B⟩ := ⟨hB.nodup, hO.nodup, hB.nodup⟩
  refine merge_side hk (chkA_of hB hO hB) hO (fun p hp => (mem_nms hk p).2 (.inr (.inl hp))) (fun p _ => ?_) (fun f hf => ?_)
  · unfold decT decS hasT idsT
    simp only [eqS_same, Bool.or_true, if_true]
  · unfold whenS hasT stsT
    simp only [fiAt_mem hO.nodup hf]
    cases fiAt B f.path with
    | none => simp [stF]
    | some g =>
      simp only [Option.isSome_some, stF, Bool.true_eq_false, if_false, true_and]
      split
      · rename_i h; exact h.symm
      · rfl
theorem side2 {B O : List Fi} (hB : OkS B) (hO : OkS O) (src : List Nat → ByteArray × Int) : mergeS src (upT ⟨B, B, O⟩ 3) (chkA ⟨B, B, O⟩ 3) = (0, O.map (keptO ⟨B, B, O⟩)) := by
  have hk : okT3 ⟨B, B, O⟩ := ⟨hB.nodup, hB.nodup, hO.nodup⟩
  refine merge_side hk (chkA_of hB hB hO) hO (fun p hp => (mem_nms hk p).2 (.inr (.inr hp))) (fun p _ => ?_) (fun f hf => ?_)
  · unfold decT decS hasT idsT
    simp only [eqS_same, if_true]
    by_cases h : (eqS (fiAt B p).isSome (fiAt O p).isSome (idF (fiAt B p)) (idF (fiAt O p)) || eqS (fiAt B p).isSome (fiAt O p).isSome (idF (fiAt B p)) (idF (fiAt O p))) = true
    · rw [if_pos h]
      rw [Bool.or_self] at h
      unfold eqS at h
      simp only [Bool.and_eq_true, decide_eq_true_eq] at h
      rw [h.1, h.2]
    · rw [if_neg h]
  · unfold whenS hasT stsT
    simp only [fiAt_mem hO.nodup hf]
    cases fiAt B f.path with
    | none => simp [stF]
    | some g => simp [stF]
theorem side3 {B O : List Fi} (hB : OkS B) (hO : OkS O) (src : List Nat → ByteArray × Int) : mergeS src (upT ⟨B, O, O⟩ 3) (chkA ⟨B, O, O⟩ 3) = (0, O.map (keptO ⟨B, O, O⟩)) := by
  have hk : okT3 ⟨B, O, O⟩ := ⟨hB.nodup, hO.nodup, hO.nodup⟩
  refine merge_side hk (chkA_of hB hO hO) hO (fun p hp => (mem_nms hk p).2 (.inr (.inl hp))) (fun p _ => ?_) (fun f hf => ?_)
  · unfold decT decS hasT idsT
    simp only [eqS_same, Bool.true_or, if_true]
  · unfold whenS hasT stsT
    simp only [fiAt_mem hO.nodup hf, Option.isSome_some, stF, Bool.true_eq_false, if_false]
    repeat' split
    all_goals rfl
end Go.Proofs.YtpcipdkoncmdcaaGreatDoor
namespace Go.Proofs.YtpcipdkoncmdcaaGreatDoor
open Go Go.RowKit

theorem out_zsz {x : Ov} (h : (ouC x).length = 135) : Tryz.zeroCells54.size = (ouC x).toArray.size := by
  have e1 : Tryz.zeroCells54.size = 135 := by kernel_rfl
  have e2 : (ouC x).toArray.size = 135 := by rw [List.size_toArray, h]
  rw [e1, e2]
theorem out_isz {x : Ov} (h : (ouC x).length = 135) : (Tryz.prog.info? 54).map (·.size) = some (ouC x).toArray.size := by
  have e2 : (ouC x).toArray.size = 135 := by rw [List.size_toArray, h]
  rw [e2]; exact out_info
/-- The outcome in the block p is the file at b, o kept. -/
structure CmpS (W : World) (p b o : Nat) (f : Fi) : Prop where
  kd : W.cell? ⟨p, 1, none⟩ = some (.int .i64 1)
  pa : W.cell? ⟨p, 0, none⟩ = some (.string f.path)
  id : W.rangeAt p 2 (nb f.id)
  st : W.cell? ⟨p, 34, none⟩ = some (.float .f64 (cn f.stamp))
  fp : W.cell? ⟨b, o, none⟩ = some (.string f.path)
  fi : W.rangeAt b (o + 1) (nb f.id)
  fs : W.cell? ⟨b, o + 33, none⟩ = some (.float .f64 f.stamp)
theorem cmpS_of {W : World} {p b o : Nat} {f : Fi} {x : Ov} (hf : OkFi f) (h1 : W.heap[p]? = some (.cells (ouC x).toArray 54 (0, 0))) (h2 : W.rangeAt b o (fiC f)) (hp : x.o.path = f.path) (hk : x.o.kind = 1) (hi : x.o.id = f.id) (hs : x.o.stamp = cn f.stamp) : CmpS W p b o f := by
  have hc : ∀ j u, (ouC x)[j]? = some u → W.cell? ⟨p, j, none⟩ = some u := fun j u hu => by simp only [World.cell?, h1]; simpa using hu
  have hl := hf.id.1
  refine ⟨hc 1 _ (by unfold ouC; rw [hk]; rfl), hc 0 _ (by unfold ouC; rw [hp]; rfl), fun j u hu => ?_, ?_, h2 0 _ rfl, fun j u hu => ?_, ?_⟩
  · refine hc (2 + j) u ?_
    unfold ouC
    rw [hi, show 2 + j = j + 1 + 1 by omega, List.getElem?_cons_succ, List.getElem?_cons_succ, List.getElem?_append_left (List.getElem?_eq_some_iff.1 hu).1]; exact hu
  · refine hc 34 _ ?_
    unfold ouC
    rw [hi, hs, show (34 : Nat) = 32 + 1 + 1 from rfl, List.getElem?_cons_succ, List.getElem?_cons_succ, List.getElem?_append_right (by rw [nb_len, hl]; exact Nat.le_refl _), nb_len, hl]; rfl
  · rw [Nat.add_assoc]
    refine h2 (1 + j) u ?_
    unfold fiC
    rw [show 1 + j = j + 1 by omega, List.getElem?_cons_succ, List.getElem?_append_left (List.getElem?_eq_some_iff.1 hu).1]; exact hu
  · refine h2 33 _ ?_
    unfold fiC
    rw [show (33 : Nat) = 32 + 1 from rfl, List.getElem?_cons_succ, List.getElem?_append_right (by rw [nb_len, hl]; exact Nat.le_refl _), nb_len, hl]; rfl
theorem CmpS.dn {W : World} {p b o : Nat} {f : Fi} (h : CmpS W p b o f) (n : Nat) : CmpS (W.drewN n) p b o f := ⟨h.kd, h.pa, h.id, h.st, h.fp, h.fi, h.fs⟩
/-- Merging, its answer a snapshot kept. -/
theorem merge_kept {W : World} {va vb vc : Value} {T : T3 (List Fi)} {O : List Fi} (ha : FS W va T.a) (hb : FS W vb T.b) (hc : FS W vc T.c) (hg : Gl W) (hm : mergeS (textS []) (upT T 3) (chkA T 3) = (0, O.map (keptO T))) :
    Calls Tryz.prog 13 #[.agg #[va, vb, vc], SrcV (.slice none 0 0)] W fun e w' => ∃ ov V, e = .returned (.tuple #[ov, .int .i64 0]) ∧ V.map (·.o) = O.map (keptO T) ∧ OR w' ov V ∧ (∀ x ∈ V, x.tv.oneCell' = true) ∧ Below W.heap.size W w' := by
  refine (merge_c (bl := []) ha hb hc hg (fun _ => Nat.zero_le _) (BS.nil W)).mono ?_
  rintro e w' ⟨ov, V, rfl, hV, hMO⟩
  rw [hm] at hV
  rw [hm]
  exact ⟨ov, V, rfl, hV, hMO.or, fun x hx => tx_one (hMO.tx x hx).1.tx, hMO.below⟩
end Go.Proofs.YtpcipdkoncmdcaaGreatDoor
namespace Go.Proofs.YtpcipdkoncmdcaaGreatDoor
open Go Go.RowKit

set_option maxRecDepth 100000 in
set_option maxHeartbeats 4000000 in
theorem small0_c {w : World} {va vb vc : Value} {T : T3 (List Fi)} (ha : FS w va T.a) (hb : FS w vb T.b) (hc : FS w vc T.c) :
    Calls Tryz.prog 11 #[.agg #[va, vb, vc], .slice none 0 0] w fun e w' => e = .returned (.bool (decide (T.a.length + T.b.length + T.c.length ≤ 90))) ∧ Below w.heap.size w w' := by
  obtain ⟨aa, ca, rfl⟩ := ha.lit
  obtain ⟨ab, cb, rfl⟩ := hb.lit
  obtain ⟨ac, cc, rfl⟩ := hc.lit
  have na := ha.n
  have nb := hb.n
  have nc := hc.n
  obtain ⟨W1, hW1⟩ : ∃ W1, w.alloc (.cells #[.slice aa T.a.length ca, .slice ab T.b.length cb, .slice ac T.c.length cc] 23 (0, 0)) = W1 := ⟨_, rfl⟩
  have HB1 : Hid (Below w.heap.size w W1) := by show Below _ _ _; rw [← hW1]; exact (Below.refl _ w).alloc (Nat.le_refl _) _
  have hblk : W1.heap[w.heap.size]? = some (.cells #[.slice aa T.a.length ca, .slice ab T.b.length cb, .slice ac T.c.length cc] 23 (0, 0)) := by rw [← hW1]; exact Array.getElem?_push_size
  have c0 : W1.cell? ⟨w.heap.size, 0, none⟩ = some (.slice aa T.a.length ca) := by simp only [World.cell?, hblk]; rfl
  have c1 : W1.cell? ⟨w.heap.size, 1, none⟩ = some (.slice ab T.b.length cb) := by simp only [World.cell?, hblk]; rfl
  have c2 : W1.cell? ⟨w.heap.size, 2, none⟩ = some (.slice ac T.c.length cc) := by simp only [World.cell?, hblk]; rfl
  have HW1 := Lib.hid hW1
  have k1 : IntKind.i64.wrap ((T.a.length : Int) + (T.b.length : Int)) = ((T.a.length + T.b.length : Nat) : Int) := by rw [IntWalk.i64_in _ (by omega)]; omega
  have k2 : IntKind.i64.wrap (((T.a.length + T.b.length : Nat) : Int) + (T.c.length : Int)) = ((T.a.length + T.b.length + T.c.length : Nat) : Int) := by rw [IntWalk.i64_in _ (by omega)]; omega
  clear ha hb hc hW1 hblk na nb nc
  obtain ⟨N, hN⟩ : ∃ N, T.a.length + T.b.length + T.c.length = N := ⟨_, rfl⟩
  rw [hN] at k2
  obtain ⟨M, hM⟩ : ∃ M, T.a.length + T.b.length = M := ⟨_, rfl⟩
  rw [hM] at k1 k2
  go_enter Tryz.func11, Tryz.ntmps11
  go_upto_region 1 with fail
  rw [HW1.out]
  have HN := Lib.hid hN
  clear hN hM HW1
  by_cases h : N ≤ 90
  · have d1 : decide ((N : Int) ≤ 90) = true := decide_eq_true (by omega)
    have HD : Hid (decide (T.a.length + T.b.length + T.c.length ≤ 90) = true) := decide_eq_true (by rw [HN.out]; exact h)
    go_upto_region 3 with fail
    refine wp_loop_rounds 1 ?_
    rw [rounds_succ]
    go_wp2_with fail
    go_ret
    exact ⟨by rw [HD.out]; rfl, HB1.out⟩
  · have d1 : decide ((N : Int) ≤ 90) = false := decide_eq_false (by omega)
    have HD : Hid (decide (T.a.length + T.b.length + T.c.length ≤ 90) = false) := decide_eq_false (by rw [HN.out]; exact h)
    go_upto_region 3 with fail
    refine wp_loop_rounds 1 ?_
    rw [rounds_succ]
    go_wp2_with fail
    go_ret
    exact ⟨by rw [HD.out]; rfl, HB1.out⟩
end Go.Proofs.YtpcipdkoncmdcaaGreatDoor
namespace Go.Proofs.YtpcipdkoncmdcaaGreatDoor
open Go Go.RowKit

theorem decGo_err {src : List Nat → ByteArray × Int} {T : T3 (List Fi)} (h : okT3 T) : ∀ (l : List ByteArray) (acc : List Ou), (∀ p ∈ l, p ∈ nmsT T) → (decGo src (upT T 3) acc l).1 = 0 → ∀ p ∈ l, (decT src T p).err = 0
  | [], _, _, _, p, hp => by cases hp
  | q :: l, acc, hm, he, p, hp => by
    rw [decGo_step (d := decT src T q) (thOf_nms h (hm q (by simp))) rfl] at he
    by_cases hq : (decT src T q).err = 0
    · rw [if_neg (by simp [hq])] at he
      rcases List.mem_cons.1 hp with rfl | hp
      · exact hq
      · exact decGo_err h l _ (fun x hx => hm x (by simp [hx])) he p hp
    · rw [if_pos hq] at he
      exact absurd he hq
theorem chkA_ok {T : T3 (List Fi)} (h : chkA T 3 = 0) : OkS T.a ∧ OkS T.b ∧ OkS T.c := ⟨okS_of (chkA_zero h 0 (by decide)), okS_of (chkA_zero h 1 (by decide)), okS_of (chkA_zero h 2 (by decide))⟩
/-- What a merge without an error answers. -/
theorem merge_inv {src : List Nat → ByteArray × Int} {T : T3 (List Fi)} (h : (mergeS src (upT T 3) (chkA T 3)).1 = 0) : chkA T 3 = 0 ∧ (∀ p ∈ nmsT T, (decT src T p).err = 0) ∧ (mergeS src (upT T 3) (chkA T 3)).2 = clashed ((nmsT T).filterMap (outT src T)) := by
  have hc : chkA T 3 = 0 := by
    false_or_by_contra
    rename_i hne
    unfold mergeS at h
    rw [if_pos hne] at h
    exact hne h
  obtain ⟨ha, hb, hcc⟩ := chkA_ok hc
  have hk : okT3 T := ⟨ha.nodup, hb.nodup, hcc.nodup⟩
  have he : ∀ p ∈ nmsT T, (decT src T p).err = 0 := by
    unfold mergeS at h
    rw [if_neg (by simp [hc])] at h
    exact decGo_err hk _ _ (fun p hp => hp) h
  exact ⟨hc, he, by rw [merge_ok hk hc he]⟩
/-- A file out of an outcome. -/
def fileO (o : Ou) : Fi := ⟨o.path, o.id, o.stamp⟩
theorem outs_paths {src : List Nat → ByteArray × Int} {T : T3 (List Fi)} : ((nmsT T).filterMap (outT src T)).map (·.path) = (nmsT T).filter fun p => (decT src T p).keep := by
  generalize nmsT T = l
  induction l with
  | nil => rfl
  | cons p l ih =>
    rw [List.filterMap_cons, List.filter_cons]
    unfold outT
    by_cases hk : (decT src T p).keep = true
    · rw [if_pos hk, if_pos hk, List.map_cons]
      congr 1
    · rw [if_neg hk, if_neg hk]
      exact ih
theorem le_lt {a b : ByteArray} (h : PathS.le a b) (hne : a ≠ b) : PathS.cmp a b < 0 := by
  have h1 : PathS.cmp a b ≤ 0 := h
  by_cases e : PathS.cmp a b = 0
  · exact absurd ((PathS.cmp_tw.eq0 a b).1 e) hne
  · omega
theorem nms_check {T : T3 (List Fi)} (hc : chkA T 3 = 0) {p : ByteArray} (hp : p ∈ nmsT T) : PathS.check p = 0 := by
  obtain ⟨ha, hb, hcc⟩ := chkA_ok hc
  rcases (mem_nms ⟨ha.nodup, hb.nodup, hcc.nodup⟩ p).1 hp with h | h | h
  · obtain ⟨f, hf, rfl⟩ := List.mem_map.1 h; exact ha.ck f hf
  · obtain ⟨f, hf, rfl⟩ := List.mem_map.1 h; exact hb.ck f hf
  · obtain ⟨f, hf, rfl⟩ := List.mem_map.1 h; exact hcc.ck f hf
theorem nms_len (T : T3 (List Fi)) : (nmsT T).length ≤ T.a.length + T.b.length + T.c.length := by
  unfold nmsT
  rw [PathS.sorted_length, List.length_map]
  have h0 := takenAll_len 0 T.a []
  have h1 := takenAll_len 1 T.b (takenAll 0 [] T.a)
  have h2 := takenAll_len 2 T.c (takenAll 1 (takenAll 0 [] T.a) T.b)
  have e : upT T 3 = takenAll 2 (takenAll 1 (takenAll 0 [] T.a) T.b) T.c := rfl
  rw [e]
  simp at h0
  omega
theorem clash1_keeps (l : List Ou) (i : Nat) (o : Ou) : (clash1 l i o).path = o.path := by unfold clash1; split <;> rfl
/-- The files of a clean merge. -/
theorem again_ok {src : List Nat → ByteArray × Int} {T : T3 (List Fi)} (hn : T.a.length + T.b.length + T.c.length ≤ 256) (he : (mergeS src (upT T 3) (chkA T 3)).1 = 0) (hcl : (mergeS src (upT T 3) (chkA T 3)).2.all cleanO = true) :
    OkS ((mergeS src (upT T 3) (chkA T 3)).2.map fileO) := by
  obtain ⟨hc, herr, hout⟩ := merge_inv he
  rw [hout] at hcl ⊢
  obtain ⟨os, hos⟩ : ∃ os, (nmsT T).filterMap (outT src T) = os := ⟨_, rfl⟩
  rw [hos] at hcl ⊢
  have hpa : os.map (·.path) = (nmsT T).filter fun p => (decT src T p).keep := by rw [← hos]; exact outs_paths
  have hcp : ((clashed os).map fileO).map (·.path) = (nmsT T).filter fun p => (decT src T p).keep := by
    rw [← hpa, List.map_map]
    apply List.ext_getElem?
    intro i
    unfold clashed
    rw [List.getElem?_map, List.getElem?_map, List.getElem?_mapIdx]
    cases os[i]? with
    | none => rfl
    | some o => show some _ = some _; congr 1; exact clash1_keeps os i o
  obtain ⟨m, hm⟩ : ∃ m, (clashed os).map fileO = m := ⟨_, rfl⟩
  have hlm : m.length = os.length := by rw [← hm]; simp [clashed]
  rw [hm] at hcp ⊢
  have hnd : (m.map (·.path)).Nodup := by rw [hcp]; exact (nms_nodup T).filter _
  have hpw : (m.map (·.path)).Pairwise PathS.le := by rw [hcp]; exact (nms_pw T).filter _
  have hnu : ∀ i (hi : i < os.length), ∀ k (hk : k < i), PathS.under os[i].path (os[k]'(by omega)).path = false := by
    intro i hi k hk
    have h1 : (clashed os)[i]? = some (clash1 os i os[i]) := by unfold clashed; rw [List.getElem?_mapIdx, List.getElem?_eq_getElem hi]; rfl
    have h2 := List.all_eq_true.1 hcl _ (List.mem_of_getElem? h1)
    cases e : PathS.under os[i].path (os[k]'(by omega)).path with
    | false => rfl
    | true =>
      unfold clash1 at h2
      rw [if_pos] at h2
      · simp [cleanO] at h2
      · rw [List.any_eq_true]
        exact ⟨os[k], List.mem_of_getElem? (i := k) (by rw [List.getElem?_take, if_pos hk, List.getElem?_eq_getElem (by omega)]), e⟩
  have hmp : ∀ j (hj : j < m.length), m[j].path = (os[j]'(by omega)).path := by
    intro j hj
    have h1 : (m.map (·.path))[j]? = (os.map (·.path))[j]? := by rw [hcp, hpa]
    rw [List.getElem?_map, List.getElem?_map, List.getElem?_eq_getElem hj, List.getElem?_eq_getElem (by omega)] at h1
    exact Option.some.inj h1
  refine ⟨?_, fun f hf => ?_, fun j hj => ?_, fun j hj => ?_⟩
  · have h1 : m.length ≤ (nmsT T).length := by
      have := congrArg List.length hcp
      rw [List.length_map] at this
      rw [this]; exact List.length_filter_le _ _
    have h2 := nms_len T
    omega
  · have h1 : f.path ∈ m.map (·.path) := List.mem_map_of_mem hf
    rw [hcp] at h1
    exact nms_check hc (List.mem_filter.1 h1).1
  · refine le_lt ?_ ?_
    · have := List.pairwise_iff_getElem.1 hpw j (j + 1) (by simp; omega) (by simpa using hj) (by omega)
      simpa using this
    · intro e
      have := List.pairwise_iff_getElem.1 (List.nodup_iff_pairwise_ne.1 hnd) j (j + 1) (by simp; omega) (by simpa using hj) (by omega)
      exact this (by simpa using e)
  · rw [hmp _ hj, hmp j (by omega)]
    exact hnu (j + 1) (by omega) j (by omega)
theorem again_len {src : List Nat → ByteArray × Int} {T : T3 (List Fi)} (he : (mergeS src (upT T 3) (chkA T 3)).1 = 0) : (mergeS src (upT T 3) (chkA T 3)).2.length ≤ T.a.length + T.b.length + T.c.length := by
  obtain ⟨_, _, hout⟩ := merge_inv he
  rw [hout]
  have h1 : (clashed ((nmsT T).filterMap (outT src T))).length = ((nmsT T).filterMap (outT src T)).length := by simp [clashed]
  have h2 := List.length_filterMap_le (outT src T) (nmsT T)
  have h3 := nms_len T
  omega
theorem again_mem {src : List Nat → ByteArray × Int} {T : T3 (List Fi)} (he : (mergeS src (upT T 3) (chkA T 3)).1 = 0) {o : Ou} (ho : o ∈ (mergeS src (upT T 3) (chkA T 3)).2) : ∃ g, (g ∈ T.a ∨ g ∈ T.b ∨ g ∈ T.c) ∧ g.path = o.path := by
  obtain ⟨hc, herr, hout⟩ := merge_inv he
  rw [hout] at ho
  obtain ⟨i, hi, rfl⟩ := List.getElem_of_mem ho
  have h1 : (clashed ((nmsT T).filterMap (outT src T)))[i]? = some (clashed ((nmsT T).filterMap (outT src T)))[i] := List.getElem?_eq_getElem hi
  unfold clashed at h1
  rw [List.getElem?_mapIdx] at h1
  obtain ⟨x, hx, hxe⟩ := Option.map_eq_some_iff.1 h1
  have h2 : x.path ∈ ((nmsT T).filterMap (outT src T)).map (·.path) := List.mem_map_of_mem (List.mem_of_getElem? hx)
  rw [outs_paths] at h2
  have h3 := (List.mem_filter.1 h2).1
  obtain ⟨ha, hb, hcc⟩ := chkA_ok hc
  have e : (clashed ((nmsT T).filterMap (outT src T)))[i].path = x.path := by
    have : (clashed ((nmsT T).filterMap (outT src T)))[i] = clash1 ((nmsT T).filterMap (outT src T)) i x := hxe.symm
    rw [this]; exact clash1_keeps _ _ _
  rw [e]
  rcases (mem_nms ⟨ha.nodup, hb.nodup, hcc.nodup⟩ x.path).1 h3 with h | h | h
  · obtain ⟨g, hg, e⟩ := List.mem_map.1 h; exact ⟨g, .inl hg, e⟩
  · obtain ⟨g, hg, e⟩ := List.mem_map.1 h; exact ⟨g, .inr (.inl hg), e⟩
  · obtain ⟨g, hg, e⟩ := List.mem_map.1 h; exact ⟨g, .inr (.inr hg), e⟩
end Go.Proofs.YtpcipdkoncmdcaaGreatDoor
namespace Go.Proofs.YtpcipdkoncmdcaaGreatDoor
open Go Go.RowKit

theorem wpList_bld {P : Program} {ops : Array Oper} {rest : List Oper} {o : Oper} {a : Act} {w : World} {Q : Exit → Act → World → Prop} {t : TypeId} (hgd : o.guard = none) (parts : Array (Nat × Operand)) (ho : o.op = .build t parts) {vs : Array (Nat × Value)} (hp : (parts.map fun (i, y) => (i, a.eval y)) = vs) {v : Value} (hr : ∀ w, (Instr.build t vs).run P w = .ok v w)
    (h : wpList P ops Q rest (a.put o.dst v) w) : wpList P ops Q (o :: rest) a w :=
  wpList_plain hgd fun K hK => by
    unfold Oper.wp
    rw [exec_build parts ho hp hr]
    exact hK _ _ h
theorem fileElem : Elem Tryz.prog 22 56 (.agg #[.string ByteArray.empty, .int .u8 0, .int .u8 0, .int .u8 0, .int .u8 0, .int .u8 0, .int .u8 0, .int .u8 0, .int .u8 0, .int .u8 0, .int .u8 0, .int .u8 0, .int .u8 0, .int .u8 0, .int .u8 0, .int .u8 0, .int .u8 0, .int .u8 0, .int .u8 0, .int .u8 0, .int .u8 0, .int .u8 0, .int .u8 0, .int .u8 0, .int .u8 0, .int .u8 0, .int .u8 0, .int .u8 0, .int .u8 0, .int .u8 0, .int .u8 0, .int .u8 0, .int .u8 0, .float .f64 0]) 34 56 := ⟨by kernel_rfl, by kernel_rfl⟩
theorem fiC_one' {f : Fi} : ∀ u ∈ fiC f, u.oneCell' = true := by
  have := fiC_one (f := f)
  rw [List.all_toArray, List.all_eq_true] at this
  exact this

/-- What is read off an outcome's block. -/
theorem outBlk {W : World} {p : Nat} {x : Ov} (hx : OkOu x.o) (h : W.heap[p]? = some (.cells (ouC x).toArray 54 (0, 0))) : W.cell? ⟨p, 0, none⟩ = some (.string x.o.path) ∧ W.rangeAt p 2 (nb x.o.id) ∧ W.cell? ⟨p, 34, none⟩ = some (.float .f64 x.o.stamp) := by
  have hc : ∀ j u, (ouC x)[j]? = some u → W.cell? ⟨p, j, none⟩ = some u := fun j u hu => by simp only [World.cell?, h]; simpa using hu
  refine ⟨hc 0 _ rfl, fun j u hu => ?_, ?_⟩
  · refine hc (2 + j) u ?_
    unfold ouC
    rw [show 2 + j = j + 1 + 1 by omega, List.getElem?_cons_succ, List.getElem?_cons_succ, List.getElem?_append_left (List.getElem?_eq_some_iff.1 hu).1]; exact hu
  · refine hc 34 _ ?_
    unfold ouC
    rw [show (34 : Nat) = 32 + 1 + 1 from rfl, List.getElem?_cons_succ, List.getElem?_cons_succ, List.getElem?_append_right (by rw [nb_len, hx.id.1]; exact Nat.le_refl _), nb_len, hx.id.1]; rfl
theorem fiR_step {F : List Fi} {k : Nat} (hk : k < F.length) : fiR (F.take (k + 1)) = fiR (F.take k) ++ fiC F[k] := by
  rw [List.take_add_one, List.getElem?_eq_getElem hk]
  show (F.take k ++ [F[k]]).flatMap fiC = _
  rw [List.flatMap_append]
  show _ ++ (fiC F[k] ++ []) = _
  rw [List.append_nil]; rfl
theorem fs_own {W : World} {v : Value} {F : List Fi} (h : OwnG W 56 34 v F.length (fiR F)) (hok : ∀ f ∈ F, OkFi f) (hn : F.length ≤ 10000000) : FS W v F := by
  obtain ⟨a, c, e, _, _, hs⟩ := h.form
  exact ⟨⟨a, c, e, hs⟩, hok, hn⟩

set_option maxRecDepth 100000 in
set_option maxHeartbeats 8000000 in
theorem again_c {w : World} {va vb vc : Value} {T : T3 (List Fi)} (ha : FS w va T.a) (hb : FS w vb T.b) (hc : FS w vc T.c) (hg : Gl w) :
    Calls Tryz.prog 6 #[.agg #[va, vb, vc]] w fun e w' => e = .returned (.bool true) ∧ Below w.heap.size w w' := by
  have HFA := Lib.hid ha
  have HFB := Lib.hid hb
  have HFC := Lib.hid hc
  have HGL := Lib.hid hg
  obtain ⟨W1, hW1⟩ : ∃ W1, w.alloc (.cells #[va, vb, vc] 23 (0, 0)) = W1 := ⟨_, rfl⟩
  have HB1 : Hid (Below w.heap.size w W1) := by show Below _ _ _; rw [← hW1]; exact (Below.refl _ w).alloc (Nat.le_refl _) _
  have hblk : W1.heap[w.heap.size]? = some (.cells #[va, vb, vc] 23 (0, 0)) := by rw [← hW1]; exact Array.getElem?_push_size
  have HBLK1 := Lib.hid hblk
  have HLT1 : Hid (w.heap.size < W1.heap.size) := (Array.getElem?_eq_some_iff.1 hblk).1
  have HW1 := Lib.hid hW1
  have HAW := Lib.hid (awake_c W1 (hg.below HB1.out (Nat.le_refl _)))
  obtain ⟨aa, ca, rfl⟩ := ha.lit
  obtain ⟨ab, cb, rfl⟩ := hb.lit
  obtain ⟨ac, cc, rfl⟩ := hc.lit
  clear ha hb hc hg hW1 hblk
  go_enter Tryz.func6, Tryz.ntmps6
  go_upto_region 1 with fail
  rw [HW1.out]
  clear HW1
  go_upto_region 3 with (go_at_call 10; refine HAW.out.mono ?_; rintro e W2 ⟨rfl, hb2⟩)
  have HB2 := Lib.hid (HB1.out.trans (hb2.mono HB1.out.size))
  have HBLK2 : Hid (W2.heap[w.heap.size]? = _) := (hb2.block _ HLT1.out).trans HBLK1.out
  have HLT2 : Hid (w.heap.size < W2.heap.size) := Nat.lt_of_lt_of_le HLT1.out hb2.size
  clear hb2 HB1 HBLK1 HLT1 HAW
  have hsm := small0_c (HFA.out.below HB2.out) (HFB.out.below HB2.out) (HFC.out.below HB2.out)
  by_cases hn : T.a.length + T.b.length + T.c.length ≤ 90
  · rw [decide_eq_true hn] at hsm
    have HSM := Lib.hid hsm
    have HN := Lib.hid hn
    clear hsm hn
    go_upto_region 5 with (first
      | (refine wp_loadB rfl 23 _ rfl w.heap.size rfl HBLK2.out _ Tryz.underlying23 rfl (by kernel_rfl) ?_)
      | (go_at_call 11; refine HSM.out.mono ?_; rintro e W3 ⟨rfl, hb3⟩))
    have HB3 := Lib.hid (HB2.out.trans (hb3.mono HB2.out.size))
    have HBLK3 : Hid (W3.heap[w.heap.size]? = _) := (hb3.block _ HLT2.out).trans HBLK2.out
    have HLT3 : Hid (w.heap.size < W3.heap.size) := Nat.lt_of_lt_of_le HLT2.out hb3.size
    clear hb3 HB2 HBLK2 HLT2 HSM
    have hmc := merge_c (T := T) (bl := []) (HFA.out.below HB3.out) (HFB.out.below HB3.out) (HFC.out.below HB3.out) (HGL.out.below HB3.out (Nat.le_refl _)) (fun _ => Nat.zero_le _) (BS.nil W3)
    have hag := fun h1 h2 => again_ok (src := textS []) (T := T) (by have := HN.out; omega) h1 h2
    have hco := fun h1 => (merge_inv (src := textS []) (T := T) h1).1
    have hal := fun h1 => again_len (src := textS []) (T := T) h1
    have ham := fun h1 o ho => again_mem (src := textS []) (T := T) h1 (o := o) ho
    obtain ⟨R, hR⟩ : ∃ R, mergeS (textS []) (upT T 3) (chkA T 3) = R := ⟨_, rfl⟩
    rw [hR] at hmc hag ham hal hco
    obtain ⟨er, os⟩ := R
    have HMC := Lib.hid hmc
    have HAG : Hid (er = 0 → os.all cleanO = true → OkS (os.map fileO)) := hag
    have HAM : Hid (er = 0 → ∀ o ∈ os, ∃ g, (g ∈ T.a ∨ g ∈ T.b ∨ g ∈ T.c) ∧ g.path = o.path) := ham
    have HAL : Hid (er = 0 → os.length ≤ 90) := fun h => Nat.le_trans (hal h) HN.out
    have HCO : Hid (er = 0 → chkA T 3 = 0) := hco
    clear hmc hag ham hal hco hR
    go_upto_region 6 with (first
      | (refine wp_loadB rfl 23 _ rfl w.heap.size rfl HBLK3.out _ Tryz.underlying23 rfl (by kernel_rfl) ?_)
      | (go_at_call 13; refine HMC.out.mono ?_; rintro e W4 ⟨ov, V, rfl, hV, hMO⟩))
    have HB4 := Lib.hid (HB3.out.trans (hMO.below.mono HB3.out.size))
    have HBLK4 : Hid (W4.heap[w.heap.size]? = _) := (hMO.below.block _ HLT3.out).trans HBLK3.out
    have HLT4 : Hid (w.heap.size < W4.heap.size) := Nat.lt_of_lt_of_le HLT3.out hMO.below.size
    have HOR := Lib.hid hMO.or
    have HV : Hid (V.map (·.o) = os) := hV
    have HONE : Hid (∀ x ∈ V, x.tv.oneCell' = true) := fun x hx => tx_one (hMO.tx x hx).1.tx
    obtain ⟨va', vc', rfl⟩ := hMO.or.lit
    clear hMO hV HMC HB3 HBLK3 HLT3
    by_cases he : er = 0
    · subst he
      have hol := HAL.out rfl
      have hvl : V.length = os.length := by have := congrArg List.length HV.out; simpa using this
      have hcc := clean_c HOR.out HONE.out (by omega)
      have hce : (V.all fun x => cleanO x.o) = os.all cleanO := by rw [← HV.out, List.all_map]; rfl
      rw [hce] at hcc
      obtain ⟨cl, hcl⟩ : ∃ cl, os.all cleanO = cl := ⟨_, rfl⟩
      rw [hcl] at hcc
      have HCC := Lib.hid hcc
      have HCLE := Lib.hid hcl
      clear hcc hce hcl
      cases cl with
      | false =>
        clear hol hvl
        go_wp2_with (go_at_call 18; refine HCC.out.mono ?_; rintro e W5 ⟨rfl, hb5⟩)
        go_ret
        exact ⟨rfl, HB4.out.trans (hb5.mono HB4.out.size)⟩
      | true =>
        obtain ⟨F, hF⟩ : ∃ F, os.map fileO = F := ⟨_, rfl⟩
        have hFO := HAG.out rfl HCLE.out
        rw [hF] at hFO
        have HFO := Lib.hid hFO
        have hfl : F.length = V.length := by rw [← hF, List.length_map, hvl]
        have HFK : Hid (∀ k (h1 : k < V.length) (h2 : k < F.length), F[k] = fileO V[k].o) := by
          intro k h1 h2
          have e1 : F[k]? = (V.map fun x => fileO x.o)[k]? := by
            rw [← hF, ← HV.out, List.map_map]; rfl
          rw [List.getElem?_map, List.getElem?_eq_getElem h1, List.getElem?_eq_getElem h2] at e1
          exact Option.some.inj e1
        have HOKF : Hid (∀ f ∈ F, OkFi f) := by
          intro f hf
          rw [← hF] at hf
          obtain ⟨o, ho, rfl⟩ := List.mem_map.1 hf
          obtain ⟨g, hg, hp⟩ := HAM.out rfl o ho
          rw [← HV.out] at ho
          obtain ⟨x, hx, rfl⟩ := List.mem_map.1 ho
          have hx2 := HOR.out.ok x hx
          refine ⟨hx2.id, hx2.st, ?_⟩
          show x.o.path.size ≤ _
          rw [← hp]
          rcases hg with h | h | h
          · exact (HFA.out.ok g h).pz
          · exact (HFB.out.ok g h).pz
          · exact (HFC.out.ok g h).pz
        have HVL : Hid (V.length ≤ 90) := by show V.length ≤ 90; omega
        have HFL := Lib.hid hfl
        have HCT := Lib.hid (chkA_ok (HCO.out rfl))
        clear hF hFO hfl hol hvl HAG HAM HAL HV HCLE HCO
        go_upto_region 8 with (go_at_call 18; refine HCC.out.mono ?_; rintro e W5 ⟨rfl, hb5⟩)
        have HB5 := Lib.hid (HB4.out.trans (hb5.mono HB4.out.size))
        have HBLK5 : Hid (W5.heap[w.heap.size]? = _) := (hb5.block _ HLT4.out).trans HBLK4.out
        have HLT5 : Hid (w.heap.size < W5.heap.size) := Nat.lt_of_lt_of_le HLT4.out hb5.size
        have HOR5 := Lib.hid (HOR.out.below hb5)
        clear hb5 HB4 HBLK4 HLT4 HOR HCC
        go_upto_region 10 with fail
        go_loopw [5, 35] (fun fv kv wx => ∃ k : Nat, k ≤ V.length ∧ kv = .int .i64 k ∧ Hid (OwnG wx 56 34 fv k (fiR (F.take k))) ∧ Hid (∀ b, fv.ownBlock = some b → W5.heap.size ≤ b) ∧ Hid (Below W5.heap.size W5 wx)) (fun _ kv _ => (V.length - intOf kv).toNat)
        case atStart => exact ⟨0, Nat.zero_le _, rfl, OwnG.nil _ _ _, fun b hb => (by cases hb), Below.refl _ _⟩
        case round =>
          obtain ⟨k, hk, rfl, HOW, HOB, HBW⟩ := hrel
          by_cases hkl : k < V.length
          · have k1 : decide ((k : Int) < (V.length : Int)) = true := decide_eq_true (by omega)
            have k2 : decide (k < V.length) = true := decide_eq_true hkl
            have k3 : (0 : Int) ≤ (k : Int) := by omega
            have k4 : (k : Int) < (V.length : Int) := by omega
            have kw : IntKind.i64.wrap ((k : Int) + 1) = ((k + 1 : Nat) : Int) := IntWalk.i64_in _ (by have := HVL.out; omega)
            have hkf : k < F.length := by have := HFL.out; omega
            obtain ⟨b, o, c', e, hbl, hr⟩ := (HOR5.out.below HBW.out).at hkl
            injection e with e1 _ e2
            subst e1 e2
            have HR : Hid (wr.rangeAt b (o + k * 135) (ouC V[k])) := hr k hkl
            have HXO : Hid (OkOu V[k].o) := HOR5.out.ok _ (List.getElem_mem hkl)
            have HCL : Hid ((ouC V[k]).length = 135) := ouC_len HXO.out
            have HOE : Hid ((ouC V[k]).toArray.all (·.oneCell') = true) := by show _ = _; rw [List.all_toArray, List.all_eq_true]; exact ouC_one (HONE.out _ (List.getElem_mem hkl))
            have HST : Hid (fiR (F.take (k + 1)) = fiR (F.take k) ++ fiC (fileO V[k].o)) := by show _ = _; rw [fiR_step hkf, HFK.out k hkl hkf]
            have HOF : Hid (OkFi (fileO V[k].o)) := by show OkFi _; rw [← HFK.out k hkl hkf]; exact HOKF.out _ (List.getElem_mem hkf)
            clear hr hbl hkf
            generalize V[k] = x at *
            go_upto_region 12 with (first
              | (refine wpList_load_mid rfl 54 _ rfl b (o + k * 135) rfl (ouC x) _ HR.out Tryz.underlying54 rfl (by rw [HCL.out]; exact out_info) ?_)
              | (refine wp_storeB rfl 54 _ _ rfl wr.heap.size (ouC x).toArray rfl rfl Array.getElem?_push_size (out_zsz HCL.out) (out_isz HCL.out) HOE.out ?_; intro W8 hb8 hg8))
            have hB8 : Below wr.heap.size wr W8 := ((Below.refl wr.heap.size wr).alloc (Nat.le_refl _) _).grown hg8 (by simp) (fun k hk => by cases hk; exact Nat.le_refl _)
            have HOW8 := Lib.hid (HOW.out.below hB8)
            have HB8 := Lib.hid (HBW.out.trans (hB8.mono HBW.out.size))
            obtain ⟨hc0, hc2, hc34⟩ := outBlk HXO.out hb8
            have HC2 := Lib.hid hc2
            clear hb8 hg8 hB8 HBW HOW HR HCL HOE hc2
            generalize wr.heap.size = p7 at *
            have HRB : Hid (∀ w, (Instr.build 56 #[(0, .string x.o.path), (1, .agg (nums .u8 x.o.id)), (2, .float .f64 x.o.stamp)]).run Tryz.prog w = .ok (.agg (fiC (fileO x.o)).toArray) w) := fun w => rb_file HXO.out.id x.o.path x.o.stamp w
            have HCF : Hid ((fiC (fileO x.o)).length = 34) := fiC_len HOF.out
            have HBA : Hid (Below W8.heap.size W8 (W8.alloc (.cells (fiC (fileO x.o)).toArray 56))) := (Below.refl _ W8).alloc (Nat.le_refl _) _
            have HSRC : Hid (Src Tryz.prog 34 22 (.slice (some ⟨W8.heap.size, 0, none⟩) 1 1) 1 (fiC (fileO x.o)) (W8.alloc (.cells (fiC (fileO x.o)).toArray 56))) := Src.ofNew Tryz.underlying22 HCF.out fiC_one'
            have HOW9 := Lib.hid (HOW8.out.below HBA.out)
            go_upto_region 13 with (first
              | (refine wpList_load_mid rfl 43 _ rfl p7 2 rfl (nb x.o.id) _ HC2.out id_under rfl (by rw [nb_len, HXO.out.id.1]; kernel_rfl) ?_)
              | (refine wpList_bld rfl _ rfl (by simp only [Act.put, List.setIfInBounds_toArray]; simp [Act.eval]; rfl) HRB.out ?_)
              | (refine wpList_build1 (cs := (fiC (fileO x.o)).toArray) (n := 34) rfl _ rfl (by simp only [Act.put, List.setIfInBounds_toArray]; simp [Act.eval]) Tryz.underlying22 file_info file_zero (by decide) (by decide) (by rw [List.size_toArray]; exact HCF.out) ?_)
              | (refine wp_appG rfl _ _ _ _ rfl fileElem (by kernel_rfl) (v := u5) (xv := .slice (some ⟨W8.heap.size, 0, none⟩) 1 1) (n := k) (m := 1) rfl HOW9.out rfl HSRC.out (by have := HVL.out; simp only [maxLen]; omega) (by have := HVL.out; omega) ?_; intro v10 W10 ho10 hg10 hv10))
            have HOW10 : Hid (Hid (OwnG W10 56 34 v10 (k + 1) (fiR (F.take (k + 1))))) := by show OwnG _ _ _ _ _ _; rw [HST.out]; exact ho10
            have HOB10 : Hid (Hid (∀ b, v10.ownBlock = some b → W5.heap.size ≤ b)) := fun b hb => (hv10 b hb).elim (HOB.out b) (fun h => by have h1 := HBA.out.size; have h2 := HB8.out.size; omega)
            have HB10 : Hid (Hid (Below W5.heap.size W5 W10)) := (HB8.out.trans (HBA.out.mono HB8.out.size)).grown hg10 (Nat.le_trans HB8.out.size HBA.out.size) (fun b hb => HOB.out b hb)
            clear ho10 hg10 hv10 HOW9 HSRC HBA HCF HRB HC2 hc0 hc34 HOW8 HB8 HOB
            go_wp2_with fail
            go_roundw
            case rel => exact ⟨k + 1, hkl, by go_num, HOW10.out, HOB10.out, HB10.out⟩
            case measure => simp [intOf]; omega
          · have hkn : k = V.length := by omega
            subst hkn
            have k1 : decide ((V.length : Int) < (V.length : Int)) = false := decide_eq_false (by omega)
            have hfl := HFL.out
            have hfs : FS wr u5 F := fs_own (by rw [hfl]; have := HOW.out; rw [List.take_of_length_le (by omega)] at this; exact this) HOKF.out (by have := HVL.out; omega)
            have HFS := Lib.hid hfs
            obtain ⟨fa, fc, rfl⟩ := hfs.lit
            have HBR := Lib.hid (HB5.out.trans (HBW.out.mono HB5.out.size))
            have hck := tcheck_c hfs (HGL.out.below HBR.out (Nat.le_refl _))
            rw [chkS_of HFO.out] at hck
            have HCK := Lib.hid hck
            have HBLKr : Hid (wr.heap[w.heap.size]? = _) := (HBW.out.block _ HLT5.out).trans HBLK5.out
            have HLTr : Hid (w.heap.size < wr.heap.size) := Nat.lt_of_lt_of_le HLT5.out HBW.out.size
            clear hck hfs hfl HBW HOB HOW HB5 HBLK5 HLT5 HOR5
            go_upto_region 16 with (go_at_call 19; refine HCK.out.mono ?_; rintro e W6 ⟨rfl, hb6⟩)
            have HB6 := Lib.hid (HBR.out.trans (hb6.mono HBR.out.size))
            have HFS6 := Lib.hid (HFS.out.below hb6)
            have HBLK6 : Hid (W6.heap[w.heap.size]? = _) := (hb6.block _ HLTr.out).trans HBLKr.out
            have HLT6 : Hid (w.heap.size < W6.heap.size) := Nat.lt_of_lt_of_le HLTr.out hb6.size
            clear hb6 HBR HFS HBLKr HLTr HCK
            go_upto_region 17 with fail
            have HMG : Hid (∀ i, i < 2 → ∃ sv S, (∀ W : World, W.heap[w.heap.size]? = some (.cells #[.slice aa T.a.length ca, .slice ab T.b.length cb, .slice ac T.c.length cc] 23 (0, 0)) → W.cell? ⟨w.heap.size, 1 + i, none⟩ = some sv) ∧ FS w sv S ∧ OkS S) := by
              intro i hi
              rcases i with _ | _ | i
              · exact ⟨_, T.b, fun W hW => (by simp only [World.cell?, hW]; rfl), HFB.out, HCT.out.2.1⟩
              · exact ⟨_, T.c, fun W hW => (by simp only [World.cell?, hW]; rfl), HFC.out, HCT.out.2.2⟩
              · omega
            clear HCT HFA HFB HFC HOKF HFK HONE
            go_loopw [55] (fun iv wx => ∃ i : Nat, i ≤ 2 ∧ iv = .int .i64 i ∧ Hid (Below w.heap.size w wx) ∧ Hid (FS wx (.slice fa F.length fc) F) ∧ Hid (wx.heap[w.heap.size]? = some (.cells #[.slice aa T.a.length ca, .slice ab T.b.length cb, .slice ac T.c.length cc] 23 (0, 0))) ∧ Hid (w.heap.size < wx.heap.size)) (fun iv _ => (2 - intOf iv).toNat)
            case atStart => exact ⟨0, by decide, rfl, HB6, HFS6, HBLK6, HLT6⟩
            case round =>
              clear HB6 HFS6 HBLK6 HLT6
              obtain ⟨i, hi, rfl, HBW, HFS, HBLK, HLT⟩ := hrel
              by_cases hlt : i < 2
              · have d1 : decide ((i : Int) < 2) = true := decide_eq_true (by omega)
                have d2 : decide (i < 2) = true := decide_eq_true hlt
                have d3 : (0 : Int) ≤ (i : Int) := by omega
                have d4 : (i : Int) < 2 := by omega
                have dw : IntKind.i64.wrap ((i : Int) + 1) = ((i + 1 : Nat) : Int) := IntWalk.i64_in _ (by omega)
                obtain ⟨sv, S, hcell, hfs, hos⟩ := HMG.out i hlt
                have hsv := hcell wr HBLK.out
                have HMK : Hid (Calls Tryz.prog 13 #[.agg #[sv, .slice fa F.length fc, sv], SrcV (.slice none 0 0)] wr fun e w' => ∃ ov V, e = .returned (.tuple #[ov, .int .i64 0]) ∧ V.map (·.o) = F.map (keptO ⟨S, F, S⟩) ∧ OR w' ov V ∧ (∀ x ∈ V, x.tv.oneCell' = true) ∧ Below wr.heap.size wr w') := merge_kept (T := ⟨S, F, S⟩) (hfs.below HBW.out) HFS.out (hfs.below HBW.out) (HGL.out.below HBW.out (Nat.le_refl _)) (side1 hos HFO.out _)
                obtain ⟨sa, sc, rfl⟩ := hfs.lit
                clear hcell hfs hos
                go_upto_region 20 with (go_at_call 13; refine HMK.out.mono ?_; rintro e W7 ⟨ov, V2, rfl, hV, hor, hone, hb7⟩)
                have hln : V2.length = F.length := by have := congrArg List.length hV; simpa using this
                have hol : F.length ≤ 256 := HFO.out.n
                obtain ⟨oa7, oc7, rfl⟩ := hor.lit
                have HOR := Lib.hid hor
                have HV2 := Lib.hid hV
                have HB7 := Lib.hid (HBW.out.trans (hb7.mono HBW.out.size))
                have HFS7 := Lib.hid (HFS.out.below hb7)
                have HBLK7 : Hid (W7.heap[w.heap.size]? = _) := (hb7.block _ HLT.out).trans HBLK.out
                have HLT7 : Hid (w.heap.size < W7.heap.size) := Nat.lt_of_lt_of_le HLT.out hb7.size
                have hcl : (V2.all fun x => cleanO x.o) = true := by
                  rw [List.all_eq_true]
                  intro x hx
                  have h1 : x.o ∈ V2.map (·.o) := List.mem_map_of_mem hx
                  rw [hV] at h1
                  obtain ⟨f, -, hf⟩ := List.mem_map.1 h1
                  rw [← hf]; rfl
                have hcc := clean_c hor hone (by omega)
                rw [hcl] at hcc
                have HCC := Lib.hid hcc
                have hle : ((V2.length : Int) == (F.length : Int)) = true := beq_iff_eq.2 (by omega)
                have HLN := Lib.hid hln
                have HON2 := Lib.hid hone
                have hvb : V2.length ≤ 256 := by omega
                clear hor hV hb7 hcl hcc hone hln HBW HFS HBLK HLT HMK hsv
                go_upto_region 22 with (go_at_call 18; refine HCC.out.mono ?_; rintro e W8 ⟨rfl, hb8⟩)
                have HOR8 := Lib.hid (HOR.out.below hb8)
                have HB8 := Lib.hid (HB7.out.trans (hb8.mono HB7.out.size))
                have HFS8 := Lib.hid (HFS7.out.below hb8)
                have HBLK8 : Hid (W8.heap[w.heap.size]? = _) := (hb8.block _ HLT7.out).trans HBLK7.out
                have HLT8 : Hid (w.heap.size < W8.heap.size) := Nat.lt_of_lt_of_le HLT7.out hb8.size
                clear hb8 HB7 HFS7 HBLK7 HLT7 HOR HCC hle
                go_upto_region 23 with fail
                go_loopw [85] (fun kv wx => ∃ k : Nat, k ≤ V2.length ∧ kv = .int .i64 k ∧ Hid (Below w.heap.size w wx) ∧ Hid (FS wx (.slice fa F.length fc) F) ∧ Hid (OR wx (.slice oa7 V2.length oc7) V2) ∧ Hid (wx.heap[w.heap.size]? = some (.cells #[.slice aa T.a.length ca, .slice ab T.b.length cb, .slice ac T.c.length cc] 23 (0, 0))) ∧ Hid (w.heap.size < wx.heap.size)) (fun kv _ => (V2.length - intOf kv).toNat)
                case atStart => exact ⟨0, Nat.zero_le _, rfl, HB8, HFS8, HOR8, HBLK8, HLT8⟩
                case round =>
                  clear HB8 HFS8 HOR8 HBLK8 HLT8
                  obtain ⟨k, hk, rfl, HBW, HFS, HOR, HBLK, HLT⟩ := hrel
                  by_cases hkl : k < V2.length
                  · have k1 : decide ((k : Int) < (V2.length : Int)) = true := decide_eq_true (by omega)
                    have k2 : decide (k < V2.length) = true := decide_eq_true hkl
                    have k3 : (0 : Int) ≤ (k : Int) := by omega
                    have k4 : (k : Int) < (V2.length : Int) := by omega
                    have k5 : (k : Int) < (F.length : Int) := by have := HLN.out; omega
                    have kw : IntKind.i64.wrap ((k : Int) + 1) = ((k + 1 : Nat) : Int) := IntWalk.i64_in _ (by omega)
                    have hko : k < F.length := by have := HLN.out; omega
                    obtain ⟨b, o, c', e, hbl, hr⟩ := HOR.out.at hkl
                    injection e with e1 _ e2
                    subst e1 e2
                    obtain ⟨fb, fo, c2', e, hfl, hfr⟩ := HFS.out.at hko
                    injection e with e1 _ e2
                    subst e1 e2
                    have HR : Hid (wr.rangeAt b (o + k * 135) (ouC V2[k])) := hr k hkl
                    have HFR : Hid (wr.rangeAt fb (fo + k * 34) (fiC F[k])) := hfr k hko
                    have HFK : Hid (OkFi F[k]) := HFS.out.ok _ (List.getElem_mem hko)
                    have HFL : Hid (fb < wr.heap.size) := hfl
                    have HCL : Hid ((ouC V2[k]).length = 135) := ouC_len (HOR.out.ok _ (List.getElem_mem hkl))
                    have HOE : Hid ((ouC V2[k]).toArray.all (·.oneCell') = true) := by show _ = _; rw [List.all_toArray, List.all_eq_true]; exact ouC_one (HON2.out _ (List.getElem_mem hkl))
                    have HVK : Hid (V2[k].o = keptO ⟨S, F, S⟩ F[k]) := by
                      have h1 : (V2.map (·.o))[k]? = (F.map (keptO ⟨S, F, S⟩))[k]? := by rw [HV2.out]
                      rw [List.getElem?_map, List.getElem?_map, List.getElem?_eq_getElem hkl, List.getElem?_eq_getElem hko] at h1
                      exact Option.some.inj h1
                    clear hr hfr hfl hbl
                    generalize V2[k] = x at *
                    generalize F[k] = f at *
                    go_upto_region 25 with (first
                      | (refine wpList_load_mid rfl 54 _ rfl b (o + k * 135) rfl (ouC x) _ HR.out Tryz.underlying54 rfl (by rw [HCL.out]; exact out_info) ?_)
                      | (refine wp_storeB rfl 54 _ _ rfl wr.heap.size (ouC x).toArray rfl rfl Array.getElem?_push_size (out_zsz HCL.out) (out_isz HCL.out) HOE.out ?_; intro W8 hb8 hg8))
                    have hB8 : Below wr.heap.size wr W8 := ((Below.refl wr.heap.size wr).alloc (Nat.le_refl _) _).grown hg8 (by simp) (fun k hk => by cases hk; exact Nat.le_refl _)
                    have hs0 : CmpS (W8.drewN 1) wr.heap.size fb (fo + k * 34) f := (cmpS_of HFK.out hb8 (fun j u hu => (hB8.cell (p := ⟨fb, fo + k * 34 + j, none⟩) HFL.out).trans (HFR.out j u hu)) (by rw [HVK.out]; rfl) (by rw [HVK.out]; rfl) (by rw [HVK.out]; rfl) (by rw [HVK.out]; rfl)).dn 1
                    have HB8 : Hid (Hid (Below w.heap.size w (W8.drewN 1))) := below_dN (HBW.out.trans (hB8.mono HBW.out.size)) 1
                    have HFS8 : Hid (Hid (FS (W8.drewN 1) (.slice (some ⟨fb, fo, none⟩) F.length fc) F)) := HFS.out.below (below_dN hB8 1)
                    have HOR8 : Hid (Hid (OR (W8.drewN 1) (.slice (some ⟨b, o, none⟩) V2.length oc7) V2)) := HOR.out.below (below_dN hB8 1)
                    have HBLK8 : Hid (Hid ((W8.drewN 1).heap[w.heap.size]? = _)) := (hB8.block _ HLT.out).trans HBLK.out
                    have HLT8 : Hid (Hid (w.heap.size < (W8.drewN 1).heap.size)) := Nat.lt_of_lt_of_le HLT.out hB8.size
                    have HBT : Hid (∀ W, Calls Tryz.prog 20 #[.float .f64 (cn f.stamp)] W fun e w' => e = .returned (.int .u64 (cn f.stamp)) ∧ w' = W) := fun W => by have := refbits_c (cn f.stamp) W; rw [cn_cn] at this; exact this
                    clear hb8 hg8 hB8 HBW HFS HOR HBLK HLT HR HFR HCL HOE HVK HFL
                    generalize wr.heap.size = p10 at *
                    refine wp_region_hz (fun W => CmpS W p10 fb (fo + k * 34) f) (.tk 0 (.tk 1 (.tk 2 (.tk 3 (.tk 4 (.tk 5 (.tk 6 (.tk 7 (.tk 8 (.tk 9 (.tk 10 (.tk 11 (.tk 12 (.tk 13 (.tk 14 (.tk 15 (.tk 16 (.tk 17 (.tk 18 (.tk 19 (.tk 20 (.tk 21 (.tk 22 (.tk 23 (.tk 24 (.tk 25 (.tk 27 (.tk 28 (.tk 29 (.tk 30 (.tk 31 (.fc 26 (.fc 32 (.tk 33 (.tk 34 (.nil)))))))))))))))))))))))))))))))))))) (by kernel_rfl) (by kernel_rfl) (fun _ _ _ _ _ h => h) ?_
                    refine goZ_tk rfl rfl 90 rfl (.pointer (some ⟨p10, 1, none⟩)) (fun _ => rfl) ?_
                    simp only [List.setIfInBounds_toArray, List.set_cons_zero, List.set_cons_succ]
                    refine goZ_ld rfl rfl 91 rfl 3 _ rfl ⟨p10, 1, none⟩ (.int .i64 1) rfl (fun W hS => ld_int _ _ W hS.kd) (hs0) ?_
                    simp only [List.setIfInBounds_toArray, List.set_cons_zero, List.set_cons_succ]
                    refine goZ_tk rfl rfl 92 rfl (.bool false) (fun _ => by go_simp) ?_
                    simp only [List.setIfInBounds_toArray, List.set_cons_zero, List.set_cons_succ]
                    refine goZ_tk rfl rfl 93 rfl (.bool false) (fun _ => rfl) ?_
                    simp only [List.setIfInBounds_toArray, List.set_cons_zero, List.set_cons_succ]
                    refine goZ_tk rfl rfl 94 rfl (.pointer (some ⟨p10, 0, none⟩)) (fun _ => rfl) ?_
                    simp only [List.setIfInBounds_toArray, List.set_cons_zero, List.set_cons_succ]
                    refine goZ_ld rfl rfl 95 rfl 9 _ rfl ⟨p10, 0, none⟩ (.string f.path) rfl (fun W hS => ld_string _ _ W hS.pa) (hs0) ?_
                    simp only [List.setIfInBounds_toArray, List.set_cons_zero, List.set_cons_succ]
                    refine goZ_tk rfl rfl 96 rfl (.slice (some ⟨fb, fo, none⟩) F.length fc) (fun _ => rfl) ?_
                    simp only [List.setIfInBounds_toArray, List.set_cons_zero, List.set_cons_succ]
                    refine goZ_tk rfl rfl 97 rfl (.int .i64 k) (fun _ => rfl) ?_
                    simp only [List.setIfInBounds_toArray, List.set_cons_zero, List.set_cons_succ]
                    refine goZ_tk rfl rfl 98 rfl (.pointer (some ⟨fb, fo + k * 34, none⟩)) (fun _ => by go_simp) ?_
                    simp only [List.setIfInBounds_toArray, List.set_cons_zero, List.set_cons_succ]
                    refine goZ_tk rfl rfl 99 rfl (.pointer (some ⟨fb, fo + k * 34, none⟩)) (fun _ => rfl) ?_
                    simp only [List.setIfInBounds_toArray, List.set_cons_zero, List.set_cons_succ]
                    refine goZ_ld rfl rfl 100 rfl 9 _ rfl ⟨fb, fo + k * 34, none⟩ (.string f.path) rfl (fun W hS => ld_string _ _ W hS.fp) (hs0) ?_
                    simp only [List.setIfInBounds_toArray, List.set_cons_zero, List.set_cons_succ]
                    refine goZ_tk rfl rfl 101 rfl (.bool false) (fun _ => by go_simp) ?_
                    simp only [List.setIfInBounds_toArray, List.set_cons_zero, List.set_cons_succ]
                    refine goZ_tk rfl rfl 102 rfl (.bool false) (fun _ => rfl) ?_
                    simp only [List.setIfInBounds_toArray, List.set_cons_zero, List.set_cons_succ]
                    refine goZ_tk rfl rfl 103 rfl (.bool false) (fun _ => rfl) ?_
                    simp only [List.setIfInBounds_toArray, List.set_cons_zero, List.set_cons_succ]
                    refine goZ_tk rfl rfl 104 rfl (.pointer (some ⟨p10, 2, none⟩)) (fun _ => rfl) ?_
                    simp only [List.setIfInBounds_toArray, List.set_cons_zero, List.set_cons_succ]
                    refine goZ_ld rfl rfl 105 rfl 43 _ rfl ⟨p10, 2, none⟩ (.agg (nums .u8 f.id)) rfl (fun W hS => ld_id HFK.out.id hS.id) (hs0) ?_
                    simp only [List.setIfInBounds_toArray, List.set_cons_zero, List.set_cons_succ]
                    refine goZ_tk rfl rfl 106 rfl (.slice (some ⟨fb, fo, none⟩) F.length fc) (fun _ => rfl) ?_
                    simp only [List.setIfInBounds_toArray, List.set_cons_zero, List.set_cons_succ]
                    refine goZ_tk rfl rfl 107 rfl (.int .i64 k) (fun _ => rfl) ?_
                    simp only [List.setIfInBounds_toArray, List.set_cons_zero, List.set_cons_succ]
                    refine goZ_tk rfl rfl 108 rfl (.pointer (some ⟨fb, fo + k * 34, none⟩)) (fun _ => by go_simp) ?_
                    simp only [List.setIfInBounds_toArray, List.set_cons_zero, List.set_cons_succ]
                    refine goZ_tk rfl rfl 109 rfl (.pointer (some ⟨fb, fo + k * 34 + 1, none⟩)) (fun _ => rfl) ?_
                    simp only [List.setIfInBounds_toArray, List.set_cons_zero, List.set_cons_succ]
                    refine goZ_ld rfl rfl 110 rfl 43 _ rfl ⟨fb, fo + k * 34 + 1, none⟩ (.agg (nums .u8 f.id)) rfl (fun W hS => ld_id HFK.out.id hS.fi) (hs0) ?_
                    simp only [List.setIfInBounds_toArray, List.set_cons_zero, List.set_cons_succ]
                    refine goZ_tk rfl rfl 111 rfl (.bool false) (exec_bin _ _ rfl rfl rfl (fun _ => by first | rfl | go_simp) (id_same HFK.out.id)) ?_
                    simp only [List.setIfInBounds_toArray, List.set_cons_zero, List.set_cons_succ]
                    refine goZ_tk rfl rfl 112 rfl (.bool false) (fun _ => rfl) ?_
                    simp only [List.setIfInBounds_toArray, List.set_cons_zero, List.set_cons_succ]
                    refine goZ_tk rfl rfl 113 rfl (.bool false) (fun _ => rfl) ?_
                    simp only [List.setIfInBounds_toArray, List.set_cons_zero, List.set_cons_succ]
                    refine goZ_tk rfl rfl 114 rfl (.pointer (some ⟨p10, 34, none⟩)) (fun _ => rfl) ?_
                    simp only [List.setIfInBounds_toArray, List.set_cons_zero, List.set_cons_succ]
                    refine goZ_ld rfl rfl 115 rfl 44 _ rfl ⟨p10, 34, none⟩ (.float .f64 (cn f.stamp)) rfl (fun W hS => ld_float _ _ W hS.st) (hs0) ?_
                    simp only [List.setIfInBounds_toArray, List.set_cons_zero, List.set_cons_succ]
                    refine goZ_tk rfl rfl 117 rfl (.slice (some ⟨fb, fo, none⟩) F.length fc) (fun _ => rfl) ?_
                    simp only [List.setIfInBounds_toArray, List.set_cons_zero, List.set_cons_succ]
                    refine goZ_tk rfl rfl 118 rfl (.int .i64 k) (fun _ => rfl) ?_
                    simp only [List.setIfInBounds_toArray, List.set_cons_zero, List.set_cons_succ]
                    refine goZ_tk rfl rfl 119 rfl (.pointer (some ⟨fb, fo + k * 34, none⟩)) (fun _ => by go_simp) ?_
                    simp only [List.setIfInBounds_toArray, List.set_cons_zero, List.set_cons_succ]
                    refine goZ_tk rfl rfl 120 rfl (.pointer (some ⟨fb, fo + k * 34 + 33, none⟩)) (fun _ => rfl) ?_
                    simp only [List.setIfInBounds_toArray, List.set_cons_zero, List.set_cons_succ]
                    refine goZ_ld rfl rfl 121 rfl 44 _ rfl ⟨fb, fo + k * 34 + 33, none⟩ (.float .f64 f.stamp) rfl (fun W hS => ld_float _ _ W hS.fs) (hs0) ?_
                    simp only [List.setIfInBounds_toArray, List.set_cons_zero, List.set_cons_succ]
                    refine goZ_call (ds' := [31, 20, 15, 10, 5, 1]) rfl rfl (by kernel_rfl) 116 rfl 20 _ rfl [(.float .f64 (cn f.stamp))] rfl (enters_of Tryz.func20 (by kernel_rfl) rfl) ((HBT.out _).mono ?_)
                    rintro _ _ ⟨rfl, rfl⟩
                    refine ⟨(.int .u64 (cn f.stamp)), rfl, fun _ => hs0, ?_⟩
                    simp only [List.setIfInBounds_toArray, List.set_cons_zero, List.set_cons_succ]
                    refine goZ_call (ds' := [20, 15, 10, 5, 1]) rfl rfl (by kernel_rfl) 122 rfl 20 _ rfl [(.float .f64 f.stamp)] rfl (enters_of Tryz.func20 (by kernel_rfl) rfl) ((refbits_c f.stamp _).mono ?_)
                    rintro _ _ ⟨rfl, rfl⟩
                    refine ⟨(.int .u64 (cn f.stamp)), rfl, fun _ => hs0, ?_⟩
                    simp only [List.setIfInBounds_toArray, List.set_cons_zero, List.set_cons_succ]
                    refine goZ_tk rfl rfl 123 rfl (.bool false) (fun _ => by go_simp) ?_
                    simp only [List.setIfInBounds_toArray, List.set_cons_zero, List.set_cons_succ]
                    refine goZ_tk rfl rfl 124 rfl (.bool false) (fun _ => rfl) ?_
                    simp only [List.setIfInBounds_toArray, List.set_cons_zero, List.set_cons_succ]
                    refine goZ_end ?_
                    generalize W8.drewN 1 = W9 at *
                    go_wp2_with fail
                    exact ⟨⟨_, _, _, _, ⟨k + 1, hkl, rfl, HB8.out, HFS8.out, HOR8.out, HBLK8.out, HLT8.out⟩, rfl, rfl, rfl, by go_num⟩, by simp [intOf]; omega⟩
                  · have k1 : decide ((k : Int) < (V2.length : Int)) = false := decide_eq_false (by omega)
                    have k2 : decide (k < V2.length) = false := decide_eq_false hkl
                    have QBW := Lib.hid HBW
                    have QFS := Lib.hid HFS
                    have QBLK := Lib.hid HBLK
                    have QLT := Lib.hid HLT
                    clear HBW HFS HBLK HLT
                    go_wp2_with fail
                    go_roundw
                    case rel => exact ⟨i + 1, hlt, by go_num, QBW.out, QFS.out, QBLK.out, QLT.out⟩
                    case measure => simp [intOf]; omega
              · have d1 : decide ((i : Int) < 2) = false := decide_eq_false (by omega)
                have d2 : decide (i < 2) = false := decide_eq_false hlt
                go_wp2_with fail
                go_ret
                exact ⟨rfl, HBW.out⟩
    · have e0 : (er == 0) = false := beq_eq_false_iff_ne.2 he
      go_wp2_with fail
      go_ret
      exact ⟨rfl, HB4.out⟩
  · rw [decide_eq_false hn] at hsm
    have HSM := Lib.hid hsm
    clear hsm
    go_wp2_with (first
      | (refine wp_loadB rfl 23 _ rfl w.heap.size rfl HBLK2.out _ Tryz.underlying23 rfl (by kernel_rfl) ?_)
      | (go_at_call 11; refine HSM.out.mono ?_; rintro e W3 ⟨rfl, hb3⟩))
    go_ret
    exact ⟨rfl, HB2.out.trans (hb3.mono HB2.out.size)⟩
end Go.Proofs.YtpcipdkoncmdcaaGreatDoor
namespace Go.Proofs.YtpcipdkoncmdcaaGreatDoor
open Go Go.RowKit

/-- A text that came in: whatever its capacity. -/
def Tr (w : World) (v : Value) (t : ByteArray) : Prop := ∃ a c, v = .slice a t.size c ∧ Sl w a (bts t)
theorem Tr.below {w w' : World} {v : Value} {t : ByteArray} (h : Tr w v t) (hb : Below w.heap.size w w') : Tr w' v t := by
  obtain ⟨a, c, e, hs⟩ := h
  exact ⟨a, c, e, hs.below hb⟩
theorem tr_str {w : World} {v : Value} {t : ByteArray} (h : Tr w v t) : (convert 52 9 v).run Tryz.prog w = .ok (.string t) w := by
  obtain ⟨a, c, rfl, hs⟩ := h
  exact run_str_of (P := Tryz.prog) Tryz.underlying52 Tryz.underlying5 Tryz.underlying9 hs c
theorem tr_one {w : World} {v : Value} {t : ByteArray} (h : Tr w v t) : v.oneCell' = true := by obtain ⟨a, c, rfl, _⟩ := h; rfl
/-- A raw blob. -/
structure LB where
  id : List Nat
  tv : Value
  text : ByteArray
  bad : Int
def lbC (b : LB) : List Value := nb b.id ++ [b.tv, .int .i64 b.bad]
def lbR (l : List LB) : List Value := l.flatMap lbC
def toBl (b : LB) : Bl := ⟨b.id, b.text, b.bad⟩
structure RB (w : World) (v : Value) (l : List LB) : Prop where
  sl : ∃ a c, v = .slice a l.length c ∧ Sl w a (lbR l)
  ok : ∀ b ∈ l, OkBl (toBl b)
  tx : ∀ b ∈ l, Tr w b.tv b.text
  n : l.length ≤ 1048576
theorem RB.below {w w' : World} {v : Value} {l : List LB} (h : RB w v l) (hb : Below w.heap.size w w') : RB w' v l := by
  obtain ⟨a, c, h1, h2⟩ := h.sl
  exact ⟨⟨a, c, h1, h2.below hb⟩, h.ok, fun b hm => (h.tx b hm).below hb, h.n⟩
theorem RB.lit {w : World} {v : Value} {l : List LB} (h : RB w v l) : ∃ a c, v = .slice a l.length c := by obtain ⟨a, c, e, _⟩ := h.sl; exact ⟨a, c, e⟩
theorem lbC_len {b : LB} (h : OkBl (toBl b)) : (lbC b).length = 34 := by
  have : b.id.length = 32 := h.id.1
  simp [lbC, nb_len, this]
theorem lbR_len : ∀ {l : List LB}, (∀ b ∈ l, OkBl (toBl b)) → (lbR l).length = l.length * 34
  | [], _ => rfl
  | b :: l, h => by
    show (lbC b ++ lbR l).length = _
    rw [List.length_append, lbC_len (h b (by simp)), lbR_len (fun x hx => h x (by simp [hx])), List.length_cons]; omega
theorem lbR_get : ∀ {l : List LB}, (∀ b ∈ l, OkBl (toBl b)) → ∀ (k : Nat) (hk : k < l.length) (j : Nat), j < 34 → (lbR l)[k * 34 + j]? = (lbC l[k])[j]?
  | b :: l, h, 0, _, j, hj => by
    show (lbC b ++ lbR l)[0 * 34 + j]? = _
    rw [Nat.zero_mul, Nat.zero_add, List.getElem?_append_left (by rw [lbC_len (h b (by simp))]; exact hj)]; rfl
  | b :: l, h, k + 1, hk, j, hj => by
    show (lbC b ++ lbR l)[(k + 1) * 34 + j]? = _
    have hl := lbC_len (h b (by simp))
    rw [List.getElem?_append_right (by rw [hl]; omega), hl, show (k + 1) * 34 + j - 34 = k * 34 + j by omega]
    exact lbR_get (fun x hx => h x (by simp [hx])) k (by simpa using hk) j hj
theorem RB.at {w : World} {v : Value} {l : List LB} (h : RB w v l) {k : Nat} (hk : k < l.length) : ∃ b o c, v = .slice (some ⟨b, o, none⟩) l.length c ∧ b < w.heap.size ∧ ∀ j (hj : j < l.length), w.rangeAt b (o + j * 34) (lbC l[j]) := by
  obtain ⟨a, c, rfl, hs⟩ := h.sl
  rcases hs with e | ⟨b, o, rfl, hl, hc⟩
  · have := lbR_len h.ok; rw [e] at this; simp at this; omega
  · refine ⟨b, o, c, rfl, hl, fun j hj i u hu => ?_⟩
    have hi : i < 34 := by have := (List.getElem?_eq_some_iff.1 hu).1; rw [lbC_len (h.ok _ (List.getElem_mem hj))] at this; exact this
    rw [Nat.add_assoc]
    exact hc _ _ (by rw [lbR_get h.ok j hj i hi]; exact hu)
theorem lbC_one {w : World} {b : LB} (h : Tr w b.tv b.text) : (lbC b).toArray.all (·.oneCell') = true := by
  have h1 := tr_one h
  rw [List.all_toArray, List.all_eq_true]
  intro u hu
  unfold lbC at hu
  rcases List.mem_append.1 hu with hu | hu
  · obtain ⟨x, -, rfl⟩ := List.mem_map.1 hu; rfl
  · simp at hu
    rcases hu with rfl | rfl
    · exact h1
    · rfl
theorem blob_info : (Tryz.prog.info? 68).map (·.size) = some 34 := by kernel_rfl
theorem rblob_info : (Tryz.prog.info? 78).map (·.size) = some 34 := by kernel_rfl
theorem rblob_zero : ((Tryz.prog.info? 78).bind (·.zero)).isSome = true := by kernel_rfl
theorem blob_sz {b : LB} (h : (lbC b).length = 34) : (lbC b).toArray.size = 34 := by rw [List.size_toArray, h]
theorem blob_isz {b : LB} (h : (lbC b).length = 34) : (Tryz.prog.info? 68).map (·.size) = some (lbC b).toArray.size := by
  have e2 : (lbC b).toArray.size = 34 := by rw [List.size_toArray, h]
  rw [e2]; exact blob_info
theorem built_blob {l : List Nat} (h : OkId l) (p : ByteArray) (x : Int) : (Tryz.prog).built 78 [(0, .agg (nums .u8 l)), (1, .string p), (2, .int .i64 x)] = some (blC ⟨l, p, x⟩).toArray := by
  replace h := h.1
  iterate 32 (rcases l with _ | ⟨a, l⟩; · exact absurd h (by simp))
  rcases l with _ | ⟨a, l⟩
  · clear h
    show (_ : Option (Array Value)) = _
    kernel_rfl
  · exact absurd h (by simp)
theorem rb_blob {l : List Nat} (h : OkId l) (p : ByteArray) (x : Int) (w : World) : (Instr.build 78 #[(0, .agg (nums .u8 l)), (1, .string p), (2, .int .i64 x)]).run Tryz.prog w = .ok (.agg (blC ⟨l, p, x⟩).toArray) w := run_build w _ _ _ (built_blob h p x)
theorem blobElem : Elem Tryz.prog 27 78 (.agg (blC ⟨List.replicate 32 0, ByteArray.empty, 0⟩).toArray) 34 56 := ⟨by kernel_rfl, by kernel_rfl⟩
theorem blC_one' {b : Bl} : ∀ u ∈ blC b, u.oneCell' = true := by
  intro u hu
  unfold blC at hu
  rcases List.mem_append.1 hu with hu | hu
  · obtain ⟨x, -, rfl⟩ := List.mem_map.1 hu; rfl
  · simp at hu
    rcases hu with rfl | rfl <;> rfl
theorem blR_step {l : List LB} {k : Nat} (hk : k < l.length) : blR ((l.take (k + 1)).map toBl) = blR ((l.take k).map toBl) ++ blC (toBl l[k]) := by
  rw [List.take_add_one, List.getElem?_eq_getElem hk]
  show (((l.take k) ++ [l[k]]).map toBl).flatMap blC = _
  rw [List.map_append, List.flatMap_append]
  show _ ++ (blC (toBl l[k]) ++ []) = _
  rw [List.append_nil]; rfl

set_option maxRecDepth 100000 in
set_option maxHeartbeats 8000000 in
theorem laid_c {w : World} {v : Value} {l : List LB} (h : RB w v l) : Calls Tryz.prog 12 #[v] w fun e w' => ∃ v', e = .returned v' ∧ BS w' v' (l.map toBl) ∧ Below w.heap.size w w' := by
  have HRB := Lib.hid h
  have hn := h.n
  obtain ⟨a, c, rfl⟩ := h.lit
  clear h
  go_enter Tryz.func12, Tryz.ntmps12
  go_upto_region 3 with fail
  go_loopw [3, 8] (fun fv kv wx => ∃ k : Nat, k ≤ l.length ∧ kv = .int .i64 k ∧ Hid (OwnG wx 78 34 fv k (blR ((l.take k).map toBl))) ∧ Hid (∀ b, fv.ownBlock = some b → w.heap.size ≤ b) ∧ Hid (Below w.heap.size w wx)) (fun _ kv _ => (l.length - intOf kv).toNat)
  case atStart => exact ⟨0, Nat.zero_le _, rfl, OwnG.nil _ _ _, fun b hb => (by cases hb), Below.refl _ _⟩
  case round =>
    obtain ⟨k, hk, rfl, HOW, HOB, HBW⟩ := hrel
    by_cases hkl : k < l.length
    · have k1 : decide ((k : Int) < (l.length : Int)) = true := decide_eq_true (by omega)
      have k2 : decide (k < l.length) = true := decide_eq_true hkl
      have k3 : (0 : Int) ≤ (k : Int) := by omega
      have k4 : (k : Int) < (l.length : Int) := by omega
      have kw : IntKind.i64.wrap ((k : Int) + 1) = ((k + 1 : Nat) : Int) := IntWalk.i64_in _ (by omega)
      obtain ⟨b, o, c', e, hbl, hr⟩ := (HRB.out.below HBW.out).at hkl
      injection e with e1 _ e2
      subst e1 e2
      have HR : Hid (wr.rangeAt b (o + k * 34) (lbC l[k])) := hr k hkl
      have HXO : Hid (OkBl (toBl l[k])) := HRB.out.ok _ (List.getElem_mem hkl)
      have HTX : Hid (Tr wr l[k].tv l[k].text) := (HRB.out.tx _ (List.getElem_mem hkl)).below HBW.out
      have HCL : Hid ((lbC l[k]).length = 34) := lbC_len HXO.out
      have HST : Hid (blR ((l.take (k + 1)).map toBl) = blR ((l.take k).map toBl) ++ blC (toBl l[k])) := blR_step hkl
      clear hr hbl
      generalize l[k] = x at *
      go_upto_region 5 with (first
        | (refine wpList_load_mid rfl 68 _ rfl b (o + k * 34) rfl (lbC x) _ HR.out Tryz.underlying68 rfl (by rw [HCL.out]; exact blob_info) ?_)
        | (refine wp_storeB rfl 68 _ _ rfl wr.heap.size (lbC x).toArray rfl rfl Array.getElem?_push_size (by rw [blob_sz HCL.out]; first | done | kernel_rfl) (blob_isz HCL.out) (lbC_one HTX.out) ?_; intro W8 hb8 hg8))
      have hB8 : Below wr.heap.size wr W8 := ((Below.refl wr.heap.size wr).alloc (Nat.le_refl _) _).grown hg8 (by simp) (fun k hk => by cases hk; exact Nat.le_refl _)
      have HOW8 := Lib.hid (HOW.out.below hB8)
      have HB8 := Lib.hid (HBW.out.trans (hB8.mono HBW.out.size))
      have hcc : ∀ j u, (lbC x)[j]? = some u → W8.cell? ⟨wr.heap.size, j, none⟩ = some u := fun j u hu => by simp only [World.cell?, hb8]; simpa using hu
      have hxl : x.id.length = 32 := HXO.out.id.1
      have HC0 : Hid (W8.rangeAt wr.heap.size 0 (nb x.id)) := fun j u hu => by rw [Nat.zero_add]; exact hcc j u (by unfold lbC; rw [List.getElem?_append_left (List.getElem?_eq_some_iff.1 hu).1]; exact hu)
      have hc32 : W8.cell? ⟨wr.heap.size, 32, none⟩ = some x.tv := hcc 32 _ (by unfold lbC; rw [List.getElem?_append_right (by rw [nb_len, hxl]; exact Nat.le_refl _), nb_len, hxl]; rfl)
      have hc33 : W8.cell? ⟨wr.heap.size, 33, none⟩ = some (.int .i64 x.bad) := hcc 33 _ (by unfold lbC; rw [List.getElem?_append_right (by rw [nb_len, hxl]; decide), nb_len, hxl]; rfl)
      have hcv := tr_str (HTX.out.below hB8)
      have HXL := Lib.hid hxl
      clear hb8 hg8 hB8 HBW HOW HR HCL hcc hxl HTX
      generalize wr.heap.size = p7 at *
      have HRBb : Hid (∀ w, (Instr.build 78 #[(0, .agg (nums .u8 x.id)), (1, .string x.text), (2, .int .i64 x.bad)]).run Tryz.prog w = .ok (.agg (blC (toBl x)).toArray) w) := fun w => rb_blob HXO.out.id x.text x.bad w
      have HCF : Hid ((blC (toBl x)).length = 34) := blC_len HXO.out
      have HBA : Hid (Below W8.heap.size W8 (W8.alloc (.cells (blC (toBl x)).toArray 78))) := (Below.refl _ W8).alloc (Nat.le_refl _) _
      have HSRC : Hid (Src Tryz.prog 34 27 (.slice (some ⟨W8.heap.size, 0, none⟩) 1 1) 1 (blC (toBl x)) (W8.alloc (.cells (blC (toBl x)).toArray 78))) := Src.ofNew Tryz.underlying27 HCF.out blC_one'
      have HOW9 := Lib.hid (HOW8.out.below HBA.out)
      obtain ⟨tv, htv⟩ : ∃ tv, x.tv = tv := ⟨_, rfl⟩
      rw [htv] at hc32 hcv
      clear htv
      go_upto_region 6 with (first
        | (refine wpList_load_mid rfl 43 _ rfl p7 0 rfl (nb x.id) _ HC0.out id_under rfl (by rw [nb_len, HXL.out]; kernel_rfl) ?_)
        | (refine wpList_bld rfl _ rfl (by simp only [Act.put, List.setIfInBounds_toArray]; simp [Act.eval]; rfl) HRBb.out ?_)
        | (refine wpList_build1 (cs := (blC (toBl x)).toArray) (n := 34) rfl _ rfl (by simp only [Act.put, List.setIfInBounds_toArray]; simp [Act.eval]) Tryz.underlying27 rblob_info rblob_zero (by decide) (by decide) (by rw [List.size_toArray]; exact HCF.out) ?_)
        | (refine wp_appG rfl _ _ _ _ rfl blobElem (by kernel_rfl) (v := u3) (xv := .slice (some ⟨W8.heap.size, 0, none⟩) 1 1) (n := k) (m := 1) rfl HOW9.out rfl HSRC.out (by simp only [maxLen]; omega) (by omega) ?_; intro v10 W10 ho10 hg10 hv10))
      have HOW10 : Hid (Hid (OwnG W10 78 34 v10 (k + 1) (blR ((l.take (k + 1)).map toBl)))) := by show OwnG _ _ _ _ _ _; rw [HST.out]; exact ho10
      have HOB10 : Hid (Hid (∀ b, v10.ownBlock = some b → w.heap.size ≤ b)) := fun b hb => (hv10 b hb).elim (HOB.out b) (fun h => by have h1 := HBA.out.size; have h2 := HB8.out.size; omega)
      have HB10 : Hid (Hid (Below w.heap.size w W10)) := (HB8.out.trans (HBA.out.mono HB8.out.size)).grown hg10 (Nat.le_trans HB8.out.size HBA.out.size) (fun b hb => HOB.out b hb)
      clear ho10 hg10 hv10 HOW9 HSRC HBA HCF HRBb HC0 hc32 hc33 hcv HOW8 HB8 HOB
      go_wp2_with fail
      go_roundw
      case rel => exact ⟨k + 1, hkl, by go_num, HOW10.out, HOB10.out, HB10.out⟩
      case measure => simp [intOf]; omega
    · have hkn : k = l.length := by omega
      subst hkn
      have k1 : decide ((l.length : Int) < (l.length : Int)) = false := decide_eq_false (by omega)
      have hbs : BS wr u3 (l.map toBl) := by
        have h1 := HOW.out
        rw [List.take_length] at h1
        obtain ⟨a', c', e, _, _, hs⟩ := h1.form
        refine ⟨⟨a', c', by rw [List.length_map]; exact e, hs⟩, fun b hb => ?_, by rw [List.length_map]; omega⟩
        obtain ⟨x, hx, rfl⟩ := List.mem_map.1 hb
        exact HRB.out.ok x hx
      have HBS := Lib.hid hbs
      clear hbs HOW HOB
      go_wp2_with fail
      go_ret
      exact ⟨_, rfl, HBS.out, HBW.out⟩
end Go.Proofs.YtpcipdkoncmdcaaGreatDoor
namespace Go.Proofs.YtpcipdkoncmdcaaGreatDoor
open Go Go.RowKit

theorem built_rfile {l : List Nat} (h : OkId l) (p : ByteArray) (x : Nat) : (Tryz.prog).built 93 [(0, .string p), (1, .agg (nums .u8 l)), (2, .float .f64 x)] = some (fiC ⟨p, l, x⟩).toArray := by
  replace h := h.1
  iterate 32 (rcases l with _ | ⟨a, l⟩; · exact absurd h (by simp))
  rcases l with _ | ⟨a, l⟩
  · clear h
    show (_ : Option (Array Value)) = _
    kernel_rfl
  · exact absurd h (by simp)
theorem rb_rfile {l : List Nat} (h : OkId l) (p : ByteArray) (x : Nat) (w : World) : (Instr.build 93 #[(0, .string p), (1, .agg (nums .u8 l)), (2, .float .f64 x)]).run Tryz.prog w = .ok (.agg (fiC ⟨p, l, x⟩).toArray) w := run_build w _ _ _ (built_rfile h p x)
theorem rfile_info : (Tryz.prog.info? 93).map (·.size) = some 34 := by kernel_rfl
theorem rfile_zero : ((Tryz.prog.info? 93).bind (·.zero)).isSome = true := by kernel_rfl
theorem rfileElem : Elem Tryz.prog 38 93 (.agg (fiC ⟨ByteArray.empty, List.replicate 32 0, 0⟩).toArray) 34 56 := ⟨by kernel_rfl, by kernel_rfl⟩
theorem fi_sz {f : Fi} (h : (fiC f).length = 34) : (fiC f).toArray.size = 34 := by rw [List.size_toArray, h]
theorem fi_isz {f : Fi} (h : (fiC f).length = 34) : (Tryz.prog.info? 56).map (·.size) = some (fiC f).toArray.size := by
  rw [fi_sz h]; exact file_info

set_option maxRecDepth 100000 in
set_option maxHeartbeats 8000000 in
theorem plain_c {w : World} {v : Value} {l : List Fi} (h : FS w v l) : Calls Tryz.prog 15 #[v] w fun e w' => ∃ v', e = .returned v' ∧ FS w' v' l ∧ Below w.heap.size w w' := by
  have HRB := Lib.hid h
  have hn := h.n
  obtain ⟨a, c, rfl⟩ := h.lit
  clear h
  go_enter Tryz.func15, Tryz.ntmps15
  go_upto_region 3 with fail
  go_loopw [3, 8] (fun fv kv wx => ∃ k : Nat, k ≤ l.length ∧ kv = .int .i64 k ∧ Hid (OwnG wx 93 34 fv k (fiR (l.take k))) ∧ Hid (∀ b, fv.ownBlock = some b → w.heap.size ≤ b) ∧ Hid (Below w.heap.size w wx)) (fun _ kv _ => (l.length - intOf kv).toNat)
  case atStart => exact ⟨0, Nat.zero_le _, rfl, OwnG.nil _ _ _, fun b hb => (by cases hb), Below.refl _ _⟩
  case round =>
    obtain ⟨k, hk, rfl, HOW, HOB, HBW⟩ := hrel
    by_cases hkl : k < l.length
    · have k1 : decide ((k : Int) < (l.length : Int)) = true := decide_eq_true (by omega)
      have k2 : decide (k < l.length) = true := decide_eq_true hkl
      have k3 : (0 : Int) ≤ (k : Int) := by omega
      have k4 : (k : Int) < (l.length : Int) := by omega
      have kw : IntKind.i64.wrap ((k : Int) + 1) = ((k + 1 : Nat) : Int) := IntWalk.i64_in _ (by omega)
      obtain ⟨b, o, c', e, hbl, hr⟩ := (HRB.out.below HBW.out).at hkl
      injection e with e1 _ e2
      subst e1 e2
      have HR : Hid (wr.rangeAt b (o + k * 34) (fiC l[k])) := hr k hkl
      have HXO : Hid (OkFi l[k]) := HRB.out.ok _ (List.getElem_mem hkl)
      have HCL : Hid ((fiC l[k]).length = 34) := fiC_len HXO.out
      have HST : Hid (fiR (l.take (k + 1)) = fiR (l.take k) ++ fiC l[k]) := fiR_step hkl
      clear hr hbl
      generalize l[k] = x at *
      go_upto_region 5 with (first
        | (refine wpList_load_mid rfl 56 _ rfl b (o + k * 34) rfl (fiC x) _ HR.out Tryz.underlying56 rfl (by rw [HCL.out]; exact file_info) ?_)
        | (refine wp_storeB rfl 56 _ _ rfl wr.heap.size (fiC x).toArray rfl rfl Array.getElem?_push_size (by rw [fi_sz HCL.out]; first | done | kernel_rfl) (fi_isz HCL.out) fiC_one ?_; intro W8 hb8 hg8))
      have hB8 : Below wr.heap.size wr W8 := ((Below.refl wr.heap.size wr).alloc (Nat.le_refl _) _).grown hg8 (by simp) (fun k hk => by cases hk; exact Nat.le_refl _)
      have HOW8 := Lib.hid (HOW.out.below hB8)
      have HB8 := Lib.hid (HBW.out.trans (hB8.mono HBW.out.size))
      have hcc : ∀ j u, (fiC x)[j]? = some u → W8.cell? ⟨wr.heap.size, j, none⟩ = some u := fun j u hu => by simp only [World.cell?, hb8]; simpa using hu
      have hxl : x.id.length = 32 := HXO.out.id.1
      have hc0 : W8.cell? ⟨wr.heap.size, 0, none⟩ = some (.string x.path) := hcc 0 _ rfl
      have HC1 : Hid (W8.rangeAt wr.heap.size 1 (nb x.id)) := fun j u hu => hcc (1 + j) u (by unfold fiC; rw [show 1 + j = j + 1 by omega, List.getElem?_cons_succ, List.getElem?_append_left (List.getElem?_eq_some_iff.1 hu).1]; exact hu)
      have hc33 : W8.cell? ⟨wr.heap.size, 33, none⟩ = some (.float .f64 x.stamp) := hcc 33 _ (by unfold fiC; rw [show (33 : Nat) = 32 + 1 from rfl, List.getElem?_cons_succ, List.getElem?_append_right (by rw [nb_len, hxl]; exact Nat.le_refl _), nb_len, hxl]; rfl)
      have HXL := Lib.hid hxl
      clear hb8 hg8 hB8 HBW HOW HR HCL hcc hxl
      generalize wr.heap.size = p7 at *
      have HRBb : Hid (∀ w, (Instr.build 93 #[(0, .string x.path), (1, .agg (nums .u8 x.id)), (2, .float .f64 x.stamp)]).run Tryz.prog w = .ok (.agg (fiC x).toArray) w) := fun w => rb_rfile HXO.out.id x.path x.stamp w
      have HCF : Hid ((fiC x).length = 34) := fiC_len HXO.out
      have HBA : Hid (Below W8.heap.size W8 (W8.alloc (.cells (fiC x).toArray 93))) := (Below.refl _ W8).alloc (Nat.le_refl _) _
      have HSRC : Hid (Src Tryz.prog 34 38 (.slice (some ⟨W8.heap.size, 0, none⟩) 1 1) 1 (fiC x) (W8.alloc (.cells (fiC x).toArray 93))) := Src.ofNew Tryz.underlying38 HCF.out fiC_one'
      have HOW9 := Lib.hid (HOW8.out.below HBA.out)
      go_upto_region 6 with (first
        | (refine wpList_load_mid rfl 43 _ rfl p7 1 rfl (nb x.id) _ HC1.out id_under rfl (by rw [nb_len, HXL.out]; kernel_rfl) ?_)
        | (refine wpList_bld rfl _ rfl (by simp only [Act.put, List.setIfInBounds_toArray]; simp [Act.eval]; rfl) HRBb.out ?_)
        | (refine wpList_build1 (cs := (fiC x).toArray) (n := 34) rfl _ rfl (by simp only [Act.put, List.setIfInBounds_toArray]; simp [Act.eval]) Tryz.underlying38 rfile_info rfile_zero (by decide) (by decide) (by rw [List.size_toArray]; exact HCF.out) ?_)
        | (refine wp_appG rfl _ _ _ _ rfl rfileElem (by kernel_rfl) (v := u3) (xv := .slice (some ⟨W8.heap.size, 0, none⟩) 1 1) (n := k) (m := 1) rfl HOW9.out rfl HSRC.out (by simp only [maxLen]; omega) (by omega) ?_; intro v10 W10 ho10 hg10 hv10))
      have HOW10 : Hid (Hid (OwnG W10 93 34 v10 (k + 1) (fiR (l.take (k + 1))))) := by show OwnG _ _ _ _ _ _; rw [HST.out]; exact ho10
      have HOB10 : Hid (Hid (∀ b, v10.ownBlock = some b → w.heap.size ≤ b)) := fun b hb => (hv10 b hb).elim (HOB.out b) (fun h => by have h1 := HBA.out.size; have h2 := HB8.out.size; omega)
      have HB10 : Hid (Hid (Below w.heap.size w W10)) := (HB8.out.trans (HBA.out.mono HB8.out.size)).grown hg10 (Nat.le_trans HB8.out.size HBA.out.size) (fun b hb => HOB.out b hb)
      clear ho10 hg10 hv10 HOW9 HSRC HBA HCF HRBb HC1 hc0 hc33 HOW8 HB8 HOB
      go_wp2_with fail
      go_roundw
      case rel => exact ⟨k + 1, hkl, by go_num, HOW10.out, HOB10.out, HB10.out⟩
      case measure => simp [intOf]; omega
    · have hkn : k = l.length := by omega
      subst hkn
      have k1 : decide ((l.length : Int) < (l.length : Int)) = false := decide_eq_false (by omega)
      have hbs : FS wr u3 l := by
        have h1 := HOW.out
        rw [List.take_length] at h1
        obtain ⟨a', c', e, _, _, hs⟩ := h1.form
        exact ⟨⟨a', c', e, hs⟩, HRB.out.ok, hn⟩
      have HBS := Lib.hid hbs
      clear hbs HOW HOB
      go_wp2_with fail
      go_ret
      exact ⟨_, rfl, HBS.out, HBW.out⟩

/-- The place of a path, or -1. -/
def findP (p : ByteArray) : List Fi → Nat → Int
  | [], _ => -1
  | f :: l, k => if f.path = p then (k : Int) else findP p l (k + 1)
theorem findP_none {p : ByteArray} : ∀ {l : List Fi} {k : Nat}, fiAt l p = none → findP p l k = -1
  | [], _, _ => rfl
  | f :: l, k, h => by
    unfold fiAt at h
    rw [List.find?_cons] at h
    by_cases e : f.path = p
    · simp [e] at h
    · rw [decide_eq_false e] at h
      show (if f.path = p then _ else _) = _
      rw [if_neg e]; exact findP_none h
theorem findP_some {p : ByteArray} {f : Fi} : ∀ {l : List Fi} {k : Nat}, fiAt l p = some f → ∃ i : Nat, findP p l k = ((k + i : Nat) : Int) ∧ l[i]? = some f
  | [], _, h => by cases h
  | g :: l, k, h => by
    unfold fiAt at h
    rw [List.find?_cons] at h
    by_cases e : g.path = p
    · rw [decide_eq_true e] at h
      have h : some g = some f := h
      injection h with h
      exact ⟨0, by show (if g.path = p then _ else _) = _; rw [if_pos e]; rfl, by rw [h]; rfl⟩
    · rw [decide_eq_false e] at h
      obtain ⟨i, h1, h2⟩ := findP_some (l := l) (k := k + 1) h
      refine ⟨i + 1, ?_, h2⟩
      show (if g.path = p then _ else _) = _
      rw [if_neg e, h1]; congr 1; omega
set_option maxRecDepth 100000 in
set_option maxHeartbeats 4000000 in
theorem find_c {w : World} {v : Value} {l : List Fi} {p : ByteArray} (h : FS w v l) (hp : p.size ≤ 100000000) : Calls Tryz.prog 21 #[v, .string p] w fun e w' => e = .returned (.int .i64 (findP p l 0)) ∧ Below w.heap.size w w' := by
  have HRB := Lib.hid h
  have hn := h.n
  obtain ⟨a, c, rfl⟩ := h.lit
  have HF0 : Hid (findP p l 0 = findP p (l.drop 0) 0) := rfl
  clear h
  go_enter Tryz.func21, Tryz.ntmps21
  go_upto_region 2 with fail
  go_loopw [5] (fun kv wx => ∃ k : Nat, k ≤ l.length ∧ kv = .int .i64 k ∧ Hid (findP p l 0 = findP p (l.drop k) k) ∧ Hid (Below w.heap.size w wx)) (fun kv _ => (l.length - intOf kv).toNat)
  case atStart => exact ⟨0, Nat.zero_le _, rfl, HF0, Below.refl _ _⟩
  case round =>
    clear HF0
    obtain ⟨k, hk, rfl, HFD, HBW⟩ := hrel
    by_cases hkl : k < l.length
    · have k1 : decide ((k : Int) < (l.length : Int)) = true := decide_eq_true (by omega)
      have k2 : decide (k < l.length) = true := decide_eq_true hkl
      have k3 : (0 : Int) ≤ (k : Int) := by omega
      have k4 : (k : Int) < (l.length : Int) := by omega
      have kw : IntKind.i64.wrap ((k : Int) + 1) = ((k + 1 : Nat) : Int) := IntWalk.i64_in _ (by omega)
      obtain ⟨b, o, c', e, hbl, hr⟩ := (HRB.out.below HBW.out).at hkl
      injection e with e1 _ e2
      subst e1 e2
      have hc0 : wr.cell? ⟨b, o + k * 34, none⟩ = some (.string l[k].path) := hr k hkl 0 _ rfl
      have hdr : l.drop k = l[k] :: l.drop (k + 1) := List.drop_eq_getElem_cons hkl
      have hfd := HFD.out
      rw [hdr] at hfd
      have hfd : findP p l 0 = if l[k].path = p then (k : Int) else findP p (l.drop (k + 1)) (k + 1) := hfd
      have HFS := Lib.hid hfd
      clear hr hbl hdr hfd
      generalize l[k].path = q at *
      by_cases e : q = p
      · subst e
        have hd : (q.toList == q.toList) = true := beq_self_eq_true _
        have HR : Hid (findP q l 0 = (k : Int)) := by show _ = _; rw [HFS.out, if_pos rfl]
        go_wp2_with fail
        go_ret
        exact ⟨by first | (rw [HR.out]; rfl) | (rw [← HFD.out, HR.out]; rfl), HBW.out⟩
      · have hd : (q.toList == p.toList) = false := by rw [beq_eq_false_iff_ne, Lib.toList_data, Lib.toList_data]; intro h; exact e (PathS.ba_ext h)
        have HR : Hid (findP p l 0 = findP p (l.drop (k + 1)) (k + 1)) := by show _ = _; rw [HFS.out, if_neg e]
        have HQ : Hid (Hid (Below w.heap.size w wr)) := HBW
        clear HBW HFS
        go_wp2_with fail
        go_roundw
        case rel => exact ⟨k + 1, hkl, by go_num, HR, HQ.out⟩
        case measure => simp [intOf]; omega
    · have hkn : k = l.length := by omega
      subst hkn
      have k1 : decide ((l.length : Int) < (l.length : Int)) = false := decide_eq_false (by omega)
      have HR : Hid (findP p l 0 = -1) := by show _ = _; rw [HFD.out, List.drop_length]; rfl
      go_wp2_with fail
      go_ret
      exact ⟨by first | (rw [HR.out]; rfl) | (rw [← HFD.out, HR.out]; rfl), HBW.out⟩
end Go.Proofs.YtpcipdkoncmdcaaGreatDoor
namespace Go.Proofs.YtpcipdkoncmdcaaGreatDoor
open Go Go.ChangeShapes Go.WideShapes Go.ChangeAt Go.RowKit

/-- All texts' bytes. -/
def sumB (l : List LB) : Nat := (l.map fun b => b.text.size).sum
theorem sumB_step {l : List LB} {k : Nat} (hk : k < l.length) : sumB (l.take (k + 1)) = sumB (l.take k) + l[k].text.size := by
  unfold sumB
  rw [List.take_add_one, List.getElem?_eq_getElem hk]
  show ((l.take k ++ [l[k]]).map fun b => b.text.size).sum = _
  rw [List.map_append, List.sum_append]; rfl
theorem sumB_le (l : List LB) (k : Nat) : sumB (l.take k) ≤ sumB l := by
  have h : sumB l = sumB (l.take k) + sumB (l.drop k) := by
    have := congrArg sumB (List.take_append_drop k l)
    unfold sumB at this ⊢
    rw [List.map_append, List.sum_append] at this
    exact this.symm
  omega
set_option maxRecDepth 100000 in
set_option maxHeartbeats 8000000 in
theorem small_c {w : World} {va vb vc v : Value} {T : T3 (List Fi)} {l : List LB} (ha : FS w va T.a) (hb : FS w vb T.b) (hc : FS w vc T.c) (h : RB w v l) (hs : sumB l ≤ 1048576) :
    Calls Tryz.prog 11 #[.agg #[va, vb, vc], v] w fun e w' => e = .returned (.bool (decide (sumB l ≤ 600) && decide (T.a.length + T.b.length + T.c.length ≤ 90))) ∧ Below w.heap.size w w' := by
  have HRB := Lib.hid h
  have hn := h.n
  obtain ⟨a, c, rfl⟩ := h.lit
  obtain ⟨aa, ca, rfl⟩ := ha.lit
  obtain ⟨ab, cb, rfl⟩ := hb.lit
  obtain ⟨ac, cc, rfl⟩ := hc.lit
  have na := ha.n
  have nb' := hb.n
  have nc := hc.n
  obtain ⟨W1, hW1⟩ : ∃ W1, w.alloc (.cells #[.slice aa T.a.length ca, .slice ab T.b.length cb, .slice ac T.c.length cc] 23 (0, 0)) = W1 := ⟨_, rfl⟩
  have HB1 : Hid (Below w.heap.size w W1) := by show Below _ _ _; rw [← hW1]; exact (Below.refl _ w).alloc (Nat.le_refl _) _
  have hblk : W1.heap[w.heap.size]? = some (.cells #[.slice aa T.a.length ca, .slice ab T.b.length cb, .slice ac T.c.length cc] 23 (0, 0)) := by rw [← hW1]; exact Array.getElem?_push_size
  have HBLK1 := Lib.hid hblk
  have HLT1 : Hid (w.heap.size < W1.heap.size) := (Array.getElem?_eq_some_iff.1 hblk).1
  have HW1 := Lib.hid hW1
  have k1' : IntKind.i64.wrap ((T.a.length : Int) + (T.b.length : Int)) = ((T.a.length + T.b.length : Nat) : Int) := by rw [IntWalk.i64_in _ (by omega)]; omega
  have k2' : IntKind.i64.wrap (((T.a.length + T.b.length : Nat) : Int) + (T.c.length : Int)) = ((T.a.length + T.b.length + T.c.length : Nat) : Int) := by rw [IntWalk.i64_in _ (by omega)]; omega
  clear h ha hb hc hW1 hblk na nb' nc
  obtain ⟨N, hN⟩ : ∃ N, T.a.length + T.b.length + T.c.length = N := ⟨_, rfl⟩
  rw [hN] at k2'
  obtain ⟨M, hM⟩ : ∃ M, T.a.length + T.b.length = M := ⟨_, rfl⟩
  rw [hM] at k1' k2'
  have HN := Lib.hid hN
  have HS := Lib.hid hs
  clear hN hM hs
  go_enter Tryz.func11, Tryz.ntmps11
  go_upto_region 1 with fail
  rw [HW1.out]
  clear HW1
  go_upto_region 3 with fail
  go_loopw [5, 10] (fun nv kv wx => ∃ k : Nat, k ≤ l.length ∧ kv = .int .i64 k ∧ ∃ n : Nat, nv = .int .i64 n ∧ Hid (n = sumB (l.take k)) ∧ Hid (Below w.heap.size w wx) ∧ Hid (wx.heap[w.heap.size]? = some (.cells #[.slice aa T.a.length ca, .slice ab T.b.length cb, .slice ac T.c.length cc] 23 (0, 0))) ∧ Hid (w.heap.size < wx.heap.size)) (fun _ kv _ => (l.length - intOf kv).toNat)
  case atStart => exact ⟨0, Nat.zero_le _, rfl, 0, rfl, rfl, HB1, HBLK1, HLT1⟩
  case round =>
    clear HB1 HBLK1 HLT1
    obtain ⟨k, hk, rfl, n, rfl, HSU, HBW, HBLK, HLT⟩ := hrel
    by_cases hkl : k < l.length
    · have k1 : decide ((k : Int) < (l.length : Int)) = true := decide_eq_true (by omega)
      have k2 : decide (k < l.length) = true := decide_eq_true hkl
      have k3 : (0 : Int) ≤ (k : Int) := by omega
      have k4 : (k : Int) < (l.length : Int) := by omega
      have kw : IntKind.i64.wrap ((k : Int) + 1) = ((k + 1 : Nat) : Int) := IntWalk.i64_in _ (by omega)
      obtain ⟨b, o, c', e, hbl, hr⟩ := (HRB.out.below HBW.out).at hkl
      injection e with e1 _ e2
      subst e1 e2
      have HR : Hid (wr.rangeAt b (o + k * 34) (lbC l[k])) := hr k hkl
      have HXO : Hid (OkBl (toBl l[k])) := HRB.out.ok _ (List.getElem_mem hkl)
      have HTX : Hid (Tr wr l[k].tv l[k].text) := (HRB.out.tx _ (List.getElem_mem hkl)).below HBW.out
      have HCL : Hid ((lbC l[k]).length = 34) := lbC_len HXO.out
      have hst := sumB_step hkl
      have hle := sumB_le l (k + 1)
      obtain ⟨n', hn'⟩ : ∃ n', n + l[k].text.size = n' := ⟨_, rfl⟩
      have HST : Hid (n' = sumB (l.take (k + 1))) := by show n' = _; rw [hst, ← hn', HSU.out]
      have nw : IntKind.i64.wrap ((n : Int) + (l[k].text.size : Int)) = (n' : Int) := by
        have h1 := HST.out
        have h2 := HS.out
        rw [IntWalk.i64_in _ (by omega)]; omega
      obtain ⟨ta, tc, htv, -⟩ := HTX.out
      clear hr hbl hst hle hn' HSU
      generalize l[k] = x at *
      go_upto_region 5 with (first
        | (refine wpList_load_mid rfl 68 _ rfl b (o + k * 34) rfl (lbC x) _ HR.out Tryz.underlying68 rfl (by rw [HCL.out]; exact blob_info) ?_)
        | (refine wp_storeB rfl 68 _ _ rfl wr.heap.size (lbC x).toArray rfl rfl Array.getElem?_push_size (by rw [blob_sz HCL.out]; first | done | kernel_rfl) (blob_isz HCL.out) (lbC_one HTX.out) ?_; intro W8 hb8 hg8))
      have hB8 : Below wr.heap.size wr W8 := ((Below.refl wr.heap.size wr).alloc (Nat.le_refl _) _).grown hg8 (by simp) (fun k hk => by cases hk; exact Nat.le_refl _)
      have hc32 : W8.cell? ⟨wr.heap.size, 32, none⟩ = some (.slice ta x.text.size tc) := by
        have h1 : (lbC x)[32]? = some x.tv := by
          have hxl : x.id.length = 32 := HXO.out.id.1
          unfold lbC; rw [List.getElem?_append_right (by rw [nb_len, hxl]; exact Nat.le_refl _), nb_len, hxl]; rfl
        rw [htv] at h1
        simp only [World.cell?, hb8]; simpa using h1
      have HB8 : Hid (Hid (Below w.heap.size w W8)) := HBW.out.trans (hB8.mono HBW.out.size)
      have HBLK8 : Hid (Hid (W8.heap[w.heap.size]? = _)) := (hB8.block _ HLT.out).trans HBLK.out
      have HLT8 : Hid (Hid (w.heap.size < W8.heap.size)) := Nat.lt_of_lt_of_le HLT.out hB8.size
      clear hb8 hg8 hB8 HBW HBLK HLT HR HCL htv HTX
      generalize wr.heap.size = p7 at *
      go_wp2_with fail
      go_roundw
      case rel => exact ⟨k + 1, hkl, by go_num, n', by go_num, HST, HB8.out, HBLK8.out, HLT8.out⟩
      case measure => simp [intOf]; omega
    · have hkn : k = l.length := by omega
      subst hkn
      have k1 : decide ((l.length : Int) < (l.length : Int)) = false := decide_eq_false (by omega)
      have hsu := HSU.out
      rw [List.take_length] at hsu
      have HSE := Lib.hid hsu
      have c0 : wr.cell? ⟨w.heap.size, 0, none⟩ = some (.slice aa T.a.length ca) := by simp only [World.cell?, HBLK.out]; rfl
      have c1 : wr.cell? ⟨w.heap.size, 1, none⟩ = some (.slice ab T.b.length cb) := by simp only [World.cell?, HBLK.out]; rfl
      have c2 : wr.cell? ⟨w.heap.size, 2, none⟩ = some (.slice ac T.c.length cc) := by simp only [World.cell?, HBLK.out]; rfl
      clear hsu HSU HBLK
      by_cases h6 : n ≤ 600
      · have e6 : decide ((n : Int) ≤ 600) = true := decide_eq_true (by omega)
        have HD6 : Hid (decide (sumB l ≤ 600) = true) := decide_eq_true (by rw [← HSE.out]; exact h6)
        by_cases h : N ≤ 90
        · have d1 : decide ((N : Int) ≤ 90) = true := decide_eq_true (by omega)
          have HD : Hid (decide (T.a.length + T.b.length + T.c.length ≤ 90) = true) := decide_eq_true (by rw [HN.out]; exact h)
          go_wp2_with fail
          go_ret
          exact ⟨by rw [HD6.out, HD.out]; rfl, HBW.out⟩
        · have d1 : decide ((N : Int) ≤ 90) = false := decide_eq_false (by omega)
          have HD : Hid (decide (T.a.length + T.b.length + T.c.length ≤ 90) = false) := decide_eq_false (by rw [HN.out]; exact h)
          go_wp2_with fail
          go_ret
          exact ⟨by rw [HD6.out, HD.out]; rfl, HBW.out⟩
      · have e6 : decide ((n : Int) ≤ 600) = false := decide_eq_false (by omega)
        have HD6 : Hid (decide (sumB l ≤ 600) = false) := decide_eq_false (by rw [← HSE.out]; exact h6)
        go_wp2_with fail
        go_ret
        exact ⟨by rw [HD6.out]; rfl, HBW.out⟩

section
variable {H : Type} {enc : TypeId × Value → H} {W : World}
/-- A raw blob, opened. -/
structure LQ where
  id : List Nat
  a : Option Addr
  c : Nat
  text : ByteArray
  bad : Int
instance : Inhabited LQ := ⟨⟨[], none, 0, ByteArray.empty, 0⟩⟩
def lqC (q : LQ) : List Value := nb q.id ++ [.slice q.a q.text.size q.c, .int .i64 q.bad]
def LQ.lb (q : LQ) : LB := ⟨q.id, .slice q.a q.text.size q.c, q.text, q.bad⟩
set_option maxRecDepth 100000 in
theorem opn_blob : Opn enc Tryz.prog W 68 LQ lqC (fun q b => OkId q.id ∧ Sl W q.a (byteCells q.text) ∧ q.text.size < b ∧ -9223372036854775808 ≤ q.bad ∧ q.bad ≤ 9223372036854775807) := by
  intro n cs x h
  obtain ⟨xs, m, -, hx, hl, hxl, hf⟩ := DataW.trod_struct Tryz.underlying68 h
  have hxl : xs.length = 3 := hxl
  rcases xs with _ | ⟨x0, _ | ⟨x1, _ | ⟨x2, _ | ⟨x3, l⟩⟩⟩⟩
  · simp at hxl
  · simp at hxl
  · simp at hxl
  · obtain ⟨i, e0, b0⟩ := opn_id (W := W) m _ x0 (hf 0 _ rfl)
    obtain ⟨⟨a, c, t⟩, e1, b1, b1'⟩ := opn_bytes (W := W) Tryz.underlying52 (by kernel_rfl) Tryz.underlying5 m _ x1 (hf 1 _ rfl)
    obtain ⟨z, e2, b2⟩ := opn_i64 (W := W) Tryz.underlying3 m _ x2 (hf 2 _ rfl)
    have hcl : cs.length = 34 := hl.trans (by kernel_rfl)
    have k0 : (Tryz.prog).cellsOf 43 = 32 := by kernel_rfl
    have k1 : (Tryz.prog).cellsOf 52 = 1 := by kernel_rfl
    have k2 : (Tryz.prog).cellsOf 3 = 1 := by kernel_rfl
    have e0 : (cs.drop 0).take 32 = nb i := by rw [← k0]; exact e0
    have e1 : (cs.drop 32).take 1 = [.slice a t.size c] := by rw [← k1]; exact e1
    have e2 : (cs.drop 33).take 1 = [.int .i64 z] := by rw [← k2]; exact e2
    have hcs : cs = lqC ⟨i, a, c, t, z⟩ := by
      have a1 : cs = (cs.drop 0).take 32 ++ ((cs.drop 32).take 1 ++ (cs.drop 33).take 1) := by
        rw [List.take_of_length_le (l := cs.drop 33) (by rw [List.length_drop]; omega), show cs.drop 33 = (cs.drop 32).drop 1 by rw [List.drop_drop], List.take_append_drop, List.drop_zero, List.take_append_drop]
      rw [a1, e0, e1, e2]; rfl
    have hb : Rows.uptoBulk x.1 = Rows.uptoBulk x0.1 + (Rows.uptoBulk x1.1 + (Rows.uptoBulk x2.1 + 0)) + 1 := by
      rw [hx]; simp only [Rows.uptoBulk, Rows.uptoBulkAll, List.map_cons, List.map_nil]
    have b1' : t.size < Rows.uptoBulk x1.1 := b1'
    exact ⟨⟨i, a, c, t, z⟩, hcs, b0, b1, by show t.size < _; omega, b2.2⟩
  · simp at hxl
theorem lq_mono : ∀ (q : LQ) (a b : Nat), a ≤ b → (OkId q.id ∧ Sl W q.a (byteCells q.text) ∧ q.text.size < a ∧ -9223372036854775808 ≤ q.bad ∧ q.bad ≤ 9223372036854775807) → OkId q.id ∧ Sl W q.a (byteCells q.text) ∧ q.text.size < b ∧ -9223372036854775808 ≤ q.bad ∧ q.bad ≤ 9223372036854775807 := fun _ _ _ hab h => ⟨h.1, h.2.1, Nat.lt_of_lt_of_le h.2.2.1 hab, h.2.2.2⟩
theorem lq_flat : ∀ l : List LQ, l.flatMap lqC = lbR (l.map LQ.lb)
  | [] => rfl
  | q :: l => by rw [List.flatMap_cons, lq_flat l]; rfl
set_option maxRecDepth 100000 in
/-- Raw blobs. -/
theorem open_blobs {base : Nat} {v : Value} {d : DataW H} {p : List MemPlace} (hv : Value.okWide Tryz.prog W .any base 24 v) (h : DataW.Trod enc Tryz.prog W 0 (fun _ => true) true 24 v d p) (hk : Rows.uptoBulk d ≤ 1048576) : ∃ l, RB W v l ∧ sumB l ≤ 1048576 := by
  obtain ⟨a0, len, cap, rfl⟩ := okWide_slice Tryz.underlying24 hv
  obtain ⟨⟨a, c, l⟩, e, h1, -, h3, h4, h5⟩ := (opn_slice (enc := enc) (W := W) Tryz.underlying24 (k := 34) (by kernel_rfl) (by decide) lq_mono (fun q => q.text.size) (fun _ _ h => Nat.le_of_lt h.2.2.1) opn_blob).arg h
  have e := (List.cons.inj e).1
  rw [e]
  have h3 : l.length < Rows.uptoBulk d := h3
  have h4 : (l.map fun q => q.text.size).sum < Rows.uptoBulk d := h4
  have h1 : Sl W a (l.flatMap lqC) := h1
  refine ⟨l.map LQ.lb, ⟨⟨a, c, by rw [List.length_map], by rw [← lq_flat]; exact h1⟩, fun b hb => ?_, fun b hb => ?_, by rw [List.length_map]; omega⟩, ?_⟩
  · obtain ⟨q, hq, rfl⟩ := List.mem_map.1 hb
    exact ⟨(h5 q hq).1, (h5 q hq).2.2.2⟩
  · obtain ⟨q, hq, rfl⟩ := List.mem_map.1 hb
    exact ⟨q.a, q.c, rfl, (h5 q hq).2.1⟩
  · unfold sumB
    rw [List.map_map]
    show (l.map fun q => q.text.size).sum ≤ _
    omega
end
end Go.Proofs.YtpcipdkoncmdcaaGreatDoor
namespace Go.Proofs.YtpcipdkoncmdcaaGreatDoor
open Go Go.RowKit

section
variable {src : List Nat → ByteArray × Int} {T : T3 (List Fi)}
/-- An outcome, by its path. -/
theorem keeps_out (he : (mergeS src (upT T 3) (chkA T 3)).1 = 0) {o : Ou} (ho : o ∈ (mergeS src (upT T 3) (chkA T 3)).2) :
    o.path ∈ nmsT T ∧ (decT src T o.path).keep = true ∧ o.has = hasT T o.path ∧ o.ids = idsT T o.path ∧ o.id = (decT src T o.path).id ∧ (o.kind = 4 ∨ o.kind = (decT src T o.path).kind) := by
  obtain ⟨hc, herr, hout⟩ := merge_inv he
  rw [hout] at ho
  obtain ⟨i, hi, rfl⟩ := List.getElem_of_mem ho
  have h1 : (clashed ((nmsT T).filterMap (outT src T)))[i]? = some (clashed ((nmsT T).filterMap (outT src T)))[i] := List.getElem?_eq_getElem hi
  unfold clashed at h1
  rw [List.getElem?_mapIdx] at h1
  obtain ⟨x, hx, hxe⟩ := Option.map_eq_some_iff.1 h1
  have e : (clashed ((nmsT T).filterMap (outT src T)))[i] = clash1 ((nmsT T).filterMap (outT src T)) i x := hxe.symm
  rw [e]
  obtain ⟨p, hp, hpx⟩ := List.mem_filterMap.1 (List.mem_of_getElem? hx)
  unfold outT at hpx
  split at hpx
  · rename_i hk
    injection hpx with hpx
    subst hpx
    have hcl : ∀ l, (clash1 l i (outOf (decT src T p) (thT T p))).path = p ∧ (clash1 l i (outOf (decT src T p) (thT T p))).has = hasT T p ∧ (clash1 l i (outOf (decT src T p) (thT T p))).ids = idsT T p ∧ (clash1 l i (outOf (decT src T p) (thT T p))).id = (decT src T p).id ∧ ((clash1 l i (outOf (decT src T p) (thT T p))).kind = 4 ∨ (clash1 l i (outOf (decT src T p) (thT T p))).kind = (decT src T p).kind) := by
      intro l
      unfold clash1
      split
      · exact ⟨rfl, rfl, rfl, rfl, .inl rfl⟩
      · exact ⟨rfl, rfl, rfl, rfl, .inr rfl⟩
    obtain ⟨c1, c2, c3, c4, c5⟩ := hcl ((nmsT T).filterMap (outT src T))
    rw [c1]
    exact ⟨hp, hk, c2, c3, c4, c5⟩
  · cases hpx
theorem clashed_paths (l : List Ou) : (clashed l).map (·.path) = l.map (·.path) := by
  apply List.ext_getElem?
  intro i
  unfold clashed
  rw [List.getElem?_map, List.getElem?_map, List.getElem?_mapIdx]
  cases l[i]? with
  | none => rfl
  | some o => show some _ = some _; congr 1; exact clash1_keeps l i o
/-- Each path once. -/
theorem keeps_once (he : (mergeS src (upT T 3) (chkA T 3)).1 = 0) : ((mergeS src (upT T 3) (chkA T 3)).2.map (·.path)).Nodup := by
  obtain ⟨hc, herr, hout⟩ := merge_inv he
  rw [hout, clashed_paths, outs_paths]
  exact (nms_nodup T).filter _
/-- Of a path that has no outcome. -/
theorem keeps_gone (he : (mergeS src (upT T 3) (chkA T 3)).1 = 0) {p : ByteArray} (hp : p ∈ nmsT T) (hn : p ∉ (mergeS src (upT T 3) (chkA T 3)).2.map (·.path)) : (decT src T p).keep = false := by
  obtain ⟨hc, herr, hout⟩ := merge_inv he
  rw [hout, clashed_paths, outs_paths] at hn
  cases e : (decT src T p).keep with
  | false => rfl
  | true => exact absurd (List.mem_filter.2 ⟨hp, e⟩) hn
theorem decGo_nil (L : List Th) : ∀ (l : List ByteArray) (acc : List Ou), (decGo src L acc l).1 ≠ 0 → (decGo src L acc l).2 = []
  | [], acc, h => absurd rfl h
  | p :: l, acc, h => by
    rw [decGo_step (d := decS src (thOf L p).has (thOf L p).ids (thOf L p).id) rfl rfl] at h ⊢
    by_cases he : (decS src (thOf L p).has (thOf L p).ids (thOf L p).id).err ≠ 0
    · rw [if_pos he]
    · rw [if_neg he] at h ⊢
      exact decGo_nil L l _ h
/-- With an error there is nothing. -/
theorem merge_nil (h : (mergeS src (upT T 3) (chkA T 3)).1 ≠ 0) : (mergeS src (upT T 3) (chkA T 3)).2 = [] := by
  unfold mergeS at h ⊢
  by_cases hc : chkA T 3 ≠ 0
  · rw [if_pos hc]
  · rw [if_neg hc] at h ⊢
    show clashed _ = []
    rw [decGo_nil _ _ _ h]; rfl
theorem eqS_iff {b c : Bool} {x y : List Nat} : eqS b c x y = true ↔ b = c ∧ x = y := by simp [eqS]
/-- What is kept as it is, is some side's. -/
theorem keeps_n {p : ByteArray} (hk : (decT src T p).keep = true) (h1 : (decT src T p).kind = 1) : (∃ f, fiAt T.b p = some f ∧ f.id = (decT src T p).id) ∨ ∃ f, fiAt T.c p = some f ∧ f.id = (decT src T p).id := by
  unfold decT decS at hk h1 ⊢
  split at hk
  · rename_i hc
    rw [if_pos hc]
    left
    have hk : (fiAt T.b p).isSome = true := hk
    cases e : fiAt T.b p with
    | none => rw [e] at hk; cases hk
    | some f => exact ⟨f, rfl, by show f.id = idF (fiAt T.b p); rw [e]; rfl⟩
  · rename_i hc
    rw [if_neg hc]
    split at hk
    · rename_i hc2
      rw [if_pos hc2]
      right
      have hk : (fiAt T.c p).isSome = true := hk
      cases e : fiAt T.c p with
      | none => rw [e] at hk; cases hk
      | some f => exact ⟨f, rfl, by show f.id = idF (fiAt T.c p); rw [e]; rfl⟩
    · rename_i hc2
      rw [if_neg hc, if_neg hc2] at h1
      have h1 : (weaveS src (hasT T p) (idsT T p)).2.1 = 1 := h1
      exfalso
      unfold weaveS at h1
      split at h1
      · cases h1
      · split at h1
        · cases h1
        · cases h1
        · simp only at h1
          split at h1 <;> cases h1
/-- A clash: the sides differ. -/
theorem keeps_clash {p : ByteArray} (h3 : (decT src T p).kind = 3) : ¬ ((hasT T p).b = (hasT T p).c ∧ (idsT T p).b = (idsT T p).c) := by
  intro h
  unfold decT decS at h3
  rw [eqS_iff.2 h, Bool.true_or, if_pos rfl] at h3
  cases h3
/-- A path that is gone is as the base on the side that has it. -/
theorem keeps_side {p : ByteArray} (hk : (decT src T p).keep = false) : ((hasT T p).b && (hasT T p).c) = false ∧ ((hasT T p).b = true → (hasT T p).a = true ∧ (idsT T p).a = (idsT T p).b) ∧ ((hasT T p).c = true → (hasT T p).a = true ∧ (idsT T p).a = (idsT T p).c) := by
  unfold decT decS at hk
  split at hk
  · rename_i hc
    have hk : (hasT T p).b = false := hk
    rw [Bool.or_eq_true] at hc
    refine ⟨(by rw [hk]; rfl), (fun h => by rw [hk] at h; cases h), (fun h => ?_)⟩
    rcases hc with hc | hc
    · have := (eqS_iff.1 hc).1; rw [hk, h] at this; cases this
    · obtain ⟨h1, h2⟩ := eqS_iff.1 hc; exact ⟨h1.trans h, h2⟩
  · split at hk
    · rename_i hc
      have hk : (hasT T p).c = false := hk
      refine ⟨(by rw [hk, Bool.and_false]), (fun h => ?_), (fun h => by rw [hk] at h; cases h)⟩
      obtain ⟨h1, h2⟩ := eqS_iff.1 hc; exact ⟨h1.trans h, h2⟩
    · cases hk
end
end Go.Proofs.YtpcipdkoncmdcaaGreatDoor
namespace Go.Proofs.YtpcipdkoncmdcaaGreatDoor
open Go Go.RowKit

section
variable {P : Program} {ops : Array Oper} {Q : Exit → Act → World → Prop} {rest : List Oper} {o : Oper} {T : Array Value} {D : List Deferred} {w : World}

/-- An operation that yields a value. -/
theorem goW_tk (hg : Region.wanted o (yielded ops T) = true) (d : Nat) (hd : o.dst = some d) (v : Value) (hv : (execOp (Act.eval ⟨T, D⟩) o).run P w = .ok (.value v) w) (h : wpList P ops Q rest ⟨T.setIfInBounds d v, D⟩ w) : wpList P ops Q (o :: rest) ⟨T, D⟩ w :=
  wpList_step fun K hK => by
    rw [if_pos hg]
    unfold Oper.wp
    rw [hv]
    exact hK _ _ (by rw [hd]; exact h)
/-- A load. -/
theorem goW_ld (hg : Region.wanted o (yielded ops T) = true) (d : Nat) (hd : o.dst = some d) (ty : TypeId) (x : Operand) (hop : o.op = .load ty x) (ad : Addr) (v : Value) (hx : Act.eval ⟨T, D⟩ x = .pointer (some ad))
    (hrun : (Instr.loadAt ty (.pointer (some ad))).run P w = .ok v w) (h : wpList P ops Q rest ⟨T.setIfInBounds d v, D⟩ w) : wpList P ops Q (o :: rest) ⟨T, D⟩ w :=
  goW_tk hg d hd v (by unfold execOp; simp only [hop, hx, Sem.run_bind, hrun, Result.andThen_ok, Sem.run_pure]) h
/-- One that isn't wanted. -/
theorem goW_no (hg : Region.wanted o (yielded ops T) = false) (d : Nat) (hd : o.dst = some d) (h : wpList P ops Q rest ⟨T.setIfInBounds d undef, D⟩ w) : wpList P ops Q (o :: rest) ⟨T, D⟩ w :=
  wpList_step fun K hK => by
    rw [if_neg (by rw [hg]; decide)]
    exact hK _ _ (by rw [hd]; exact h)
/-- A move, an assign, a pick. -/
theorem goW_mv (hg : Region.wanted o (yielded ops T) = true) (d : Nat) (hd : o.dst = some d) (x : Operand) (hop : o.op = .move x) (v : Value) (hx : Act.eval ⟨T, D⟩ x = v) (h : wpList P ops Q rest ⟨T.setIfInBounds d v, D⟩ w) : wpList P ops Q (o :: rest) ⟨T, D⟩ w :=
  goW_tk hg d hd v (by unfold execOp; rw [hop, ← hx]; rfl) h
theorem goW_as (hg : Region.wanted o (yielded ops T) = true) (d : Nat) (hd : o.dst = some d) (x : Operand) (hop : o.op = .assign x) (v : Value) (hx : Act.eval ⟨T, D⟩ x = v) (h : wpList P ops Q rest ⟨T.setIfInBounds d v, D⟩ w) : wpList P ops Q (o :: rest) ⟨T, D⟩ w :=
  goW_tk hg d hd v (by unfold execOp; rw [hop, ← hx]; rfl) h
theorem goW_pk (hg : Region.wanted o (yielded ops T) = true) (d : Nat) (hd : o.dst = some d) (c x y : Operand) (hop : o.op = .pick c x y) (b : Bool) (hc : Act.eval ⟨T, D⟩ c = .bool b) (v : Value) (hv : (if b = true then Act.eval ⟨T, D⟩ x else Act.eval ⟨T, D⟩ y) = v) (h : wpList P ops Q rest ⟨T.setIfInBounds d v, D⟩ w) : wpList P ops Q (o :: rest) ⟨T, D⟩ w :=
  goW_tk hg d hd v (by unfold execOp; simp only [hop, hc]; rw [← hv]; rfl) h
/-- A call. -/
theorem goW_call (hg : Region.wanted o (yielded ops T) = true) (d : Nat) (hd : o.dst = some d) (f : FuncId) (l : List Operand) {ats : Array TypeId} (hop : o.op = .call { callee := .value (.func f), args := l.toArray, argTypes := ats })
    (vs : List Value) (hl : l.map (Act.eval ⟨T, D⟩) = vs) (hen : ∀ args w, (callFunc f args).run P w = .ok (.enter f args) w)
    (h : Calls P f vs.toArray w fun e w' => ∃ u, e = .returned u ∧ wpList P ops Q rest ⟨T.setIfInBounds d u, D⟩ w') : wpList P ops Q (o :: rest) ⟨T, D⟩ w := by
  refine wpList_step fun K hK => ?_
  rw [if_pos hg]
  unfold Oper.wp
  have hrun : (execOp (Act.eval ⟨T, D⟩) o).run P w = .ok (.enter f vs.toArray) w := by
    obtain ⟨d', op, ty, pos, af, gd⟩ := o
    simp only at hop
    subst hop
    rw [execOp_call_go]
    have e : (#[] ++ l.toArray.map (Act.eval ⟨T, D⟩) ++ #[] : Array Value) = vs.toArray := by rw [← hl]; simp
    rw [e]
    exact hen _ _
  rw [hrun]
  exact h.mono fun _ _ ⟨u, h1, h2⟩ => by subst h1; exact hK _ _ (by rw [hd]; exact h2)
/-- The same, not to be unfolded (whnf of a list of operations that aren't wanted doesn't come back). -/
@[irreducible] def goP (P : Program) (ops : Array Oper) (Q : Exit → Act → World → Prop) (l : List Oper) (a : Act) (w : World) : Prop := wpList P ops Q l a w
theorem goP_eq {l : List Oper} {a : Act} : goP P ops Q l a w = wpList P ops Q l a w := by unfold goP; rfl
theorem goP_start {id : Nat} {l : List Oper} {a : Act} (h : goP P l.toArray Q l a w) : (Code.region id l.toArray false).wp P Q a w := wp_region_lit (by rw [goP_eq] at h; exact h)
theorem goP_end {a : Act} (h : Q .normal a w) : goP P ops Q [] a w := by rw [goP_eq]; exact wpList_nil h
theorem goP_out {l : List Oper} {a : Act} (h : wpList P ops Q l a w) : goP P ops Q l a w := by rw [goP_eq]; exact h
theorem goP_tk (hg : Region.wanted o (yielded ops T) = true) (d : Nat) (hd : o.dst = some d) (v : Value) (hv : (execOp (Act.eval ⟨T, D⟩) o).run P w = .ok (.value v) w) (h : goP P ops Q rest ⟨T.setIfInBounds d v, D⟩ w) : goP P ops Q (o :: rest) ⟨T, D⟩ w := by
  rw [goP_eq] at h ⊢
  exact goW_tk hg d hd v hv h
theorem goP_ld (hg : Region.wanted o (yielded ops T) = true) (d : Nat) (hd : o.dst = some d) (ty : TypeId) (x : Operand) (hop : o.op = .load ty x) (ad : Addr) (v : Value) (hx : Act.eval ⟨T, D⟩ x = .pointer (some ad))
    (hrun : (Instr.loadAt ty (.pointer (some ad))).run P w = .ok v w) (h : goP P ops Q rest ⟨T.setIfInBounds d v, D⟩ w) : goP P ops Q (o :: rest) ⟨T, D⟩ w := by
  rw [goP_eq] at h ⊢
  exact goW_ld hg d hd ty x hop ad v hx hrun h
theorem goP_no (hg : Region.wanted o (yielded ops T) = false) (d : Nat) (hd : o.dst = some d) (h : goP P ops Q rest ⟨T.setIfInBounds d undef, D⟩ w) : goP P ops Q (o :: rest) ⟨T, D⟩ w := by
  rw [goP_eq] at h ⊢
  exact goW_no hg d hd h
theorem goP_mv (hg : Region.wanted o (yielded ops T) = true) (d : Nat) (hd : o.dst = some d) (x : Operand) (hop : o.op = .move x) (v : Value) (hx : Act.eval ⟨T, D⟩ x = v) (h : goP P ops Q rest ⟨T.setIfInBounds d v, D⟩ w) : goP P ops Q (o :: rest) ⟨T, D⟩ w := by
  rw [goP_eq] at h ⊢
  exact goW_mv hg d hd x hop v hx h
theorem goP_as (hg : Region.wanted o (yielded ops T) = true) (d : Nat) (hd : o.dst = some d) (x : Operand) (hop : o.op = .assign x) (v : Value) (hx : Act.eval ⟨T, D⟩ x = v) (h : goP P ops Q rest ⟨T.setIfInBounds d v, D⟩ w) : goP P ops Q (o :: rest) ⟨T, D⟩ w := by
  rw [goP_eq] at h ⊢
  exact goW_as hg d hd x hop v hx h
theorem goP_pk (hg : Region.wanted o (yielded ops T) = true) (d : Nat) (hd : o.dst = some d) (c x y : Operand) (hop : o.op = .pick c x y) (b : Bool) (hc : Act.eval ⟨T, D⟩ c = .bool b) (v : Value) (hv : (if b = true then Act.eval ⟨T, D⟩ x else Act.eval ⟨T, D⟩ y) = v) (h : goP P ops Q rest ⟨T.setIfInBounds d v, D⟩ w) : goP P ops Q (o :: rest) ⟨T, D⟩ w := by
  rw [goP_eq] at h ⊢
  exact goW_pk hg d hd c x y hop b hc v hv h
theorem goP_call (hg : Region.wanted o (yielded ops T) = true) (d : Nat) (hd : o.dst = some d) (f : FuncId) (l : List Operand) {ats : Array TypeId} (hop : o.op = .call { callee := .value (.func f), args := l.toArray, argTypes := ats })
    (vs : List Value) (hl : l.map (Act.eval ⟨T, D⟩) = vs) (hen : ∀ args w, (callFunc f args).run P w = .ok (.enter f args) w)
    (h : Calls P f vs.toArray w fun e w' => ∃ u, e = .returned u ∧ goP P ops Q rest ⟨T.setIfInBounds d u, D⟩ w') : goP P ops Q (o :: rest) ⟨T, D⟩ w := by
  rw [goP_eq]
  exact goW_call hg d hd f l hop vs hl hen (h.mono fun e w' ⟨u, h1, h2⟩ => ⟨u, h1, by rw [goP_eq] at h2; exact h2⟩)
/-- A conversion, by its run equation. -/
theorem exec_conv {P : Program} {ev : Operand → Value} {o : Oper} {s d : TypeId} (x : Operand) (ho : o.op = .convert s d x) {u : Value} (hx : ev x = u) {v : Value} {w : World} (hr : (convert s d u).run P w = .ok v w) : (execOp ev o).run P w = .ok (.value v) w := by
  unfold execOp
  simp only [ho, hx, Sem.run_bind, hr, Result.andThen_ok, Sem.run_pure]
/-- A look-up, by its run equation. -/
theorem exec_lookup {P : Program} {ev : Operand → Value} {o : Oper} {ty : TypeId} {m k : Operand} {b : Bool} (ho : o.op = .lookup ty m k b) {mv kv : Value} (hm : ev m = mv) (hk : ev k = kv) {v : Value} {w : World} (hr : (Instr.lookup ty mv kv b).run P w = .ok v w) : (execOp ev o).run P w = .ok (.value v) w := by
  unfold execOp
  simp only [ho, hm, hk, Sem.run_bind, hr, Result.andThen_ok, Sem.run_pure]
end
end Go.Proofs.YtpcipdkoncmdcaaGreatDoor
namespace Go.Proofs.YtpcipdkoncmdcaaGreatDoor
open Go Go.RowKit

structure HI (w : World) (ph pi : Nat) (h : T3 Bool) (d : T3 (List Nat)) : Prop where
  bh : Bk w ph 45 [.bool h.a, .bool h.b, .bool h.c]
  bi : Bk w pi 46 (nb d.a ++ (nb d.b ++ nb d.c))
  ia : OkId d.a
  ib : OkId d.b
  ic : OkId d.c
section
variable {w w' : World} {ph pi : Nat} {h : T3 Bool} {d : T3 (List Nat)}
theorem HI.below (x : HI w ph pi h d) (hb : Below w.heap.size w w') : HI w' ph pi h d :=
  ⟨(hb.block _ x.bh.lt).trans x.bh, (hb.block _ x.bi.lt).trans x.bi, x.ia, x.ib, x.ic⟩
theorem HI.gh (x : HI w ph pi h d) {i : Nat} (hi : i < 3) : w.cell? ⟨ph, i, none⟩ = some (.bool (h.get i)) := by
  rcases i with _ | _ | _ | i
  · exact x.bh.cell rfl
  · exact x.bh.cell rfl
  · exact x.bh.cell rfl
  · omega
theorem HI.gi (x : HI w ph pi h d) {i : Nat} (hi : i < 3) : w.rangeAt pi (i * 32) (nb (d.get i)) := by
  rcases i with _ | _ | _ | i
  · exact x.bi.range (A := []) (C := nb d.b ++ nb d.c) (by simp [T3.get]) rfl
  · exact x.bi.range (A := nb d.a) (C := nb d.c) (by simp [T3.get]) (by simp [nb_len, x.ia.1])
  · exact x.bi.range (A := nb d.a ++ nb d.b) (C := []) (by simp [T3.get]) (by simp [nb_len, x.ia.1, x.ib.1])
  · omega
theorem HI.puth (x : HI w ph pi h d) (hne : pi ≠ ph) {i : Nat} (hi : i < 3) (b : Bool) : HI (w.setCell ⟨ph, i, none⟩ (.bool b)) ph pi (h.set i b) d ∧ w.grownBy (w.setCell ⟨ph, i, none⟩ (.bool b)) (some ph) := by
  obtain ⟨h1, h2⟩ := x.bh.put1 i (.bool b)
  refine ⟨⟨?_, (h2.block pi x.bi.lt (by simpa using hne)).trans x.bi, x.ia, x.ib, x.ic⟩, h2⟩
  rcases i with _ | _ | _ | i
  · exact h1
  · exact h1
  · exact h1
  · omega
theorem HI.puti (x : HI w ph pi h d) (hne : ph ≠ pi) {i : Nat} (hi : i < 3) {y : List Nat} (hy : OkId y) : HI (w.setCells pi (i * 32) (nb y)) ph pi h (d.set i y) ∧ w.grownBy (w.setCells pi (i * 32) (nb y)) (some pi) := by
  have la := nb_len d.a
  have lb := nb_len d.b
  have lc := nb_len d.c
  have ly := nb_len y
  rw [x.ia.1] at la
  rw [x.ib.1] at lb
  rw [x.ic.1] at lc
  rw [hy.1] at ly
  rcases i with _ | _ | _ | i
  · obtain ⟨h1, h2⟩ := x.bi.put (A := []) (B := nb d.a) (C := nb d.b ++ nb d.c) (n := 0) rfl rfl (B' := nb y) (by omega)
    exact ⟨⟨(h2.block ph x.bh.lt (by simpa using hne)).trans x.bh, h1, hy, x.ib, x.ic⟩, h2⟩
  · obtain ⟨h1, h2⟩ := x.bi.put (A := nb d.a) (B := nb d.b) (C := nb d.c) (n := 32) rfl (by omega) (B' := nb y) (by omega)
    exact ⟨⟨(h2.block ph x.bh.lt (by simpa using hne)).trans x.bh, h1, x.ia, hy, x.ic⟩, h2⟩
  · obtain ⟨h1, h2⟩ := x.bi.put (A := nb d.a ++ nb d.b) (B := nb d.c) (C := []) (n := 64) (by simp) (by simp [la, lb]) (B' := nb y) (by omega)
    exact ⟨⟨(h2.block ph x.bh.lt (by simpa using hne)).trans x.bh, by simpa [T3.set] using h1, x.ia, x.ib, hy⟩, h2⟩
  · omega
theorem HI.st (x : HI w ph pi h d) {i : Nat} (hi : i < 3) {y : List Nat} (hy : OkId y) : (Instr.storeAt 43 (.pointer (some ⟨pi, i * 32, none⟩)) (.agg (nums .u8 y))).run Tryz.prog w = .ok () (w.setCells pi (i * 32) (nb y)) :=
  run_storeAt_mid (P := Tryz.prog) w pi (i * 32) 43 (nums .u8 y) (x.bi.there _ _ (by rw [nums_size, hy.1]; simp [nb_len, x.ia.1, x.ib.1, x.ic.1]; omega)) (by rw [nums_size, hy.1]; kernel_rfl) (nums_one _ _)
end
def hasU (T : T3 (List Fi)) (p : ByteArray) (m : Nat) : T3 Bool := ⟨decide (0 < m) && (fiAt T.a p).isSome, decide (1 < m) && (fiAt T.b p).isSome, decide (2 < m) && (fiAt T.c p).isSome⟩
def idsU (T : T3 (List Fi)) (p : ByteArray) (m : Nat) : T3 (List Nat) := ⟨if 0 < m then idF (fiAt T.a p) else zId, if 1 < m then idF (fiAt T.b p) else zId, if 2 < m then idF (fiAt T.c p) else zId⟩
section
variable {T : T3 (List Fi)} {p : ByteArray}
theorem hasU_all : hasU T p 3 = hasT T p ∧ idsU T p 3 = idsT T p := by simp [hasU, idsU, hasT, idsT]
theorem hasU_none {i : Nat} (hi : i < 3) (h : fiAt (T.get i) p = none) : hasU T p (i + 1) = hasU T p i ∧ idsU T p (i + 1) = idsU T p i := by
  rcases i with _ | _ | _ | i
  · have h : fiAt T.a p = none := h
    simp [hasU, idsU, h, idF]
  · have h : fiAt T.b p = none := h
    simp [hasU, idsU, h, idF]
  · have h : fiAt T.c p = none := h
    simp [hasU, idsU, h, idF]
  · omega
theorem hasU_some {i : Nat} (hi : i < 3) {f : Fi} (h : fiAt (T.get i) p = some f) : (hasU T p i).set i true = hasU T p (i + 1) ∧ (idsU T p i).set i f.id = idsU T p (i + 1) := by
  rcases i with _ | _ | _ | i
  · have h : fiAt T.a p = some f := h
    simp [hasU, idsU, h, idF, T3.set]
  · have h : fiAt T.b p = some f := h
    simp [hasU, idsU, h, idF, T3.set]
  · have h : fiAt T.c p = some f := h
    simp [hasU, idsU, h, idF, T3.set]
  · omega
end
theorem id3_zero : Tryz.zeroCells46 = (nb zId ++ (nb zId ++ nb zId)).toArray := by kernel_rfl
theorem HI.start {w : World} (T : T3 (List Fi)) (p : ByteArray) : HI ((w.alloc (.cells #[.bool false, .bool false, .bool false] 45 (0, 0))).alloc (.cells (nb zId ++ (nb zId ++ nb zId)).toArray 46 (0, 0))) w.heap.size (w.heap.size + 1) (hasU T p 0) (idsU T p 0) := by
  refine ⟨?_, ?_, zId_ok, zId_ok, zId_ok⟩
  · have hb1 : Below (w.alloc (.cells #[.bool false, .bool false, .bool false] 45 (0, 0))).heap.size (w.alloc (.cells #[.bool false, .bool false, .bool false] 45 (0, 0))) ((w.alloc (.cells #[.bool false, .bool false, .bool false] 45 (0, 0))).alloc (.cells (nb zId ++ (nb zId ++ nb zId)).toArray 46 (0, 0))) := (Below.refl _ _).alloc (Nat.le_refl _) _
    exact (hb1.block _ (by simp)).trans Array.getElem?_push_size
  · have hz : (w.alloc (.cells #[.bool false, .bool false, .bool false] 45 (0, 0))).heap.size = w.heap.size + 1 := by simp
    show ((w.alloc (.cells #[.bool false, .bool false, .bool false] 45 (0, 0))).alloc _).heap[w.heap.size + 1]? = _
    rw [← hz]; exact Array.getElem?_push_size
theorem cell_kept {w w' : World} {q : Nat} (hg : w.grownBy w' (some q)) {b o : Nat} {v : Value} (h : w.cell? ⟨b, o, none⟩ = some v) (hne : b ≠ q) : w'.cell? ⟨b, o, none⟩ = some v := by
  have hl : b < w.heap.size := by
    by_cases hl : b < w.heap.size
    · exact hl
    · simp [World.cell?, Array.getElem?_eq_none (Nat.le_of_not_lt hl)] at h
  have hb := hg.block b hl (by simpa using hne)
  simp only [World.cell?, hb] at h ⊢; exact h
theorem ld_files (ad : Addr) (a : Option Addr) (n c : Nat) (W : World) (h : W.cell? ad = some (.slice a n c)) : (Instr.loadAt 22 (.pointer (some ad))).run Tryz.prog W = .ok (.slice a n c) W := by go_simp
theorem ld_u8s (ad : Addr) (v : Value) (W : World) (h : W.cell? ad = some v) : (Instr.loadAt 52 (.pointer (some ad))).run Tryz.prog W = .ok v W := by go_simp
theorem st_bool3 (ad : Addr) (x b : Bool) (W : World) (h : W.cell? ad = some (.bool x)) (hf : W.frozen? ad = false) : (Instr.storeAt 4 (.pointer (some ad)) (.bool b)).run Tryz.prog W = .ok () (W.setCell ad (.bool b)) := by go_simp
theorem rb_shelf (a : Option Addr) (n c : Nat) (w : World) : (Instr.build 34 #[(0, .slice a n c)]).run Tryz.prog w = .ok (.agg #[.slice a n c]) w := by kernel_rfl
theorem bs_size {l : List LB} (h : sumB l ≤ 600) (id : List Nat) : (textS (l.map toBl) id).1.size ≤ 1000 := by
  refine textS_size (fun b hb => ?_) id
  obtain ⟨x, hx, rfl⟩ := List.mem_map.1 hb
  have : x.text.size ≤ sumB l := by
    clear h hb
    induction l with
    | nil => cases hx
    | cons y l ih =>
      have e : sumB (y :: l) = y.text.size + sumB l := rfl
      rcases List.mem_cons.1 hx with rfl | hx
      · omega
      · have := ih hx; omega
  show x.text.size ≤ 1000
  omega
end Go.Proofs.YtpcipdkoncmdcaaGreatDoor
namespace Go.Proofs.YtpcipdkoncmdcaaGreatDoor
open Go Go.RowKit Go.Maps

def numV (z : Int) : Value := .int .i64 z
def numR (v : Value) : Option (DataW Unit × List MemPlace) := match v with
  | .int .i64 z => some (.lit (.int .i64 z), [])
  | _ => none
/-- Maps from paths to numbers. -/
def IC : MC Tryz.prog 60 9 3 ByteArray Int where
  mkK := Value.string
  lit s := .string s.data.toList
  okK s := s.size ≤ maxLen
  mkE := numV
  dt z := .lit (.int .i64 z)
  ok _ := True
  z0 := 0
  R := numR
  keyed := string_keyed Tryz.underlying9
  under := Tryz.underlying60
  key x hx := WideMaps.keyOf_string_mk Tryz.underlying9 hx
  keyInv v l h := by
    obtain ⟨s, h1, h2, h3⟩ := WideMaps.string_of_keyOf Tryz.underlying9 h
    exact ⟨s, h1, h2, h3⟩
  litInj _ _ _ _ h := str_lit_inj h
  el a _ := rfl
  elInv v y h := by
    unfold numR at h
    split at h
    · rename_i z; injection h with h; exact ⟨z, rfl, h.symm, trivial⟩
    · cases h
  dtInj a b _ _ h := by injection h with h; injection h
  zero w := Tryz.zeroValue3 w
  okz := trivial
/-- The paths that were seen. -/
def seenF (l : List ByteArray) (z : ByteArray) : Option Int := if l.any (fun y => decide (y = z)) = true then some 1 else none
theorem seenF_new {V : List Ov} {os : List Ou} (hv : V.map (·.o) = os) (hn : (os.map (·.path)).Nodup) {k : Nat} (hk : k < V.length) : seenF ((V.take k).map fun x => x.o.path) V[k].o.path = none := by
  unfold seenF
  rw [if_neg]
  rw [Bool.not_eq_true, List.any_eq_false]
  intro y hy
  obtain ⟨x, hx, rfl⟩ := List.mem_map.1 hy
  obtain ⟨j, hj, rfl⟩ := List.getElem_of_mem hx
  rw [List.length_take] at hj
  rw [List.getElem_take]
  have hp : (os.map (·.path)) = V.map (fun x => x.o.path) := by rw [← hv, List.map_map]; rfl
  rw [hp] at hn
  have := List.pairwise_iff_getElem.1 (List.nodup_iff_pairwise_ne.1 hn) j k (by simp; omega) (by simpa using hk) (by omega)
  simpa using this
theorem seenF_step {V : List Ov} {k : Nat} (hk : k < V.length) (z : ByteArray) : (if z = V[k].o.path then some 1 else seenF ((V.take k).map fun x => x.o.path) z) = seenF ((V.take (k + 1)).map fun x => x.o.path) z := by
  unfold seenF
  rw [List.take_add_one, List.getElem?_eq_getElem hk]
  show _ = if (((V.take k ++ [V[k]]).map fun x => x.o.path).any fun y => decide (y = z)) = true then some 1 else none
  rw [List.map_append, List.any_append]
  by_cases h : z = V[k].o.path
  · subst h; simp
  · have h' : ¬ V[k].o.path = z := fun e => h e.symm
    rw [if_neg h]
    show _ = if (_ || (decide (V[k].o.path = z) || false)) = true then some 1 else none
    rw [decide_eq_false h', Bool.or_false, Bool.or_false]
/-- An operation that is wanted, by its run equation. -/
theorem wpList_ex {P : Program} {ops : Array Oper} {rest : List Oper} {o : Oper} {a : Act} {w : World} {Q : Exit → Act → World → Prop} (hg : Region.wanted o (yielded ops a.tmps) = true) {v : Value} (hr : (execOp a.eval o).run P w = .ok (.value v) w) (h : wpList P ops Q rest (a.put o.dst v) w) : wpList P ops Q (o :: rest) a w :=
  wpList_step fun K hK => by
    rw [if_pos hg]
    unfold Oper.wp
    rw [hr]
    exact hK _ _ h
theorem exec_load {P : Program} {ev : Operand → Value} {o : Oper} {ty : TypeId} (x : Operand) (ho : o.op = .load ty x) {ad : Addr} (hx : ev x = .pointer (some ad)) {v : Value} {w : World} (hr : (Instr.loadAt ty (.pointer (some ad))).run P w = .ok v w) : (execOp ev o).run P w = .ok (.value v) w := by
  unfold execOp; simp only [ho, hx, Sem.run_bind, hr, Result.andThen_ok, Sem.run_pure]
/-- An outcome's fields in its block. -/
theorem ou_has {W : World} {p : Nat} {e : TypeId} {x : Ov} (h : Bk W p e (ouC x)) (hx : OkOu x.o) {i : Nat} (hi : i < 3) : W.cell? ⟨p, 36 + i, none⟩ = some (.bool (x.o.has.get i)) := by
  have hl := hx.id.1
  rcases i with _ | _ | _ | i
  · exact h.cell (by simp [ouC, List.getElem?_append, nb_len, hl, T3.get])
  · exact h.cell (by simp [ouC, List.getElem?_append, nb_len, hl, T3.get])
  · exact h.cell (by simp [ouC, List.getElem?_append, nb_len, hl, T3.get])
  · omega
theorem ou_ids {W : World} {p : Nat} {e : TypeId} {x : Ov} (h : Bk W p e (ouC x)) (hx : OkOu x.o) {i : Nat} (hi : i < 3) : W.rangeAt p (39 + i * 32) (nb (x.o.ids.get i)) := by
  rcases i with _ | _ | _ | i
  · exact h.range (A := .string x.o.path :: .int .i64 x.o.kind :: (nb x.o.id ++ [.float .f64 x.o.stamp, x.tv, .bool x.o.has.a, .bool x.o.has.b, .bool x.o.has.c])) (C := nb x.o.ids.b ++ nb x.o.ids.c) (by simp [ouC, T3.get]) (by simp [nb_len, hx.id.1])
  · exact h.range (A := .string x.o.path :: .int .i64 x.o.kind :: (nb x.o.id ++ (.float .f64 x.o.stamp :: x.tv :: .bool x.o.has.a :: .bool x.o.has.b :: .bool x.o.has.c :: nb x.o.ids.a))) (C := nb x.o.ids.c) (by simp [ouC, T3.get]) (by simp [nb_len, hx.id.1, hx.ia.1])
  · exact h.range (A := .string x.o.path :: .int .i64 x.o.kind :: (nb x.o.id ++ (.float .f64 x.o.stamp :: x.tv :: .bool x.o.has.a :: .bool x.o.has.b :: .bool x.o.has.c :: (nb x.o.ids.a ++ nb x.o.ids.b)))) (C := []) (by simp [ouC, T3.get]) (by simp [nb_len, hx.id.1, hx.ia.1, hx.ib.1])
  · omega
theorem hasT_get (T : T3 (List Fi)) (p : ByteArray) (i : Nat) : (hasT T p).get i = (fiAt (T.get i) p).isSome := by
  rcases i with _ | _ | i <;> rfl
theorem idsT_get (T : T3 (List Fi)) (p : ByteArray) (i : Nat) : (idsT T p).get i = idF (fiAt (T.get i) p) := by
  rcases i with _ | _ | i <;> rfl
set_option maxRecDepth 100000 in
set_option maxHeartbeats 8000000 in
theorem keeps_c {w : World} {va vb vc v : Value} {T : T3 (List Fi)} {l : List LB} (ha : FS w va T.a) (hb : FS w vb T.b) (hc : FS w vc T.c) (h : RB w v l) (hs : sumB l ≤ 1048576) (hg : Gl w) :
    Calls Tryz.prog 5 #[.agg #[va, vb, vc], v] w fun e w' => e = .returned (.bool true) ∧ Below w.heap.size w w' := by
  have HFA := Lib.hid ha
  have HFB := Lib.hid hb
  have HFC := Lib.hid hc
  have HRB := Lib.hid h
  have HGL := Lib.hid hg
  have HSB := Lib.hid hs
  obtain ⟨W1, hW1⟩ : ∃ W1, w.alloc (.cells #[va, vb, vc] 23 (0, 0)) = W1 := ⟨_, rfl⟩
  have HB1 : Hid (Below w.heap.size w W1) := by show Below _ _ _; rw [← hW1]; exact (Below.refl _ w).alloc (Nat.le_refl _) _
  have hblk : W1.heap[w.heap.size]? = some (.cells #[va, vb, vc] 23 (0, 0)) := by rw [← hW1]; exact Array.getElem?_push_size
  have HBLK1 := Lib.hid hblk
  have HLT1 : Hid (w.heap.size < W1.heap.size) := (Array.getElem?_eq_some_iff.1 hblk).1
  have HW1 := Lib.hid hW1
  have HAW := Lib.hid (awake_c W1 (hg.below HB1.out (Nat.le_refl _)))
  obtain ⟨aa, ca, rfl⟩ := ha.lit
  obtain ⟨ab, cb, rfl⟩ := hb.lit
  obtain ⟨ac, cc, rfl⟩ := hc.lit
  obtain ⟨ab', cb', rfl⟩ := h.lit
  clear ha hb hc h hs hg hW1 hblk
  go_enter Tryz.func5, Tryz.ntmps5
  go_upto_region 1 with fail
  rw [HW1.out]
  clear HW1
  go_upto_region 3 with (go_at_call 10; refine HAW.out.mono ?_; rintro e W2 ⟨rfl, hb2⟩)
  have HB2 := Lib.hid (HB1.out.trans (hb2.mono HB1.out.size))
  have HBLK2 : Hid (W2.heap[w.heap.size]? = _) := (hb2.block _ HLT1.out).trans HBLK1.out
  have HLT2 : Hid (w.heap.size < W2.heap.size) := Nat.lt_of_lt_of_le HLT1.out hb2.size
  clear hb2 HB1 HBLK1 HLT1 HAW
  have hsm := small_c (HFA.out.below HB2.out) (HFB.out.below HB2.out) (HFC.out.below HB2.out) (HRB.out.below HB2.out) HSB.out
  obtain ⟨z, hz⟩ : ∃ z, (decide (sumB l ≤ 600) && decide (T.a.length + T.b.length + T.c.length ≤ 90)) = z := ⟨_, rfl⟩
  rw [hz] at hsm
  cases z with
  | false =>
    have HSM := Lib.hid hsm
    clear hsm
    go_wp2_with (first
      | (refine wp_loadB rfl 23 _ rfl w.heap.size rfl HBLK2.out _ Tryz.underlying23 rfl (by kernel_rfl) ?_)
      | (go_at_call 11; refine HSM.out.mono ?_; rintro e W3 ⟨rfl, hb3⟩))
    go_ret
    exact ⟨rfl, HB2.out.trans (hb3.mono HB2.out.size)⟩
  | true =>
    have HSM := Lib.hid hsm
    rw [Bool.and_eq_true, decide_eq_true_eq, decide_eq_true_eq] at hz
    have HZ6 : Hid (sumB l ≤ 600) := hz.1
    have HN : Hid (T.a.length + T.b.length + T.c.length ≤ 90) := hz.2
    clear hsm hz
    go_upto_region 5 with (first
      | (refine wp_loadB rfl 23 _ rfl w.heap.size rfl HBLK2.out _ Tryz.underlying23 rfl (by kernel_rfl) ?_)
      | (go_at_call 11; refine HSM.out.mono ?_; rintro e W3 ⟨rfl, hb3⟩))
    have HB3 := Lib.hid (below_dN (HB2.out.trans (hb3.mono HB2.out.size)) 1)
    have hs0 : (W3.drewN 1).heap[w.heap.size]? = some (.cells #[.slice aa T.a.length ca, .slice ab T.b.length cb, .slice ac T.c.length cc] 23 (0, 0)) := (hb3.block _ HLT2.out).trans HBLK2.out
    have HLT3 : Hid (w.heap.size < (W3.drewN 1).heap.size) := Nat.lt_of_lt_of_le HLT2.out hb3.size
    clear hb3 HB2 HBLK2 HLT2 HSM
    have HLA := Lib.hid (laid_c (HRB.out.below HB3.out))
    refine wp_region_hz (fun W => W.heap[w.heap.size]? = some (.cells #[.slice aa T.a.length ca, .slice ab T.b.length cb, .slice ac T.c.length cc] 23 (0, 0))) (.tk 0 (.tk 1 (.fc 2 (.tk 3 (.tk 4 (.fc 5 (.tk 6 (.tk 7 (.tk 8 (.tk 9 (.tk 10 (.nil)))))))))))) (by kernel_rfl) (by kernel_rfl) (fun _ _ _ _ _ h => h) ?_
    refine goZ_ld rfl rfl 29 rfl 23 _ rfl ⟨w.heap.size, 0, none⟩ (.agg #[.slice aa T.a.length ca, .slice ab T.b.length cb, .slice ac T.c.length cc]) rfl (fun W hS => ld_blk Tryz.underlying23 rfl (by kernel_rfl) W hS) (hs0) ?_
    simp only [List.setIfInBounds_toArray, List.set_cons_zero, List.set_cons_succ]
    refine goZ_tk rfl rfl 30 rfl (.slice ab' l.length cb') (fun _ => rfl) ?_
    simp only [List.setIfInBounds_toArray, List.set_cons_zero, List.set_cons_succ]
    refine goZ_call (ds' := [0]) rfl rfl (by kernel_rfl) 31 rfl 12 _ rfl [(.slice ab' l.length cb')] rfl (enters_of Tryz.func12 (by kernel_rfl) rfl) ((HLA.out).mono ?_)
    rintro e W5 ⟨lv, rfl, hbs, hb5⟩
    obtain ⟨la, lc, rfl⟩ := hbs.lit
    have hs1 := (hb5.block _ HLT3.out).trans hs0
    have HB5 := Lib.hid (HB3.out.trans (hb5.mono HB3.out.size))
    have HBS5 := Lib.hid hbs
    have HLT5 := Lib.hid (Nat.lt_of_lt_of_le HLT3.out hb5.size)
    have HMC := Lib.hid (merge_c (T := T) (HFA.out.below HB5.out) (HFB.out.below HB5.out) (HFC.out.below HB5.out) (HGL.out.below HB5.out (Nat.le_refl _)) (bs_size HZ6.out) HBS5.out)
    clear hbs hb5
    refine ⟨(.slice la (l.map toBl).length lc), rfl, fun _ => hs1, ?_⟩
    simp only [List.setIfInBounds_toArray, List.set_cons_zero, List.set_cons_succ]
    refine goZ_tk rfl rfl 32 rfl (.agg #[(.slice la (l.map toBl).length lc)]) (exec_build _ rfl (by simp [Act.eval]) (rb_shelf _ _ _)) ?_
    simp only [List.setIfInBounds_toArray, List.set_cons_zero, List.set_cons_succ]
    refine goZ_tk rfl rfl 33 rfl (SrcV (.slice la (l.map toBl).length lc)) (fun _ => by first | rfl | go_simp) ?_
    simp only [List.setIfInBounds_toArray, List.set_cons_zero, List.set_cons_succ]
    refine goZ_call (ds' := []) rfl rfl (by kernel_rfl) 34 rfl 13 _ rfl [(.agg #[.slice aa T.a.length ca, .slice ab T.b.length cb, .slice ac T.c.length cc]), (SrcV (.slice la (l.map toBl).length lc))] rfl (enters_of Tryz.func13 (by kernel_rfl) rfl) ((HMC.out).mono ?_)
    rintro e W6 ⟨ov, V, rfl, hV, hMO⟩
    refine ⟨(.tuple #[ov, .int .i64 (mergeS (textS (l.map toBl)) (upT T 3) (chkA T 3)).1]), rfl, fun h => absurd rfl h, ?_⟩
    simp only [List.setIfInBounds_toArray, List.set_cons_zero, List.set_cons_succ]
    refine goZ_tk rfl rfl 28 rfl (.tuple #[ov, .int .i64 (mergeS (textS (l.map toBl)) (upT T 3) (chkA T 3)).1]) (fun _ => rfl) ?_
    simp only [List.setIfInBounds_toArray, List.set_cons_zero, List.set_cons_succ]
    refine goZ_tk rfl rfl 35 rfl ov (fun _ => by first | rfl | go_simp) ?_
    simp only [List.setIfInBounds_toArray, List.set_cons_zero, List.set_cons_succ]
    refine goZ_tk rfl rfl 36 rfl (.int .i64 (mergeS (textS (l.map toBl)) (upT T 3) (chkA T 3)).1) (fun _ => by first | rfl | go_simp) ?_
    simp only [List.setIfInBounds_toArray, List.set_cons_zero, List.set_cons_succ]
    refine goZ_tk rfl rfl 5 rfl ov (fun _ => rfl) ?_
    simp only [List.setIfInBounds_toArray, List.set_cons_zero, List.set_cons_succ]
    refine goZ_tk rfl rfl 6 rfl (.int .i64 (mergeS (textS (l.map toBl)) (upT T 3) (chkA T 3)).1) (fun _ => rfl) ?_
    simp only [List.setIfInBounds_toArray, List.set_cons_zero, List.set_cons_succ]
    refine goZ_end ?_
    have hko := fun h o ho => keeps_out (src := textS (l.map toBl)) (T := T) h (o := o) ho
    have hkn := fun h => keeps_once (src := textS (l.map toBl)) (T := T) h
    have hkg := fun h p hp hn => keeps_gone (src := textS (l.map toBl)) (T := T) h (p := p) hp hn
    have hni := fun h => merge_nil (src := textS (l.map toBl)) (T := T) h
    have hin := fun h => (merge_inv (src := textS (l.map toBl)) (T := T) h).1
    have hal := fun h => again_len (src := textS (l.map toBl)) (T := T) h
    obtain ⟨R, hR⟩ : ∃ R, mergeS (textS (l.map toBl)) (upT T 3) (chkA T 3) = R := ⟨_, rfl⟩
    rw [hR] at hV hko hkn hkg hni hin hal
    rw [hR]
    obtain ⟨er, os⟩ := R
    have hV : V.map (·.o) = os := hV
    have hOR := hMO.or
    have hONE : ∀ x ∈ V, x.tv.oneCell' = true := fun x hx => tx_one (hMO.tx x hx).1.tx
    have HB6 := Lib.hid (HB5.out.trans (hMO.below.mono HB5.out.size))
    have HBLK6 : Hid (W6.heap[w.heap.size]? = _) := (hMO.below.block _ HLT5.out).trans hs1
    have HLT6 : Hid (w.heap.size < W6.heap.size) := Nat.lt_of_lt_of_le HLT5.out hMO.below.size
    obtain ⟨oa, oc, rfl⟩ := hOR.lit
    clear hMO hs1 hs0 HB5 HLT5 HBS5 HMC HB3 HLT3 HLA hR
    by_cases he : er = 0
    · subst he
      have HKO : Hid (∀ o ∈ os, _) := hko rfl
      have HKN : Hid (os.map (·.path)).Nodup := hkn rfl
      have HKG : Hid (∀ p ∈ nmsT T, p ∉ os.map (·.path) → _) := hkg rfl
      have HIN : Hid (chkA T 3 = 0) := hin rfl
      have hvl : V.length ≤ 90 := by
        have h1 : os.length ≤ T.a.length + T.b.length + T.c.length := hal rfl
        have h2 := HN.out
        have h3 := congrArg List.length hV
        rw [List.length_map] at h3
        omega
      have HV := Lib.hid hV
      have HOR := Lib.hid hOR
      have HONE := Lib.hid hONE
      clear hko hkn hkg hni hin hal hV hOR hONE
      obtain ⟨W7, hW7⟩ : ∃ W7, W6.alloc (.map #[] 0) = W7 := ⟨_, rfl⟩
      have hb7 : Below W6.heap.size W6 W7 := by rw [← hW7]; exact (Below.refl _ W6).alloc (Nat.le_refl _) _
      have HMP : Hid (MapG IC W7 W6.heap.size 0 (seenF [])) := by
        show MapG IC W7 _ _ _
        rw [← hW7]
        exact (MapG.made IC W6).congr (fun p => by simp [seenF])
      have HB67 := Lib.hid hb7
      have HMB : Hid (w.heap.size ≤ W6.heap.size ∧ w.heap.size < W6.heap.size) := ⟨HB6.out.size, HLT6.out⟩
      have HW7 := Lib.hid hW7
      have hmm := fun (t : TypeId) (w : World) => run_makeMap (P := Tryz.prog) t w
      clear hb7 hW7
      go_upto_region 9 with fail
      rw [HW7.out]
      clear HW7
      have HBO : Hid (∀ W, Below W6.heap.size W6 W → Below w.heap.size w W ∧ OR W (.slice oa V.length oc) V ∧ W.heap[w.heap.size]? = some (.cells #[.slice aa T.a.length ca, .slice ab T.b.length cb, .slice ac T.c.length cc] 23 (0, 0)) ∧ w.heap.size < W.heap.size) := fun W hW => ⟨HB6.out.trans (hW.mono HB6.out.size), HOR.out.below hW, (hW.block _ HLT6.out).trans HBLK6.out, Nat.lt_of_lt_of_le HLT6.out hW.size⟩
      clear HB6 HOR HBLK6 HLT6
      generalize W6.heap.size = mb at *
      go_upto_region 10 with fail
      go_loopw [45] (fun kv wx => ∃ k : Nat, k ≤ V.length ∧ kv = .int .i64 k ∧ Hid (Below mb W6 wx) ∧ Hid (MapG IC wx mb k (seenF ((V.take k).map fun x => x.o.path)))) (fun kv _ => (V.length - intOf kv).toNat)
      case atStart => exact ⟨0, Nat.zero_le _, rfl, HB67, HMP⟩
      case round =>
        clear HB67 HMP
        obtain ⟨k, hk, rfl, HB6r, HMP⟩ := hrel
        obtain ⟨hbw, hor, hblk, hltp⟩ := HBO.out wr HB6r.out
        have HBW := Lib.hid hbw
        have HOR := Lib.hid hor
        have HBLK := Lib.hid hblk
        have HLT := Lib.hid hltp
        clear hbw hor hblk hltp
        by_cases hkl : k < V.length
        · -- @dev{ L1
          have k1 : decide ((k : Int) < (V.length : Int)) = true := decide_eq_true (by omega)
          have k2 : decide (k < V.length) = true := decide_eq_true hkl
          have k3 : (0 : Int) ≤ (k : Int) := by omega
          have k4 : (k : Int) < (V.length : Int) := by omega
          have kw : IntKind.i64.wrap ((k : Int) + 1) = ((k + 1 : Nat) : Int) := IntWalk.i64_in _ (by omega)
          have kv90 : k ≤ 90 := by omega
          obtain ⟨b, o, c', e, hbl, hr⟩ := HOR.out.at hkl
          injection e with e1 _ e2
          subst e1 e2
          have HR : Hid (wr.rangeAt b (o + k * 135) (ouC V[k])) := hr k hkl
          have HXO : Hid (OkOu V[k].o) := HOR.out.ok _ (List.getElem_mem hkl)
          have HCL : Hid ((ouC V[k]).length = 135) := ouC_len HXO.out
          have HOE : Hid ((ouC V[k]).toArray.all (·.oneCell') = true) := by show _ = _; rw [List.all_toArray, List.all_eq_true]; exact ouC_one (HONE.out _ (List.getElem_mem hkl))
          have HMEM : Hid (V[k].o ∈ os) := by show _ ∈ _; rw [← HV.out]; exact List.mem_map_of_mem (List.getElem_mem hkl)
          have HNEW : Hid (seenF ((V.take k).map fun x => x.o.path) V[k].o.path = none) := seenF_new HV.out HKN.out hkl
          have HSTP : Hid (∀ z, (if z = V[k].o.path then some 1 else seenF ((V.take k).map fun x => x.o.path) z) = seenF ((V.take (k + 1)).map fun x => x.o.path) z) := seenF_step hkl
          clear hr hbl
          generalize V[k] = x at *
          go_upto_region 12 with (first
            | (refine wpList_load_mid rfl 54 _ rfl b (o + k * 135) rfl (ouC x) _ HR.out Tryz.underlying54 rfl (by rw [HCL.out]; exact out_info) ?_)
            | (refine wp_storeB rfl 54 _ _ rfl wr.heap.size (ouC x).toArray rfl rfl Array.getElem?_push_size (out_zsz HCL.out) (out_isz HCL.out) HOE.out ?_; intro W8 hb8 hg8))
          have hB8 : Below wr.heap.size wr W8 := ((Below.refl wr.heap.size wr).alloc (Nat.le_refl _) _).grown hg8 (by simp) (fun k hk => by cases hk; exact Nat.le_refl _)
          have HX8 := Lib.hid hb8
          have HB68 := Lib.hid (HB6r.out.trans (hB8.mono (by have := HMP.out.lt; omega)))
          have HMP8 := Lib.hid (HMP.out.below hB8)
          have HP9 : Hid (wr.heap.size ≠ mb ∧ wr.heap.size < W8.heap.size) := ⟨by have := HMP.out.lt; omega, (Array.getElem?_eq_some_iff.1 hb8).1⟩
          have hc0 : W8.cell? ⟨wr.heap.size, 0, none⟩ = some (.string x.o.path) := (outBlk HXO.out hb8).1
          have hpz : x.o.path.size ≤ maxLen := Nat.le_trans HXO.out.pz (by decide)
          have hlk := HMP8.out.look x.o.path hpz
          rw [HNEW.out] at hlk
          have hlk2 : (Instr.lookup 60 (.map (some mb)) (.string x.o.path) false).run Tryz.prog W8 = .ok (.int .i64 0) W8 := hlk
          clear hb8 hg8 hB8 HBW HOR HBLK HLT HR HCL HOE HMP hlk HB6r
          generalize wr.heap.size = p9 at *
          go_upto_region 13 with (refine wp_putG rfl _ _ _ rfl rfl HMP8.out x.o.path 1 rfl rfl hpz trivial (Nat.lt_of_le_of_lt kv90 (by decide)) ?_; intro W9 hm9 hg9)
          have HB69 := Lib.hid (HB68.out.grown hg9 (by have := HMP8.out.lt; omega) (fun j hj => by cases hj; exact Nat.le_refl _))
          have HX9 : Hid (W9.heap[p9]? = some (.cells (ouC x).toArray 54 (0, 0))) := (hg9.block p9 HP9.out.2 (by simp; exact HP9.out.1)).trans HX8.out
          have HMP9 : Hid (MapG IC W9 mb (k + 1) (seenF ((V.take (k + 1)).map fun x => x.o.path))) := hm9.congr (fun z => HSTP.out z)
          have HP9L : Hid (p9 ≠ mb ∧ p9 < W9.heap.size) := ⟨HP9.out.1, Nat.lt_of_lt_of_le HP9.out.2 hg9.size⟩
          have HBLK9 : Hid (W9.heap[w.heap.size]? = _) := (HBO.out W9 HB69.out).2.2.1
          have HSE : Hid (seenF ((V.take (k + 1)).map fun x => x.o.path) x.o.path = some 1) := by have := HSTP.out x.o.path; rw [if_pos rfl] at this; exact this.symm
          clear hm9 hg9 HMP8 HX8 HB68 HP9 hc0 hlk2 HNEW HSTP
          go_upto_region 15 with (refine wp_loadB rfl 23 _ rfl w.heap.size rfl HBLK9.out _ Tryz.underlying23 rfl (by kernel_rfl) ?_)
          have HKX := Lib.hid (HKO.out _ HMEM.out)
          have HFS3 : Hid (∀ i, i < 3 → FS w ((#[.slice aa T.a.length ca, .slice ab T.b.length cb, .slice ac T.c.length cc] : Array Value).getD i undef) (T.get i)) := by
            intro i hi
            rcases i with _ | _ | _ | i
            · exact HFA.out
            · exact HFB.out
            · exact HFC.out
            · omega
          clear HBLK9
          go_loopw [10, 55] (fun nv iv wx => ∃ i : Nat, i ≤ 3 ∧ iv = .int .i64 i ∧ ∃ n : Nat, nv = .int .i64 n ∧ Hid (n ≤ i) ∧ Hid (n = 0 → ∀ j, j < i → ∀ f, fiAt (T.get j) x.o.path = some f → f.id ≠ x.o.id) ∧ Hid (Below mb W6 wx) ∧ Hid (MapG IC wx mb (k + 1) (seenF ((V.take (k + 1)).map fun x => x.o.path))) ∧ Hid (wx.heap[p9]? = some (.cells (ouC x).toArray 54 (0, 0))) ∧ Hid (p9 < wx.heap.size)) (fun _ iv _ => (3 - intOf iv).toNat)
          case atStart => exact ⟨0, by decide, rfl, 0, rfl, Nat.le_refl 0, fun _ j hj => absurd hj (Nat.not_lt_zero _), HB69, HMP9, HX9, HP9L.out.2⟩
          case round =>
            clear HB69 HMP9 HX9
            obtain ⟨i, hi, rfl, n, rfl, HNI, HN0, HB6i, HMPi, HXi, HPi⟩ := hrel
            by_cases hlt : i < 3
            · -- @dev{ L2
              have d1 : decide ((i : Int) < 3) = true := decide_eq_true (by omega)
              have d2 : decide (i < 3) = true := decide_eq_true hlt
              have d3 : (0 : Int) ≤ (i : Int) := by omega
              have d4 : (i : Int) < 3 := by omega
              have dw : IntKind.i64.wrap ((i : Int) + 1) = ((i + 1 : Nat) : Int) := IntWalk.i64_in _ (by omega)
              have hni := HNI.out
              have nw : IntKind.i64.wrap ((n : Int) + 1) = ((n + 1 : Nat) : Int) := IntWalk.i64_in _ (by omega)
              obtain ⟨fv, hfv⟩ : ∃ fv, (#[.slice aa T.a.length ca, .slice ab T.b.length cb, .slice ac T.c.length cc] : Array Value).getD i undef = fv := ⟨_, rfl⟩
              have hfi := HFS3.out i hlt
              rw [hfv] at hfi
              have hix : ∀ W : World, (Instr.index 23 (.agg #[.slice aa T.a.length ca, .slice ab T.b.length cb, .slice ac T.c.length cc]) (.int .i64 i)).run Tryz.prog W = .ok fv W := run_index_agg Tryz.underlying23 (by kernel_rfl) (fun w => by simp [isAgg, run_underlying Tryz.underlying22]; try rfl) hlt (by rw [← hfv]; rcases i with _ | _ | _ | i <;> first | rfl | omega)
              have HFI := Lib.hid hfi
              obtain ⟨af, cf, rfl⟩ := hfi.lit
              have hgi : x.o.has.get i = (fiAt (T.get i) x.o.path).isSome := by rw [HKX.out.2.2.1]; exact hasT_get T _ i
              have hii : x.o.ids.get i = idF (fiAt (T.get i) x.o.path) := by rw [HKX.out.2.2.2.1]; exact idsT_get T _ i
              have HGI := Lib.hid hgi
              have HII := Lib.hid hii
              clear hfi hfv hni hgi hii
              go_upto_region 17 with fail
              have hs0 : (wr.drewN 1).cell? ⟨p9, 0, none⟩ = some (.string x.o.path) := (outBlk HXO.out HXi.out).1
              have HWR : Hid (Below w.heap.size w wr ∧ _) := HBO.out wr HB6i.out
              have HPL := Lib.hid (plain_c (w := wr.drewN 1) ((HFI.out.below HWR.out.1).below (below_dN (Below.refl _ wr) 1)))
              refine wp_region_hz (fun W => W.cell? ⟨p9, 0, none⟩ = some (.string x.o.path)) (.tk 0 (.tk 2 (.tk 3 (.fc 1 (.fc 4 (.tk 5 (.nil))))))) (by kernel_rfl) (by kernel_rfl) (fun _ _ _ _ _ h => h) ?_
              refine goZ_tk rfl rfl 59 rfl (.slice af (T.get i).length cf) (fun _ => rfl) ?_
              simp only [List.setIfInBounds_toArray, List.set_cons_zero, List.set_cons_succ]
              refine goZ_tk rfl rfl 61 rfl (.pointer (some ⟨p9, 0, none⟩)) (fun _ => rfl) ?_
              simp only [List.setIfInBounds_toArray, List.set_cons_zero, List.set_cons_succ]
              refine goZ_ld rfl rfl 62 rfl 9 _ rfl ⟨p9, 0, none⟩ (.string x.o.path) rfl (fun W hS => ld_string _ _ W hS) (hs0) ?_
              simp only [List.setIfInBounds_toArray, List.set_cons_zero, List.set_cons_succ]
              refine goZ_call (ds' := [3]) rfl rfl (by kernel_rfl) 60 rfl 15 _ rfl [(.slice af (T.get i).length cf)] rfl (enters_of Tryz.func15 (by kernel_rfl) rfl) ((HPL.out).mono ?_)
              rintro e W11 ⟨pv, rfl, hpf, hb11⟩
              have hs1 := (hb11.cell (p := ⟨p9, 0, none⟩) HPi.out).trans hs0
              have HB11 := Lib.hid hb11
              have HFD := Lib.hid (find_c hpf (p := x.o.path) (Nat.le_trans HXO.out.pz (by decide)))
              clear hpf hb11 HPL
              refine ⟨pv, rfl, fun _ => hs1, ?_⟩
              simp only [List.setIfInBounds_toArray, List.set_cons_zero, List.set_cons_succ]
              refine goZ_call (ds' := []) rfl rfl (by kernel_rfl) 63 rfl 21 _ rfl [pv, (.string x.o.path)] rfl (enters_of Tryz.func21 (by kernel_rfl) rfl) ((HFD.out).mono ?_)
              rintro e W12 ⟨rfl, hb12⟩
              have HB12 := Lib.hid hb12
              clear hb12 HFD
              refine ⟨(.int .i64 (findP x.o.path (T.get i) 0)), rfl, fun h => absurd rfl h, ?_⟩
              simp only [List.setIfInBounds_toArray, List.set_cons_zero, List.set_cons_succ]
              refine goZ_tk rfl rfl 13 rfl (.int .i64 (findP x.o.path (T.get i) 0)) (fun _ => rfl) ?_
              simp only [List.setIfInBounds_toArray, List.set_cons_zero, List.set_cons_succ]
              refine goZ_end ?_
              have HBt : Hid (Below wr.heap.size wr W12) := by
                have h1 := below_dN (Below.refl wr.heap.size wr) 1
                have h2 := h1.trans (HB11.out.mono h1.size)
                exact h2.trans (HB12.out.mono h2.size)
              have HB6t := Lib.hid (HB6i.out.trans (HBt.out.mono (by have := HMPi.out.lt; omega)))
              have HMPt := Lib.hid (HMPi.out.below HBt.out)
              have HXt : Hid (W12.heap[p9]? = some (.cells (ouC x).toArray 54 (0, 0))) := (HBt.out.block p9 HPi.out).trans HXi.out
              have HPt : Hid (p9 < W12.heap.size) := Nat.lt_of_lt_of_le HPi.out HBt.out.size
              have HFt := Lib.hid (HFI.out.below (HBO.out W12 HB6t.out).1)
              clear HB11 HB12 HWR HBt HB6i HMPi HXi HPi hs0 hs1 HFI hix
              obtain ⟨ts, hts⟩ : ∃ ts, T.get i = ts := ⟨_, rfl⟩
              rw [hts] at HFt HGI HII
              rw [hts]
              have HTS := Lib.hid hts
              clear hts
              cases hfa : fiAt ts x.o.path with
              | none =>
                rw [findP_none hfa]
                rw [hfa] at HGI HII
                have HFA0 := Lib.hid hfa
                clear hfa
                go_upto_region 18 with fail
                have hs0 : (W12.drewN 1).cell? ⟨p9, 36 + i, none⟩ = some (.bool false) := by have h1 := ou_has (W := W12) HXt.out HXO.out hlt; rw [HGI.out] at h1; exact h1
                refine wp_region_hz (fun W => W.cell? ⟨p9, 36 + i, none⟩ = some (.bool false)) (.tk 0 (.tk 1 (.tk 2 (.tk 3 (.tk 4 (.tk 5 (.tk 6 (.tk 7 (.tk 8 (.tk 9 (.tk 10 (.tk 11 (.tk 12 (.tk 13 (.tk 14 (.tk 15 (.tk 16 (.tk 17 (.tk 18 (.tk 19 (.tk 20 (.tk 21 (.tk 22 (.nil)))))))))))))))))))))))) (by kernel_rfl) (by kernel_rfl) (fun _ _ _ _ _ h => h) ?_
                refine goZ_tk rfl rfl 64 rfl (.int .i64 i) (fun _ => rfl) ?_
                simp only [List.setIfInBounds_toArray, List.set_cons_zero, List.set_cons_succ]
                refine goZ_tk rfl rfl 65 rfl (.pointer (some ⟨p9, 36, none⟩)) (fun _ => rfl) ?_
                simp only [List.setIfInBounds_toArray, List.set_cons_zero, List.set_cons_succ]
                refine goZ_tk rfl rfl 66 rfl (.pointer (some ⟨p9, 36 + i, none⟩)) (fun _ => by go_simp) ?_
                simp only [List.setIfInBounds_toArray, List.set_cons_zero, List.set_cons_succ]
                refine goZ_ld rfl rfl 67 rfl 4 _ rfl ⟨p9, 36 + i, none⟩ (.bool false) rfl (fun W hS => ld_bool _ _ W hS) (hs0) ?_
                simp only [List.setIfInBounds_toArray, List.set_cons_zero, List.set_cons_succ]
                refine goZ_tk rfl rfl 68 rfl (.int .i64 (-1)) (fun _ => rfl) ?_
                simp only [List.setIfInBounds_toArray, List.set_cons_zero, List.set_cons_succ]
                refine goZ_tk rfl rfl 69 rfl (.bool false) (fun _ => by go_simp) ?_
                simp only [List.setIfInBounds_toArray, List.set_cons_zero, List.set_cons_succ]
                refine goZ_tk rfl rfl 70 rfl (.bool false) (fun _ => by go_simp) ?_
                simp only [List.setIfInBounds_toArray, List.set_cons_zero, List.set_cons_succ]
                refine goZ_tk rfl rfl 71 rfl (.bool false) (fun _ => rfl) ?_
                simp only [List.setIfInBounds_toArray, List.set_cons_zero, List.set_cons_succ]
                refine goZ_tk rfl rfl 72 rfl (.int .i64 (-1)) (fun _ => rfl) ?_
                simp only [List.setIfInBounds_toArray, List.set_cons_zero, List.set_cons_succ]
                refine goZ_tk rfl rfl 73 rfl (.bool false) (fun _ => by go_simp) ?_
                simp only [List.setIfInBounds_toArray, List.set_cons_zero, List.set_cons_succ]
                refine goZ_tk rfl rfl 74 rfl (.bool false) (fun _ => rfl) ?_
                simp only [List.setIfInBounds_toArray, List.set_cons_zero, List.set_cons_succ]
                refine goZ_no rfl rfl 75 rfl ?_
                simp only [List.setIfInBounds_toArray, List.set_cons_zero, List.set_cons_succ]
                refine goZ_no rfl rfl 76 rfl ?_
                simp only [List.setIfInBounds_toArray, List.set_cons_zero, List.set_cons_succ]
                refine goZ_no rfl rfl 77 rfl ?_
                simp only [List.setIfInBounds_toArray, List.set_cons_zero, List.set_cons_succ]
                refine goZ_no rfl rfl 78 rfl ?_
                simp only [List.setIfInBounds_toArray, List.set_cons_zero, List.set_cons_succ]
                refine goZ_no rfl rfl 79 rfl ?_
                simp only [List.setIfInBounds_toArray, List.set_cons_zero, List.set_cons_succ]
                refine goZ_no rfl rfl 80 rfl ?_
                simp only [List.setIfInBounds_toArray, List.set_cons_zero, List.set_cons_succ]
                refine goZ_no rfl rfl 81 rfl ?_
                simp only [List.setIfInBounds_toArray, List.set_cons_zero, List.set_cons_succ]
                refine goZ_no rfl rfl 82 rfl ?_
                simp only [List.setIfInBounds_toArray, List.set_cons_zero, List.set_cons_succ]
                refine goZ_no rfl rfl 83 rfl ?_
                simp only [List.setIfInBounds_toArray, List.set_cons_zero, List.set_cons_succ]
                refine goZ_no rfl rfl 84 rfl ?_
                simp only [List.setIfInBounds_toArray, List.set_cons_zero, List.set_cons_succ]
                refine goZ_tk rfl rfl 85 rfl (.bool false) (fun _ => rfl) ?_
                simp only [List.setIfInBounds_toArray, List.set_cons_zero, List.set_cons_succ]
                refine goZ_tk rfl rfl 86 rfl (.bool false) (fun _ => rfl) ?_
                simp only [List.setIfInBounds_toArray, List.set_cons_zero, List.set_cons_succ]
                refine goZ_end ?_
                have HB6u : Hid (Hid (Below mb W6 ((W12.drewN 1).drewN 1))) := below_dN (below_dN HB6t.out 1) 1
                have HMPu : Hid (Hid (MapG IC ((W12.drewN 1).drewN 1) mb (k + 1) (seenF ((V.take (k + 1)).map fun x => x.o.path)))) := (HMPt.out.below (below_dN (Below.refl _ W12) 1)).below (below_dN (Below.refl _ (W12.drewN 1)) 1)
                have HXu : Hid (Hid (((W12.drewN 1).drewN 1).heap[p9]? = some (.cells (ouC x).toArray 54 (0, 0)))) := HXt.out
                have HPu : Hid (Hid (p9 < ((W12.drewN 1).drewN 1).heap.size)) := HPt.out
                have HN0u : Hid (Hid (n = 0 → ∀ j, j < i + 1 → ∀ f, fiAt (T.get j) x.o.path = some f → f.id ≠ x.o.id)) := fun h0 j hj f hf => by
                  by_cases e : j = i
                  · subst e; rw [HTS.out, HFA0.out] at hf; cases hf
                  · exact HN0.out h0 j (by omega) f hf
                have HNIu : Hid (Hid (n ≤ i + 1)) := Nat.le_succ_of_le HNI.out
                go_upto_region 20 with fail
                refine wp_region_hz (fun _ => True) (.tk 0 (.tk 1 (.tk 2 (.tk 3 (.tk 4 (.tk 5 (.tk 6 (.tk 7 (.tk 8 (.tk 9 (.tk 10 (.tk 11 (.nil))))))))))))) (by kernel_rfl) (by kernel_rfl) (fun _ _ _ _ _ h => h) ?_
                refine goZ_tk rfl rfl 87 rfl (.int .i64 (-1)) (fun _ => rfl) ?_
                simp only [List.setIfInBounds_toArray, List.set_cons_zero, List.set_cons_succ]
                refine goZ_tk rfl rfl 88 rfl (.bool false) (fun _ => by go_simp) ?_
                simp only [List.setIfInBounds_toArray, List.set_cons_zero, List.set_cons_succ]
                refine goZ_tk rfl rfl 89 rfl (.bool false) (fun _ => rfl) ?_
                simp only [List.setIfInBounds_toArray, List.set_cons_zero, List.set_cons_succ]
                refine goZ_no rfl rfl 90 rfl ?_
                simp only [List.setIfInBounds_toArray, List.set_cons_zero, List.set_cons_succ]
                refine goZ_no rfl rfl 91 rfl ?_
                simp only [List.setIfInBounds_toArray, List.set_cons_zero, List.set_cons_succ]
                refine goZ_no rfl rfl 92 rfl ?_
                simp only [List.setIfInBounds_toArray, List.set_cons_zero, List.set_cons_succ]
                refine goZ_no rfl rfl 93 rfl ?_
                simp only [List.setIfInBounds_toArray, List.set_cons_zero, List.set_cons_succ]
                refine goZ_no rfl rfl 94 rfl ?_
                simp only [List.setIfInBounds_toArray, List.set_cons_zero, List.set_cons_succ]
                refine goZ_no rfl rfl 95 rfl ?_
                simp only [List.setIfInBounds_toArray, List.set_cons_zero, List.set_cons_succ]
                refine goZ_no rfl rfl 96 rfl ?_
                simp only [List.setIfInBounds_toArray, List.set_cons_zero, List.set_cons_succ]
                refine goZ_no rfl rfl 97 rfl ?_
                simp only [List.setIfInBounds_toArray, List.set_cons_zero, List.set_cons_succ]
                refine goZ_tk rfl rfl 98 rfl (.bool false) (fun _ => rfl) ?_
                simp only [List.setIfInBounds_toArray, List.set_cons_zero, List.set_cons_succ]
                refine goZ_end ?_
                clear hs0 HB6t HMPt HXt HPt HN0 HNI
                generalize (W12.drewN 1).drewN 1 = W13 at *
                go_wp2_with fail
                go_roundw
                case rel => exact ⟨i + 1, hlt, by go_num, n, rfl, HNIu.out, HN0u.out, HB6u.out, HMPu.out, HXu.out, HPu.out⟩
                case measure => simp [intOf]; omega
              | some f =>
                obtain ⟨m, hm1, hm2⟩ := findP_some (k := 0) hfa
                rw [Nat.zero_add] at hm1
                rw [hm1]
                rw [hfa] at HGI HII
                obtain ⟨hml, hmf⟩ := List.getElem?_eq_some_iff.1 hm2
                obtain ⟨fb, fo, c2', e, hfl, hfr⟩ := HFt.out.at hml
                injection e with e1 _ e2
                subst e1 e2
                have HFK : Hid (OkFi f) := by show OkFi f; rw [← hmf]; exact HFt.out.ok _ (List.getElem_mem hml)
                have HRD : Hid (W12.rangeAt fb (fo + m * 34 + 1) (nb f.id)) := fun j u hu => by
                  rw [Nat.add_assoc]
                  refine hfr m hml (1 + j) u ?_
                  rw [hmf]
                  unfold fiC
                  rw [show 1 + j = j + 1 by omega, List.getElem?_cons_succ, List.getElem?_append_left (List.getElem?_eq_some_iff.1 hu).1]; exact hu
                have z0 : decide ((m : Int) ≥ 0) = true := decide_eq_true (by omega)
                have z1 : decide ((0 : Int) ≤ (m : Int)) = true := decide_eq_true (by omega)
                have z2 : (0 : Int) ≤ (m : Int) := by omega
                have z3 : (m : Int) < (ts.length : Int) := by omega
                have HFA0 := Lib.hid hfa
                clear hm1 hm2 hmf hfr hfl hfa
                go_upto_region 18 with fail
                have hs0 : (W12.drewN 1).cell? ⟨p9, 36 + i, none⟩ = some (.bool true) ∧ (W12.drewN 1).rangeAt fb (fo + m * 34 + 1) (nb f.id) ∧ (W12.drewN 1).rangeAt p9 (39 + i * 32) (nb f.id) := by
                  have h1 := ou_has (W := W12) HXt.out HXO.out hlt
                  rw [HGI.out] at h1
                  have h2 := ou_ids (W := W12) HXt.out HXO.out hlt
                  rw [HII.out] at h2
                  exact ⟨h1, HRD.out, h2⟩
                refine wp_region_hz (fun W => W.cell? ⟨p9, 36 + i, none⟩ = some (.bool true) ∧ W.rangeAt fb (fo + m * 34 + 1) (nb f.id) ∧ W.rangeAt p9 (39 + i * 32) (nb f.id)) (.tk 0 (.tk 1 (.tk 2 (.tk 3 (.tk 4 (.tk 5 (.tk 6 (.tk 7 (.tk 8 (.tk 9 (.tk 10 (.tk 11 (.tk 12 (.tk 13 (.tk 14 (.tk 15 (.tk 16 (.tk 17 (.tk 18 (.tk 19 (.tk 20 (.tk 21 (.tk 22 (.nil)))))))))))))))))))))))) (by kernel_rfl) (by kernel_rfl) (fun _ _ _ _ _ h => h) ?_
                refine goZ_tk rfl rfl 64 rfl (.int .i64 i) (fun _ => rfl) ?_
                simp only [List.setIfInBounds_toArray, List.set_cons_zero, List.set_cons_succ]
                refine goZ_tk rfl rfl 65 rfl (.pointer (some ⟨p9, 36, none⟩)) (fun _ => rfl) ?_
                simp only [List.setIfInBounds_toArray, List.set_cons_zero, List.set_cons_succ]
                refine goZ_tk rfl rfl 66 rfl (.pointer (some ⟨p9, 36 + i, none⟩)) (fun _ => by go_simp) ?_
                simp only [List.setIfInBounds_toArray, List.set_cons_zero, List.set_cons_succ]
                refine goZ_ld rfl rfl 67 rfl 4 _ rfl ⟨p9, 36 + i, none⟩ (.bool true) rfl (fun W hS => ld_bool _ _ W hS.1) (hs0) ?_
                simp only [List.setIfInBounds_toArray, List.set_cons_zero, List.set_cons_succ]
                refine goZ_tk rfl rfl 68 rfl (.int .i64 m) (fun _ => rfl) ?_
                simp only [List.setIfInBounds_toArray, List.set_cons_zero, List.set_cons_succ]
                refine goZ_tk rfl rfl 69 rfl (.bool true) (fun _ => by go_simp) ?_
                simp only [List.setIfInBounds_toArray, List.set_cons_zero, List.set_cons_succ]
                refine goZ_tk rfl rfl 70 rfl (.bool false) (fun _ => by go_simp) ?_
                simp only [List.setIfInBounds_toArray, List.set_cons_zero, List.set_cons_succ]
                refine goZ_tk rfl rfl 71 rfl (.bool false) (fun _ => rfl) ?_
                simp only [List.setIfInBounds_toArray, List.set_cons_zero, List.set_cons_succ]
                refine goZ_tk rfl rfl 72 rfl (.int .i64 m) (fun _ => rfl) ?_
                simp only [List.setIfInBounds_toArray, List.set_cons_zero, List.set_cons_succ]
                refine goZ_tk rfl rfl 73 rfl (.bool true) (fun _ => by go_simp) ?_
                simp only [List.setIfInBounds_toArray, List.set_cons_zero, List.set_cons_succ]
                refine goZ_tk rfl rfl 74 rfl (.bool true) (fun _ => rfl) ?_
                simp only [List.setIfInBounds_toArray, List.set_cons_zero, List.set_cons_succ]
                refine goZ_tk rfl rfl 75 rfl (.slice (some ⟨fb, fo, none⟩) ts.length cf) (fun _ => rfl) ?_
                simp only [List.setIfInBounds_toArray, List.set_cons_zero, List.set_cons_succ]
                refine goZ_tk rfl rfl 76 rfl (.int .i64 m) (fun _ => rfl) ?_
                simp only [List.setIfInBounds_toArray, List.set_cons_zero, List.set_cons_succ]
                refine goZ_tk rfl rfl 77 rfl (.pointer (some ⟨fb, fo + m * 34, none⟩)) (fun _ => by go_simp) ?_
                simp only [List.setIfInBounds_toArray, List.set_cons_zero, List.set_cons_succ]
                refine goZ_tk rfl rfl 78 rfl (.pointer (some ⟨fb, fo + m * 34 + 1, none⟩)) (fun _ => rfl) ?_
                simp only [List.setIfInBounds_toArray, List.set_cons_zero, List.set_cons_succ]
                refine goZ_ld rfl rfl 79 rfl 43 _ rfl ⟨fb, fo + m * 34 + 1, none⟩ (.agg (nums .u8 f.id)) rfl (fun W hS => ld_id HFK.out.id hS.2.1) (hs0) ?_
                simp only [List.setIfInBounds_toArray, List.set_cons_zero, List.set_cons_succ]
                refine goZ_tk rfl rfl 80 rfl (.int .i64 i) (fun _ => rfl) ?_
                simp only [List.setIfInBounds_toArray, List.set_cons_zero, List.set_cons_succ]
                refine goZ_tk rfl rfl 81 rfl (.pointer (some ⟨p9, 39, none⟩)) (fun _ => rfl) ?_
                simp only [List.setIfInBounds_toArray, List.set_cons_zero, List.set_cons_succ]
                refine goZ_tk rfl rfl 82 rfl (.pointer (some ⟨p9, 39 + i * 32, none⟩)) (fun _ => by go_simp) ?_
                simp only [List.setIfInBounds_toArray, List.set_cons_zero, List.set_cons_succ]
                refine goZ_ld rfl rfl 83 rfl 43 _ rfl ⟨p9, 39 + i * 32, none⟩ (.agg (nums .u8 f.id)) rfl (fun W hS => ld_id HFK.out.id hS.2.2) (hs0) ?_
                simp only [List.setIfInBounds_toArray, List.set_cons_zero, List.set_cons_succ]
                refine goZ_tk rfl rfl 84 rfl (.bool false) (exec_bin _ _ rfl rfl rfl (fun _ => by first | rfl | go_simp) (id_same HFK.out.id)) ?_
                simp only [List.setIfInBounds_toArray, List.set_cons_zero, List.set_cons_succ]
                refine goZ_tk rfl rfl 85 rfl (.bool false) (fun _ => rfl) ?_
                simp only [List.setIfInBounds_toArray, List.set_cons_zero, List.set_cons_succ]
                refine goZ_tk rfl rfl 86 rfl (.bool false) (fun _ => rfl) ?_
                simp only [List.setIfInBounds_toArray, List.set_cons_zero, List.set_cons_succ]
                refine goZ_end ?_
                have hs1 : ((W12.drewN 1).drewN 1).rangeAt fb (fo + m * 34 + 1) (nb f.id) ∧ ((W12.drewN 1).drewN 1).rangeAt p9 2 (nb x.o.id) := ⟨HRD.out, (outBlk HXO.out HXt.out).2.1⟩
                clear hs0
                have HB6u : Hid (Hid (Below mb W6 ((W12.drewN 1).drewN 1))) := below_dN (below_dN HB6t.out 1) 1
                have HMPu : Hid (Hid (MapG IC ((W12.drewN 1).drewN 1) mb (k + 1) (seenF ((V.take (k + 1)).map fun x => x.o.path)))) := (HMPt.out.below (below_dN (Below.refl _ W12) 1)).below (below_dN (Below.refl _ (W12.drewN 1)) 1)
                have HXu : Hid (Hid (((W12.drewN 1).drewN 1).heap[p9]? = some (.cells (ouC x).toArray 54 (0, 0)))) := HXt.out
                have HPu : Hid (Hid (p9 < ((W12.drewN 1).drewN 1).heap.size)) := HPt.out
                go_upto_region 20 with fail
                by_cases hfe : f.id = x.o.id
                · skip
                  have HEQ : Hid (∀ W, (binOp .eql 43 (.agg (nums .u8 f.id)) (.agg (nums .u8 x.o.id))).run Tryz.prog W = .ok (.bool true) W) := fun W => by rw [id_eql HFK.out.id HXO.out.id, decide_eq_true hfe]
                  have HN0u : Hid (Hid (n + 1 = 0 → ∀ j, j < i + 1 → ∀ f, fiAt (T.get j) x.o.path = some f → f.id ≠ x.o.id)) := fun h0 => absurd h0 (Nat.succ_ne_zero _)
                  have HNIu : Hid (Hid (n + 1 ≤ i + 1)) := Nat.succ_le_succ HNI.out
                  refine wp_region_hz (fun W => W.rangeAt fb (fo + m * 34 + 1) (nb f.id) ∧ W.rangeAt p9 2 (nb x.o.id)) (.tk 0 (.tk 1 (.tk 2 (.tk 3 (.tk 4 (.tk 5 (.tk 6 (.tk 7 (.tk 8 (.tk 9 (.tk 10 (.tk 11 (.nil))))))))))))) (by kernel_rfl) (by kernel_rfl) (fun _ _ _ _ _ h => h) ?_
                  refine goZ_tk rfl rfl 87 rfl (.int .i64 m) (fun _ => rfl) ?_
                  simp only [List.setIfInBounds_toArray, List.set_cons_zero, List.set_cons_succ]
                  refine goZ_tk rfl rfl 88 rfl (.bool true) (fun _ => by go_simp) ?_
                  simp only [List.setIfInBounds_toArray, List.set_cons_zero, List.set_cons_succ]
                  refine goZ_tk rfl rfl 89 rfl (.bool true) (fun _ => rfl) ?_
                  simp only [List.setIfInBounds_toArray, List.set_cons_zero, List.set_cons_succ]
                  refine goZ_tk rfl rfl 90 rfl (.slice (some ⟨fb, fo, none⟩) ts.length cf) (fun _ => rfl) ?_
                  simp only [List.setIfInBounds_toArray, List.set_cons_zero, List.set_cons_succ]
                  refine goZ_tk rfl rfl 91 rfl (.int .i64 m) (fun _ => rfl) ?_
                  simp only [List.setIfInBounds_toArray, List.set_cons_zero, List.set_cons_succ]
                  refine goZ_tk rfl rfl 92 rfl (.pointer (some ⟨fb, fo + m * 34, none⟩)) (fun _ => by go_simp) ?_
                  simp only [List.setIfInBounds_toArray, List.set_cons_zero, List.set_cons_succ]
                  refine goZ_tk rfl rfl 93 rfl (.pointer (some ⟨fb, fo + m * 34 + 1, none⟩)) (fun _ => rfl) ?_
                  simp only [List.setIfInBounds_toArray, List.set_cons_zero, List.set_cons_succ]
                  refine goZ_ld rfl rfl 94 rfl 43 _ rfl ⟨fb, fo + m * 34 + 1, none⟩ (.agg (nums .u8 f.id)) rfl (fun W hS => ld_id HFK.out.id hS.1) (hs1) ?_
                  simp only [List.setIfInBounds_toArray, List.set_cons_zero, List.set_cons_succ]
                  refine goZ_tk rfl rfl 95 rfl (.pointer (some ⟨p9, 2, none⟩)) (fun _ => rfl) ?_
                  simp only [List.setIfInBounds_toArray, List.set_cons_zero, List.set_cons_succ]
                  refine goZ_ld rfl rfl 96 rfl 43 _ rfl ⟨p9, 2, none⟩ (.agg (nums .u8 x.o.id)) rfl (fun W hS => ld_id HXO.out.id hS.2) (hs1) ?_
                  simp only [List.setIfInBounds_toArray, List.set_cons_zero, List.set_cons_succ]
                  refine goZ_tk rfl rfl 97 rfl (.bool true) (exec_bin _ _ rfl rfl rfl (fun _ => by first | rfl | go_simp) HEQ.out) ?_
                  simp only [List.setIfInBounds_toArray, List.set_cons_zero, List.set_cons_succ]
                  refine goZ_tk rfl rfl 98 rfl (.bool true) (fun _ => rfl) ?_
                  simp only [List.setIfInBounds_toArray, List.set_cons_zero, List.set_cons_succ]
                  refine goZ_end ?_
                  clear hs1 HB6t HMPt HXt HPt HN0 HNI
                  generalize (W12.drewN 1).drewN 1 = W13 at *
                  go_wp2_with fail
                  go_roundw
                  case rel => exact ⟨i + 1, hlt, by go_num, n + 1, by go_num, HNIu.out, HN0u.out, HB6u.out, HMPu.out, HXu.out, HPu.out⟩
                  case measure => simp [intOf]; omega
                · skip
                  have HEQ : Hid (∀ W, (binOp .eql 43 (.agg (nums .u8 f.id)) (.agg (nums .u8 x.o.id))).run Tryz.prog W = .ok (.bool false) W) := fun W => by rw [id_eql HFK.out.id HXO.out.id, decide_eq_false hfe]
                  have HN0u : Hid (Hid (n = 0 → ∀ j, j < i + 1 → ∀ f, fiAt (T.get j) x.o.path = some f → f.id ≠ x.o.id)) := fun h0 j hj g hg => by
                    by_cases e : j = i
                    · subst e; rw [HTS.out, HFA0.out] at hg; injection hg with hg; rw [← hg]; exact hfe
                    · exact HN0.out h0 j (by omega) g hg
                  have HNIu : Hid (Hid (n ≤ i + 1)) := Nat.le_succ_of_le HNI.out
                  refine wp_region_hz (fun W => W.rangeAt fb (fo + m * 34 + 1) (nb f.id) ∧ W.rangeAt p9 2 (nb x.o.id)) (.tk 0 (.tk 1 (.tk 2 (.tk 3 (.tk 4 (.tk 5 (.tk 6 (.tk 7 (.tk 8 (.tk 9 (.tk 10 (.tk 11 (.nil))))))))))))) (by kernel_rfl) (by kernel_rfl) (fun _ _ _ _ _ h => h) ?_
                  refine goZ_tk rfl rfl 87 rfl (.int .i64 m) (fun _ => rfl) ?_
                  simp only [List.setIfInBounds_toArray, List.set_cons_zero, List.set_cons_succ]
                  refine goZ_tk rfl rfl 88 rfl (.bool true) (fun _ => by go_simp) ?_
                  simp only [List.setIfInBounds_toArray, List.set_cons_zero, List.set_cons_succ]
                  refine goZ_tk rfl rfl 89 rfl (.bool true) (fun _ => rfl) ?_
                  simp only [List.setIfInBounds_toArray, List.set_cons_zero, List.set_cons_succ]
                  refine goZ_tk rfl rfl 90 rfl (.slice (some ⟨fb, fo, none⟩) ts.length cf) (fun _ => rfl) ?_
                  simp only [List.setIfInBounds_toArray, List.set_cons_zero, List.set_cons_succ]
                  refine goZ_tk rfl rfl 91 rfl (.int .i64 m) (fun _ => rfl) ?_
                  simp only [List.setIfInBounds_toArray, List.set_cons_zero, List.set_cons_succ]
                  refine goZ_tk rfl rfl 92 rfl (.pointer (some ⟨fb, fo + m * 34, none⟩)) (fun _ => by go_simp) ?_
                  simp only [List.setIfInBounds_toArray, List.set_cons_zero, List.set_cons_succ]
                  refine goZ_tk rfl rfl 93 rfl (.pointer (some ⟨fb, fo + m * 34 + 1, none⟩)) (fun _ => rfl) ?_
                  simp only [List.setIfInBounds_toArray, List.set_cons_zero, List.set_cons_succ]
                  refine goZ_ld rfl rfl 94 rfl 43 _ rfl ⟨fb, fo + m * 34 + 1, none⟩ (.agg (nums .u8 f.id)) rfl (fun W hS => ld_id HFK.out.id hS.1) (hs1) ?_
                  simp only [List.setIfInBounds_toArray, List.set_cons_zero, List.set_cons_succ]
                  refine goZ_tk rfl rfl 95 rfl (.pointer (some ⟨p9, 2, none⟩)) (fun _ => rfl) ?_
                  simp only [List.setIfInBounds_toArray, List.set_cons_zero, List.set_cons_succ]
                  refine goZ_ld rfl rfl 96 rfl 43 _ rfl ⟨p9, 2, none⟩ (.agg (nums .u8 x.o.id)) rfl (fun W hS => ld_id HXO.out.id hS.2) (hs1) ?_
                  simp only [List.setIfInBounds_toArray, List.set_cons_zero, List.set_cons_succ]
                  refine goZ_tk rfl rfl 97 rfl (.bool false) (exec_bin _ _ rfl rfl rfl (fun _ => by first | rfl | go_simp) HEQ.out) ?_
                  simp only [List.setIfInBounds_toArray, List.set_cons_zero, List.set_cons_succ]
                  refine goZ_tk rfl rfl 98 rfl (.bool false) (fun _ => rfl) ?_
                  simp only [List.setIfInBounds_toArray, List.set_cons_zero, List.set_cons_succ]
                  refine goZ_end ?_
                  clear hs1 HB6t HMPt HXt HPt HN0 HNI
                  generalize (W12.drewN 1).drewN 1 = W13 at *
                  go_wp2_with fail
                  go_roundw
                  case rel => exact ⟨i + 1, hlt, by go_num, n, rfl, HNIu.out, HN0u.out, HB6u.out, HMPu.out, HXu.out, HPu.out⟩
                  case measure => simp [intOf]; omega
            · have hi3 : i = 3 := by omega
              subst hi3
              have e3 : decide (((3 : Nat) : Int) < 3) = false := decide_eq_false (by omega)
              have hbk : Bk wr p9 54 (ouC x) := HXi.out
              have hkd : wr.cell? ⟨p9, 1, none⟩ = some (.int .i64 x.o.kind) := hbk.cell rfl
              have hc0 : wr.cell? ⟨p9, 0, none⟩ = some (.string x.o.path) := hbk.cell rfl
              have hh1 : wr.cell? ⟨p9, 37, none⟩ = some (.bool x.o.has.b) := ou_has hbk HXO.out (i := 1) (by decide)
              have hh2 : wr.cell? ⟨p9, 38, none⟩ = some (.bool x.o.has.c) := ou_has hbk HXO.out (i := 2) (by decide)
              have HI1 : Hid (wr.rangeAt p9 71 (nb x.o.ids.b)) := ou_ids hbk HXO.out (i := 1) (by decide)
              have HI2 : Hid (wr.rangeAt p9 103 (nb x.o.ids.c)) := ou_ids hbk HXO.out (i := 2) (by decide)
              have hlk := HMPi.out.look x.o.path hpz
              rw [HSE.out] at hlk
              have hlk2 : (Instr.lookup 60 (.map (some mb)) (.string x.o.path) false).run Tryz.prog wr = .ok (.int .i64 1) wr := hlk
              have HEQ : Hid (∀ W, (binOp .eql 43 (.agg (nums .u8 x.o.ids.b)) (.agg (nums .u8 x.o.ids.c))).run Tryz.prog W = .ok (.bool (decide (x.o.ids.b = x.o.ids.c))) W) := fun W => id_eql HXO.out.ib HXO.out.ic W
              have HB6v : Hid (Hid (Below mb W6 wr)) := HB6i
              have HMPv : Hid (Hid (MapG IC wr mb (k + 1) (seenF ((V.take (k + 1)).map fun x => x.o.path)))) := HMPi
              have hkx := HKX.out
              have hn1 : x.o.kind = 1 → n ≠ 0 := by
                intro h1 h0
                have hk1 : (decT (textS (l.map toBl)) T x.o.path).kind = 1 := by
                  rcases hkx.2.2.2.2.2 with h | h
                  · omega
                  · rw [← h]; exact h1
                rcases keeps_n hkx.2.1 hk1 with ⟨f, hf, hid⟩ | ⟨f, hf, hid⟩
                · exact HN0.out h0 1 (by decide) f hf (hid.trans hkx.2.2.2.2.1.symm)
                · exact HN0.out h0 2 (by decide) f hf (hid.trans hkx.2.2.2.2.1.symm)
              have hn3 : x.o.kind = 3 → ¬ (x.o.has.b = x.o.has.c ∧ x.o.ids.b = x.o.ids.c) := by
                intro h3
                have hk3 : (decT (textS (l.map toBl)) T x.o.path).kind = 3 := by
                  rcases hkx.2.2.2.2.2 with h | h
                  · omega
                  · rw [← h]; exact h3
                rw [hkx.2.2.1, hkx.2.2.2.1]
                exact keeps_clash hk3
              clear hbk hlk hkx HB6i HMPi HXi HPi HN0 HNI
              by_cases hA : x.o.kind = 1
              · have a1 : ((x.o.kind : Int) == 1) = true := beq_iff_eq.2 (by omega)
                have a2 : ((n : Int) == 0) = false := beq_eq_false_iff_ne.2 (by have := hn1 hA; omega)
                have a3 : ((x.o.kind : Int) == 3) = false := beq_eq_false_iff_ne.2 (by omega)
                clear hn1 hn3 hA
                go_wp2_with fail
                go_roundw
                case rel => exact ⟨k + 1, hkl, by go_num, HB6v.out, HMPv.out⟩
                case measure => simp [intOf]; omega
              · have a1 : ((x.o.kind : Int) == 1) = false := beq_eq_false_iff_ne.2 (by omega)
                by_cases hB : x.o.kind = 3
                · have a3 : ((x.o.kind : Int) == 3) = true := beq_iff_eq.2 (by omega)
                  by_cases hI : x.o.ids.b = x.o.ids.c
                  · rw [decide_eq_true hI] at HEQ
                    have hne : x.o.has.b ≠ x.o.has.c := fun e => hn3 hB ⟨e, hI⟩
                    obtain ⟨p1, hp1⟩ : ∃ p1, x.o.has.b = p1 := ⟨_, rfl⟩
                    obtain ⟨p2, hp2⟩ : ∃ p2, x.o.has.c = p2 := ⟨_, rfl⟩
                    rw [hp1] at hh1 hne
                    rw [hp2] at hh2 hne
                    have hpq : (p1 == p2) = false := beq_eq_false_iff_ne.2 hne
                    clear hn1 hn3 hA hB hI hp1 hp2 hne
                    -- @dev{ KE
                    go_upto_region 23 with fail
                    refine goP_start ?_
                    refine goP_tk rfl 102 rfl (.pointer (some ⟨p9, 1, none⟩)) (rfl) ?_
                    simp only [List.setIfInBounds_toArray, List.set_cons_zero, List.set_cons_succ]
                    refine goP_ld rfl 103 rfl 3 _ rfl ⟨p9, 1, none⟩ (.int .i64 x.o.kind) rfl (ld_int _ _ _ hkd) ?_
                    simp only [List.setIfInBounds_toArray, List.set_cons_zero, List.set_cons_succ]
                    refine goP_tk rfl 104 rfl (.bool false) (by go_simp) ?_
                    simp only [List.setIfInBounds_toArray, List.set_cons_zero, List.set_cons_succ]
                    refine goP_mv rfl 105 rfl _ rfl (.bool false) rfl ?_
                    simp only [List.setIfInBounds_toArray, List.set_cons_zero, List.set_cons_succ]
                    refine goP_no rfl 106 rfl ?_
                    simp only [List.setIfInBounds_toArray, List.set_cons_zero, List.set_cons_succ]
                    refine goP_no rfl 107 rfl ?_
                    simp only [List.setIfInBounds_toArray, List.set_cons_zero, List.set_cons_succ]
                    refine goP_pk rfl 108 rfl _ _ _ rfl false rfl (.bool false) rfl ?_
                    simp only [List.setIfInBounds_toArray, List.set_cons_zero, List.set_cons_succ]
                    refine goP_mv rfl 109 rfl _ rfl (.bool false) rfl ?_
                    simp only [List.setIfInBounds_toArray, List.set_cons_zero, List.set_cons_succ]
                    refine goP_tk rfl 110 rfl (.pointer (some ⟨p9, 1, none⟩)) (rfl) ?_
                    simp only [List.setIfInBounds_toArray, List.set_cons_zero, List.set_cons_succ]
                    refine goP_ld rfl 111 rfl 3 _ rfl ⟨p9, 1, none⟩ (.int .i64 x.o.kind) rfl (ld_int _ _ _ hkd) ?_
                    simp only [List.setIfInBounds_toArray, List.set_cons_zero, List.set_cons_succ]
                    refine goP_tk rfl 112 rfl (.bool true) (by go_simp) ?_
                    simp only [List.setIfInBounds_toArray, List.set_cons_zero, List.set_cons_succ]
                    refine goP_mv rfl 113 rfl _ rfl (.bool true) rfl ?_
                    simp only [List.setIfInBounds_toArray, List.set_cons_zero, List.set_cons_succ]
                    refine goP_tk rfl 114 rfl (.pointer (some ⟨p9, 39, none⟩)) (rfl) ?_
                    simp only [List.setIfInBounds_toArray, List.set_cons_zero, List.set_cons_succ]
                    refine goP_tk rfl 115 rfl (.pointer (some ⟨p9, 71, none⟩)) (by go_simp) ?_
                    simp only [List.setIfInBounds_toArray, List.set_cons_zero, List.set_cons_succ]
                    refine goP_ld rfl 116 rfl 43 _ rfl ⟨p9, 71, none⟩ (.agg (nums .u8 x.o.ids.b)) rfl (ld_id HXO.out.ib HI1.out) ?_
                    simp only [List.setIfInBounds_toArray, List.set_cons_zero, List.set_cons_succ]
                    refine goP_tk rfl 117 rfl (.pointer (some ⟨p9, 39, none⟩)) (rfl) ?_
                    simp only [List.setIfInBounds_toArray, List.set_cons_zero, List.set_cons_succ]
                    refine goP_tk rfl 118 rfl (.pointer (some ⟨p9, 103, none⟩)) (by go_simp) ?_
                    simp only [List.setIfInBounds_toArray, List.set_cons_zero, List.set_cons_succ]
                    refine goP_ld rfl 119 rfl 43 _ rfl ⟨p9, 103, none⟩ (.agg (nums .u8 x.o.ids.c)) rfl (ld_id HXO.out.ic HI2.out) ?_
                    simp only [List.setIfInBounds_toArray, List.set_cons_zero, List.set_cons_succ]
                    refine goP_tk rfl 120 rfl (.bool true) (exec_bin _ _ rfl rfl rfl (fun _ => by first | rfl | go_simp) HEQ.out _) ?_
                    simp only [List.setIfInBounds_toArray, List.set_cons_zero, List.set_cons_succ]
                    refine goP_pk rfl 121 rfl _ _ _ rfl true rfl (.bool true) rfl ?_
                    simp only [List.setIfInBounds_toArray, List.set_cons_zero, List.set_cons_succ]
                    refine goP_mv rfl 122 rfl _ rfl (.bool true) rfl ?_
                    simp only [List.setIfInBounds_toArray, List.set_cons_zero, List.set_cons_succ]
                    refine goP_tk rfl 123 rfl (.pointer (some ⟨p9, 36, none⟩)) (rfl) ?_
                    simp only [List.setIfInBounds_toArray, List.set_cons_zero, List.set_cons_succ]
                    refine goP_tk rfl 124 rfl (.pointer (some ⟨p9, 37, none⟩)) (by go_simp) ?_
                    simp only [List.setIfInBounds_toArray, List.set_cons_zero, List.set_cons_succ]
                    refine goP_ld rfl 125 rfl 4 _ rfl ⟨p9, 37, none⟩ (.bool p1) rfl (ld_bool _ _ _ hh1) ?_
                    simp only [List.setIfInBounds_toArray, List.set_cons_zero, List.set_cons_succ]
                    refine goP_tk rfl 126 rfl (.pointer (some ⟨p9, 36, none⟩)) (rfl) ?_
                    simp only [List.setIfInBounds_toArray, List.set_cons_zero, List.set_cons_succ]
                    refine goP_tk rfl 127 rfl (.pointer (some ⟨p9, 38, none⟩)) (by go_simp) ?_
                    simp only [List.setIfInBounds_toArray, List.set_cons_zero, List.set_cons_succ]
                    refine goP_ld rfl 128 rfl 4 _ rfl ⟨p9, 38, none⟩ (.bool p2) rfl (ld_bool _ _ _ hh2) ?_
                    simp only [List.setIfInBounds_toArray, List.set_cons_zero, List.set_cons_succ]
                    refine goP_tk rfl 129 rfl (.bool false) (by go_simp) ?_
                    simp only [List.setIfInBounds_toArray, List.set_cons_zero, List.set_cons_succ]
                    refine goP_pk rfl 130 rfl _ _ _ rfl true rfl (.bool false) rfl ?_
                    simp only [List.setIfInBounds_toArray, List.set_cons_zero, List.set_cons_succ]
                    refine goP_pk rfl 131 rfl _ _ _ rfl false rfl (.bool false) rfl ?_
                    simp only [List.setIfInBounds_toArray, List.set_cons_zero, List.set_cons_succ]
                    refine goP_mv rfl 132 rfl _ rfl (.bool false) rfl ?_
                    simp only [List.setIfInBounds_toArray, List.set_cons_zero, List.set_cons_succ]
                    refine goP_mv rfl 133 rfl _ rfl (.map (some mb)) rfl ?_
                    simp only [List.setIfInBounds_toArray, List.set_cons_zero, List.set_cons_succ]
                    refine goP_tk rfl 134 rfl (.pointer (some ⟨p9, 0, none⟩)) (rfl) ?_
                    simp only [List.setIfInBounds_toArray, List.set_cons_zero, List.set_cons_succ]
                    refine goP_ld rfl 135 rfl 9 _ rfl ⟨p9, 0, none⟩ (.string x.o.path) rfl (ld_string _ _ _ hc0) ?_
                    simp only [List.setIfInBounds_toArray, List.set_cons_zero, List.set_cons_succ]
                    refine goP_tk rfl 136 rfl (.int .i64 1) (exec_lookup rfl rfl rfl hlk2) ?_
                    simp only [List.setIfInBounds_toArray, List.set_cons_zero, List.set_cons_succ]
                    refine goP_tk rfl 137 rfl (.bool false) (by go_simp) ?_
                    simp only [List.setIfInBounds_toArray, List.set_cons_zero, List.set_cons_succ]
                    refine goP_pk rfl 138 rfl _ _ _ rfl false rfl (.bool false) rfl ?_
                    simp only [List.setIfInBounds_toArray, List.set_cons_zero, List.set_cons_succ]
                    refine goP_end ?_
                    go_wp2_with fail
                    go_roundw
                    case rel => exact ⟨k + 1, hkl, by go_num, HB6v.out, HMPv.out⟩
                    case measure => simp [intOf]; omega
                  · rw [decide_eq_false hI] at HEQ
                    clear hn1 hn3 hA hB hI
                    -- @dev{ KN
                    go_upto_region 23 with fail
                    refine goP_start ?_
                    refine goP_tk rfl 102 rfl (.pointer (some ⟨p9, 1, none⟩)) (rfl) ?_
                    simp only [List.setIfInBounds_toArray, List.set_cons_zero, List.set_cons_succ]
                    refine goP_ld rfl 103 rfl 3 _ rfl ⟨p9, 1, none⟩ (.int .i64 x.o.kind) rfl (ld_int _ _ _ hkd) ?_
                    simp only [List.setIfInBounds_toArray, List.set_cons_zero, List.set_cons_succ]
                    refine goP_tk rfl 104 rfl (.bool false) (by go_simp) ?_
                    simp only [List.setIfInBounds_toArray, List.set_cons_zero, List.set_cons_succ]
                    refine goP_mv rfl 105 rfl _ rfl (.bool false) rfl ?_
                    simp only [List.setIfInBounds_toArray, List.set_cons_zero, List.set_cons_succ]
                    refine goP_no rfl 106 rfl ?_
                    simp only [List.setIfInBounds_toArray, List.set_cons_zero, List.set_cons_succ]
                    refine goP_no rfl 107 rfl ?_
                    simp only [List.setIfInBounds_toArray, List.set_cons_zero, List.set_cons_succ]
                    refine goP_pk rfl 108 rfl _ _ _ rfl false rfl (.bool false) rfl ?_
                    simp only [List.setIfInBounds_toArray, List.set_cons_zero, List.set_cons_succ]
                    refine goP_mv rfl 109 rfl _ rfl (.bool false) rfl ?_
                    simp only [List.setIfInBounds_toArray, List.set_cons_zero, List.set_cons_succ]
                    refine goP_tk rfl 110 rfl (.pointer (some ⟨p9, 1, none⟩)) (rfl) ?_
                    simp only [List.setIfInBounds_toArray, List.set_cons_zero, List.set_cons_succ]
                    refine goP_ld rfl 111 rfl 3 _ rfl ⟨p9, 1, none⟩ (.int .i64 x.o.kind) rfl (ld_int _ _ _ hkd) ?_
                    simp only [List.setIfInBounds_toArray, List.set_cons_zero, List.set_cons_succ]
                    refine goP_tk rfl 112 rfl (.bool true) (by go_simp) ?_
                    simp only [List.setIfInBounds_toArray, List.set_cons_zero, List.set_cons_succ]
                    refine goP_mv rfl 113 rfl _ rfl (.bool true) rfl ?_
                    simp only [List.setIfInBounds_toArray, List.set_cons_zero, List.set_cons_succ]
                    refine goP_tk rfl 114 rfl (.pointer (some ⟨p9, 39, none⟩)) (rfl) ?_
                    simp only [List.setIfInBounds_toArray, List.set_cons_zero, List.set_cons_succ]
                    refine goP_tk rfl 115 rfl (.pointer (some ⟨p9, 71, none⟩)) (by go_simp) ?_
                    simp only [List.setIfInBounds_toArray, List.set_cons_zero, List.set_cons_succ]
                    refine goP_ld rfl 116 rfl 43 _ rfl ⟨p9, 71, none⟩ (.agg (nums .u8 x.o.ids.b)) rfl (ld_id HXO.out.ib HI1.out) ?_
                    simp only [List.setIfInBounds_toArray, List.set_cons_zero, List.set_cons_succ]
                    refine goP_tk rfl 117 rfl (.pointer (some ⟨p9, 39, none⟩)) (rfl) ?_
                    simp only [List.setIfInBounds_toArray, List.set_cons_zero, List.set_cons_succ]
                    refine goP_tk rfl 118 rfl (.pointer (some ⟨p9, 103, none⟩)) (by go_simp) ?_
                    simp only [List.setIfInBounds_toArray, List.set_cons_zero, List.set_cons_succ]
                    refine goP_ld rfl 119 rfl 43 _ rfl ⟨p9, 103, none⟩ (.agg (nums .u8 x.o.ids.c)) rfl (ld_id HXO.out.ic HI2.out) ?_
                    simp only [List.setIfInBounds_toArray, List.set_cons_zero, List.set_cons_succ]
                    refine goP_tk rfl 120 rfl (.bool false) (exec_bin _ _ rfl rfl rfl (fun _ => by first | rfl | go_simp) HEQ.out _) ?_
                    simp only [List.setIfInBounds_toArray, List.set_cons_zero, List.set_cons_succ]
                    refine goP_pk rfl 121 rfl _ _ _ rfl true rfl (.bool false) rfl ?_
                    simp only [List.setIfInBounds_toArray, List.set_cons_zero, List.set_cons_succ]
                    refine goP_mv rfl 122 rfl _ rfl (.bool false) rfl ?_
                    simp only [List.setIfInBounds_toArray, List.set_cons_zero, List.set_cons_succ]
                    refine goP_no rfl 123 rfl ?_
                    simp only [List.setIfInBounds_toArray, List.set_cons_zero, List.set_cons_succ]
                    refine goP_no rfl 124 rfl ?_
                    simp only [List.setIfInBounds_toArray, List.set_cons_zero, List.set_cons_succ]
                    refine goP_no rfl 125 rfl ?_
                    simp only [List.setIfInBounds_toArray, List.set_cons_zero, List.set_cons_succ]
                    refine goP_no rfl 126 rfl ?_
                    simp only [List.setIfInBounds_toArray, List.set_cons_zero, List.set_cons_succ]
                    refine goP_no rfl 127 rfl ?_
                    simp only [List.setIfInBounds_toArray, List.set_cons_zero, List.set_cons_succ]
                    refine goP_no rfl 128 rfl ?_
                    simp only [List.setIfInBounds_toArray, List.set_cons_zero, List.set_cons_succ]
                    refine goP_no rfl 129 rfl ?_
                    simp only [List.setIfInBounds_toArray, List.set_cons_zero, List.set_cons_succ]
                    refine goP_pk rfl 130 rfl _ _ _ rfl false rfl (.bool false) rfl ?_
                    simp only [List.setIfInBounds_toArray, List.set_cons_zero, List.set_cons_succ]
                    refine goP_pk rfl 131 rfl _ _ _ rfl false rfl (.bool false) rfl ?_
                    simp only [List.setIfInBounds_toArray, List.set_cons_zero, List.set_cons_succ]
                    refine goP_mv rfl 132 rfl _ rfl (.bool false) rfl ?_
                    simp only [List.setIfInBounds_toArray, List.set_cons_zero, List.set_cons_succ]
                    refine goP_mv rfl 133 rfl _ rfl (.map (some mb)) rfl ?_
                    simp only [List.setIfInBounds_toArray, List.set_cons_zero, List.set_cons_succ]
                    refine goP_tk rfl 134 rfl (.pointer (some ⟨p9, 0, none⟩)) (rfl) ?_
                    simp only [List.setIfInBounds_toArray, List.set_cons_zero, List.set_cons_succ]
                    refine goP_ld rfl 135 rfl 9 _ rfl ⟨p9, 0, none⟩ (.string x.o.path) rfl (ld_string _ _ _ hc0) ?_
                    simp only [List.setIfInBounds_toArray, List.set_cons_zero, List.set_cons_succ]
                    refine goP_tk rfl 136 rfl (.int .i64 1) (exec_lookup rfl rfl rfl hlk2) ?_
                    simp only [List.setIfInBounds_toArray, List.set_cons_zero, List.set_cons_succ]
                    refine goP_tk rfl 137 rfl (.bool false) (by go_simp) ?_
                    simp only [List.setIfInBounds_toArray, List.set_cons_zero, List.set_cons_succ]
                    refine goP_pk rfl 138 rfl _ _ _ rfl false rfl (.bool false) rfl ?_
                    simp only [List.setIfInBounds_toArray, List.set_cons_zero, List.set_cons_succ]
                    refine goP_end ?_
                    -- @dev{ KNe
                    go_wp2_with fail
                    go_roundw
                    case rel => exact ⟨k + 1, hkl, by go_num, HB6v.out, HMPv.out⟩
                    case measure => simp [intOf]; omega
                · have a3 : ((x.o.kind : Int) == 3) = false := beq_eq_false_iff_ne.2 (by omega)
                  clear hn1 hn3 hA hB
                  go_wp2_with fail
                  go_roundw
                  case rel => exact ⟨k + 1, hkl, by go_num, HB6v.out, HMPv.out⟩
                  case measure => simp [intOf]; omega
        · -- @dev{ L3
          have hke : k = V.length := by omega
          subst hke
          have k1 : decide ((V.length : Int) < (V.length : Int)) = false := decide_eq_false (by omega)
          have HMS : Hid (MapG IC wr mb V.length (seenF (V.map fun x => x.o.path))) := by
            have h1 := HMP.out
            rw [List.take_length] at h1; exact h1
          have HFS3 : Hid (∀ i, i < 3 → FS w ((#[.slice aa T.a.length ca, .slice ab T.b.length cb, .slice ac T.c.length cc] : Array Value).getD i undef) (T.get i)) := by
            intro i hi
            rcases i with _ | _ | _ | i
            · exact HFA.out
            · exact HFB.out
            · exact HFC.out
            · omega
          have HGN : Hid (∀ i, i < 3 → ∀ f ∈ T.get i, seenF (V.map fun x => x.o.path) f.path = none → ((hasT T f.path).b && (hasT T f.path).c) = false ∧ ((hasT T f.path).b = true → (hasT T f.path).a = true ∧ (idsT T f.path).a = (idsT T f.path).b) ∧ ((hasT T f.path).c = true → (hasT T f.path).a = true ∧ (idsT T f.path).a = (idsT T f.path).c)) := by
            intro i hi f hf hs
            have hnm : f.path ∉ os.map (·.path) := by
              intro hm
              unfold seenF at hs
              rw [if_pos] at hs
              · cases hs
              · rw [List.any_eq_true]
                have hp : (os.map (·.path)) = V.map (fun x => x.o.path) := by rw [← HV.out, List.map_map]; rfl
                rw [hp] at hm
                exact ⟨f.path, hm, by simp⟩
            refine keeps_side (src := textS (l.map toBl)) (HKG.out f.path ?_ hnm)
            obtain ⟨h1, h2, h3⟩ := chkA_ok HIN.out
            refine (mem_nms ⟨h1.nodup, h2.nodup, h3.nodup⟩ _).2 ?_
            rcases i with _ | _ | _ | i
            · exact .inl (List.mem_map_of_mem hf)
            · exact .inr (.inl (List.mem_map_of_mem hf))
            · exact .inr (.inr (List.mem_map_of_mem hf))
            · omega
          clear HMP HBW HOR HKO HKN HKG HIN HONE hkl
          go_upto_region 27 with (refine wp_loadB rfl 23 _ rfl w.heap.size rfl HBLK.out _ Tryz.underlying23 rfl (by kernel_rfl) ?_)
          clear HBLK HLT
          go_loopw [141] (fun iv wx => ∃ i : Nat, i ≤ 3 ∧ iv = .int .i64 i ∧ Hid (Below mb W6 wx) ∧ Hid (MapG IC wx mb V.length (seenF (V.map fun x => x.o.path)))) (fun iv _ => (3 - intOf iv).toNat)
          case atStart => exact ⟨0, by decide, rfl, HB6r, HMS⟩
          case round =>
            clear HB6r HMS k1
            obtain ⟨i, hi, rfl, HB6i, HMPi⟩ := hrel
            by_cases hlt : i < 3
            · have d1 : decide ((i : Int) < 3) = true := decide_eq_true (by omega)
              have d2 : decide (i < 3) = true := decide_eq_true hlt
              have d3 : (0 : Int) ≤ (i : Int) := by omega
              have d4 : (i : Int) < 3 := by omega
              have dw : IntKind.i64.wrap ((i : Int) + 1) = ((i + 1 : Nat) : Int) := IntWalk.i64_in _ (by omega)
              obtain ⟨fv, hfv⟩ : ∃ fv, (#[.slice aa T.a.length ca, .slice ab T.b.length cb, .slice ac T.c.length cc] : Array Value).getD i undef = fv := ⟨_, rfl⟩
              have hfi := HFS3.out i hlt
              rw [hfv] at hfi
              have hix : ∀ W : World, (Instr.index 23 (.agg #[.slice aa T.a.length ca, .slice ab T.b.length cb, .slice ac T.c.length cc]) (.int .i64 i)).run Tryz.prog W = .ok fv W := run_index_agg Tryz.underlying23 (by kernel_rfl) (fun w => by simp [isAgg, run_underlying Tryz.underlying22]; try rfl) hlt (by rw [← hfv]; rcases i with _ | _ | _ | i <;> first | rfl | omega)
              have HFI := Lib.hid hfi
              obtain ⟨af, cf, rfl⟩ := hfi.lit
              have HGI := Lib.hid (HGN.out i hlt)
              obtain ⟨ts, hts⟩ : ∃ ts, T.get i = ts := ⟨_, rfl⟩
              have hln : ts.length ≤ 90 := by
                have h2 := HN.out
                rw [← hts]
                rcases i with _ | _ | _ | i
                · show T.a.length ≤ 90; omega
                · show T.b.length ≤ 90; omega
                · show T.c.length ≤ 90; omega
                · omega
              rw [hts] at HFI HGI
              rw [hts] at hix
              clear hfi hfv hts
              go_upto_region 30 with fail
              clear hix
              go_loopw [146] (fun jv wx => ∃ j : Nat, j ≤ ts.length ∧ jv = .int .i64 j ∧ Hid (Below mb W6 wx) ∧ Hid (MapG IC wx mb V.length (seenF (V.map fun x => x.o.path)))) (fun jv _ => (ts.length - intOf jv).toNat)
              case atStart => exact ⟨0, Nat.zero_le _, rfl, HB6i, HMPi⟩
              case round =>
                clear HB6i HMPi
                obtain ⟨j, hj, rfl, HB6j, HMPj⟩ := hrel
                by_cases hjl : j < ts.length
                · have c1 : decide ((j : Int) < (ts.length : Int)) = true := decide_eq_true (by omega)
                  have c2 : decide (j < ts.length) = true := decide_eq_true hjl
                  have c3 : (0 : Int) ≤ (j : Int) := by omega
                  have c4 : (j : Int) < (ts.length : Int) := by omega
                  have cw : IntKind.i64.wrap ((j : Int) + 1) = ((j + 1 : Nat) : Int) := IntWalk.i64_in _ (by omega)
                  obtain ⟨b, o, c', e, hbl, hr⟩ := (HFI.out.below (HBO.out wr HB6j.out).1).at hjl
                  injection e with e1 _ e2
                  subst e1 e2
                  have HR : Hid (wr.rangeAt b (o + j * 34) (fiC ts[j])) := hr j hjl
                  have HXO : Hid (OkFi ts[j]) := HFI.out.ok _ (List.getElem_mem hjl)
                  have HCL : Hid ((fiC ts[j]).length = 34) := fiC_len HXO.out
                  have HGJ := Lib.hid (HGI.out ts[j] (List.getElem_mem hjl))
                  clear hr hbl
                  generalize ts[j] = f at *
                  go_upto_region 32 with (first
                    | (refine wpList_load_mid rfl 56 _ rfl b (o + j * 34) rfl (fiC f) _ HR.out Tryz.underlying56 rfl (by rw [HCL.out]; exact file_info) ?_)
                    | (refine wp_storeB rfl 56 _ _ rfl wr.heap.size (fiC f).toArray rfl rfl Array.getElem?_push_size (by rw [fi_sz HCL.out]; first | done | kernel_rfl) (fi_isz HCL.out) fiC_one ?_; intro W8 hb8 hg8))
                  have hB8 : Below wr.heap.size wr W8 := ((Below.refl wr.heap.size wr).alloc (Nat.le_refl _) _).grown hg8 (by simp) (fun k hk => by cases hk; exact Nat.le_refl _)
                  have hmlt : mb < wr.heap.size := HMPj.out.lt
                  have HB68 := Lib.hid (HB6j.out.trans (hB8.mono (Nat.le_of_lt hmlt)))
                  have HMP8 := Lib.hid (HMPj.out.below hB8)
                  have HX8 := Lib.hid hb8
                  have HPM : Hid (mb < wr.heap.size) := hmlt
                  have HPL : Hid (wr.heap.size < W8.heap.size) := (Array.getElem?_eq_some_iff.1 hb8).1
                  have hc0 : W8.cell? ⟨wr.heap.size, 0, none⟩ = some (.string f.path) := by simp only [World.cell?, hb8]; rfl
                  have hpz : f.path.size ≤ maxLen := Nat.le_trans HXO.out.pz (by decide)
                  have hlk := HMP8.out.look f.path hpz
                  clear hb8 hg8 hB8 HR HCL HB6j HMPj hmlt
                  generalize wr.heap.size = p17 at *
                  cases hsf : seenF (V.map fun x => x.o.path) f.path with
                  | some z =>
                    rw [hsf] at hlk
                    have hz1 : z = 1 := by
                      unfold seenF at hsf
                      split at hsf
                      · injection hsf with h; exact h.symm
                      · cases hsf
                    subst hz1
                    have hlk2 : (Instr.lookup 60 (.map (some mb)) (.string f.path) false).run Tryz.prog W8 = .ok (.int .i64 1) W8 := hlk
                    have HB6v : Hid (Hid (Below mb W6 W8)) := HB68
                    have HMPv : Hid (Hid (MapG IC W8 mb V.length (seenF (V.map fun x => x.o.path)))) := HMP8
                    clear hlk HB68 HMP8 HX8 HGJ HPL HPM hsf
                    go_wp2_with fail
                    go_roundw
                    case rel => exact ⟨j + 1, hjl, by go_num, HB6v.out, HMPv.out⟩
                    case measure => simp [intOf]; omega
                  | none =>
                    rw [hsf] at hlk
                    have hlk2 : (Instr.lookup 60 (.map (some mb)) (.string f.path) false).run Tryz.prog W8 = .ok (.int .i64 0) W8 := hlk
                    have HSD := Lib.hid (HGJ.out hsf)
                    clear hlk HGJ hsf
                    obtain ⟨W9, hW9⟩ : ∃ W9, W8.alloc (.cells #[.bool false, .bool false, .bool false] 45 (0, 0)) = W9 := ⟨_, rfl⟩
                    obtain ⟨W10, hW10⟩ : ∃ W10, W9.alloc (.cells (nb zId ++ (nb zId ++ nb zId)).toArray 46 (0, 0)) = W10 := ⟨_, rfl⟩
                    have hs9 : W9.heap.size = W8.heap.size + 1 := by rw [← hW9]; simp
                    have hhi : HI W10 W8.heap.size (W8.heap.size + 1) (hasU T f.path 0) (idsU T f.path 0) := by rw [← hW10, ← hW9]; exact HI.start T f.path
                    have hb10 : Below W8.heap.size W8 W10 := by rw [← hW10]; exact (show Below W8.heap.size W8 W9 by rw [← hW9]; exact (Below.refl _ W8).alloc (Nat.le_refl _) _).alloc (by omega) _
                    have HHI := Lib.hid hhi
                    have HX10 : Hid (W10.heap[p17]? = some (.cells (fiC f).toArray 56 (0, 0))) := (hb10.block p17 HPL.out).trans HX8.out
                    have HB610 := Lib.hid (HB68.out.trans (hb10.mono (by have := HPM.out; have := HPL.out; omega)))
                    have HMP10 := Lib.hid (HMP8.out.below hb10)
                    have HPP : Hid (mb < p17 ∧ p17 < W8.heap.size) := ⟨HPM.out, HPL.out⟩
                    have HW9 := Lib.hid hW9
                    have HW10 := Lib.hid hW10
                    have HS9 := Lib.hid hs9
                    clear hW9 hW10 hs9 hhi hb10 HX8 HB68 HMP8 HPM HPL
                    go_upto_region 34 with fail
                    rw [HW9.out]
                    go_upto_region 35 with fail
                    first | rw [id3_zero, HW10.out] | rw [HW10.out]
                    rw [HS9.out]
                    clear hc0 hlk2 HW9 HW10 HS9
                    generalize W8.heap.size = ph at *
                    obtain ⟨pi, hpi⟩ : ∃ pi, ph + 1 = pi := ⟨_, rfl⟩
                    rw [hpi] at HHI ⊢
                    have HNE : Hid (ph ≠ pi ∧ pi ≠ ph) := by constructor <;> omega
                    have HPQ : Hid (mb < p17 ∧ p17 < ph ∧ ph < pi) := ⟨HPP.out.1, HPP.out.2, by omega⟩
                    clear hpi HPP
                    go_upto_region 36 with fail
                    go_loopw [155] (fun mv wx => ∃ m : Nat, m ≤ 3 ∧ mv = .int .i64 m ∧ Hid (Below mb W6 wx) ∧ Hid (MapG IC wx mb V.length (seenF (V.map fun x => x.o.path))) ∧ Hid (wx.heap[p17]? = some (.cells (fiC f).toArray 56 (0, 0))) ∧ Hid (HI wx ph pi (hasU T f.path m) (idsU T f.path m))) (fun mv _ => (3 - intOf mv).toNat)
                    case atStart => exact ⟨0, by decide, rfl, HB610, HMP10, HX10, HHI⟩
                    case round =>
                      clear HB610 HMP10 HX10 HHI
                      obtain ⟨m, hm, rfl, HB6m, HMPm, HXm, HHm⟩ := hrel
                      by_cases hml : m < 3
                      · -- @dev{ L5
                        have g1 : decide ((m : Int) < 3) = true := decide_eq_true (by omega)
                        have g2 : decide (m < 3) = true := decide_eq_true hml
                        have g3 : (0 : Int) ≤ (m : Int) := by omega
                        have g4 : (m : Int) < 3 := by omega
                        have gw : IntKind.i64.wrap ((m : Int) + 1) = ((m + 1 : Nat) : Int) := IntWalk.i64_in _ (by omega)
                        obtain ⟨hbw, hor, hblk, hltp⟩ := HBO.out wr HB6m.out
                        obtain ⟨sv, hsv⟩ : ∃ sv, (#[.slice aa T.a.length ca, .slice ab T.b.length cb, .slice ac T.c.length cc] : Array Value).getD m undef = sv := ⟨_, rfl⟩
                        have hfs := HFS3.out m hml
                        rw [hsv] at hfs
                        have hcs : wr.cell? ⟨w.heap.size, m, none⟩ = some sv := by
                          simp only [World.cell?, hblk]
                          rw [← hsv]
                          rcases m with _ | _ | _ | m
                          · rfl
                          · rfl
                          · rfl
                          · omega
                        have HCS := Lib.hid hcs
                        have HFM := Lib.hid hfs
                        obtain ⟨as_, cs, rfl⟩ := hfs.lit
                        have HBW := Lib.hid hbw
                        have HLW : Hid (w.heap.size < wr.heap.size ∧ w.heap.size ≤ mb) := ⟨hltp, HMB.out.1⟩
                        clear hbw hor hblk hltp hfs hcs hsv
                        go_upto_region 38 with fail
                        have hs0 : (wr.drewN 1).cell? ⟨w.heap.size, m, none⟩ = some (.slice as_ (T.get m).length cs) ∧ (wr.drewN 1).cell? ⟨p17, 0, none⟩ = some (.string f.path) := ⟨HCS.out, by show wr.cell? _ = _; simp only [World.cell?, HXm.out]; rfl⟩
                        have HPL := Lib.hid (plain_c (w := wr.drewN 1) ((HFM.out.below HBW.out).below (below_dN (Below.refl _ wr) 1)))
                        have HPLT : Hid (p17 < (wr.drewN 1).heap.size) := (Array.getElem?_eq_some_iff.1 HXm.out).1
                        refine wp_region_hz (fun W => W.cell? ⟨w.heap.size, m, none⟩ = some (.slice as_ (T.get m).length cs) ∧ W.cell? ⟨p17, 0, none⟩ = some (.string f.path)) (.tk 0 (.tk 1 (.tk 2 (.tk 4 (.tk 5 (.fc 3 (.fc 6 (.tk 7 (.nil))))))))) (by kernel_rfl) (by kernel_rfl) (fun _ _ _ _ _ h => h) ?_
                        refine goZ_tk rfl rfl 158 rfl (.int .i64 m) (fun _ => rfl) ?_
                        simp only [List.setIfInBounds_toArray, List.set_cons_zero, List.set_cons_succ]
                        refine goZ_tk rfl rfl 159 rfl (.pointer (some ⟨w.heap.size, m, none⟩)) (fun _ => by go_simp) ?_
                        simp only [List.setIfInBounds_toArray, List.set_cons_zero, List.set_cons_succ]
                        refine goZ_ld rfl rfl 160 rfl 22 _ rfl ⟨w.heap.size, m, none⟩ (.slice as_ (T.get m).length cs) rfl (fun W hS => ld_files _ _ _ _ W hS.1) (hs0) ?_
                        simp only [List.setIfInBounds_toArray, List.set_cons_zero, List.set_cons_succ]
                        refine goZ_tk rfl rfl 162 rfl (.pointer (some ⟨p17, 0, none⟩)) (fun _ => rfl) ?_
                        simp only [List.setIfInBounds_toArray, List.set_cons_zero, List.set_cons_succ]
                        refine goZ_ld rfl rfl 163 rfl 9 _ rfl ⟨p17, 0, none⟩ (.string f.path) rfl (fun W hS => ld_string _ _ W hS.2) (hs0) ?_
                        simp only [List.setIfInBounds_toArray, List.set_cons_zero, List.set_cons_succ]
                        refine goZ_call (ds' := [5]) rfl rfl (by kernel_rfl) 161 rfl 15 _ rfl [(.slice as_ (T.get m).length cs)] rfl (enters_of Tryz.func15 (by kernel_rfl) rfl) ((HPL.out).mono ?_)
                        rintro e W11 ⟨pv, rfl, hpf, hb11⟩
                        have hs1 : W11.cell? ⟨w.heap.size, m, none⟩ = some (.slice as_ (T.get m).length cs) ∧ W11.cell? ⟨p17, 0, none⟩ = some (.string f.path) := ⟨(hb11.cell (p := ⟨w.heap.size, m, none⟩) HLW.out.1).trans hs0.1, (hb11.cell (p := ⟨p17, 0, none⟩) HPLT.out).trans hs0.2⟩
                        have HB11 := Lib.hid hb11
                        have HFD := Lib.hid (find_c hpf (p := f.path) (Nat.le_trans HXO.out.pz (by decide)))
                        clear hpf hb11 HPL
                        refine ⟨pv, rfl, fun _ => hs1, ?_⟩
                        simp only [List.setIfInBounds_toArray, List.set_cons_zero, List.set_cons_succ]
                        refine goZ_call (ds' := []) rfl rfl (by kernel_rfl) 164 rfl 21 _ rfl [pv, (.string f.path)] rfl (enters_of Tryz.func21 (by kernel_rfl) rfl) ((HFD.out).mono ?_)
                        rintro e W12 ⟨rfl, hb12⟩
                        have HB12 := Lib.hid hb12
                        clear hb12 HFD
                        refine ⟨(.int .i64 (findP f.path (T.get m) 0)), rfl, fun h => absurd rfl h, ?_⟩
                        simp only [List.setIfInBounds_toArray, List.set_cons_zero, List.set_cons_succ]
                        refine goZ_tk rfl rfl 21 rfl (.int .i64 (findP f.path (T.get m) 0)) (fun _ => rfl) ?_
                        simp only [List.setIfInBounds_toArray, List.set_cons_zero, List.set_cons_succ]
                        refine goZ_end ?_
                        have HBt : Hid (Below wr.heap.size wr W12) := by
                          have h1 := below_dN (Below.refl wr.heap.size wr) 1
                          have h2 := h1.trans (HB11.out.mono h1.size)
                          exact h2.trans (HB12.out.mono h2.size)
                        have HB6t := Lib.hid (HB6m.out.trans (HBt.out.mono (by have := HMPm.out.lt; omega)))
                        have HMPt := Lib.hid (HMPm.out.below HBt.out)
                        have HXt : Hid (W12.heap[p17]? = some (.cells (fiC f).toArray 56 (0, 0))) := (HBt.out.block p17 HPLT.out).trans HXm.out
                        have HHt := Lib.hid (HHm.out.below HBt.out)
                        have HCt : Hid (W12.cell? ⟨w.heap.size, m, none⟩ = some (.slice as_ (T.get m).length cs)) := (HBt.out.cell (p := ⟨w.heap.size, m, none⟩) HLW.out.1).trans HCS.out
                        have HFt := Lib.hid (HFM.out.below (HBO.out W12 HB6t.out).1)
                        clear HB11 HB12 HBW HBt HB6m HMPm HXm HHm hs0 hs1 HCS HPLT
                        cases hfa : fiAt (T.get m) f.path with
                        | none =>
                          rw [findP_none hfa]
                          obtain ⟨hu1, hu2⟩ := hasU_none hml hfa
                          have HHu : Hid (Hid (HI W12 ph pi (hasU T f.path (m + 1)) (idsU T f.path (m + 1)))) := by show HI _ _ _ _ _; rw [hu1, hu2]; exact HHt.out
                          have HB6u : Hid (Hid (Below mb W6 W12)) := HB6t
                          have HMPu : Hid (Hid (MapG IC W12 mb V.length (seenF (V.map fun x => x.o.path)))) := HMPt
                          have HXu : Hid (Hid (W12.heap[p17]? = some (.cells (fiC f).toArray 56 (0, 0)))) := HXt
                          clear hu1 hu2 HHt HB6t HMPt HXt HCt HFt HFM hfa
                          go_wp2_with fail
                          go_roundw
                          case rel => exact ⟨m + 1, hml, by go_num, HB6u.out, HMPu.out, HXu.out, HHu.out⟩
                          case measure => simp [intOf]; omega
                        | some g =>
                          obtain ⟨q, hq1, hq2⟩ := findP_some (k := 0) hfa
                          rw [Nat.zero_add] at hq1
                          rw [hq1]
                          obtain ⟨hql, hqf⟩ := List.getElem?_eq_some_iff.1 hq2
                          obtain ⟨fb, fo, c2', e, hfl, hfr⟩ := HFt.out.at hql
                          obtain ⟨fb', fo', c3', e', hfl', -⟩ := HFM.out.at hql
                          injection e with e1 _ e2
                          subst e1 e2
                          injection e' with e1' _ _
                          injection e1' with e1'
                          injection e1' with e1' _ _
                          have HFB : Hid (fb < w.heap.size) := by show fb < w.heap.size; rw [e1']; exact hfl'
                          have HGK : Hid (OkFi g) := by show OkFi g; rw [← hqf]; exact HFt.out.ok _ (List.getElem_mem hql)
                          have HRD : Hid (W12.rangeAt fb (fo + q * 34 + 1) (nb g.id)) := fun j u hu => by
                            rw [Nat.add_assoc]
                            refine hfr q hql (1 + j) u ?_
                            rw [hqf]
                            unfold fiC
                            rw [show 1 + j = j + 1 by omega, List.getElem?_cons_succ, List.getElem?_append_left (List.getElem?_eq_some_iff.1 hu).1]; exact hu
                          have z0 : decide ((q : Int) ≥ 0) = true := decide_eq_true (by omega)
                          have z1 : decide ((0 : Int) ≤ (q : Int)) = true := decide_eq_true (by omega)
                          have z2 : (0 : Int) ≤ (q : Int) := by omega
                          have z3 : (q : Int) < ((T.get m).length : Int) := by omega
                          obtain ⟨hu1, hu2⟩ := hasU_some hml hfa
                          have HU := Lib.hid (And.intro hu1 hu2)
                          have HLM : Hid (w.heap.size ≠ ph ∧ fb ≠ ph) := by have := HLW.out.2; have := HPQ.out; have := HFB.out; constructor <;> omega
                          clear hq1 hq2 hqf hfr hfl hfa hfl' e1' hu1 hu2
                          go_upto_region 40 with fail
                          have hs0 : (W12.drewN 1).cell? ⟨w.heap.size, m, none⟩ = some (.slice (some ⟨fb, fo, none⟩) (T.get m).length cs) ∧ (W12.drewN 1).rangeAt fb (fo + q * 34 + 1) (nb g.id) := ⟨HCt.out, HRD.out⟩
                          have hht : HI (W12.drewN 1) ph pi (hasU T f.path m) (idsU T f.path m) := HHt.out.below (below_dN (Below.refl _ W12) 1)
                          obtain ⟨hh6, hg6⟩ := hht.puth HNE.out.2 hml true
                          obtain ⟨hh7, hg7⟩ := hh6.puti HNE.out.1 hml HGK.out.id
                          rw [HU.out.1, HU.out.2] at hh7
                          refine wp_region_hz (fun W => W.cell? ⟨w.heap.size, m, none⟩ = some (.slice (some ⟨fb, fo, none⟩) (T.get m).length cs) ∧ W.rangeAt fb (fo + q * 34 + 1) (nb g.id)) (.tk 0 (.tk 1 (.tk 2 (.tk 3 (.tk 4 (.tk 5 (.tk 6 (.tk 7 (.tk 8 (.tk 9 (.fc 10 (.tk 11 (.fc 12 (.nil)))))))))))))) (by kernel_rfl) (by kernel_rfl) (fun _ _ _ _ _ h => h) ?_
                          refine goZ_tk rfl rfl 167 rfl (.int .i64 m) (fun _ => rfl) ?_
                          simp only [List.setIfInBounds_toArray, List.set_cons_zero, List.set_cons_succ]
                          refine goZ_tk rfl rfl 168 rfl (.int .i64 m) (fun _ => rfl) ?_
                          simp only [List.setIfInBounds_toArray, List.set_cons_zero, List.set_cons_succ]
                          refine goZ_tk rfl rfl 169 rfl (.int .i64 m) (fun _ => rfl) ?_
                          simp only [List.setIfInBounds_toArray, List.set_cons_zero, List.set_cons_succ]
                          refine goZ_tk rfl rfl 170 rfl (.pointer (some ⟨w.heap.size, m, none⟩)) (fun _ => by go_simp) ?_
                          simp only [List.setIfInBounds_toArray, List.set_cons_zero, List.set_cons_succ]
                          refine goZ_ld rfl rfl 171 rfl 22 _ rfl ⟨w.heap.size, m, none⟩ (.slice (some ⟨fb, fo, none⟩) (T.get m).length cs) rfl (fun W hS => ld_files _ _ _ _ W hS.1) (hs0) ?_
                          simp only [List.setIfInBounds_toArray, List.set_cons_zero, List.set_cons_succ]
                          refine goZ_tk rfl rfl 172 rfl (.int .i64 q) (fun _ => rfl) ?_
                          simp only [List.setIfInBounds_toArray, List.set_cons_zero, List.set_cons_succ]
                          refine goZ_tk rfl rfl 173 rfl (.pointer (some ⟨fb, fo + q * 34, none⟩)) (fun _ => by go_simp) ?_
                          simp only [List.setIfInBounds_toArray, List.set_cons_zero, List.set_cons_succ]
                          refine goZ_tk rfl rfl 174 rfl (.pointer (some ⟨fb, fo + q * 34 + 1, none⟩)) (fun _ => rfl) ?_
                          simp only [List.setIfInBounds_toArray, List.set_cons_zero, List.set_cons_succ]
                          refine goZ_ld rfl rfl 175 rfl 43 _ rfl ⟨fb, fo + q * 34 + 1, none⟩ (.agg (nums .u8 g.id)) rfl (fun W hS => ld_id HGK.out.id hS.2) (hs0) ?_
                          simp only [List.setIfInBounds_toArray, List.set_cons_zero, List.set_cons_succ]
                          refine goZ_tk rfl rfl 176 rfl (.pointer (some ⟨ph, m, none⟩)) (fun _ => by go_simp) ?_
                          simp only [List.setIfInBounds_toArray, List.set_cons_zero, List.set_cons_succ]
                          have hs6 : (fun W => W.cell? ⟨w.heap.size, m, none⟩ = some (.slice (some ⟨fb, fo, none⟩) (T.get m).length cs) ∧ W.rangeAt fb (fo + q * 34 + 1) (nb g.id)) ((W12.drewN 1).setCell ⟨ph, m, none⟩ (.bool true)) := ⟨(cell_kept hg6 hs0.1 HLM.out.1), fun j u hu => cell_kept hg6 (hs0.2 j u hu) HLM.out.2⟩
                          refine goZ_st (ds' := [8, 4]) rfl rfl (by kernel_rfl) rfl 4 _ _ rfl ⟨ph, m, none⟩ (.bool true) rfl rfl _ (st_bool3 _ _ _ _ (hht.gh hml) (hht.bh.fz _)) (fun _ => hs6) ?_
                          refine goZ_tk rfl rfl 177 rfl (.pointer (some ⟨pi, m * 32, none⟩)) (fun _ => by go_simp) ?_
                          simp only [List.setIfInBounds_toArray, List.set_cons_zero, List.set_cons_succ]
                          refine goZ_st (ds' := []) rfl rfl (by kernel_rfl) rfl 43 _ _ rfl ⟨pi, m * 32, none⟩ (.agg (nums .u8 g.id)) rfl rfl _ (hh6.st hml HGK.out.id) (fun h => absurd rfl h) ?_
                          refine goZ_end ?_
                          have hd12 : Below W12.heap.size W12 (W12.drewN 1) := below_dN (Below.refl _ W12) 1
                          have hmbW : mb ≤ (W12.drewN 1).heap.size := by have := HMPt.out.lt; show mb ≤ W12.heap.size; omega
                          have HB6u : Hid (Hid (Below mb W6 (((W12.drewN 1).setCell ⟨ph, m, none⟩ (.bool true)).setCells pi (m * 32) (nb g.id)))) := (((HB6t.out.trans (hd12.mono (by have := HMPt.out.lt; omega))).grown hg6 hmbW (fun j hj => by cases hj; have := HPQ.out; omega)).grown hg7 (Nat.le_trans hmbW hg6.size) (fun j hj => by cases hj; have := HPQ.out; omega))
                          have HMPu : Hid (Hid (MapG IC (((W12.drewN 1).setCell ⟨ph, m, none⟩ (.bool true)).setCells pi (m * 32) (nb g.id)) mb V.length (seenF (V.map fun x => x.o.path)))) := ((HMPt.out.below hd12).kept hg6 (by have := HPQ.out; simp; omega)).kept hg7 (by have := HPQ.out; simp; omega)
                          have HXu : Hid (Hid ((((W12.drewN 1).setCell ⟨ph, m, none⟩ (.bool true)).setCells pi (m * 32) (nb g.id)).heap[p17]? = some (.cells (fiC f).toArray 56 (0, 0)))) := by
                            have hl := (Array.getElem?_eq_some_iff.1 HXt.out).1
                            exact ((hg7.block p17 (Nat.lt_of_lt_of_le hl hg6.size) (by have := HPQ.out; simp; omega)).trans (hg6.block p17 hl (by have := HPQ.out; simp; omega))).trans HXt.out
                          have HHu : Hid (Hid (HI (((W12.drewN 1).setCell ⟨ph, m, none⟩ (.bool true)).setCells pi (m * 32) (nb g.id)) ph pi (hasU T f.path (m + 1)) (idsU T f.path (m + 1)))) := hh7
                          clear hs0 hht hh6 hg6 hh7 hg7 hd12 hmbW HHt HB6t HMPt HXt HCt HFt HFM HRD
                          generalize ((W12.drewN 1).setCell ⟨ph, m, none⟩ (.bool true)).setCells pi (m * 32) (nb g.id) = W14 at *
                          go_wp2_with fail
                          go_roundw
                          case rel => exact ⟨m + 1, hml, by go_num, HB6u.out, HMPu.out, HXu.out, HHu.out⟩
                          case measure => simp [intOf]; omega
                      · -- @dev{ L4
                        have hm3 : m = 3 := by omega
                        subst hm3
                        have g1 : decide (((3 : Nat) : Int) < 3) = false := decide_eq_false (by omega)
                        have hhm := HHm.out
                        rw [hasU_all.1, hasU_all.2] at hhm
                        have q0 := hhm.gh (i := 0) (by decide)
                        have q1 := hhm.gh (i := 1) (by decide)
                        have q2 := hhm.gh (i := 2) (by decide)
                        have HI0 := Lib.hid (hhm.gi (i := 0) (by decide))
                        have HI1 := Lib.hid (hhm.gi (i := 1) (by decide))
                        have HI2 := Lib.hid (hhm.gi (i := 2) (by decide))
                        have HOA := Lib.hid hhm.ia
                        have HOB := Lib.hid hhm.ib
                        have HOC := Lib.hid hhm.ic
                        have hsd := HSD.out
                        have HB6v : Hid (Hid (Below mb W6 wr)) := HB6m
                        have HMPv : Hid (Hid (MapG IC wr mb V.length (seenF (V.map fun x => x.o.path)))) := HMPm
                        clear hhm HHm HSD HB6m HMPm HXm
                        have q0 : wr.cell? ⟨ph, 0, none⟩ = some (.bool (hasT T f.path).a) := q0
                        have q1 : wr.cell? ⟨ph, 1, none⟩ = some (.bool (hasT T f.path).b) := q1
                        have q2 : wr.cell? ⟨ph, 2, none⟩ = some (.bool (hasT T f.path).c) := q2
                        have HI0 : Hid (wr.rangeAt pi 0 (nb (idsT T f.path).a)) := HI0
                        have HI1 : Hid (wr.rangeAt pi 32 (nb (idsT T f.path).b)) := HI1
                        have HI2 : Hid (wr.rangeAt pi 64 (nb (idsT T f.path).c)) := HI2
                        generalize (hasT T f.path).a = ha at *
                        generalize (hasT T f.path).b = hb at *
                        generalize (hasT T f.path).c = hc at *
                        generalize (idsT T f.path).a = ia at *
                        generalize (idsT T f.path).b = ib at *
                        generalize (idsT T f.path).c = ic at *
                        cases hb with
                        | true =>
                          obtain ⟨s1, s2, -⟩ := hsd
                          obtain ⟨rfl, rfl⟩ := s2 rfl
                          have hcf : hc = false := by cases hc with | true => cases s1 | false => rfl
                          subst hcf
                          clear s1 s2 HI2 HOC HOB
                          -- @dev{ R42B
                          go_upto_region 42 with fail
                          refine goP_start ?_
                          refine goP_tk rfl 179 rfl (.pointer (some ⟨ph, 1, none⟩)) (by go_simp) ?_
                          simp only [List.setIfInBounds_toArray, List.set_cons_zero, List.set_cons_succ]
                          refine goP_ld rfl 180 rfl 4 _ rfl ⟨ph, 1, none⟩ (.bool true) rfl (ld_bool _ _ _ q1) ?_
                          simp only [List.setIfInBounds_toArray, List.set_cons_zero, List.set_cons_succ]
                          refine goP_mv rfl 181 rfl _ rfl (.bool true) rfl ?_
                          simp only [List.setIfInBounds_toArray, List.set_cons_zero, List.set_cons_succ]
                          refine goP_tk rfl 182 rfl (.pointer (some ⟨ph, 2, none⟩)) (by go_simp) ?_
                          simp only [List.setIfInBounds_toArray, List.set_cons_zero, List.set_cons_succ]
                          refine goP_ld rfl 183 rfl 4 _ rfl ⟨ph, 2, none⟩ (.bool false) rfl (ld_bool _ _ _ q2) ?_
                          simp only [List.setIfInBounds_toArray, List.set_cons_zero, List.set_cons_succ]
                          refine goP_pk rfl 184 rfl _ _ _ rfl true rfl (.bool false) rfl ?_
                          simp only [List.setIfInBounds_toArray, List.set_cons_zero, List.set_cons_succ]
                          refine goP_mv rfl 185 rfl _ rfl (.bool false) rfl ?_
                          simp only [List.setIfInBounds_toArray, List.set_cons_zero, List.set_cons_succ]
                          refine goP_tk rfl 186 rfl (.pointer (some ⟨ph, 1, none⟩)) (by go_simp) ?_
                          simp only [List.setIfInBounds_toArray, List.set_cons_zero, List.set_cons_succ]
                          refine goP_ld rfl 187 rfl 4 _ rfl ⟨ph, 1, none⟩ (.bool true) rfl (ld_bool _ _ _ q1) ?_
                          simp only [List.setIfInBounds_toArray, List.set_cons_zero, List.set_cons_succ]
                          refine goP_mv rfl 188 rfl _ rfl (.bool true) rfl ?_
                          simp only [List.setIfInBounds_toArray, List.set_cons_zero, List.set_cons_succ]
                          refine goP_tk rfl 189 rfl (.pointer (some ⟨ph, 0, none⟩)) (by go_simp) ?_
                          simp only [List.setIfInBounds_toArray, List.set_cons_zero, List.set_cons_succ]
                          refine goP_ld rfl 190 rfl 4 _ rfl ⟨ph, 0, none⟩ (.bool true) rfl (ld_bool _ _ _ q0) ?_
                          simp only [List.setIfInBounds_toArray, List.set_cons_zero, List.set_cons_succ]
                          refine goP_tk rfl 191 rfl (.bool false) (by go_simp) ?_
                          simp only [List.setIfInBounds_toArray, List.set_cons_zero, List.set_cons_succ]
                          refine goP_mv rfl 192 rfl _ rfl (.bool false) rfl ?_
                          simp only [List.setIfInBounds_toArray, List.set_cons_zero, List.set_cons_succ]
                          refine goP_tk rfl 193 rfl (.pointer (some ⟨pi, 0, none⟩)) (by go_simp) ?_
                          simp only [List.setIfInBounds_toArray, List.set_cons_zero, List.set_cons_succ]
                          refine goP_ld rfl 194 rfl 43 _ rfl ⟨pi, 0, none⟩ (.agg (nums .u8 ia)) rfl (ld_id HOA.out HI0.out) ?_
                          simp only [List.setIfInBounds_toArray, List.set_cons_zero, List.set_cons_succ]
                          refine goP_tk rfl 195 rfl (.pointer (some ⟨pi, 32, none⟩)) (by go_simp) ?_
                          simp only [List.setIfInBounds_toArray, List.set_cons_zero, List.set_cons_succ]
                          refine goP_ld rfl 196 rfl 43 _ rfl ⟨pi, 32, none⟩ (.agg (nums .u8 ia)) rfl (ld_id HOA.out HI1.out) ?_
                          simp only [List.setIfInBounds_toArray, List.set_cons_zero, List.set_cons_succ]
                          refine goP_tk rfl 197 rfl (.bool false) (exec_bin _ _ rfl rfl rfl (fun _ => by first | rfl | go_simp) (id_same HOA.out) _) ?_
                          simp only [List.setIfInBounds_toArray, List.set_cons_zero, List.set_cons_succ]
                          refine goP_pk rfl 198 rfl _ _ _ rfl false rfl (.bool false) rfl ?_
                          simp only [List.setIfInBounds_toArray, List.set_cons_zero, List.set_cons_succ]
                          refine goP_pk rfl 199 rfl _ _ _ rfl true rfl (.bool false) rfl ?_
                          simp only [List.setIfInBounds_toArray, List.set_cons_zero, List.set_cons_succ]
                          refine goP_pk rfl 200 rfl _ _ _ rfl false rfl (.bool false) rfl ?_
                          simp only [List.setIfInBounds_toArray, List.set_cons_zero, List.set_cons_succ]
                          refine goP_mv rfl 201 rfl _ rfl (.bool false) rfl ?_
                          simp only [List.setIfInBounds_toArray, List.set_cons_zero, List.set_cons_succ]
                          refine goP_tk rfl 202 rfl (.pointer (some ⟨ph, 2, none⟩)) (by go_simp) ?_
                          simp only [List.setIfInBounds_toArray, List.set_cons_zero, List.set_cons_succ]
                          refine goP_ld rfl 203 rfl 4 _ rfl ⟨ph, 2, none⟩ (.bool false) rfl (ld_bool _ _ _ q2) ?_
                          simp only [List.setIfInBounds_toArray, List.set_cons_zero, List.set_cons_succ]
                          refine goP_mv rfl 204 rfl _ rfl (.bool false) rfl ?_
                          simp only [List.setIfInBounds_toArray, List.set_cons_zero, List.set_cons_succ]
                          refine goP_no rfl 205 rfl ?_
                          simp only [List.setIfInBounds_toArray, List.set_cons_zero, List.set_cons_succ]
                          refine goP_no rfl 206 rfl ?_
                          simp only [List.setIfInBounds_toArray, List.set_cons_zero, List.set_cons_succ]
                          refine goP_no rfl 207 rfl ?_
                          simp only [List.setIfInBounds_toArray, List.set_cons_zero, List.set_cons_succ]
                          refine goP_no rfl 208 rfl ?_
                          simp only [List.setIfInBounds_toArray, List.set_cons_zero, List.set_cons_succ]
                          refine goP_no rfl 209 rfl ?_
                          simp only [List.setIfInBounds_toArray, List.set_cons_zero, List.set_cons_succ]
                          refine goP_no rfl 210 rfl ?_
                          simp only [List.setIfInBounds_toArray, List.set_cons_zero, List.set_cons_succ]
                          refine goP_no rfl 211 rfl ?_
                          simp only [List.setIfInBounds_toArray, List.set_cons_zero, List.set_cons_succ]
                          refine goP_no rfl 212 rfl ?_
                          simp only [List.setIfInBounds_toArray, List.set_cons_zero, List.set_cons_succ]
                          refine goP_no rfl 213 rfl ?_
                          simp only [List.setIfInBounds_toArray, List.set_cons_zero, List.set_cons_succ]
                          refine goP_no rfl 214 rfl ?_
                          simp only [List.setIfInBounds_toArray, List.set_cons_zero, List.set_cons_succ]
                          refine goP_pk rfl 215 rfl _ _ _ rfl false rfl (.bool false) rfl ?_
                          simp only [List.setIfInBounds_toArray, List.set_cons_zero, List.set_cons_succ]
                          refine goP_pk rfl 216 rfl _ _ _ rfl false rfl (.bool false) rfl ?_
                          simp only [List.setIfInBounds_toArray, List.set_cons_zero, List.set_cons_succ]
                          refine goP_end ?_
                          -- @dev{ E42B
                          go_wp2_with fail
                          go_roundw
                          case rel => exact ⟨j + 1, hjl, by go_num, HB6v.out, HMPv.out⟩
                          case measure => simp [intOf]; omega
                        | false =>
                          cases hc with
                          | true =>
                            obtain ⟨-, -, s3⟩ := hsd
                            obtain ⟨rfl, rfl⟩ := s3 rfl
                            clear s3 HI1 HOB HOC
                            -- @dev{ R42C
                            go_upto_region 42 with fail
                            refine goP_start ?_
                            refine goP_tk rfl 179 rfl (.pointer (some ⟨ph, 1, none⟩)) (by go_simp) ?_
                            simp only [List.setIfInBounds_toArray, List.set_cons_zero, List.set_cons_succ]
                            refine goP_ld rfl 180 rfl 4 _ rfl ⟨ph, 1, none⟩ (.bool false) rfl (ld_bool _ _ _ q1) ?_
                            simp only [List.setIfInBounds_toArray, List.set_cons_zero, List.set_cons_succ]
                            refine goP_mv rfl 181 rfl _ rfl (.bool false) rfl ?_
                            simp only [List.setIfInBounds_toArray, List.set_cons_zero, List.set_cons_succ]
                            refine goP_no rfl 182 rfl ?_
                            simp only [List.setIfInBounds_toArray, List.set_cons_zero, List.set_cons_succ]
                            refine goP_no rfl 183 rfl ?_
                            simp only [List.setIfInBounds_toArray, List.set_cons_zero, List.set_cons_succ]
                            refine goP_pk rfl 184 rfl _ _ _ rfl false rfl (.bool false) rfl ?_
                            simp only [List.setIfInBounds_toArray, List.set_cons_zero, List.set_cons_succ]
                            refine goP_mv rfl 185 rfl _ rfl (.bool false) rfl ?_
                            simp only [List.setIfInBounds_toArray, List.set_cons_zero, List.set_cons_succ]
                            refine goP_tk rfl 186 rfl (.pointer (some ⟨ph, 1, none⟩)) (by go_simp) ?_
                            simp only [List.setIfInBounds_toArray, List.set_cons_zero, List.set_cons_succ]
                            refine goP_ld rfl 187 rfl 4 _ rfl ⟨ph, 1, none⟩ (.bool false) rfl (ld_bool _ _ _ q1) ?_
                            simp only [List.setIfInBounds_toArray, List.set_cons_zero, List.set_cons_succ]
                            refine goP_mv rfl 188 rfl _ rfl (.bool false) rfl ?_
                            simp only [List.setIfInBounds_toArray, List.set_cons_zero, List.set_cons_succ]
                            refine goP_no rfl 189 rfl ?_
                            simp only [List.setIfInBounds_toArray, List.set_cons_zero, List.set_cons_succ]
                            refine goP_no rfl 190 rfl ?_
                            simp only [List.setIfInBounds_toArray, List.set_cons_zero, List.set_cons_succ]
                            refine goP_no rfl 191 rfl ?_
                            simp only [List.setIfInBounds_toArray, List.set_cons_zero, List.set_cons_succ]
                            refine goP_no rfl 192 rfl ?_
                            simp only [List.setIfInBounds_toArray, List.set_cons_zero, List.set_cons_succ]
                            refine goP_no rfl 193 rfl ?_
                            simp only [List.setIfInBounds_toArray, List.set_cons_zero, List.set_cons_succ]
                            refine goP_no rfl 194 rfl ?_
                            simp only [List.setIfInBounds_toArray, List.set_cons_zero, List.set_cons_succ]
                            refine goP_no rfl 195 rfl ?_
                            simp only [List.setIfInBounds_toArray, List.set_cons_zero, List.set_cons_succ]
                            refine goP_no rfl 196 rfl ?_
                            simp only [List.setIfInBounds_toArray, List.set_cons_zero, List.set_cons_succ]
                            refine goP_no rfl 197 rfl ?_
                            simp only [List.setIfInBounds_toArray, List.set_cons_zero, List.set_cons_succ]
                            refine goP_no rfl 198 rfl ?_
                            simp only [List.setIfInBounds_toArray, List.set_cons_zero, List.set_cons_succ]
                            refine goP_pk rfl 199 rfl _ _ _ rfl false rfl (.bool false) rfl ?_
                            simp only [List.setIfInBounds_toArray, List.set_cons_zero, List.set_cons_succ]
                            refine goP_pk rfl 200 rfl _ _ _ rfl false rfl (.bool false) rfl ?_
                            simp only [List.setIfInBounds_toArray, List.set_cons_zero, List.set_cons_succ]
                            refine goP_mv rfl 201 rfl _ rfl (.bool false) rfl ?_
                            simp only [List.setIfInBounds_toArray, List.set_cons_zero, List.set_cons_succ]
                            refine goP_tk rfl 202 rfl (.pointer (some ⟨ph, 2, none⟩)) (by go_simp) ?_
                            simp only [List.setIfInBounds_toArray, List.set_cons_zero, List.set_cons_succ]
                            refine goP_ld rfl 203 rfl 4 _ rfl ⟨ph, 2, none⟩ (.bool true) rfl (ld_bool _ _ _ q2) ?_
                            simp only [List.setIfInBounds_toArray, List.set_cons_zero, List.set_cons_succ]
                            refine goP_mv rfl 204 rfl _ rfl (.bool true) rfl ?_
                            simp only [List.setIfInBounds_toArray, List.set_cons_zero, List.set_cons_succ]
                            refine goP_tk rfl 205 rfl (.pointer (some ⟨ph, 0, none⟩)) (by go_simp) ?_
                            simp only [List.setIfInBounds_toArray, List.set_cons_zero, List.set_cons_succ]
                            refine goP_ld rfl 206 rfl 4 _ rfl ⟨ph, 0, none⟩ (.bool true) rfl (ld_bool _ _ _ q0) ?_
                            simp only [List.setIfInBounds_toArray, List.set_cons_zero, List.set_cons_succ]
                            refine goP_tk rfl 207 rfl (.bool false) (by go_simp) ?_
                            simp only [List.setIfInBounds_toArray, List.set_cons_zero, List.set_cons_succ]
                            refine goP_mv rfl 208 rfl _ rfl (.bool false) rfl ?_
                            simp only [List.setIfInBounds_toArray, List.set_cons_zero, List.set_cons_succ]
                            refine goP_tk rfl 209 rfl (.pointer (some ⟨pi, 0, none⟩)) (by go_simp) ?_
                            simp only [List.setIfInBounds_toArray, List.set_cons_zero, List.set_cons_succ]
                            refine goP_ld rfl 210 rfl 43 _ rfl ⟨pi, 0, none⟩ (.agg (nums .u8 ia)) rfl (ld_id HOA.out HI0.out) ?_
                            simp only [List.setIfInBounds_toArray, List.set_cons_zero, List.set_cons_succ]
                            refine goP_tk rfl 211 rfl (.pointer (some ⟨pi, 64, none⟩)) (by go_simp) ?_
                            simp only [List.setIfInBounds_toArray, List.set_cons_zero, List.set_cons_succ]
                            refine goP_ld rfl 212 rfl 43 _ rfl ⟨pi, 64, none⟩ (.agg (nums .u8 ia)) rfl (ld_id HOA.out HI2.out) ?_
                            simp only [List.setIfInBounds_toArray, List.set_cons_zero, List.set_cons_succ]
                            refine goP_tk rfl 213 rfl (.bool false) (exec_bin _ _ rfl rfl rfl (fun _ => by first | rfl | go_simp) (id_same HOA.out) _) ?_
                            simp only [List.setIfInBounds_toArray, List.set_cons_zero, List.set_cons_succ]
                            refine goP_pk rfl 214 rfl _ _ _ rfl false rfl (.bool false) rfl ?_
                            simp only [List.setIfInBounds_toArray, List.set_cons_zero, List.set_cons_succ]
                            refine goP_pk rfl 215 rfl _ _ _ rfl true rfl (.bool false) rfl ?_
                            simp only [List.setIfInBounds_toArray, List.set_cons_zero, List.set_cons_succ]
                            refine goP_pk rfl 216 rfl _ _ _ rfl false rfl (.bool false) rfl ?_
                            simp only [List.setIfInBounds_toArray, List.set_cons_zero, List.set_cons_succ]
                            refine goP_end ?_
                            -- @dev{ E42C
                            go_wp2_with fail
                            go_roundw
                            case rel => exact ⟨j + 1, hjl, by go_num, HB6v.out, HMPv.out⟩
                            case measure => simp [intOf]; omega
                          | false =>
                            clear hsd HI0 HI1 HI2 HOA HOB HOC
                            -- @dev{ R42N
                            go_upto_region 42 with fail
                            refine goP_start ?_
                            refine goP_tk rfl 179 rfl (.pointer (some ⟨ph, 1, none⟩)) (by go_simp) ?_
                            simp only [List.setIfInBounds_toArray, List.set_cons_zero, List.set_cons_succ]
                            refine goP_ld rfl 180 rfl 4 _ rfl ⟨ph, 1, none⟩ (.bool false) rfl (ld_bool _ _ _ q1) ?_
                            simp only [List.setIfInBounds_toArray, List.set_cons_zero, List.set_cons_succ]
                            refine goP_mv rfl 181 rfl _ rfl (.bool false) rfl ?_
                            simp only [List.setIfInBounds_toArray, List.set_cons_zero, List.set_cons_succ]
                            refine goP_no rfl 182 rfl ?_
                            simp only [List.setIfInBounds_toArray, List.set_cons_zero, List.set_cons_succ]
                            refine goP_no rfl 183 rfl ?_
                            simp only [List.setIfInBounds_toArray, List.set_cons_zero, List.set_cons_succ]
                            refine goP_pk rfl 184 rfl _ _ _ rfl false rfl (.bool false) rfl ?_
                            simp only [List.setIfInBounds_toArray, List.set_cons_zero, List.set_cons_succ]
                            refine goP_mv rfl 185 rfl _ rfl (.bool false) rfl ?_
                            simp only [List.setIfInBounds_toArray, List.set_cons_zero, List.set_cons_succ]
                            refine goP_tk rfl 186 rfl (.pointer (some ⟨ph, 1, none⟩)) (by go_simp) ?_
                            simp only [List.setIfInBounds_toArray, List.set_cons_zero, List.set_cons_succ]
                            refine goP_ld rfl 187 rfl 4 _ rfl ⟨ph, 1, none⟩ (.bool false) rfl (ld_bool _ _ _ q1) ?_
                            simp only [List.setIfInBounds_toArray, List.set_cons_zero, List.set_cons_succ]
                            refine goP_mv rfl 188 rfl _ rfl (.bool false) rfl ?_
                            simp only [List.setIfInBounds_toArray, List.set_cons_zero, List.set_cons_succ]
                            refine goP_no rfl 189 rfl ?_
                            simp only [List.setIfInBounds_toArray, List.set_cons_zero, List.set_cons_succ]
                            refine goP_no rfl 190 rfl ?_
                            simp only [List.setIfInBounds_toArray, List.set_cons_zero, List.set_cons_succ]
                            refine goP_no rfl 191 rfl ?_
                            simp only [List.setIfInBounds_toArray, List.set_cons_zero, List.set_cons_succ]
                            refine goP_no rfl 192 rfl ?_
                            simp only [List.setIfInBounds_toArray, List.set_cons_zero, List.set_cons_succ]
                            refine goP_no rfl 193 rfl ?_
                            simp only [List.setIfInBounds_toArray, List.set_cons_zero, List.set_cons_succ]
                            refine goP_no rfl 194 rfl ?_
                            simp only [List.setIfInBounds_toArray, List.set_cons_zero, List.set_cons_succ]
                            refine goP_no rfl 195 rfl ?_
                            simp only [List.setIfInBounds_toArray, List.set_cons_zero, List.set_cons_succ]
                            refine goP_no rfl 196 rfl ?_
                            simp only [List.setIfInBounds_toArray, List.set_cons_zero, List.set_cons_succ]
                            refine goP_no rfl 197 rfl ?_
                            simp only [List.setIfInBounds_toArray, List.set_cons_zero, List.set_cons_succ]
                            refine goP_no rfl 198 rfl ?_
                            simp only [List.setIfInBounds_toArray, List.set_cons_zero, List.set_cons_succ]
                            refine goP_pk rfl 199 rfl _ _ _ rfl false rfl (.bool false) rfl ?_
                            simp only [List.setIfInBounds_toArray, List.set_cons_zero, List.set_cons_succ]
                            refine goP_pk rfl 200 rfl _ _ _ rfl false rfl (.bool false) rfl ?_
                            simp only [List.setIfInBounds_toArray, List.set_cons_zero, List.set_cons_succ]
                            refine goP_mv rfl 201 rfl _ rfl (.bool false) rfl ?_
                            simp only [List.setIfInBounds_toArray, List.set_cons_zero, List.set_cons_succ]
                            refine goP_tk rfl 202 rfl (.pointer (some ⟨ph, 2, none⟩)) (by go_simp) ?_
                            simp only [List.setIfInBounds_toArray, List.set_cons_zero, List.set_cons_succ]
                            refine goP_ld rfl 203 rfl 4 _ rfl ⟨ph, 2, none⟩ (.bool false) rfl (ld_bool _ _ _ q2) ?_
                            simp only [List.setIfInBounds_toArray, List.set_cons_zero, List.set_cons_succ]
                            refine goP_mv rfl 204 rfl _ rfl (.bool false) rfl ?_
                            simp only [List.setIfInBounds_toArray, List.set_cons_zero, List.set_cons_succ]
                            refine goP_no rfl 205 rfl ?_
                            simp only [List.setIfInBounds_toArray, List.set_cons_zero, List.set_cons_succ]
                            refine goP_no rfl 206 rfl ?_
                            simp only [List.setIfInBounds_toArray, List.set_cons_zero, List.set_cons_succ]
                            refine goP_no rfl 207 rfl ?_
                            simp only [List.setIfInBounds_toArray, List.set_cons_zero, List.set_cons_succ]
                            refine goP_no rfl 208 rfl ?_
                            simp only [List.setIfInBounds_toArray, List.set_cons_zero, List.set_cons_succ]
                            refine goP_no rfl 209 rfl ?_
                            simp only [List.setIfInBounds_toArray, List.set_cons_zero, List.set_cons_succ]
                            refine goP_no rfl 210 rfl ?_
                            simp only [List.setIfInBounds_toArray, List.set_cons_zero, List.set_cons_succ]
                            refine goP_no rfl 211 rfl ?_
                            simp only [List.setIfInBounds_toArray, List.set_cons_zero, List.set_cons_succ]
                            refine goP_no rfl 212 rfl ?_
                            simp only [List.setIfInBounds_toArray, List.set_cons_zero, List.set_cons_succ]
                            refine goP_no rfl 213 rfl ?_
                            simp only [List.setIfInBounds_toArray, List.set_cons_zero, List.set_cons_succ]
                            refine goP_no rfl 214 rfl ?_
                            simp only [List.setIfInBounds_toArray, List.set_cons_zero, List.set_cons_succ]
                            refine goP_pk rfl 215 rfl _ _ _ rfl false rfl (.bool false) rfl ?_
                            simp only [List.setIfInBounds_toArray, List.set_cons_zero, List.set_cons_succ]
                            refine goP_pk rfl 216 rfl _ _ _ rfl false rfl (.bool false) rfl ?_
                            simp only [List.setIfInBounds_toArray, List.set_cons_zero, List.set_cons_succ]
                            refine goP_end ?_
                            -- @dev{ E42N
                            go_wp2_with fail
                            go_roundw
                            case rel => exact ⟨j + 1, hjl, by go_num, HB6v.out, HMPv.out⟩
                            case measure => simp [intOf]; omega
                · have hje : j = ts.length := by omega
                  subst hje
                  have c1 : decide ((ts.length : Int) < (ts.length : Int)) = false := decide_eq_false (by omega)
                  have HB6v : Hid (Hid (Below mb W6 wr)) := HB6j
                  have HMPv : Hid (Hid (MapG IC wr mb V.length (seenF (V.map fun x => x.o.path)))) := HMPj
                  clear HB6j HMPj
                  go_wp2_with fail
                  go_roundw
                  case rel => exact ⟨i + 1, hlt, by go_num, HB6v.out, HMPv.out⟩
                  case measure => simp [intOf]; omega
            · have hi3 : i = 3 := by omega
              subst hi3
              have e3 : decide (((3 : Nat) : Int) < 3) = false := decide_eq_false (by omega)
              have HFIN := Lib.hid (HBO.out wr HB6i.out).1
              clear HB6i HMPi
              go_wp2_with fail
              go_ret
              exact ⟨rfl, HFIN.out⟩
    · have e0 : (er == 0) = false := beq_eq_false_iff_ne.2 he
      have hos : os = [] := hni he
      have hvl : V.length = 0 := by have h3 := congrArg List.length hV; rw [List.length_map, hos] at h3; exact h3
      have ev : ((V.length : Int) == 0) = true := beq_iff_eq.2 (by omega)
      clear hko hkn hkg hni hin hal hV hOR hONE hvl
      go_wp2_with fail
      go_ret
      exact ⟨rfl, HB6.out⟩
end Go.Proofs.YtpcipdkoncmdcaaGreatDoor
namespace Go.Proofs.YtpcipdkoncmdcaaGreatDoor.joinKeeps
open Go.ChangeShapes Go.WideShapes Go.ChangeAt Go.RowKit
open Go.WideMaps Go.WideElems
open Go.ChangeMaps (open_string shut_string)

theorem reads (os : Os) {H : Type} (enc : TypeId × Value → H) : ∃ places, DataW.whole enc Tryz.prog ((laidWorld os).forCall (fun _ _ => 0) ⟨#[], #[Value.agg #[.slice none 0 0, .slice none 0 0, .slice none 0 0], .slice none 0 0], []⟩).memory Tryz.f5.params.toList Rows.joinKeepsSpec.vars false (#[Value.agg #[.slice none 0 0, .slice none 0 0, .slice none 0 0], .slice none 0 0] : Array Value).toList 8 = some ([.agg [.nil, .nil, .nil], .nil], [], places) :=
  ⟨[], by kernel_rfl⟩

set_option maxRecDepth 100000 in
theorem contract (H : Type) (enc : TypeId × Value → H) (W : World) (base : Nat) (args : Array Value) (ds : List (DataW H)) (p : List MemPlace)
    (hval : ∀ (j : Nat) t v, Tryz.f5.params[j]? = some t → args[j]? = some v → Value.okWide Tryz.prog W .any base t v)
    (hA : DataW.TrodAll enc Tryz.prog W 0 (fun _ => true) true Tryz.f5.params.toList args.toList ds p) (hk : Rows.uptoSmall H ds = true) (_hL : laidMetH Tryz.prog Rows.joinKeepsUptoRow.laid W) (hshape : W.ShapedOpen Tryz.prog) :
    Calls Tryz.prog 5 args W fun e W' => e = .returned (.bool true) ∧ Below W.heap.size W W' := by
  rw [Tryz.params5] at hA hval
  obtain ⟨v0, vs0, d0, ds0, p0, q0, hargs0, rfl, rfl, h0, r0⟩ := trodAll_cons hA
  obtain ⟨v1, vs1, d1, ds1, p1, q1, hargs1, rfl, rfl, h1, r1⟩ := trodAll_cons r0
  obtain ⟨rfl, rfl, rfl⟩ := trodAll_nil r1
  rw [hargs1] at hargs0
  obtain rfl : args = #[v0, v1] := by cases args; simp_all
  have k0 := bulk_mem hk (d := d0) (by simp)
  obtain ⟨va0, vb0, vc0, x0, rfl, fa0, fb0, fc0⟩ := open_snaps (hval 0 23 v0 rfl rfl) h0 k0
  have k1 := bulk_mem hk (d := d1) (by simp)
  obtain ⟨x1, bs1, sm1⟩ := open_blobs (hval 1 24 v1 rfl rfl) h1 k1
  exact keeps_c fa0 fb0 fc0 bs1 sm1 (gl_of_shaped hshape)

set_option maxRecDepth 100000 in
theorem lifted (os : Os) (started : os.Started) (H : Type) (enc : TypeId × Value → H) (F : Stop.Interp) :
    ReturnsInHanded {} Tryz.checked os 5 .any ((Rows.OpenSpec.upto Rows.joinKeepsSpec).preRow enc Tryz.prog Tryz.f5 Rows.joinKeepsUptoRow.domain false Rows.joinKeepsUptoRow.laid) (((Rows.OpenSpec.upto Rows.joinKeepsSpec).at F).post enc Tryz.prog Tryz.f5 false true false false) := by
  obtain ⟨places, hx⟩ := reads os enc
  refine law_lifted (laid := Rows.joinKeepsUptoRow.laid) started Tryz.func5 (by kernel_rfl) rfl rfl ?_ (by kernel_rfl) ?_ ?_ ?_
  · intro ds h
    match ds, h with
    | [_, _], _ => rfl
  · rw [Tryz.params5]
    intro t ht
    have ht : t ∈ [23, 24] := ht
    simp only [List.mem_cons, List.mem_nil_iff, or_false] at ht
    rcases ht with rfl | rfl <;> exact ⟨by kernel_rfl, of_decide_eq_true (by kernel_rfl)⟩
  · exact witness_row_at (enc := enc) (C := Tryz.checked) false (laidWorld os) #[Value.agg #[.slice none 0 0, .slice none 0 0, .slice none 0 0], .slice none 0 0] rfl (by kernel_rfl) (by kernel_rfl) (by kernel_rfl)
      (OpenSpec.preRow_of_cond 8 hx (by kernel_rfl) (fun k hk => by cases hk; kernel_rfl) (by kernel_rfl) (laid_met os _))
  · exact contract H enc

theorem saidUpto : Rows.JoinKeepsUptoSaid :=
  OpenClaim.holds_of_cond 5 Tryz.f5 rfl rfl rfl rfl rfl rfl rfl ⟨rfl, rfl, rfl, rfl, rfl⟩ rfl rfl rfl rfl rfl (by kernel_rfl) Tryz.func5 (by kernel_rfl)
    (of_decide_eq_true (by kernel_rfl)) (by unfold Func.isWrapper; rw [if_neg (by decide +kernel)]; exact ⟨rfl, rfl⟩)
    (fun os started H enc _ F => by rw [OpenClaim.pre_eq_preRow]; exact lifted os started H enc F)

theorem plain (f : FuncId) (fn : Func) (hf : Tryz.pinned.checked.prog.funcNamed "towline/towlinelaw13.JoinKeeps" = some f) (hfn : Tryz.pinned.checked.prog.funcs[f]? = some fn) :
    false = Tryz.pinned.checked.prog.looks [] ∧ ∀ (j : Nat) t, fn.params[j]? = some t → Tryz.pinned.checked.prog.wantsStandIn t = false := by
  obtain rfl : f = 5 := Option.some.inj ((show Tryz.prog.funcNamed "towline/towlinelaw13.JoinKeeps" = some 5 by kernel_rfl).symm.trans hf) |>.symm
  obtain rfl : fn = Tryz.f5 := (Option.some.inj (Tryz.func5.symm.trans hfn)).symm
  refine ⟨by kernel_rfl, fun j t ht => ?_⟩
  rw [Tryz.params5] at ht
  have ht : t ∈ [23, 24] := by simpa using Array.mem_of_getElem? ht
  simp only [List.mem_cons, List.mem_nil_iff, or_false] at ht
  rcases ht with rfl | rfl <;> exact (show Tryz.prog.wantsStandIn _ = false by kernel_rfl)

theorem cardUpto : Rows.JoinKeepsUptoCardSaid :=
  Claim7.holds_tied_plain_at .later [] _ _ _ _ saidUpto (fun _ h => by cases h) (by kernel_rfl) (fun _ h => by cases h) joinKeepsUpto_row_tie rfl ⟨rfl, rfl⟩ (by kernel_rfl) rfl plain (by kernel_rfl)
end Go.Proofs.YtpcipdkoncmdcaaGreatDoor.joinKeeps
