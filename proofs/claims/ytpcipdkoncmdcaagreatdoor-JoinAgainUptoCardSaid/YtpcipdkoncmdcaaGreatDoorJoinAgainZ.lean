/- The law JoinAgain answers true for all arguments of bulk at most 1048576: the row's statement and its card. Conditions: the row's own (laid tables as the card ties them; bulk). -/
import Derived.Test.YtpcipdkoncmdcaaGreatDoorZ28
namespace Go.Proofs.YtpcipdkoncmdcaaGreatDoor
open Go Go.RowKit

/-- The file of a path. -/
def fiAt (l : List Fi) (p : ByteArray) : Option Fi := l.find? fun f => decide (f.path = p)
def thAt (L : List Th) (p : ByteArray) : Option Th := L.find? fun t => decide (t.path = p)
theorem fiAt_some {l : List Fi} {p : ByteArray} {f : Fi} (h : fiAt l p = some f) : f ∈ l ∧ f.path = p := ⟨List.mem_of_find?_eq_some h, by simpa using List.find?_some h⟩
theorem fiAt_none {l : List Fi} {p : ByteArray} : fiAt l p = none ↔ p ∉ l.map (·.path) := by
  unfold fiAt
  rw [List.find?_eq_none]
  constructor
  · intro h hm
    obtain ⟨f, hf, rfl⟩ := List.mem_map.1 hm
    exact h f hf (decide_eq_true rfl)
  · intro h f hf e
    exact h (List.mem_map.2 ⟨f, hf, by simpa using e⟩)
theorem fiAt_mem {l : List Fi} (hn : (l.map (·.path)).Nodup) {f : Fi} (hf : f ∈ l) : fiAt l f.path = some f := by
  induction l with
  | nil => cases hf
  | cons g l ih =>
    rw [List.map_cons, List.nodup_cons] at hn
    unfold fiAt
    rw [List.find?_cons]
    rcases List.mem_cons.1 hf with rfl | hf
    · simp
    · have : g.path ≠ f.path := fun e => hn.1 (e ▸ List.mem_map_of_mem hf)
      rw [decide_eq_false this]
      exact ih hn.2 hf
theorem thAt_taken (i : Nat) (f : Fi) (p : ByteArray) : ∀ L : List Th, thAt (taken i f L) p = if p = f.path then some (((thAt L p).getD { zTh with path := p }).add i f) else thAt L p
  | [] => by
    show thAt [({ zTh with path := f.path } : Th).add i f] p = _
    by_cases h : p = f.path
    · rw [if_pos h, h]; simp [thAt, Th.add]
    · rw [if_neg h]
      have h' : ¬ f.path = p := fun e => h e.symm
      simp [thAt, Th.add, h']
  | t :: L => by
    have ih := thAt_taken i f p L
    show thAt (if t.path = f.path then t.add i f :: L else t :: taken i f L) p = _
    have hc : ∀ (s : Th) (M : List Th), thAt (s :: M) p = if s.path = p then some s else thAt M p := by
      intro s M
      unfold thAt
      rw [List.find?_cons]
      by_cases h : s.path = p <;> simp [h]
    by_cases h1 : t.path = f.path
    · rw [if_pos h1, hc, hc]
      show (if t.path = p then _ else _) = _
      by_cases h2 : p = f.path
      · rw [if_pos (h1.trans h2.symm), if_pos h2, if_pos (h1.trans h2.symm)]; rfl
      · have h3 : ¬ t.path = p := fun e => h2 (e.symm.trans h1)
        rw [if_neg h3, if_neg h2, if_neg h3]
    · rw [if_neg h1, hc, hc, ih]
      by_cases h2 : p = f.path
      · have h3 : ¬ t.path = p := fun e => h1 (e.trans h2)
        rw [if_neg h3, if_pos h2, if_pos h2, if_neg h3]
      · rw [if_neg h2, if_neg h2]
theorem thAt_takenAll (i : Nat) (p : ByteArray) : ∀ (fs : List Fi) (L : List Th), (fs.map (·.path)).Nodup → thAt (takenAll i L fs) p = match fiAt fs p with | none => thAt L p | some f => some (((thAt L p).getD { zTh with path := p }).add i f)
  | [], L, _ => rfl
  | f :: fs, L, hn => by
    rw [List.map_cons, List.nodup_cons] at hn
    show thAt (takenAll i (taken i f L) fs) p = _
    rw [thAt_takenAll i p fs (taken i f L) hn.2, thAt_taken]
    have hc : fiAt (f :: fs) p = if f.path = p then some f else fiAt fs p := by
      unfold fiAt
      rw [List.find?_cons]
      by_cases h : f.path = p <;> simp [h]
    rw [hc]
    by_cases h : p = f.path
    · subst h
      have : fiAt fs f.path = none := fiAt_none.2 hn.1
      rw [this, if_pos rfl, if_pos rfl]
    · rw [if_neg h, if_neg (fun e => h e.symm)]
def okT3 (T : T3 (List Fi)) : Prop := (T.a.map (·.path)).Nodup ∧ (T.b.map (·.path)).Nodup ∧ (T.c.map (·.path)).Nodup
/-- A path's three, out of the snapshots. -/
def hasT (T : T3 (List Fi)) (p : ByteArray) : T3 Bool := ⟨(fiAt T.a p).isSome, (fiAt T.b p).isSome, (fiAt T.c p).isSome⟩
def idF : Option Fi → List Nat | none => zId | some f => f.id
def stF : Option Fi → Nat | none => 0 | some f => f.stamp
def idsT (T : T3 (List Fi)) (p : ByteArray) : T3 (List Nat) := ⟨idF (fiAt T.a p), idF (fiAt T.b p), idF (fiAt T.c p)⟩
def stsT (T : T3 (List Fi)) (p : ByteArray) : T3 Nat := ⟨stF (fiAt T.a p), stF (fiAt T.b p), stF (fiAt T.c p)⟩
def thT (T : T3 (List Fi)) (p : ByteArray) : Th := { zTh with path := p, has := hasT T p, ids := idsT T p, sts := stsT T p }
theorem thAt_upT {T : T3 (List Fi)} (h : okT3 T) (p : ByteArray) : thAt (upT T 3) p = if fiAt T.a p = none ∧ fiAt T.b p = none ∧ fiAt T.c p = none then none else some (thT T p) := by
  show thAt (takenAll 2 (takenAll 1 (takenAll 0 [] T.a) T.b) T.c) p = _
  rw [thAt_takenAll 2 p _ _ h.2.2, thAt_takenAll 1 p _ _ h.2.1, thAt_takenAll 0 p _ _ h.1]
  unfold thT hasT idsT stsT
  cases fiAt T.a p <;> cases fiAt T.b p <;> cases fiAt T.c p <;> rfl
theorem thOf_thAt (L : List Th) (p : ByteArray) : thOf L p = (thAt L p).getD zTh := rfl
theorem mem_thAt {L : List Th} {p : ByteArray} : p ∈ L.map (·.path) ↔ thAt L p ≠ none := by
  unfold thAt
  rw [Ne, List.find?_eq_none]
  constructor
  · intro hm h
    obtain ⟨t, ht, rfl⟩ := List.mem_map.1 hm
    exact h t ht (decide_eq_true rfl)
  · intro h
    false_or_by_contra
    rename_i hm
    exact h fun t ht e => hm (List.mem_map.2 ⟨t, ht, by simpa using e⟩)
theorem mem_upT {T : T3 (List Fi)} (h : okT3 T) (p : ByteArray) : p ∈ (upT T 3).map (·.path) ↔ (p ∈ T.a.map (·.path) ∨ p ∈ T.b.map (·.path) ∨ p ∈ T.c.map (·.path)) := by
  rw [mem_thAt, thAt_upT h]
  have e : ∀ l : List Fi, fiAt l p = none ↔ p ∉ l.map (·.path) := fun l => fiAt_none
  by_cases ha : fiAt T.a p = none
  · by_cases hb : fiAt T.b p = none
    · by_cases hc : fiAt T.c p = none
      · rw [if_pos ⟨ha, hb, hc⟩]
        exact ⟨fun h => absurd rfl h, fun h => (h.elim ((e _).1 ha) (fun h => h.elim ((e _).1 hb) ((e _).1 hc))).elim⟩
      · rw [if_neg (fun h => hc h.2.2)]
        exact ⟨fun _ => .inr (.inr (Classical.not_not.1 (fun h => hc ((e _).2 h)))), fun _ => by simp⟩
    · rw [if_neg (fun h => hb h.2.1)]
      exact ⟨fun _ => .inr (.inl (Classical.not_not.1 (fun h => hb ((e _).2 h)))), fun _ => by simp⟩
  · rw [if_neg (fun h => ha h.1)]
    exact ⟨fun _ => .inl (Classical.not_not.1 (fun h => ha ((e _).2 h))), fun _ => by simp⟩
/-- The names that are merged. -/
def nmsT (T : T3 (List Fi)) : List ByteArray := PathS.sorted ((upT T 3).map (·.path))
theorem upT_nodup (T : T3 (List Fi)) : ((upT T 3).map (·.path)).Nodup := takenAll_nodup (takenAll_nodup (takenAll_nodup List.nodup_nil))
theorem nms_nodup (T : T3 (List Fi)) : (nmsT T).Nodup := (PathS.sorted_perm _).nodup_iff.2 (upT_nodup T)
theorem nms_pw (T : T3 (List Fi)) : (nmsT T).Pairwise PathS.le := PathS.sorted_pw _
theorem mem_nms {T : T3 (List Fi)} (h : okT3 T) (p : ByteArray) : p ∈ nmsT T ↔ (p ∈ T.a.map (·.path) ∨ p ∈ T.b.map (·.path) ∨ p ∈ T.c.map (·.path)) := (PathS.sorted_perm _).mem_iff.trans (mem_upT h p)
theorem thOf_nms {T : T3 (List Fi)} (h : okT3 T) {p : ByteArray} (hp : p ∈ nmsT T) : thOf (upT T 3) p = thT T p := by
  have hm := mem_thAt.1 ((PathS.sorted_perm _).mem_iff.1 hp)
  rw [thAt_upT h] at hm
  rw [thOf_thAt, thAt_upT h]
  split at hm
  · exact absurd rfl hm
  · rename_i hn; rw [if_neg hn]; rfl
def decT (src : List Nat → ByteArray × Int) (T : T3 (List Fi)) (p : ByteArray) : Dec := decS src (hasT T p) (idsT T p) zId
def outT (src : List Nat → ByteArray × Int) (T : T3 (List Fi)) (p : ByteArray) : Option Ou := if (decT src T p).keep then some (outOf (decT src T p) (thT T p)) else none
theorem decGo_acc {src : List Nat → ByteArray × Int} {T : T3 (List Fi)} (h : okT3 T) : ∀ (l : List ByteArray) (acc : List Ou), (∀ p ∈ l, p ∈ nmsT T) → (∀ p ∈ l, (decT src T p).err = 0) → decGo src (upT T 3) acc l = (0, acc ++ l.filterMap (outT src T))
  | [], acc, _, _ => by simp [decGo]
  | p :: l, acc, hm, he => by
    have h1 := thOf_nms h (hm p (by simp))
    have h2 := he p (by simp)
    rw [decGo_step (d := decT src T p) h1 rfl, if_neg (by simp [h2]), decGo_acc h l _ (fun q hq => hm q (by simp [hq])) (fun q hq => he q (by simp [hq]))]
    rw [List.filterMap_cons]
    unfold outT
    by_cases hk : (decT src T p).keep = true
    · rw [if_pos hk, if_pos hk]; simp
    · rw [if_neg hk, if_neg hk]
/-- Merging whole. -/
theorem merge_ok {src : List Nat → ByteArray × Int} {T : T3 (List Fi)} (h : okT3 T) (hc : chkA T 3 = 0) (he : ∀ p ∈ nmsT T, (decT src T p).err = 0) : mergeS src (upT T 3) (chkA T 3) = (0, clashed ((nmsT T).filterMap (outT src T))) := by
  unfold mergeS
  rw [hc, if_neg (by simp), show PathS.sorted ((upT T 3).map (·.path)) = nmsT T from rfl, decGo_acc h _ _ (fun p hp => hp) he]
  simp

-- snapshots in their order
theorem chkF_zero {l : List Fi} : ∀ (n k : Nat), chkF l n k = 0 → ∀ j, k ≤ j → j < k + n → chk1 l j = 0
  | 0, k, _, j, h1, h2 => by omega
  | n + 1, k, h, j, h1, h2 => by
    rw [show chkF l (n + 1) k = if chk1 l k ≠ 0 then chk1 l k else chkF l n (k + 1) from rfl] at h
    split at h
    · rename_i hne; exact absurd h hne
    · rename_i he
      by_cases e : j = k
      · subst e; simpa using he
      · exact chkF_zero n (k + 1) h j (by omega) (by omega)
theorem chkF_of {l : List Fi} : ∀ (n k : Nat), (∀ j, k ≤ j → j < k + n → chk1 l j = 0) → chkF l n k = 0
  | 0, k, _ => rfl
  | n + 1, k, h => by
    rw [show chkF l (n + 1) k = if chk1 l k ≠ 0 then chk1 l k else chkF l n (k + 1) from rfl, if_neg (by simp [h k (Nat.le_refl _) (by omega)])]
    exact chkF_of n (k + 1) fun j h1 h2 => h j (by omega) (by omega)
structure OkS (l : List Fi) : Prop where
  n : l.length ≤ 256
  ck : ∀ f ∈ l, PathS.check f.path = 0
  lt : ∀ j (h : j + 1 < l.length), PathS.cmp (l[j]'(by omega)).path l[j + 1].path < 0
  un : ∀ j (h : j + 1 < l.length), PathS.under l[j + 1].path (l[j]'(by omega)).path = false
theorem okS_of {l : List Fi} (h : chkS l = 0) : OkS l := by
  have hn := chkS_len h
  unfold chkS at h
  rw [if_neg (by omega)] at h
  have h1 := chkF_zero _ _ h
  have hck : ∀ j (hj : j < l.length), PathS.check l[j].path = 0 := by
    intro j hj
    false_or_by_contra
    rename_i hne
    have := h1 j (Nat.zero_le _) (by omega)
    rw [chk1_bad hj hne] at this
    exact hne this
  refine ⟨hn, fun f hf => ?_, fun j hj => ?_, fun j hj => ?_⟩
  · obtain ⟨j, hj, rfl⟩ := List.getElem_of_mem hf; exact hck j hj
  · have := h1 (j + 1) (Nat.zero_le _) (by omega)
    rw [chk1_succ hj (hck _ hj)] at this
    split at this
    · cases this
    · omega
  · have := h1 (j + 1) (Nat.zero_le _) (by omega)
    rw [chk1_succ hj (hck _ hj)] at this
    split at this
    · cases this
    · split at this
      · cases this
      · rename_i hu; simpa using hu
theorem chkS_of {l : List Fi} (h : OkS l) : chkS l = 0 := by
  unfold chkS
  rw [if_neg (by have := h.n; omega)]
  refine chkF_of _ _ fun j _ hj => ?_
  have hj : j < l.length := by omega
  cases j with
  | zero => exact chk1_zero hj (h.ck _ (List.getElem_mem hj))
  | succ j => rw [chk1_succ hj (h.ck _ (List.getElem_mem hj)), if_neg (by have := h.lt j hj; omega), h.un j hj]; rfl
theorem cmp_trans {a b c : ByteArray} (h1 : PathS.cmp a b < 0) (h2 : PathS.cmp b c < 0) : PathS.cmp a c < 0 := PathS.cmp_tw.tr a b c h1 h2
theorem OkS.far {l : List Fi} (h : OkS l) : ∀ (d i : Nat) (hj : i + d + 1 < l.length), PathS.cmp (l[i]'(by omega)).path l[i + d + 1].path < 0
  | 0, i, hj => h.lt i hj
  | d + 1, i, hj => cmp_trans (h.far d i (by omega)) (h.lt (i + d + 1) hj)
theorem OkS.far' {l : List Fi} (h : OkS l) {i j : Nat} (hij : i < j) (hj : j < l.length) : PathS.cmp (l[i]'(by omega)).path l[j].path < 0 := by
  have := h.far (j - i - 1) i (by omega)
  simpa only [show i + (j - i - 1) + 1 = j by omega] using this
theorem cmp_self (a : ByteArray) : PathS.cmp a a = 0 := (PathS.cmp_tw.eq0 a a).2 rfl
theorem OkS.nodup {l : List Fi} (h : OkS l) : (l.map (·.path)).Nodup := by
  rw [List.nodup_iff_pairwise_ne, List.pairwise_map, List.pairwise_iff_getElem]
  intro i j hi hj hij e
  have := h.far' hij hj
  rw [e, cmp_self] at this
  omega
theorem OkS.pw {l : List Fi} (h : OkS l) : (l.map (·.path)).Pairwise PathS.le := by
  rw [List.pairwise_map, List.pairwise_iff_getElem]
  intro i j hi hj hij
  exact Int.le_of_lt (h.far' hij hj)
theorem OkS.no_under {l : List Fi} (h : OkS l) {i j : Nat} (hij : i < j) (hj : j < l.length) : PathS.under l[j].path (l[i]'(by omega)).path = false := by
  cases e : PathS.under l[j].path (l[i]'(by omega)).path with
  | false => rfl
  | true =>
    by_cases h1 : j = i + 1
    · subst h1; rw [h.un i hj] at e; cases e
    · have hb := PathS.between (m := (l[i + 1]'(by omega)).path) (Int.le_of_lt (h.lt i (by omega))) (Int.le_of_lt (h.far' (i := i + 1) (j := j) (by omega) hj)) (.inr e)
      rcases hb with hb | hb
      · have := h.lt i (by omega); rw [hb, cmp_self] at this; omega
      · rw [h.un i (by omega)] at hb; cases hb
/-- Where the outcomes' paths are a snapshot's, there is no clash. -/
theorem clashed_id {l : List Fi} (h : OkS l) {os : List Ou} (hp : os.map (·.path) = l.map (·.path)) : clashed os = os := by
  have hlen : os.length = l.length := by have := congrArg List.length hp; simpa using this
  have hpa : ∀ j (hj : j < os.length), os[j].path = (l[j]'(by omega)).path := by
    intro j hj
    have h1 : (os.map (·.path))[j]? = (l.map (·.path))[j]? := by rw [hp]
    rw [List.getElem?_map, List.getElem?_map, List.getElem?_eq_getElem hj, List.getElem?_eq_getElem (by omega)] at h1
    exact Option.some.inj h1
  apply List.ext_getElem?
  intro i
  unfold clashed
  rw [List.getElem?_mapIdx]
  by_cases hi : i < os.length
  · rw [List.getElem?_eq_getElem hi]
    show some (clash1 os i os[i]) = some os[i]
    unfold clash1
    rw [if_neg]
    rw [Bool.not_eq_true, List.any_eq_false]
    intro x hx
    obtain ⟨k, hk, rfl⟩ := List.getElem_of_mem hx
    rw [List.length_take] at hk
    rw [List.getElem_take, hpa i hi, hpa k (by omega), h.no_under (by omega) (by omega)]
    simp
  · rw [List.getElem?_eq_none (by omega)]; rfl
theorem filterMap_same {α β : Type} {f g : α → Option β} : ∀ {l : List α}, (∀ x ∈ l, f x = g x) → l.filterMap f = l.filterMap g
  | [], _ => rfl
  | x :: l, h => by rw [List.filterMap_cons, List.filterMap_cons, h x (by simp), filterMap_same fun y hy => h y (by simp [hy])]
/-- What a side's file becomes when it is kept. -/
def keptO (T : T3 (List Fi)) (f : Fi) : Ou := ⟨f.path, 1, f.id, cn f.stamp, ByteArray.empty, hasT T f.path, idsT T f.path⟩
/-- One snapshot is the outcome. -/
theorem merge_side {src : List Nat → ByteArray × Int} {T : T3 (List Fi)} (h : okT3 T) (hc : chkA T 3 = 0) {O : List Fi} (hO : OkS O) (hin : ∀ p ∈ O.map (·.path), p ∈ nmsT T)
    (hd : ∀ p ∈ nmsT T, decT src T p = ⟨(fiAt O p).isSome, 0, 1, idF (fiAt O p), ByteArray.empty⟩) (hw : ∀ f ∈ O, whenS (hasT T f.path) (stsT T f.path) = cn f.stamp) :
    mergeS src (upT T 3) (chkA T 3) = (0, O.map (keptO T)) := by
  rw [merge_ok h hc (fun p hp => by rw [hd p hp])]
  have e1 : (nmsT T).filterMap (outT src T) = ((nmsT T).filter fun p => (fiAt O p).isSome).filterMap fun p => (fiAt O p).map (keptO T) := by
    rw [List.filterMap_filter]
    refine filterMap_same fun p hp => ?_
    unfold outT
    rw [hd p hp]
    cases e : fiAt O p with
    | none => rfl
    | some f =>
      obtain ⟨hf, rfl⟩ := fiAt_some e
      show some (outOf _ _) = some (keptO T f)
      unfold outOf keptO
      show some (Ou.mk f.path 1 f.id (whenS (hasT T f.path) (stsT T f.path)) ByteArray.empty (hasT T f.path) (idsT T f.path)) = _
      rw [hw f hf]
  have e2 : ((nmsT T).filter fun p => (fiAt O p).isSome) = O.map (·.path) := by
    have hp : ((nmsT T).filter fun p => (fiAt O p).isSome).Perm (O.map (·.path)) := by
      rw [List.perm_ext_iff_of_nodup ((nms_nodup T).filter _) hO.nodup]
      intro p
      rw [List.mem_filter]
      have hs : (fiAt O p).isSome = true ↔ p ∈ O.map (·.path) := by
        cases e : fiAt O p with
        | none => simp; have := fiAt_none.1 e; simpa using this
        | some f => obtain ⟨hf, rfl⟩ := fiAt_some e; simp; exact ⟨f, hf, rfl⟩
      rw [hs]
      exact ⟨fun h => h.2, fun h => ⟨hin p h, h⟩⟩
    rw [PathS.sorted_one hp ((nms_pw T).filter _)]
    exact (PathS.sorted_one (List.Perm.refl _) hO.pw).symm
  have e3 : ((O.map (·.path)).filterMap fun p => (fiAt O p).map (keptO T)) = O.map (keptO T) := by
    rw [List.filterMap_map]
    rw [← List.filterMap_eq_map]
    refine filterMap_same fun f hf => ?_
    show (fiAt O f.path).map (keptO T) = some (keptO T f)
    rw [fiAt_mem hO.nodup hf]; rfl
  rw [e1, e2, e3, clashed_id hO (by rw [List.map_map]; rfl)]
end Go.Proofs.YtpcipdkoncmdcaaGreatDoor
namespace Go.Proofs.YtpcipdkoncmdcaaGreatDoor
open Go Go.RowKit

theorem eqS_same (b : Bool) (x : List Nat) : eqS b b x x = true := by simp [eqS]
theorem chkA_of {T : T3 (List Fi)} (ha : OkS T.a) (hb : OkS T.b) (hc : OkS T.c) : chkA T 3 = 0 := by
  have e0 : chkS (T.get 0) = 0 := chkS_of ha
  have e1 : chkS (T.get 1) = 0 := chkS_of hb
  have e2 : chkS (T.get 2) = 0 := chkS_of hc
  show (if chkS (T.get 0) ≠ 0 then chkS (T.get 0) else if chkS (T.get 1) ≠ 0 then chkS (T.get 1) else if chkS (T.get 2) ≠ 0 then chkS (T.get 2) else 0) = 0
  rw [e0, e1, e2]; rfl
theorem side1 {B O : List Fi} (hB : OkS B) (hO : OkS O) (src : List Nat → ByteArray × Int) : mergeS src (upT ⟨B, O, B⟩ 3) (chkA ⟨B, O, B⟩ 3) = (0, O.map (keptO ⟨B, O, B⟩)) := by
  have hk : okT3 ⟨B, O, B⟩ := ⟨hB.nodup, hO.nodup, hB.nodup⟩
  refine merge_side hk (chkA_of hB hO hB) hO (fun p hp => (mem_nms hk p).2 (.inr (.inl hp))) (fun p _ => ?_) (fun f hf => ?_)
  · unfold decT decS hasT idsT
    simp only [eqS_same, Bool.or_true, if_true]
  · unfold whenS hasT stsT
    simp only [fiAt_mem hO.nodup hf]
    cases fiAt B f.path with
    | none => simp [stF]
    | some g =>
      simp only [Option.isSome_some, stF, Bool.true_eq_false, if_false, true_and]
      split
      · rename_i h; exact h.symm
      · rfl
theorem side2 {B O : List Fi} (hB : OkS B) (hO : OkS O) (src : List Nat → ByteArray × Int) : mergeS src (upT ⟨B, B, O⟩ 3) (chkA ⟨B, B, O⟩ 3) = (0, O.map (keptO ⟨B, B, O⟩)) := by
  have hk : okT3 ⟨B, B, O⟩ := ⟨hB.nodup, hB.nodup, hO.nodup⟩
  refine merge_side hk (chkA_of hB hB hO) hO (fun p hp => (mem_nms hk p).2 (.inr (.inr hp))) (fun p _ => ?_) (fun f hf => ?_)
  · unfold decT decS hasT idsT
    simp only [eqS_same, if_true]
    by_cases h : (eqS (fiAt B p).isSome (fiAt O p).isSome (idF (fiAt B p)) (idF (fiAt O p)) || eqS (fiAt B p).isSome (fiAt O p).isSome (idF (fiAt B p)) (idF (fiAt O p))) = true
    · rw [if_pos h]
      rw [Bool.or_self] at h
      unfold eqS at h
      simp only [Bool.and_eq_true, decide_eq_true_eq] at h
      rw [h.1, h.2]
    · rw [if_neg h]
  · unfold whenS hasT stsT
    simp only [fiAt_mem hO.nodup hf]
    cases fiAt B f.path with
    | none => simp [stF]
    | some g => simp [stF]
theorem side3 {B O : List Fi} (hB : OkS B) (hO : OkS O) (src : List Nat → ByteArray × Int) : mergeS src (upT ⟨B, O, O⟩ 3) (chkA ⟨B, O, O⟩ 3) = (0, O.map (keptO ⟨B, O, O⟩)) := by
  have hk : okT3 ⟨B, O, O⟩ := ⟨hB.nodup, hO.nodup, hO.nodup⟩
  refine merge_side hk (chkA_of hB hO hO) hO (fun p hp => (mem_nms hk p).2 (.inr (.inl hp))) (fun p _ => ?_) (fun f hf => ?_)
  · unfold decT decS hasT idsT
    simp only [eqS_same, Bool.true_or, if_true]
  · unfold whenS hasT stsT
    simp only [fiAt_mem hO.nodup hf, Option.isSome_some, stF, Bool.true_eq_false, if_false]
    repeat' split
    all_goals rfl
end Go.Proofs.YtpcipdkoncmdcaaGreatDoor
namespace Go.Proofs.YtpcipdkoncmdcaaGreatDoor
open Go Go.RowKit

theorem out_zsz {x : Ov} (h : (ouC x).length = 135) : Tryz.zeroCells54.size = (ouC x).toArray.size := by
  have e1 : Tryz.zeroCells54.size = 135 := by kernel_rfl
  have e2 : (ouC x).toArray.size = 135 := by rw [List.size_toArray, h]
  rw [e1, e2]
theorem out_isz {x : Ov} (h : (ouC x).length = 135) : (Tryz.prog.info? 54).map (·.size) = some (ouC x).toArray.size := by
  have e2 : (ouC x).toArray.size = 135 := by rw [List.size_toArray, h]
  rw [e2]; exact out_info
/-- The outcome in the block p is the file at b, o kept. -/
structure CmpS (W : World) (p b o : Nat) (f : Fi) : Prop where
  kd : W.cell? ⟨p, 1, none⟩ = some (.int .i64 1)
  pa : W.cell? ⟨p, 0, none⟩ = some (.string f.path)
  id : W.rangeAt p 2 (nb f.id)
  st : W.cell? ⟨p, 34, none⟩ = some (.float .f64 (cn f.stamp))
  fp : W.cell? ⟨b, o, none⟩ = some (.string f.path)
  fi : W.rangeAt b (o + 1) (nb f.id)
  fs : W.cell? ⟨b, o + 33, none⟩ = some (.float .f64 f.stamp)
theorem cmpS_of {W : World} {p b o : Nat} {f : Fi} {x : Ov} (hf : OkFi f) (h1 : W.heap[p]? = some (.cells (ouC x).toArray 54 (0, 0))) (h2 : W.rangeAt b o (fiC f)) (hp : x.o.path = f.path) (hk : x.o.kind = 1) (hi : x.o.id = f.id) (hs : x.o.stamp = cn f.stamp) : CmpS W p b o f := by
  have hc : ∀ j u, (ouC x)[j]? = some u → W.cell? ⟨p, j, none⟩ = some u := fun j u hu => by simp only [World.cell?, h1]; simpa using hu
  have hl := hf.id.1
  refine ⟨hc 1 _ (by unfold ouC; rw [hk]; rfl), hc 0 _ (by unfold ouC; rw [hp]; rfl), fun j u hu => ?_, ?_, h2 0 _ rfl, fun j u hu => ?_, ?_⟩
  · refine hc (2 + j) u ?_
    unfold ouC
    rw [hi, show 2 + j = j + 1 + 1 by omega, List.getElem?_cons_succ, List.getElem?_cons_succ, List.getElem?_append_left (List.getElem?_eq_some_iff.1 hu).1]; exact hu
  · refine hc 34 _ ?_
    unfold ouC
    rw [hi, hs, show (34 : Nat) = 32 + 1 + 1 from rfl, List.getElem?_cons_succ, List.getElem?_cons_succ, List.getElem?_append_right (by rw [nb_len, hl]; exact Nat.le_refl _), nb_len, hl]; rfl
  · rw [Nat.add_assoc]
    refine h2 (1 + j) u ?_
    unfold fiC
    rw [show 1 + j = j + 1 by omega, List.getElem?_cons_succ, List.getElem?_append_left (List.getElem?_eq_some_iff.1 hu).1]; exact hu
  · refine h2 33 _ ?_
    unfold fiC
    rw [show (33 : Nat) = 32 + 1 from rfl, List.getElem?_cons_succ, List.getElem?_append_right (by rw [nb_len, hl]; exact Nat.le_refl _), nb_len, hl]; rfl
theorem CmpS.dn {W : World} {p b o : Nat} {f : Fi} (h : CmpS W p b o f) (n : Nat) : CmpS (W.drewN n) p b o f := ⟨h.kd, h.pa, h.id, h.st, h.fp, h.fi, h.fs⟩
/-- Merging, its answer a snapshot kept. -/
theorem merge_kept {W : World} {va vb vc : Value} {T : T3 (List Fi)} {O : List Fi} (ha : FS W va T.a) (hb : FS W vb T.b) (hc : FS W vc T.c) (hg : Gl W) (hm : mergeS (textS []) (upT T 3) (chkA T 3) = (0, O.map (keptO T))) :
    Calls Tryz.prog 13 #[.agg #[va, vb, vc], SrcV (.slice none 0 0)] W fun e w' => ∃ ov V, e = .returned (.tuple #[ov, .int .i64 0]) ∧ V.map (·.o) = O.map (keptO T) ∧ OR w' ov V ∧ (∀ x ∈ V, x.tv.oneCell' = true) ∧ Below W.heap.size W w' := by
  refine (merge_c (bl := []) ha hb hc hg (fun _ => Nat.zero_le _) (BS.nil W)).mono ?_
  rintro e w' ⟨ov, V, rfl, hV, hMO⟩
  rw [hm] at hV
  rw [hm]
  exact ⟨ov, V, rfl, hV, hMO.or, fun x hx => tx_one (hMO.tx x hx).1.tx, hMO.below⟩
end Go.Proofs.YtpcipdkoncmdcaaGreatDoor
namespace Go.Proofs.YtpcipdkoncmdcaaGreatDoor
open Go Go.RowKit

set_option maxRecDepth 100000 in
set_option maxHeartbeats 4000000 in
theorem small0_c {w : World} {va vb vc : Value} {T : T3 (List Fi)} (ha : FS w va T.a) (hb : FS w vb T.b) (hc : FS w vc T.c) :
    Calls Tryz.prog 11 #[.agg #[va, vb, vc], .slice none 0 0] w fun e w' => e = .returned (.bool (decide (T.a.length + T.b.length + T.c.length ≤ 90))) ∧ Below w.heap.size w w' := by
  obtain ⟨aa, ca, rfl⟩ := ha.lit
  obtain ⟨ab, cb, rfl⟩ := hb.lit
  obtain ⟨ac, cc, rfl⟩ := hc.lit
  have na := ha.n
  have nb := hb.n
  have nc := hc.n
  obtain ⟨W1, hW1⟩ : ∃ W1, w.alloc (.cells #[.slice aa T.a.length ca, .slice ab T.b.length cb, .slice ac T.c.length cc] 23 (0, 0)) = W1 := ⟨_, rfl⟩
  have HB1 : Hid (Below w.heap.size w W1) := by show Below _ _ _; rw [← hW1]; exact (Below.refl _ w).alloc (Nat.le_refl _) _
  have hblk : W1.heap[w.heap.size]? = some (.cells #[.slice aa T.a.length ca, .slice ab T.b.length cb, .slice ac T.c.length cc] 23 (0, 0)) := by rw [← hW1]; exact Array.getElem?_push_size
  have c0 : W1.cell? ⟨w.heap.size, 0, none⟩ = some (.slice aa T.a.length ca) := by simp only [World.cell?, hblk]; rfl
  have c1 : W1.cell? ⟨w.heap.size, 1, none⟩ = some (.slice ab T.b.length cb) := by simp only [World.cell?, hblk]; rfl
  have c2 : W1.cell? ⟨w.heap.size, 2, none⟩ = some (.slice ac T.c.length cc) := by simp only [World.cell?, hblk]; rfl
  have HW1 := Lib.hid hW1
  have k1 : IntKind.i64.wrap ((T.a.length : Int) + (T.b.length : Int)) = ((T.a.length + T.b.length : Nat) : Int) := by rw [IntWalk.i64_in _ (by omega)]; omega
  have k2 : IntKind.i64.wrap (((T.a.length + T.b.length : Nat) : Int) + (T.c.length : Int)) = ((T.a.length + T.b.length + T.c.length : Nat) : Int) := by rw [IntWalk.i64_in _ (by omega)]; omega
  clear ha hb hc hW1 hblk na nb nc
  obtain ⟨N, hN⟩ : ∃ N, T.a.length + T.b.length + T.c.length = N := ⟨_, rfl⟩
  rw [hN] at k2
  obtain ⟨M, hM⟩ : ∃ M, T.a.length + T.b.length = M := ⟨_, rfl⟩
  rw [hM] at k1 k2
  go_enter Tryz.func11, Tryz.ntmps11
  go_upto_region 1 with fail
  rw [HW1.out]
  have HN := Lib.hid hN
  clear hN hM HW1
  by_cases h : N ≤ 90
  · have d1 : decide ((N : Int) ≤ 90) = true := decide_eq_true (by omega)
    have HD : Hid (decide (T.a.length + T.b.length + T.c.length ≤ 90) = true) := decide_eq_true (by rw [HN.out]; exact h)
    go_upto_region 3 with fail
    refine wp_loop_rounds 1 ?_
    rw [rounds_succ]
    go_wp2_with fail
    go_ret
    exact ⟨by rw [HD.out]; rfl, HB1.out⟩
  · have d1 : decide ((N : Int) ≤ 90) = false := decide_eq_false (by omega)
    have HD : Hid (decide (T.a.length + T.b.length + T.c.length ≤ 90) = false) := decide_eq_false (by rw [HN.out]; exact h)
    go_upto_region 3 with fail
    refine wp_loop_rounds 1 ?_
    rw [rounds_succ]
    go_wp2_with fail
    go_ret
    exact ⟨by rw [HD.out]; rfl, HB1.out⟩
end Go.Proofs.YtpcipdkoncmdcaaGreatDoor
namespace Go.Proofs.YtpcipdkoncmdcaaGreatDoor
open Go Go.RowKit

theorem decGo_err {src : List Nat → ByteArray × Int} {T : T3 (List Fi)} (h : okT3 T) : ∀ (l : List ByteArray) (acc : List Ou), (∀ p ∈ l, p ∈ nmsT T) → (decGo src (upT T 3) acc l).1 = 0 → ∀ p ∈ l, (decT src T p).err = 0
  | [], _, _, _, p, hp => by cases hp
  | q :: l, acc, hm, he, p, hp => by
    rw [decGo_step (d := decT src T q) (thOf_nms h (hm q (by simp))) rfl] at he
    by_cases hq : (decT src T q).err = 0
    · rw [if_neg (by simp [hq])] at he
      rcases List.mem_cons.1 hp with rfl | hp
      · exact hq
      · exact decGo_err h l _ (fun x hx => hm x (by simp [hx])) he p hp
    · rw [if_pos hq] at he
      exact absurd he hq
theorem chkA_ok {T : T3 (List Fi)} (h : chkA T 3 = 0) : OkS T.a ∧ OkS T.b ∧ OkS T.c := ⟨okS_of (chkA_zero h 0 (by decide)), okS_of (chkA_zero h 1 (by decide)), okS_of (chkA_zero h 2 (by decide))⟩
/-- What a merge without an error answers. -/
theorem merge_inv {src : List Nat → ByteArray × Int} {T : T3 (List Fi)} (h : (mergeS src (upT T 3) (chkA T 3)).1 = 0) : chkA T 3 = 0 ∧ (∀ p ∈ nmsT T, (decT src T p).err = 0) ∧ (mergeS src (upT T 3) (chkA T 3)).2 = clashed ((nmsT T).filterMap (outT src T)) := by
  have hc : chkA T 3 = 0 := by
    false_or_by_contra
    rename_i hne
    unfold mergeS at h
    rw [if_pos hne] at h
    exact hne h
  obtain ⟨ha, hb, hcc⟩ := chkA_ok hc
  have hk : okT3 T := ⟨ha.nodup, hb.nodup, hcc.nodup⟩
  have he : ∀ p ∈ nmsT T, (decT src T p).err = 0 := by
    unfold mergeS at h
    rw [if_neg (by simp [hc])] at h
    exact decGo_err hk _ _ (fun p hp => hp) h
  exact ⟨hc, he, by rw [merge_ok hk hc he]⟩
/-- A file out of an outcome. -/
def fileO (o : Ou) : Fi := ⟨o.path, o.id, o.stamp⟩
theorem outs_paths {src : List Nat → ByteArray × Int} {T : T3 (List Fi)} : ((nmsT T).filterMap (outT src T)).map (·.path) = (nmsT T).filter fun p => (decT src T p).keep := by
  generalize nmsT T = l
  induction l with
  | nil => rfl
  | cons p l ih =>
    rw [List.filterMap_cons, List.filter_cons]
    unfold outT
    by_cases hk : (decT src T p).keep = true
    · rw [if_pos hk, if_pos hk, List.map_cons]
      congr 1
    · rw [if_neg hk, if_neg hk]
      exact ih
theorem le_lt {a b : ByteArray} (h : PathS.le a b) (hne : a ≠ b) : PathS.cmp a b < 0 := by
  have h1 : PathS.cmp a b ≤ 0 := h
  by_cases e : PathS.cmp a b = 0
  · exact absurd ((PathS.cmp_tw.eq0 a b).1 e) hne
  · omega
theorem nms_check {T : T3 (List Fi)} (hc : chkA T 3 = 0) {p : ByteArray} (hp : p ∈ nmsT T) : PathS.check p = 0 := by
  obtain ⟨ha, hb, hcc⟩ := chkA_ok hc
  rcases (mem_nms ⟨ha.nodup, hb.nodup, hcc.nodup⟩ p).1 hp with h | h | h
  · obtain ⟨f, hf, rfl⟩ := List.mem_map.1 h; exact ha.ck f hf
  · obtain ⟨f, hf, rfl⟩ := List.mem_map.1 h; exact hb.ck f hf
  · obtain ⟨f, hf, rfl⟩ := List.mem_map.1 h; exact hcc.ck f hf
theorem nms_len (T : T3 (List Fi)) : (nmsT T).length ≤ T.a.length + T.b.length + T.c.length := by
  unfold nmsT
  rw [PathS.sorted_length, List.length_map]
  have h0 := takenAll_len 0 T.a []
  have h1 := takenAll_len 1 T.b (takenAll 0 [] T.a)
  have h2 := takenAll_len 2 T.c (takenAll 1 (takenAll 0 [] T.a) T.b)
  have e : upT T 3 = takenAll 2 (takenAll 1 (takenAll 0 [] T.a) T.b) T.c := rfl
  rw [e]
  simp at h0
  omega
theorem clash1_keeps (l : List Ou) (i : Nat) (o : Ou) : (clash1 l i o).path = o.path := by unfold clash1; split <;> rfl
/-- The files of a clean merge. -/
theorem again_ok {src : List Nat → ByteArray × Int} {T : T3 (List Fi)} (hn : T.a.length + T.b.length + T.c.length ≤ 256) (he : (mergeS src (upT T 3) (chkA T 3)).1 = 0) (hcl : (mergeS src (upT T 3) (chkA T 3)).2.all cleanO = true) :
    OkS ((mergeS src (upT T 3) (chkA T 3)).2.map fileO) := by
  obtain ⟨hc, herr, hout⟩ := merge_inv he
  rw [hout] at hcl ⊢
  obtain ⟨os, hos⟩ : ∃ os, (nmsT T).filterMap (outT src T) = os := ⟨_, rfl⟩
  rw [hos] at hcl ⊢
  have hpa : os.map (·.path) = (nmsT T).filter fun p => (decT src T p).keep := by rw [← hos]; exact outs_paths
  have hcp : ((clashed os).map fileO).map (·.path) = (nmsT T).filter fun p => (decT src T p).keep := by
    rw [← hpa, List.map_map]
    apply List.ext_getElem?
    intro i
    unfold clashed
    rw [List.getElem?_map, List.getElem?_map, List.getElem?_mapIdx]
    cases os[i]? with
    | none => rfl
    | some o => show some _ = some _; congr 1; exact clash1_keeps os i o
  obtain ⟨m, hm⟩ : ∃ m, (clashed os).map fileO = m := ⟨_, rfl⟩
  have hlm : m.length = os.length := by rw [← hm]; simp [clashed]
  rw [hm] at hcp ⊢
  have hnd : (m.map (·.path)).Nodup := by rw [hcp]; exact (nms_nodup T).filter _
  have hpw : (m.map (·.path)).Pairwise PathS.le := by rw [hcp]; exact (nms_pw T).filter _
  have hnu : ∀ i (hi : i < os.length), ∀ k (hk : k < i), PathS.under os[i].path (os[k]'(by omega)).path = false := by
    intro i hi k hk
    have h1 : (clashed os)[i]? = some (clash1 os i os[i]) := by unfold clashed; rw [List.getElem?_mapIdx, List.getElem?_eq_getElem hi]; rfl
    have h2 := List.all_eq_true.1 hcl _ (List.mem_of_getElem? h1)
    cases e : PathS.under os[i].path (os[k]'(by omega)).path with
    | false => rfl
    | true =>
      unfold clash1 at h2
      rw [if_pos] at h2
      · simp [cleanO] at h2
      · rw [List.any_eq_true]
        exact ⟨os[k], List.mem_of_getElem? (i := k) (by rw [List.getElem?_take, if_pos hk, List.getElem?_eq_getElem (by omega)]), e⟩
  have hmp : ∀ j (hj : j < m.length), m[j].path = (os[j]'(by omega)).path := by
    intro j hj
    have h1 : (m.map (·.path))[j]? = (os.map (·.path))[j]? := by rw [hcp, hpa]
    rw [List.getElem?_map, List.getElem?_map, List.getElem?_eq_getElem hj, List.getElem?_eq_getElem (by omega)] at h1
    exact Option.some.inj h1
  refine ⟨?_, fun f hf => ?_, fun j hj => ?_, fun j hj => ?_⟩
  · have h1 : m.length ≤ (nmsT T).length := by
      have := congrArg List.length hcp
      rw [List.length_map] at this
      rw [this]; exact List.length_filter_le _ _
    have h2 := nms_len T
    omega
  · have h1 : f.path ∈ m.map (·.path) := List.mem_map_of_mem hf
    rw [hcp] at h1
    exact nms_check hc (List.mem_filter.1 h1).1
  · refine le_lt ?_ ?_
    · have := List.pairwise_iff_getElem.1 hpw j (j + 1) (by simp; omega) (by simpa using hj) (by omega)
      simpa using this
    · intro e
      have := List.pairwise_iff_getElem.1 (List.nodup_iff_pairwise_ne.1 hnd) j (j + 1) (by simp; omega) (by simpa using hj) (by omega)
      exact this (by simpa using e)
  · rw [hmp _ hj, hmp j (by omega)]
    exact hnu (j + 1) (by omega) j (by omega)
theorem again_len {src : List Nat → ByteArray × Int} {T : T3 (List Fi)} (he : (mergeS src (upT T 3) (chkA T 3)).1 = 0) : (mergeS src (upT T 3) (chkA T 3)).2.length ≤ T.a.length + T.b.length + T.c.length := by
  obtain ⟨_, _, hout⟩ := merge_inv he
  rw [hout]
  have h1 : (clashed ((nmsT T).filterMap (outT src T))).length = ((nmsT T).filterMap (outT src T)).length := by simp [clashed]
  have h2 := List.length_filterMap_le (outT src T) (nmsT T)
  have h3 := nms_len T
  omega
theorem again_mem {src : List Nat → ByteArray × Int} {T : T3 (List Fi)} (he : (mergeS src (upT T 3) (chkA T 3)).1 = 0) {o : Ou} (ho : o ∈ (mergeS src (upT T 3) (chkA T 3)).2) : ∃ g, (g ∈ T.a ∨ g ∈ T.b ∨ g ∈ T.c) ∧ g.path = o.path := by
  obtain ⟨hc, herr, hout⟩ := merge_inv he
  rw [hout] at ho
  obtain ⟨i, hi, rfl⟩ := List.getElem_of_mem ho
  have h1 : (clashed ((nmsT T).filterMap (outT src T)))[i]? = some (clashed ((nmsT T).filterMap (outT src T)))[i] := List.getElem?_eq_getElem hi
  unfold clashed at h1
  rw [List.getElem?_mapIdx] at h1
  obtain ⟨x, hx, hxe⟩ := Option.map_eq_some_iff.1 h1
  have h2 : x.path ∈ ((nmsT T).filterMap (outT src T)).map (·.path) := List.mem_map_of_mem (List.mem_of_getElem? hx)
  rw [outs_paths] at h2
  have h3 := (List.mem_filter.1 h2).1
  obtain ⟨ha, hb, hcc⟩ := chkA_ok hc
  have e : (clashed ((nmsT T).filterMap (outT src T)))[i].path = x.path := by
    have : (clashed ((nmsT T).filterMap (outT src T)))[i] = clash1 ((nmsT T).filterMap (outT src T)) i x := hxe.symm
    rw [this]; exact clash1_keeps _ _ _
  rw [e]
  rcases (mem_nms ⟨ha.nodup, hb.nodup, hcc.nodup⟩ x.path).1 h3 with h | h | h
  · obtain ⟨g, hg, e⟩ := List.mem_map.1 h; exact ⟨g, .inl hg, e⟩
  · obtain ⟨g, hg, e⟩ := List.mem_map.1 h; exact ⟨g, .inr (.inl hg), e⟩
  · obtain ⟨g, hg, e⟩ := List.mem_map.1 h; exact ⟨g, .inr (.inr hg), e⟩
end Go.Proofs.YtpcipdkoncmdcaaGreatDoor
namespace Go.Proofs.YtpcipdkoncmdcaaGreatDoor
open Go Go.RowKit

theorem wpList_bld {P : Program} {ops : Array Oper} {rest : List Oper} {o : Oper} {a : Act} {w : World} {Q : Exit → Act → World → Prop} {t : TypeId} (hgd : o.guard = none) (parts : Array (Nat × Operand)) (ho : o.op = .build t parts) {vs : Array (Nat × Value)} (hp : (parts.map fun (i, y) => (i, a.eval y)) = vs) {v : Value} (hr : ∀ w, (Instr.build t vs).run P w = .ok v w)
    (h : wpList P ops Q rest (a.put o.dst v) w) : wpList P ops Q (o :: rest) a w :=
  wpList_plain hgd fun K hK => by
    unfold Oper.wp
    rw [exec_build parts ho hp hr]
    exact hK _ _ h
theorem fileElem : Elem Tryz.prog 22 56 (.agg #[.string ByteArray.empty, .int .u8 0, .int .u8 0, .int .u8 0, .int .u8 0, .int .u8 0, .int .u8 0, .int .u8 0, .int .u8 0, .int .u8 0, .int .u8 0, .int .u8 0, .int .u8 0, .int .u8 0, .int .u8 0, .int .u8 0, .int .u8 0, .int .u8 0, .int .u8 0, .int .u8 0, .int .u8 0, .int .u8 0, .int .u8 0, .int .u8 0, .int .u8 0, .int .u8 0, .int .u8 0, .int .u8 0, .int .u8 0, .int .u8 0, .int .u8 0, .int .u8 0, .int .u8 0, .float .f64 0]) 34 56 := ⟨by kernel_rfl, by kernel_rfl⟩
theorem fiC_one' {f : Fi} : ∀ u ∈ fiC f, u.oneCell' = true := by
  have := fiC_one (f := f)
  rw [List.all_toArray, List.all_eq_true] at this
  exact this

/-- What is read off an outcome's block. -/
theorem outBlk {W : World} {p : Nat} {x : Ov} (hx : OkOu x.o) (h : W.heap[p]? = some (.cells (ouC x).toArray 54 (0, 0))) : W.cell? ⟨p, 0, none⟩ = some (.string x.o.path) ∧ W.rangeAt p 2 (nb x.o.id) ∧ W.cell? ⟨p, 34, none⟩ = some (.float .f64 x.o.stamp) := by
  have hc : ∀ j u, (ouC x)[j]? = some u → W.cell? ⟨p, j, none⟩ = some u := fun j u hu => by simp only [World.cell?, h]; simpa using hu
  refine ⟨hc 0 _ rfl, fun j u hu => ?_, ?_⟩
  · refine hc (2 + j) u ?_
    unfold ouC
    rw [show 2 + j = j + 1 + 1 by omega, List.getElem?_cons_succ, List.getElem?_cons_succ, List.getElem?_append_left (List.getElem?_eq_some_iff.1 hu).1]; exact hu
  · refine hc 34 _ ?_
    unfold ouC
    rw [show (34 : Nat) = 32 + 1 + 1 from rfl, List.getElem?_cons_succ, List.getElem?_cons_succ, List.getElem?_append_right (by rw [nb_len, hx.id.1]; exact Nat.le_refl _), nb_len, hx.id.1]; rfl
theorem fiR_step {F : List Fi} {k : Nat} (hk : k < F.length) : fiR (F.take (k + 1)) = fiR (F.take k) ++ fiC F[k] := by
  rw [List.take_add_one, List.getElem?_eq_getElem hk]
  show (F.take k ++ [F[k]]).flatMap fiC = _
  rw [List.flatMap_append]
  show _ ++ (fiC F[k] ++ []) = _
  rw [List.append_nil]; rfl
theorem fs_own {W : World} {v : Value} {F : List Fi} (h : OwnG W 56 34 v F.length (fiR F)) (hok : ∀ f ∈ F, OkFi f) (hn : F.length ≤ 10000000) : FS W v F := by
  obtain ⟨a, c, e, _, _, hs⟩ := h.form
  exact ⟨⟨a, c, e, hs⟩, hok, hn⟩

set_option maxRecDepth 100000 in
set_option maxHeartbeats 8000000 in
theorem again_c {w : World} {va vb vc : Value} {T : T3 (List Fi)} (ha : FS w va T.a) (hb : FS w vb T.b) (hc : FS w vc T.c) (hg : Gl w) :
    Calls Tryz.prog 6 #[.agg #[va, vb, vc]] w fun e w' => e = .returned (.bool true) ∧ Below w.heap.size w w' := by
  have HFA := Lib.hid ha
  have HFB := Lib.hid hb
  have HFC := Lib.hid hc
  have HGL := Lib.hid hg
  obtain ⟨W1, hW1⟩ : ∃ W1, w.alloc (.cells #[va, vb, vc] 23 (0, 0)) = W1 := ⟨_, rfl⟩
  have HB1 : Hid (Below w.heap.size w W1) := by show Below _ _ _; rw [← hW1]; exact (Below.refl _ w).alloc (Nat.le_refl _) _
  have hblk : W1.heap[w.heap.size]? = some (.cells #[va, vb, vc] 23 (0, 0)) := by rw [← hW1]; exact Array.getElem?_push_size
  have HBLK1 := Lib.hid hblk
  have HLT1 : Hid (w.heap.size < W1.heap.size) := (Array.getElem?_eq_some_iff.1 hblk).1
  have HW1 := Lib.hid hW1
  have HAW := Lib.hid (awake_c W1 (hg.below HB1.out (Nat.le_refl _)))
  obtain ⟨aa, ca, rfl⟩ := ha.lit
  obtain ⟨ab, cb, rfl⟩ := hb.lit
  obtain ⟨ac, cc, rfl⟩ := hc.lit
  clear ha hb hc hg hW1 hblk
  go_enter Tryz.func6, Tryz.ntmps6
  go_upto_region 1 with fail
  rw [HW1.out]
  clear HW1
  go_upto_region 3 with (go_at_call 10; refine HAW.out.mono ?_; rintro e W2 ⟨rfl, hb2⟩)
  have HB2 := Lib.hid (HB1.out.trans (hb2.mono HB1.out.size))
  have HBLK2 : Hid (W2.heap[w.heap.size]? = _) := (hb2.block _ HLT1.out).trans HBLK1.out
  have HLT2 : Hid (w.heap.size < W2.heap.size) := Nat.lt_of_lt_of_le HLT1.out hb2.size
  clear hb2 HB1 HBLK1 HLT1 HAW
  have hsm := small0_c (HFA.out.below HB2.out) (HFB.out.below HB2.out) (HFC.out.below HB2.out)
  by_cases hn : T.a.length + T.b.length + T.c.length ≤ 90
  · rw [decide_eq_true hn] at hsm
    have HSM := Lib.hid hsm
    have HN := Lib.hid hn
    clear hsm hn
    go_upto_region 5 with (first
      | (refine wp_loadB rfl 23 _ rfl w.heap.size rfl HBLK2.out _ Tryz.underlying23 rfl (by kernel_rfl) ?_)
      | (go_at_call 11; refine HSM.out.mono ?_; rintro e W3 ⟨rfl, hb3⟩))
    have HB3 := Lib.hid (HB2.out.trans (hb3.mono HB2.out.size))
    have HBLK3 : Hid (W3.heap[w.heap.size]? = _) := (hb3.block _ HLT2.out).trans HBLK2.out
    have HLT3 : Hid (w.heap.size < W3.heap.size) := Nat.lt_of_lt_of_le HLT2.out hb3.size
    clear hb3 HB2 HBLK2 HLT2 HSM
    have hmc := merge_c (T := T) (bl := []) (HFA.out.below HB3.out) (HFB.out.below HB3.out) (HFC.out.below HB3.out) (HGL.out.below HB3.out (Nat.le_refl _)) (fun _ => Nat.zero_le _) (BS.nil W3)
    have hag := fun h1 h2 => again_ok (src := textS []) (T := T) (by have := HN.out; omega) h1 h2
    have hco := fun h1 => (merge_inv (src := textS []) (T := T) h1).1
    have hal := fun h1 => again_len (src := textS []) (T := T) h1
    have ham := fun h1 o ho => again_mem (src := textS []) (T := T) h1 (o := o) ho
    obtain ⟨R, hR⟩ : ∃ R, mergeS (textS []) (upT T 3) (chkA T 3) = R := ⟨_, rfl⟩
    rw [hR] at hmc hag ham hal hco
    obtain ⟨er, os⟩ := R
    have HMC := Lib.hid hmc
    have HAG : Hid (er = 0 → os.all cleanO = true → OkS (os.map fileO)) := hag
    have HAM : Hid (er = 0 → ∀ o ∈ os, ∃ g, (g ∈ T.a ∨ g ∈ T.b ∨ g ∈ T.c) ∧ g.path = o.path) := ham
    have HAL : Hid (er = 0 → os.length ≤ 90) := fun h => Nat.le_trans (hal h) HN.out
    have HCO : Hid (er = 0 → chkA T 3 = 0) := hco
    clear hmc hag ham hal hco hR
    go_upto_region 6 with (first
      | (refine wp_loadB rfl 23 _ rfl w.heap.size rfl HBLK3.out _ Tryz.underlying23 rfl (by kernel_rfl) ?_)
      | (go_at_call 13; refine HMC.out.mono ?_; rintro e W4 ⟨ov, V, rfl, hV, hMO⟩))
    have HB4 := Lib.hid (HB3.out.trans (hMO.below.mono HB3.out.size))
    have HBLK4 : Hid (W4.heap[w.heap.size]? = _) := (hMO.below.block _ HLT3.out).trans HBLK3.out
    have HLT4 : Hid (w.heap.size < W4.heap.size) := Nat.lt_of_lt_of_le HLT3.out hMO.below.size
    have HOR := Lib.hid hMO.or
    have HV : Hid (V.map (·.o) = os) := hV
    have HONE : Hid (∀ x ∈ V, x.tv.oneCell' = true) := fun x hx => tx_one (hMO.tx x hx).1.tx
    obtain ⟨va', vc', rfl⟩ := hMO.or.lit
    clear hMO hV HMC HB3 HBLK3 HLT3
    by_cases he : er = 0
    · subst he
      have hol := HAL.out rfl
      have hvl : V.length = os.length := by have := congrArg List.length HV.out; simpa using this
      have hcc := clean_c HOR.out HONE.out (by omega)
      have hce : (V.all fun x => cleanO x.o) = os.all cleanO := by rw [← HV.out, List.all_map]; rfl
      rw [hce] at hcc
      obtain ⟨cl, hcl⟩ : ∃ cl, os.all cleanO = cl := ⟨_, rfl⟩
      rw [hcl] at hcc
      have HCC := Lib.hid hcc
      have HCLE := Lib.hid hcl
      clear hcc hce hcl
      cases cl with
      | false =>
        clear hol hvl
        go_wp2_with (go_at_call 18; refine HCC.out.mono ?_; rintro e W5 ⟨rfl, hb5⟩)
        go_ret
        exact ⟨rfl, HB4.out.trans (hb5.mono HB4.out.size)⟩
      | true =>
        obtain ⟨F, hF⟩ : ∃ F, os.map fileO = F := ⟨_, rfl⟩
        have hFO := HAG.out rfl HCLE.out
        rw [hF] at hFO
        have HFO := Lib.hid hFO
        have hfl : F.length = V.length := by rw [← hF, List.length_map, hvl]
        have HFK : Hid (∀ k (h1 : k < V.length) (h2 : k < F.length), F[k] = fileO V[k].o) := by
          intro k h1 h2
          have e1 : F[k]? = (V.map fun x => fileO x.o)[k]? := by
            rw [← hF, ← HV.out, List.map_map]; rfl
          rw [List.getElem?_map, List.getElem?_eq_getElem h1, List.getElem?_eq_getElem h2] at e1
          exact Option.some.inj e1
        have HOKF : Hid (∀ f ∈ F, OkFi f) := by
          intro f hf
          rw [← hF] at hf
          obtain ⟨o, ho, rfl⟩ := List.mem_map.1 hf
          obtain ⟨g, hg, hp⟩ := HAM.out rfl o ho
          rw [← HV.out] at ho
          obtain ⟨x, hx, rfl⟩ := List.mem_map.1 ho
          have hx2 := HOR.out.ok x hx
          refine ⟨hx2.id, hx2.st, ?_⟩
          show x.o.path.size ≤ _
          rw [← hp]
          rcases hg with h | h | h
          · exact (HFA.out.ok g h).pz
          · exact (HFB.out.ok g h).pz
          · exact (HFC.out.ok g h).pz
        have HVL : Hid (V.length ≤ 90) := by show V.length ≤ 90; omega
        have HFL := Lib.hid hfl
        have HCT := Lib.hid (chkA_ok (HCO.out rfl))
        clear hF hFO hfl hol hvl HAG HAM HAL HV HCLE HCO
        go_upto_region 8 with (go_at_call 18; refine HCC.out.mono ?_; rintro e W5 ⟨rfl, hb5⟩)
        have HB5 := Lib.hid (HB4.out.trans (hb5.mono HB4.out.size))
        have HBLK5 : Hid (W5.heap[w.heap.size]? = _) := (hb5.block _ HLT4.out).trans HBLK4.out
        have HLT5 : Hid (w.heap.size < W5.heap.size) := Nat.lt_of_lt_of_le HLT4.out hb5.size
        have HOR5 := Lib.hid (HOR.out.below hb5)
        clear hb5 HB4 HBLK4 HLT4 HOR HCC
        go_upto_region 10 with fail
        go_loopw [5, 35] (fun fv kv wx => ∃ k : Nat, k ≤ V.length ∧ kv = .int .i64 k ∧ Hid (OwnG wx 56 34 fv k (fiR (F.take k))) ∧ Hid (∀ b, fv.ownBlock = some b → W5.heap.size ≤ b) ∧ Hid (Below W5.heap.size W5 wx)) (fun _ kv _ => (V.length - intOf kv).toNat)
        case atStart => exact ⟨0, Nat.zero_le _, rfl, OwnG.nil _ _ _, fun b hb => (by cases hb), Below.refl _ _⟩
        case round =>
          obtain ⟨k, hk, rfl, HOW, HOB, HBW⟩ := hrel
          by_cases hkl : k < V.length
          · have k1 : decide ((k : Int) < (V.length : Int)) = true := decide_eq_true (by omega)
            have k2 : decide (k < V.length) = true := decide_eq_true hkl
            have k3 : (0 : Int) ≤ (k : Int) := by omega
            have k4 : (k : Int) < (V.length : Int) := by omega
            have kw : IntKind.i64.wrap ((k : Int) + 1) = ((k + 1 : Nat) : Int) := IntWalk.i64_in _ (by have := HVL.out; omega)
            have hkf : k < F.length := by have := HFL.out; omega
            obtain ⟨b, o, c', e, hbl, hr⟩ := (HOR5.out.below HBW.out).at hkl
            injection e with e1 _ e2
            subst e1 e2
            have HR : Hid (wr.rangeAt b (o + k * 135) (ouC V[k])) := hr k hkl
            have HXO : Hid (OkOu V[k].o) := HOR5.out.ok _ (List.getElem_mem hkl)
            have HCL : Hid ((ouC V[k]).length = 135) := ouC_len HXO.out
            have HOE : Hid ((ouC V[k]).toArray.all (·.oneCell') = true) := by show _ = _; rw [List.all_toArray, List.all_eq_true]; exact ouC_one (HONE.out _ (List.getElem_mem hkl))
            have HST : Hid (fiR (F.take (k + 1)) = fiR (F.take k) ++ fiC (fileO V[k].o)) := by show _ = _; rw [fiR_step hkf, HFK.out k hkl hkf]
            have HOF : Hid (OkFi (fileO V[k].o)) := by show OkFi _; rw [← HFK.out k hkl hkf]; exact HOKF.out _ (List.getElem_mem hkf)
            clear hr hbl hkf
            generalize V[k] = x at *
            go_upto_region 12 with (first
              | (refine wpList_load_mid rfl 54 _ rfl b (o + k * 135) rfl (ouC x) _ HR.out Tryz.underlying54 rfl (by rw [HCL.out]; exact out_info) ?_)
              | (refine wp_storeB rfl 54 _ _ rfl wr.heap.size (ouC x).toArray rfl rfl Array.getElem?_push_size (out_zsz HCL.out) (out_isz HCL.out) HOE.out ?_; intro W8 hb8 hg8))
            have hB8 : Below wr.heap.size wr W8 := ((Below.refl wr.heap.size wr).alloc (Nat.le_refl _) _).grown hg8 (by simp) (fun k hk => by cases hk; exact Nat.le_refl _)
            have HOW8 := Lib.hid (HOW.out.below hB8)
            have HB8 := Lib.hid (HBW.out.trans (hB8.mono HBW.out.size))
            obtain ⟨hc0, hc2, hc34⟩ := outBlk HXO.out hb8
            have HC2 := Lib.hid hc2
            clear hb8 hg8 hB8 HBW HOW HR HCL HOE hc2
            generalize wr.heap.size = p7 at *
            have HRB : Hid (∀ w, (Instr.build 56 #[(0, .string x.o.path), (1, .agg (nums .u8 x.o.id)), (2, .float .f64 x.o.stamp)]).run Tryz.prog w = .ok (.agg (fiC (fileO x.o)).toArray) w) := fun w => rb_file HXO.out.id x.o.path x.o.stamp w
            have HCF : Hid ((fiC (fileO x.o)).length = 34) := fiC_len HOF.out
            have HBA : Hid (Below W8.heap.size W8 (W8.alloc (.cells (fiC (fileO x.o)).toArray 56))) := (Below.refl _ W8).alloc (Nat.le_refl _) _
            have HSRC : Hid (Src Tryz.prog 34 22 (.slice (some ⟨W8.heap.size, 0, none⟩) 1 1) 1 (fiC (fileO x.o)) (W8.alloc (.cells (fiC (fileO x.o)).toArray 56))) := Src.ofNew Tryz.underlying22 HCF.out fiC_one'
            have HOW9 := Lib.hid (HOW8.out.below HBA.out)
            go_upto_region 13 with (first
              | (refine wpList_load_mid rfl 43 _ rfl p7 2 rfl (nb x.o.id) _ HC2.out id_under rfl (by rw [nb_len, HXO.out.id.1]; kernel_rfl) ?_)
              | (refine wpList_bld rfl _ rfl (by simp only [Act.put, List.setIfInBounds_toArray]; simp [Act.eval]; rfl) HRB.out ?_)
              | (refine wpList_build1 (cs := (fiC (fileO x.o)).toArray) (n := 34) rfl _ rfl (by simp only [Act.put, List.setIfInBounds_toArray]; simp [Act.eval]) Tryz.underlying22 file_info file_zero (by decide) (by decide) (by rw [List.size_toArray]; exact HCF.out) ?_)
              | (refine wp_appG rfl _ _ _ _ rfl fileElem (by kernel_rfl) (v := u5) (xv := .slice (some ⟨W8.heap.size, 0, none⟩) 1 1) (n := k) (m := 1) rfl HOW9.out rfl HSRC.out (by have := HVL.out; simp only [maxLen]; omega) (by have := HVL.out; omega) ?_; intro v10 W10 ho10 hg10 hv10))
            have HOW10 : Hid (Hid (OwnG W10 56 34 v10 (k + 1) (fiR (F.take (k + 1))))) := by show OwnG _ _ _ _ _ _; rw [HST.out]; exact ho10
            have HOB10 : Hid (Hid (∀ b, v10.ownBlock = some b → W5.heap.size ≤ b)) := fun b hb => (hv10 b hb).elim (HOB.out b) (fun h => by have h1 := HBA.out.size; have h2 := HB8.out.size; omega)
            have HB10 : Hid (Hid (Below W5.heap.size W5 W10)) := (HB8.out.trans (HBA.out.mono HB8.out.size)).grown hg10 (Nat.le_trans HB8.out.size HBA.out.size) (fun b hb => HOB.out b hb)
            clear ho10 hg10 hv10 HOW9 HSRC HBA HCF HRB HC2 hc0 hc34 HOW8 HB8 HOB
            go_wp2_with fail
            go_roundw
            case rel => exact ⟨k + 1, hkl, by go_num, HOW10.out, HOB10.out, HB10.out⟩
            case measure => simp [intOf]; omega
          · have hkn : k = V.length := by omega
            subst hkn
            have k1 : decide ((V.length : Int) < (V.length : Int)) = false := decide_eq_false (by omega)
            have hfl := HFL.out
            have hfs : FS wr u5 F := fs_own (by rw [hfl]; have := HOW.out; rw [List.take_of_length_le (by omega)] at this; exact this) HOKF.out (by have := HVL.out; omega)
            have HFS := Lib.hid hfs
            obtain ⟨fa, fc, rfl⟩ := hfs.lit
            have HBR := Lib.hid (HB5.out.trans (HBW.out.mono HB5.out.size))
            have hck := tcheck_c hfs (HGL.out.below HBR.out (Nat.le_refl _))
            rw [chkS_of HFO.out] at hck
            have HCK := Lib.hid hck
            have HBLKr : Hid (wr.heap[w.heap.size]? = _) := (HBW.out.block _ HLT5.out).trans HBLK5.out
            have HLTr : Hid (w.heap.size < wr.heap.size) := Nat.lt_of_lt_of_le HLT5.out HBW.out.size
            clear hck hfs hfl HBW HOB HOW HB5 HBLK5 HLT5 HOR5
            go_upto_region 16 with (go_at_call 19; refine HCK.out.mono ?_; rintro e W6 ⟨rfl, hb6⟩)
            have HB6 := Lib.hid (HBR.out.trans (hb6.mono HBR.out.size))
            have HFS6 := Lib.hid (HFS.out.below hb6)
            have HBLK6 : Hid (W6.heap[w.heap.size]? = _) := (hb6.block _ HLTr.out).trans HBLKr.out
            have HLT6 : Hid (w.heap.size < W6.heap.size) := Nat.lt_of_lt_of_le HLTr.out hb6.size
            clear hb6 HBR HFS HBLKr HLTr HCK
            go_upto_region 17 with fail
            have HMG : Hid (∀ i, i < 2 → ∃ sv S, (∀ W : World, W.heap[w.heap.size]? = some (.cells #[.slice aa T.a.length ca, .slice ab T.b.length cb, .slice ac T.c.length cc] 23 (0, 0)) → W.cell? ⟨w.heap.size, 1 + i, none⟩ = some sv) ∧ FS w sv S ∧ OkS S) := by
              intro i hi
              rcases i with _ | _ | i
              · exact ⟨_, T.b, fun W hW => (by simp only [World.cell?, hW]; rfl), HFB.out, HCT.out.2.1⟩
              · exact ⟨_, T.c, fun W hW => (by simp only [World.cell?, hW]; rfl), HFC.out, HCT.out.2.2⟩
              · omega
            clear HCT HFA HFB HFC HOKF HFK HONE
            go_loopw [55] (fun iv wx => ∃ i : Nat, i ≤ 2 ∧ iv = .int .i64 i ∧ Hid (Below w.heap.size w wx) ∧ Hid (FS wx (.slice fa F.length fc) F) ∧ Hid (wx.heap[w.heap.size]? = some (.cells #[.slice aa T.a.length ca, .slice ab T.b.length cb, .slice ac T.c.length cc] 23 (0, 0))) ∧ Hid (w.heap.size < wx.heap.size)) (fun iv _ => (2 - intOf iv).toNat)
            case atStart => exact ⟨0, by decide, rfl, HB6, HFS6, HBLK6, HLT6⟩
            case round =>
              clear HB6 HFS6 HBLK6 HLT6
              obtain ⟨i, hi, rfl, HBW, HFS, HBLK, HLT⟩ := hrel
              by_cases hlt : i < 2
              · have d1 : decide ((i : Int) < 2) = true := decide_eq_true (by omega)
                have d2 : decide (i < 2) = true := decide_eq_true hlt
                have d3 : (0 : Int) ≤ (i : Int) := by omega
                have d4 : (i : Int) < 2 := by omega
                have dw : IntKind.i64.wrap ((i : Int) + 1) = ((i + 1 : Nat) : Int) := IntWalk.i64_in _ (by omega)
                obtain ⟨sv, S, hcell, hfs, hos⟩ := HMG.out i hlt
                have hsv := hcell wr HBLK.out
                have HMK : Hid (Calls Tryz.prog 13 #[.agg #[sv, .slice fa F.length fc, sv], SrcV (.slice none 0 0)] wr fun e w' => ∃ ov V, e = .returned (.tuple #[ov, .int .i64 0]) ∧ V.map (·.o) = F.map (keptO ⟨S, F, S⟩) ∧ OR w' ov V ∧ (∀ x ∈ V, x.tv.oneCell' = true) ∧ Below wr.heap.size wr w') := merge_kept (T := ⟨S, F, S⟩) (hfs.below HBW.out) HFS.out (hfs.below HBW.out) (HGL.out.below HBW.out (Nat.le_refl _)) (side1 hos HFO.out _)
                obtain ⟨sa, sc, rfl⟩ := hfs.lit
                clear hcell hfs hos
                go_upto_region 20 with (go_at_call 13; refine HMK.out.mono ?_; rintro e W7 ⟨ov, V2, rfl, hV, hor, hone, hb7⟩)
                have hln : V2.length = F.length := by have := congrArg List.length hV; simpa using this
                have hol : F.length ≤ 256 := HFO.out.n
                obtain ⟨oa7, oc7, rfl⟩ := hor.lit
                have HOR := Lib.hid hor
                have HV2 := Lib.hid hV
                have HB7 := Lib.hid (HBW.out.trans (hb7.mono HBW.out.size))
                have HFS7 := Lib.hid (HFS.out.below hb7)
                have HBLK7 : Hid (W7.heap[w.heap.size]? = _) := (hb7.block _ HLT.out).trans HBLK.out
                have HLT7 : Hid (w.heap.size < W7.heap.size) := Nat.lt_of_lt_of_le HLT.out hb7.size
                have hcl : (V2.all fun x => cleanO x.o) = true := by
                  rw [List.all_eq_true]
                  intro x hx
                  have h1 : x.o ∈ V2.map (·.o) := List.mem_map_of_mem hx
                  rw [hV] at h1
                  obtain ⟨f, -, hf⟩ := List.mem_map.1 h1
                  rw [← hf]; rfl
                have hcc := clean_c hor hone (by omega)
                rw [hcl] at hcc
                have HCC := Lib.hid hcc
                have hle : ((V2.length : Int) == (F.length : Int)) = true := beq_iff_eq.2 (by omega)
                have HLN := Lib.hid hln
                have HON2 := Lib.hid hone
                have hvb : V2.length ≤ 256 := by omega
                clear hor hV hb7 hcl hcc hone hln HBW HFS HBLK HLT HMK hsv
                go_upto_region 22 with (go_at_call 18; refine HCC.out.mono ?_; rintro e W8 ⟨rfl, hb8⟩)
                have HOR8 := Lib.hid (HOR.out.below hb8)
                have HB8 := Lib.hid (HB7.out.trans (hb8.mono HB7.out.size))
                have HFS8 := Lib.hid (HFS7.out.below hb8)
                have HBLK8 : Hid (W8.heap[w.heap.size]? = _) := (hb8.block _ HLT7.out).trans HBLK7.out
                have HLT8 : Hid (w.heap.size < W8.heap.size) := Nat.lt_of_lt_of_le HLT7.out hb8.size
                clear hb8 HB7 HFS7 HBLK7 HLT7 HOR HCC hle
                go_upto_region 23 with fail
                go_loopw [85] (fun kv wx => ∃ k : Nat, k ≤ V2.length ∧ kv = .int .i64 k ∧ Hid (Below w.heap.size w wx) ∧ Hid (FS wx (.slice fa F.length fc) F) ∧ Hid (OR wx (.slice oa7 V2.length oc7) V2) ∧ Hid (wx.heap[w.heap.size]? = some (.cells #[.slice aa T.a.length ca, .slice ab T.b.length cb, .slice ac T.c.length cc] 23 (0, 0))) ∧ Hid (w.heap.size < wx.heap.size)) (fun kv _ => (V2.length - intOf kv).toNat)
                case atStart => exact ⟨0, Nat.zero_le _, rfl, HB8, HFS8, HOR8, HBLK8, HLT8⟩
                case round =>
                  clear HB8 HFS8 HOR8 HBLK8 HLT8
                  obtain ⟨k, hk, rfl, HBW, HFS, HOR, HBLK, HLT⟩ := hrel
                  by_cases hkl : k < V2.length
                  · have k1 : decide ((k : Int) < (V2.length : Int)) = true := decide_eq_true (by omega)
                    have k2 : decide (k < V2.length) = true := decide_eq_true hkl
                    have k3 : (0 : Int) ≤ (k : Int) := by omega
                    have k4 : (k : Int) < (V2.length : Int) := by omega
                    have k5 : (k : Int) < (F.length : Int) := by have := HLN.out; omega
                    have kw : IntKind.i64.wrap ((k : Int) + 1) = ((k + 1 : Nat) : Int) := IntWalk.i64_in _ (by omega)
                    have hko : k < F.length := by have := HLN.out; omega
                    obtain ⟨b, o, c', e, hbl, hr⟩ := HOR.out.at hkl
                    injection e with e1 _ e2
                    subst e1 e2
                    obtain ⟨fb, fo, c2', e, hfl, hfr⟩ := HFS.out.at hko
                    injection e with e1 _ e2
                    subst e1 e2
                    have HR : Hid (wr.rangeAt b (o + k * 135) (ouC V2[k])) := hr k hkl
                    have HFR : Hid (wr.rangeAt fb (fo + k * 34) (fiC F[k])) := hfr k hko
                    have HFK : Hid (OkFi F[k]) := HFS.out.ok _ (List.getElem_mem hko)
                    have HFL : Hid (fb < wr.heap.size) := hfl
                    have HCL : Hid ((ouC V2[k]).length = 135) := ouC_len (HOR.out.ok _ (List.getElem_mem hkl))
                    have HOE : Hid ((ouC V2[k]).toArray.all (·.oneCell') = true) := by show _ = _; rw [List.all_toArray, List.all_eq_true]; exact ouC_one (HON2.out _ (List.getElem_mem hkl))
                    have HVK : Hid (V2[k].o = keptO ⟨S, F, S⟩ F[k]) := by
                      have h1 : (V2.map (·.o))[k]? = (F.map (keptO ⟨S, F, S⟩))[k]? := by rw [HV2.out]
                      rw [List.getElem?_map, List.getElem?_map, List.getElem?_eq_getElem hkl, List.getElem?_eq_getElem hko] at h1
                      exact Option.some.inj h1
                    clear hr hfr hfl hbl
                    generalize V2[k] = x at *
                    generalize F[k] = f at *
                    go_upto_region 25 with (first
                      | (refine wpList_load_mid rfl 54 _ rfl b (o + k * 135) rfl (ouC x) _ HR.out Tryz.underlying54 rfl (by rw [HCL.out]; exact out_info) ?_)
                      | (refine wp_storeB rfl 54 _ _ rfl wr.heap.size (ouC x).toArray rfl rfl Array.getElem?_push_size (out_zsz HCL.out) (out_isz HCL.out) HOE.out ?_; intro W8 hb8 hg8))
                    have hB8 : Below wr.heap.size wr W8 := ((Below.refl wr.heap.size wr).alloc (Nat.le_refl _) _).grown hg8 (by simp) (fun k hk => by cases hk; exact Nat.le_refl _)
                    have hs0 : CmpS (W8.drewN 1) wr.heap.size fb (fo + k * 34) f := (cmpS_of HFK.out hb8 (fun j u hu => (hB8.cell (p := ⟨fb, fo + k * 34 + j, none⟩) HFL.out).trans (HFR.out j u hu)) (by rw [HVK.out]; rfl) (by rw [HVK.out]; rfl) (by rw [HVK.out]; rfl) (by rw [HVK.out]; rfl)).dn 1
                    have HB8 : Hid (Hid (Below w.heap.size w (W8.drewN 1))) := below_dN (HBW.out.trans (hB8.mono HBW.out.size)) 1
                    have HFS8 : Hid (Hid (FS (W8.drewN 1) (.slice (some ⟨fb, fo, none⟩) F.length fc) F)) := HFS.out.below (below_dN hB8 1)
                    have HOR8 : Hid (Hid (OR (W8.drewN 1) (.slice (some ⟨b, o, none⟩) V2.length oc7) V2)) := HOR.out.below (below_dN hB8 1)
                    have HBLK8 : Hid (Hid ((W8.drewN 1).heap[w.heap.size]? = _)) := (hB8.block _ HLT.out).trans HBLK.out
                    have HLT8 : Hid (Hid (w.heap.size < (W8.drewN 1).heap.size)) := Nat.lt_of_lt_of_le HLT.out hB8.size
                    have HBT : Hid (∀ W, Calls Tryz.prog 20 #[.float .f64 (cn f.stamp)] W fun e w' => e = .returned (.int .u64 (cn f.stamp)) ∧ w' = W) := fun W => by have := refbits_c (cn f.stamp) W; rw [cn_cn] at this; exact this
                    clear hb8 hg8 hB8 HBW HFS HOR HBLK HLT HR HFR HCL HOE HVK HFL
                    generalize wr.heap.size = p10 at *
                    refine wp_region_hz (fun W => CmpS W p10 fb (fo + k * 34) f) (.tk 0 (.tk 1 (.tk 2 (.tk 3 (.tk 4 (.tk 5 (.tk 6 (.tk 7 (.tk 8 (.tk 9 (.tk 10 (.tk 11 (.tk 12 (.tk 13 (.tk 14 (.tk 15 (.tk 16 (.tk 17 (.tk 18 (.tk 19 (.tk 20 (.tk 21 (.tk 22 (.tk 23 (.tk 24 (.tk 25 (.tk 27 (.tk 28 (.tk 29 (.tk 30 (.tk 31 (.fc 26 (.fc 32 (.tk 33 (.tk 34 (.nil)))))))))))))))))))))))))))))))))))) (by kernel_rfl) (by kernel_rfl) (fun _ _ _ _ _ h => h) ?_
                    refine goZ_tk rfl rfl 90 rfl (.pointer (some ⟨p10, 1, none⟩)) (fun _ => rfl) ?_
                    simp only [List.setIfInBounds_toArray, List.set_cons_zero, List.set_cons_succ]
                    refine goZ_ld rfl rfl 91 rfl 3 _ rfl ⟨p10, 1, none⟩ (.int .i64 1) rfl (fun W hS => ld_int _ _ W hS.kd) (hs0) ?_
                    simp only [List.setIfInBounds_toArray, List.set_cons_zero, List.set_cons_succ]
                    refine goZ_tk rfl rfl 92 rfl (.bool false) (fun _ => by go_simp) ?_
                    simp only [List.setIfInBounds_toArray, List.set_cons_zero, List.set_cons_succ]
                    refine goZ_tk rfl rfl 93 rfl (.bool false) (fun _ => rfl) ?_
                    simp only [List.setIfInBounds_toArray, List.set_cons_zero, List.set_cons_succ]
                    refine goZ_tk rfl rfl 94 rfl (.pointer (some ⟨p10, 0, none⟩)) (fun _ => rfl) ?_
                    simp only [List.setIfInBounds_toArray, List.set_cons_zero, List.set_cons_succ]
                    refine goZ_ld rfl rfl 95 rfl 9 _ rfl ⟨p10, 0, none⟩ (.string f.path) rfl (fun W hS => ld_string _ _ W hS.pa) (hs0) ?_
                    simp only [List.setIfInBounds_toArray, List.set_cons_zero, List.set_cons_succ]
                    refine goZ_tk rfl rfl 96 rfl (.slice (some ⟨fb, fo, none⟩) F.length fc) (fun _ => rfl) ?_
                    simp only [List.setIfInBounds_toArray, List.set_cons_zero, List.set_cons_succ]
                    refine goZ_tk rfl rfl 97 rfl (.int .i64 k) (fun _ => rfl) ?_
                    simp only [List.setIfInBounds_toArray, List.set_cons_zero, List.set_cons_succ]
                    refine goZ_tk rfl rfl 98 rfl (.pointer (some ⟨fb, fo + k * 34, none⟩)) (fun _ => by go_simp) ?_
                    simp only [List.setIfInBounds_toArray, List.set_cons_zero, List.set_cons_succ]
                    refine goZ_tk rfl rfl 99 rfl (.pointer (some ⟨fb, fo + k * 34, none⟩)) (fun _ => rfl) ?_
                    simp only [List.setIfInBounds_toArray, List.set_cons_zero, List.set_cons_succ]
                    refine goZ_ld rfl rfl 100 rfl 9 _ rfl ⟨fb, fo + k * 34, none⟩ (.string f.path) rfl (fun W hS => ld_string _ _ W hS.fp) (hs0) ?_
                    simp only [List.setIfInBounds_toArray, List.set_cons_zero, List.set_cons_succ]
                    refine goZ_tk rfl rfl 101 rfl (.bool false) (fun _ => by go_simp) ?_
                    simp only [List.setIfInBounds_toArray, List.set_cons_zero, List.set_cons_succ]
                    refine goZ_tk rfl rfl 102 rfl (.bool false) (fun _ => rfl) ?_
                    simp only [List.setIfInBounds_toArray, List.set_cons_zero, List.set_cons_succ]
                    refine goZ_tk rfl rfl 103 rfl (.bool false) (fun _ => rfl) ?_
                    simp only [List.setIfInBounds_toArray, List.set_cons_zero, List.set_cons_succ]
                    refine goZ_tk rfl rfl 104 rfl (.pointer (some ⟨p10, 2, none⟩)) (fun _ => rfl) ?_
                    simp only [List.setIfInBounds_toArray, List.set_cons_zero, List.set_cons_succ]
                    refine goZ_ld rfl rfl 105 rfl 43 _ rfl ⟨p10, 2, none⟩ (.agg (nums .u8 f.id)) rfl (fun W hS => ld_id HFK.out.id hS.id) (hs0) ?_
                    simp only [List.setIfInBounds_toArray, List.set_cons_zero, List.set_cons_succ]
                    refine goZ_tk rfl rfl 106 rfl (.slice (some ⟨fb, fo, none⟩) F.length fc) (fun _ => rfl) ?_
                    simp only [List.setIfInBounds_toArray, List.set_cons_zero, List.set_cons_succ]
                    refine goZ_tk rfl rfl 107 rfl (.int .i64 k) (fun _ => rfl) ?_
                    simp only [List.setIfInBounds_toArray, List.set_cons_zero, List.set_cons_succ]
                    refine goZ_tk rfl rfl 108 rfl (.pointer (some ⟨fb, fo + k * 34, none⟩)) (fun _ => by go_simp) ?_
                    simp only [List.setIfInBounds_toArray, List.set_cons_zero, List.set_cons_succ]
                    refine goZ_tk rfl rfl 109 rfl (.pointer (some ⟨fb, fo + k * 34 + 1, none⟩)) (fun _ => rfl) ?_
                    simp only [List.setIfInBounds_toArray, List.set_cons_zero, List.set_cons_succ]
                    refine goZ_ld rfl rfl 110 rfl 43 _ rfl ⟨fb, fo + k * 34 + 1, none⟩ (.agg (nums .u8 f.id)) rfl (fun W hS => ld_id HFK.out.id hS.fi) (hs0) ?_
                    simp only [List.setIfInBounds_toArray, List.set_cons_zero, List.set_cons_succ]
                    refine goZ_tk rfl rfl 111 rfl (.bool false) (exec_bin _ _ rfl rfl rfl (fun _ => by first | rfl | go_simp) (id_same HFK.out.id)) ?_
                    simp only [List.setIfInBounds_toArray, List.set_cons_zero, List.set_cons_succ]
                    refine goZ_tk rfl rfl 112 rfl (.bool false) (fun _ => rfl) ?_
                    simp only [List.setIfInBounds_toArray, List.set_cons_zero, List.set_cons_succ]
                    refine goZ_tk rfl rfl 113 rfl (.bool false) (fun _ => rfl) ?_
                    simp only [List.setIfInBounds_toArray, List.set_cons_zero, List.set_cons_succ]
                    refine goZ_tk rfl rfl 114 rfl (.pointer (some ⟨p10, 34, none⟩)) (fun _ => rfl) ?_
                    simp only [List.setIfInBounds_toArray, List.set_cons_zero, List.set_cons_succ]
                    refine goZ_ld rfl rfl 115 rfl 44 _ rfl ⟨p10, 34, none⟩ (.float .f64 (cn f.stamp)) rfl (fun W hS => ld_float _ _ W hS.st) (hs0) ?_
                    simp only [List.setIfInBounds_toArray, List.set_cons_zero, List.set_cons_succ]
                    refine goZ_tk rfl rfl 117 rfl (.slice (some ⟨fb, fo, none⟩) F.length fc) (fun _ => rfl) ?_
                    simp only [List.setIfInBounds_toArray, List.set_cons_zero, List.set_cons_succ]
                    refine goZ_tk rfl rfl 118 rfl (.int .i64 k) (fun _ => rfl) ?_
                    simp only [List.setIfInBounds_toArray, List.set_cons_zero, List.set_cons_succ]
                    refine goZ_tk rfl rfl 119 rfl (.pointer (some ⟨fb, fo + k * 34, none⟩)) (fun _ => by go_simp) ?_
                    simp only [List.setIfInBounds_toArray, List.set_cons_zero, List.set_cons_succ]
                    refine goZ_tk rfl rfl 120 rfl (.pointer (some ⟨fb, fo + k * 34 + 33, none⟩)) (fun _ => rfl) ?_
                    simp only [List.setIfInBounds_toArray, List.set_cons_zero, List.set_cons_succ]
                    refine goZ_ld rfl rfl 121 rfl 44 _ rfl ⟨fb, fo + k * 34 + 33, none⟩ (.float .f64 f.stamp) rfl (fun W hS => ld_float _ _ W hS.fs) (hs0) ?_
                    simp only [List.setIfInBounds_toArray, List.set_cons_zero, List.set_cons_succ]
                    refine goZ_call (ds' := [31, 20, 15, 10, 5, 1]) rfl rfl (by kernel_rfl) 116 rfl 20 _ rfl [(.float .f64 (cn f.stamp))] rfl (enters_of Tryz.func20 (by kernel_rfl) rfl) ((HBT.out _).mono ?_)
                    rintro _ _ ⟨rfl, rfl⟩
                    refine ⟨(.int .u64 (cn f.stamp)), rfl, fun _ => hs0, ?_⟩
                    simp only [List.setIfInBounds_toArray, List.set_cons_zero, List.set_cons_succ]
                    refine goZ_call (ds' := [20, 15, 10, 5, 1]) rfl rfl (by kernel_rfl) 122 rfl 20 _ rfl [(.float .f64 f.stamp)] rfl (enters_of Tryz.func20 (by kernel_rfl) rfl) ((refbits_c f.stamp _).mono ?_)
                    rintro _ _ ⟨rfl, rfl⟩
                    refine ⟨(.int .u64 (cn f.stamp)), rfl, fun _ => hs0, ?_⟩
                    simp only [List.setIfInBounds_toArray, List.set_cons_zero, List.set_cons_succ]
                    refine goZ_tk rfl rfl 123 rfl (.bool false) (fun _ => by go_simp) ?_
                    simp only [List.setIfInBounds_toArray, List.set_cons_zero, List.set_cons_succ]
                    refine goZ_tk rfl rfl 124 rfl (.bool false) (fun _ => rfl) ?_
                    simp only [List.setIfInBounds_toArray, List.set_cons_zero, List.set_cons_succ]
                    refine goZ_end ?_
                    generalize W8.drewN 1 = W9 at *
                    go_wp2_with fail
                    exact ⟨⟨_, _, _, _, ⟨k + 1, hkl, rfl, HB8.out, HFS8.out, HOR8.out, HBLK8.out, HLT8.out⟩, rfl, rfl, rfl, by go_num⟩, by simp [intOf]; omega⟩
                  · have k1 : decide ((k : Int) < (V2.length : Int)) = false := decide_eq_false (by omega)
                    have k2 : decide (k < V2.length) = false := decide_eq_false hkl
                    have QBW := Lib.hid HBW
                    have QFS := Lib.hid HFS
                    have QBLK := Lib.hid HBLK
                    have QLT := Lib.hid HLT
                    clear HBW HFS HBLK HLT
                    go_wp2_with fail
                    go_roundw
                    case rel => exact ⟨i + 1, hlt, by go_num, QBW.out, QFS.out, QBLK.out, QLT.out⟩
                    case measure => simp [intOf]; omega
              · have d1 : decide ((i : Int) < 2) = false := decide_eq_false (by omega)
                have d2 : decide (i < 2) = false := decide_eq_false hlt
                go_wp2_with fail
                go_ret
                exact ⟨rfl, HBW.out⟩
    · have e0 : (er == 0) = false := beq_eq_false_iff_ne.2 he
      go_wp2_with fail
      go_ret
      exact ⟨rfl, HB4.out⟩
  · rw [decide_eq_false hn] at hsm
    have HSM := Lib.hid hsm
    clear hsm
    go_wp2_with (first
      | (refine wp_loadB rfl 23 _ rfl w.heap.size rfl HBLK2.out _ Tryz.underlying23 rfl (by kernel_rfl) ?_)
      | (go_at_call 11; refine HSM.out.mono ?_; rintro e W3 ⟨rfl, hb3⟩))
    go_ret
    exact ⟨rfl, HB2.out.trans (hb3.mono HB2.out.size)⟩
end Go.Proofs.YtpcipdkoncmdcaaGreatDoor
namespace Go.Proofs.YtpcipdkoncmdcaaGreatDoor.joinAgain
open Go.ChangeShapes Go.WideShapes Go.ChangeAt Go.RowKit
open Go.WideMaps Go.WideElems
open Go.ChangeMaps (open_string shut_string)

theorem reads (os : Os) {H : Type} (enc : TypeId × Value → H) : ∃ places, DataW.whole enc Tryz.prog ((laidWorld os).forCall (fun _ _ => 0) ⟨#[], #[Value.agg #[.slice none 0 0, .slice none 0 0, .slice none 0 0]], []⟩).memory Tryz.f6.params.toList Rows.joinAgainSpec.vars false (#[Value.agg #[.slice none 0 0, .slice none 0 0, .slice none 0 0]] : Array Value).toList 8 = some ([.agg [.nil, .nil, .nil]], [], places) :=
  ⟨[], by kernel_rfl⟩

set_option maxRecDepth 100000 in
theorem contract (H : Type) (enc : TypeId × Value → H) (W : World) (base : Nat) (args : Array Value) (ds : List (DataW H)) (p : List MemPlace)
    (hval : ∀ (j : Nat) t v, Tryz.f6.params[j]? = some t → args[j]? = some v → Value.okWide Tryz.prog W .any base t v)
    (hA : DataW.TrodAll enc Tryz.prog W 0 (fun _ => true) true Tryz.f6.params.toList args.toList ds p) (hk : Rows.uptoSmall H ds = true) (_hL : laidMetH Tryz.prog Rows.joinAgainUptoRow.laid W) (hshape : W.ShapedOpen Tryz.prog) :
    Calls Tryz.prog 6 args W fun e W' => e = .returned (.bool true) ∧ Below W.heap.size W W' := by
  rw [Tryz.params6] at hA hval
  obtain ⟨v0, vs0, d0, ds0, p0, q0, hargs0, rfl, rfl, h0, r0⟩ := trodAll_cons hA
  obtain ⟨rfl, rfl, rfl⟩ := trodAll_nil r0
  obtain rfl : args = #[v0] := by cases args; simp_all
  have k0 := bulk_mem hk (d := d0) (by simp)
  obtain ⟨va0, vb0, vc0, x0, rfl, fa0, fb0, fc0⟩ := open_snaps (hval 0 23 v0 rfl rfl) h0 k0
  exact again_c fa0 fb0 fc0 (gl_of_shaped hshape)

set_option maxRecDepth 100000 in
theorem lifted (os : Os) (started : os.Started) (H : Type) (enc : TypeId × Value → H) (F : Stop.Interp) :
    ReturnsInHanded {} Tryz.checked os 6 .any ((Rows.OpenSpec.upto Rows.joinAgainSpec).preRow enc Tryz.prog Tryz.f6 Rows.joinAgainUptoRow.domain false Rows.joinAgainUptoRow.laid) (((Rows.OpenSpec.upto Rows.joinAgainSpec).at F).post enc Tryz.prog Tryz.f6 false true false false) := by
  obtain ⟨places, hx⟩ := reads os enc
  refine law_lifted (laid := Rows.joinAgainUptoRow.laid) started Tryz.func6 (by kernel_rfl) rfl rfl ?_ (by kernel_rfl) ?_ ?_ ?_
  · intro ds h
    match ds, h with
    | [_], _ => rfl
  · rw [Tryz.params6]
    intro t ht
    have ht : t ∈ [23] := ht
    simp only [List.mem_cons, List.mem_nil_iff, or_false] at ht
    rcases ht with rfl <;> exact ⟨by kernel_rfl, of_decide_eq_true (by kernel_rfl)⟩
  · exact witness_row_at (enc := enc) (C := Tryz.checked) false (laidWorld os) #[Value.agg #[.slice none 0 0, .slice none 0 0, .slice none 0 0]] rfl (by kernel_rfl) (by kernel_rfl) (by kernel_rfl)
      (OpenSpec.preRow_of_cond 8 hx (by kernel_rfl) (fun k hk => by cases hk; kernel_rfl) (by kernel_rfl) (laid_met os _))
  · exact contract H enc

theorem saidUpto : Rows.JoinAgainUptoSaid :=
  OpenClaim.holds_of_cond 6 Tryz.f6 rfl rfl rfl rfl rfl rfl rfl ⟨rfl, rfl, rfl, rfl, rfl⟩ rfl rfl rfl rfl rfl (by kernel_rfl) Tryz.func6 (by kernel_rfl)
    (of_decide_eq_true (by kernel_rfl)) (by unfold Func.isWrapper; rw [if_neg (by decide +kernel)]; exact ⟨rfl, rfl⟩)
    (fun os started H enc _ F => by rw [OpenClaim.pre_eq_preRow]; exact lifted os started H enc F)

theorem plain (f : FuncId) (fn : Func) (hf : Tryz.pinned.checked.prog.funcNamed "towline/towlinelaw13.JoinAgain" = some f) (hfn : Tryz.pinned.checked.prog.funcs[f]? = some fn) :
    false = Tryz.pinned.checked.prog.looks [] ∧ ∀ (j : Nat) t, fn.params[j]? = some t → Tryz.pinned.checked.prog.wantsStandIn t = false := by
  obtain rfl : f = 6 := Option.some.inj ((show Tryz.prog.funcNamed "towline/towlinelaw13.JoinAgain" = some 6 by kernel_rfl).symm.trans hf) |>.symm
  obtain rfl : fn = Tryz.f6 := (Option.some.inj (Tryz.func6.symm.trans hfn)).symm
  refine ⟨by kernel_rfl, fun j t ht => ?_⟩
  rw [Tryz.params6] at ht
  have ht : t ∈ [23] := by simpa using Array.mem_of_getElem? ht
  simp only [List.mem_cons, List.mem_nil_iff, or_false] at ht
  rcases ht with rfl <;> exact (show Tryz.prog.wantsStandIn _ = false by kernel_rfl)

theorem cardUpto : Rows.JoinAgainUptoCardSaid :=
  Claim7.holds_tied_plain_at .later [] _ _ _ _ saidUpto (fun _ h => by cases h) (by kernel_rfl) (fun _ h => by cases h) joinAgainUpto_row_tie rfl ⟨rfl, rfl⟩ (by kernel_rfl) rfl plain (by kernel_rfl)
end Go.Proofs.YtpcipdkoncmdcaaGreatDoor.joinAgain
