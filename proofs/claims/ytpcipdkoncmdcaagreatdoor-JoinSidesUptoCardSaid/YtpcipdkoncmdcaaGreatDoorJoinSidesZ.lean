/- The law JoinSides answers true for all arguments of bulk at most 1048576: the row's statement and its card. Conditions: the row's own (laid tables as the card ties them; bulk). -/
import Derived.Test.YtpcipdkoncmdcaaGreatDoorZ28
namespace Go.Proofs.YtpcipdkoncmdcaaGreatDoor
open Go Go.RowKit

/-- The file of a path. -/
def fiAt (l : List Fi) (p : ByteArray) : Option Fi := l.find? fun f => decide (f.path = p)
def thAt (L : List Th) (p : ByteArray) : Option Th := L.find? fun t => decide (t.path = p)
theorem fiAt_some {l : List Fi} {p : ByteArray} {f : Fi} (h : fiAt l p = some f) : f ∈ l ∧ f.path = p := ⟨List.mem_of_find?_eq_some h, by simpa using List.find?_some h⟩
theorem fiAt_none {l : List Fi} {p : ByteArray} : fiAt l p = none ↔ p ∉ l.map (·.path) := by
  unfold fiAt
  rw [List.find?_eq_none]
  constructor
  · intro h hm
    obtain ⟨f, hf, rfl⟩ := List.mem_map.1 hm
    exact h f hf (decide_eq_true rfl)
  · intro h f hf e
    exact h (List.mem_map.2 ⟨f, hf, by simpa using e⟩)
theorem fiAt_mem {l : List Fi} (hn : (l.map (·.path)).Nodup) {f : Fi} (hf : f ∈ l) : fiAt l f.path = some f := by
  induction l with
  | nil => cases hf
  | cons g l ih =>
    rw [List.map_cons, List.nodup_cons] at hn
    unfold fiAt
    rw [List.find?_cons]
    rcases List.mem_cons.1 hf with rfl | hf
    · simp
    · have : g.path ≠ f.path := fun e => hn.1 (e ▸ List.mem_map_of_mem hf)
      rw [decide_eq_false this]
      exact ih hn.2 hf
theorem thAt_taken (i : Nat) (f : Fi) (p : ByteArray) : ∀ L : List Th, thAt (taken i f L) p = if p = f.path then some (((thAt L p).getD { zTh with path := p }).add i f) else thAt L p
  | [] => by
    show thAt [({ zTh with path := f.path } : Th).add i f] p = _
    by_cases h : p = f.path
    · rw [if_pos h, h]; simp [thAt, Th.add]
    · rw [if_neg h]
      have h' : ¬ f.path = p := fun e => h e.symm
      simp [thAt, Th.add, h']
  | t :: L => by
    have ih := thAt_taken i f p L
    show thAt (if t.path = f.path then t.add i f :: L else t :: taken i f L) p = _
    have hc : ∀ (s : Th) (M : List Th), thAt (s :: M) p = if s.path = p then some s else thAt M p := by
      intro s M
      unfold thAt
      rw [List.find?_cons]
      by_cases h : s.path = p <;> simp [h]
    by_cases h1 : t.path = f.path
    · rw [if_pos h1, hc, hc]
      show (if t.path = p then _ else _) = _
      by_cases h2 : p = f.path
      · rw [if_pos (h1.trans h2.symm), if_pos h2, if_pos (h1.trans h2.symm)]; rfl
      · have h3 : ¬ t.path = p := fun e => h2 (e.symm.trans h1)
        rw [if_neg h3, if_neg h2, if_neg h3]
    · rw [if_neg h1, hc, hc, ih]
      by_cases h2 : p = f.path
      · have h3 : ¬ t.path = p := fun e => h1 (e.trans h2)
        rw [if_neg h3, if_pos h2, if_pos h2, if_neg h3]
      · rw [if_neg h2, if_neg h2]
theorem thAt_takenAll (i : Nat) (p : ByteArray) : ∀ (fs : List Fi) (L : List Th), (fs.map (·.path)).Nodup → thAt (takenAll i L fs) p = match fiAt fs p with | none => thAt L p | some f => some (((thAt L p).getD { zTh with path := p }).add i f)
  | [], L, _ => rfl
  | f :: fs, L, hn => by
    rw [List.map_cons, List.nodup_cons] at hn
    show thAt (takenAll i (taken i f L) fs) p = _
    rw [thAt_takenAll i p fs (taken i f L) hn.2, thAt_taken]
    have hc : fiAt (f :: fs) p = if f.path = p then some f else fiAt fs p := by
      unfold fiAt
      rw [List.find?_cons]
      by_cases h : f.path = p <;> simp [h]
    rw [hc]
    by_cases h : p = f.path
    · subst h
      have : fiAt fs f.path = none := fiAt_none.2 hn.1
      rw [this, if_pos rfl, if_pos rfl]
    · rw [if_neg h, if_neg (fun e => h e.symm)]
def okT3 (T : T3 (List Fi)) : Prop := (T.a.map (·.path)).Nodup ∧ (T.b.map (·.path)).Nodup ∧ (T.c.map (·.path)).Nodup
/-- A path's three, out of the snapshots. -/
def hasT (T : T3 (List Fi)) (p : ByteArray) : T3 Bool := ⟨(fiAt T.a p).isSome, (fiAt T.b p).isSome, (fiAt T.c p).isSome⟩
def idF : Option Fi → List Nat | none => zId | some f => f.id
def stF : Option Fi → Nat | none => 0 | some f => f.stamp
def idsT (T : T3 (List Fi)) (p : ByteArray) : T3 (List Nat) := ⟨idF (fiAt T.a p), idF (fiAt T.b p), idF (fiAt T.c p)⟩
def stsT (T : T3 (List Fi)) (p : ByteArray) : T3 Nat := ⟨stF (fiAt T.a p), stF (fiAt T.b p), stF (fiAt T.c p)⟩
def thT (T : T3 (List Fi)) (p : ByteArray) : Th := { zTh with path := p, has := hasT T p, ids := idsT T p, sts := stsT T p }
theorem thAt_upT {T : T3 (List Fi)} (h : okT3 T) (p : ByteArray) : thAt (upT T 3) p = if fiAt T.a p = none ∧ fiAt T.b p = none ∧ fiAt T.c p = none then none else some (thT T p) := by
  show thAt (takenAll 2 (takenAll 1 (takenAll 0 [] T.a) T.b) T.c) p = _
  rw [thAt_takenAll 2 p _ _ h.2.2, thAt_takenAll 1 p _ _ h.2.1, thAt_takenAll 0 p _ _ h.1]
  unfold thT hasT idsT stsT
  cases fiAt T.a p <;> cases fiAt T.b p <;> cases fiAt T.c p <;> rfl
theorem thOf_thAt (L : List Th) (p : ByteArray) : thOf L p = (thAt L p).getD zTh := rfl
theorem mem_thAt {L : List Th} {p : ByteArray} : p ∈ L.map (·.path) ↔ thAt L p ≠ none := by
  unfold thAt
  rw [Ne, List.find?_eq_none]
  constructor
  · intro hm h
    obtain ⟨t, ht, rfl⟩ := List.mem_map.1 hm
    exact h t ht (decide_eq_true rfl)
  · intro h
    false_or_by_contra
    rename_i hm
    exact h fun t ht e => hm (List.mem_map.2 ⟨t, ht, by simpa using e⟩)
theorem mem_upT {T : T3 (List Fi)} (h : okT3 T) (p : ByteArray) : p ∈ (upT T 3).map (·.path) ↔ (p ∈ T.a.map (·.path) ∨ p ∈ T.b.map (·.path) ∨ p ∈ T.c.map (·.path)) := by
  rw [mem_thAt, thAt_upT h]
  have e : ∀ l : List Fi, fiAt l p = none ↔ p ∉ l.map (·.path) := fun l => fiAt_none
  by_cases ha : fiAt T.a p = none
  · by_cases hb : fiAt T.b p = none
    · by_cases hc : fiAt T.c p = none
      · rw [if_pos ⟨ha, hb, hc⟩]
        exact ⟨fun h => absurd rfl h, fun h => (h.elim ((e _).1 ha) (fun h => h.elim ((e _).1 hb) ((e _).1 hc))).elim⟩
      · rw [if_neg (fun h => hc h.2.2)]
        exact ⟨fun _ => .inr (.inr (Classical.not_not.1 (fun h => hc ((e _).2 h)))), fun _ => by simp⟩
    · rw [if_neg (fun h => hb h.2.1)]
      exact ⟨fun _ => .inr (.inl (Classical.not_not.1 (fun h => hb ((e _).2 h)))), fun _ => by simp⟩
  · rw [if_neg (fun h => ha h.1)]
    exact ⟨fun _ => .inl (Classical.not_not.1 (fun h => ha ((e _).2 h))), fun _ => by simp⟩
/-- The names that are merged. -/
def nmsT (T : T3 (List Fi)) : List ByteArray := PathS.sorted ((upT T 3).map (·.path))
theorem upT_nodup (T : T3 (List Fi)) : ((upT T 3).map (·.path)).Nodup := takenAll_nodup (takenAll_nodup (takenAll_nodup List.nodup_nil))
theorem nms_nodup (T : T3 (List Fi)) : (nmsT T).Nodup := (PathS.sorted_perm _).nodup_iff.2 (upT_nodup T)
theorem nms_pw (T : T3 (List Fi)) : (nmsT T).Pairwise PathS.le := PathS.sorted_pw _
theorem mem_nms {T : T3 (List Fi)} (h : okT3 T) (p : ByteArray) : p ∈ nmsT T ↔ (p ∈ T.a.map (·.path) ∨ p ∈ T.b.map (·.path) ∨ p ∈ T.c.map (·.path)) := (PathS.sorted_perm _).mem_iff.trans (mem_upT h p)
theorem thOf_nms {T : T3 (List Fi)} (h : okT3 T) {p : ByteArray} (hp : p ∈ nmsT T) : thOf (upT T 3) p = thT T p := by
  have hm := mem_thAt.1 ((PathS.sorted_perm _).mem_iff.1 hp)
  rw [thAt_upT h] at hm
  rw [thOf_thAt, thAt_upT h]
  split at hm
  · exact absurd rfl hm
  · rename_i hn; rw [if_neg hn]; rfl
def decT (src : List Nat → ByteArray × Int) (T : T3 (List Fi)) (p : ByteArray) : Dec := decS src (hasT T p) (idsT T p) zId
def outT (src : List Nat → ByteArray × Int) (T : T3 (List Fi)) (p : ByteArray) : Option Ou := if (decT src T p).keep then some (outOf (decT src T p) (thT T p)) else none
theorem decGo_acc {src : List Nat → ByteArray × Int} {T : T3 (List Fi)} (h : okT3 T) : ∀ (l : List ByteArray) (acc : List Ou), (∀ p ∈ l, p ∈ nmsT T) → (∀ p ∈ l, (decT src T p).err = 0) → decGo src (upT T 3) acc l = (0, acc ++ l.filterMap (outT src T))
  | [], acc, _, _ => by simp [decGo]
  | p :: l, acc, hm, he => by
    have h1 := thOf_nms h (hm p (by simp))
    have h2 := he p (by simp)
    rw [decGo_step (d := decT src T p) h1 rfl, if_neg (by simp [h2]), decGo_acc h l _ (fun q hq => hm q (by simp [hq])) (fun q hq => he q (by simp [hq]))]
    rw [List.filterMap_cons]
    unfold outT
    by_cases hk : (decT src T p).keep = true
    · rw [if_pos hk, if_pos hk]; simp
    · rw [if_neg hk, if_neg hk]
/-- Merging whole. -/
theorem merge_ok {src : List Nat → ByteArray × Int} {T : T3 (List Fi)} (h : okT3 T) (hc : chkA T 3 = 0) (he : ∀ p ∈ nmsT T, (decT src T p).err = 0) : mergeS src (upT T 3) (chkA T 3) = (0, clashed ((nmsT T).filterMap (outT src T))) := by
  unfold mergeS
  rw [hc, if_neg (by simp), show PathS.sorted ((upT T 3).map (·.path)) = nmsT T from rfl, decGo_acc h _ _ (fun p hp => hp) he]
  simp

-- snapshots in their order
theorem chkF_zero {l : List Fi} : ∀ (n k : Nat), chkF l n k = 0 → ∀ j, k ≤ j → j < k + n → chk1 l j = 0
  | 0, k, _, j, h1, h2 => by omega
  | n + 1, k, h, j, h1, h2 => by
    rw [show chkF l (n + 1) k = if chk1 l k ≠ 0 then chk1 l k else chkF l n (k + 1) from rfl] at h
    split at h
    · rename_i hne; exact absurd h hne
    · rename_i he
      by_cases e : j = k
      · subst e; simpa using he
      · exact chkF_zero n (k + 1) h j (by omega) (by omega)
theorem chkF_of {l : List Fi} : ∀ (n k : Nat), (∀ j, k ≤ j → j < k + n → chk1 l j = 0) → chkF l n k = 0
  | 0, k, _ => rfl
  | n + 1, k, h => by
    rw [show chkF l (n + 1) k = if chk1 l k ≠ 0 then chk1 l k else chkF l n (k + 1) from rfl, if_neg (by simp [h k (Nat.le_refl _) (by omega)])]
    exact chkF_of n (k + 1) fun j h1 h2 => h j (by omega) (by omega)
structure OkS (l : List Fi) : Prop where
  n : l.length ≤ 256
  ck : ∀ f ∈ l, PathS.check f.path = 0
  lt : ∀ j (h : j + 1 < l.length), PathS.cmp (l[j]'(by omega)).path l[j + 1].path < 0
  un : ∀ j (h : j + 1 < l.length), PathS.under l[j + 1].path (l[j]'(by omega)).path = false
theorem okS_of {l : List Fi} (h : chkS l = 0) : OkS l := by
  have hn := chkS_len h
  unfold chkS at h
  rw [if_neg (by omega)] at h
  have h1 := chkF_zero _ _ h
  have hck : ∀ j (hj : j < l.length), PathS.check l[j].path = 0 := by
    intro j hj
    false_or_by_contra
    rename_i hne
    have := h1 j (Nat.zero_le _) (by omega)
    rw [chk1_bad hj hne] at this
    exact hne this
  refine ⟨hn, fun f hf => ?_, fun j hj => ?_, fun j hj => ?_⟩
  · obtain ⟨j, hj, rfl⟩ := List.getElem_of_mem hf; exact hck j hj
  · have := h1 (j + 1) (Nat.zero_le _) (by omega)
    rw [chk1_succ hj (hck _ hj)] at this
    split at this
    · cases this
    · omega
  · have := h1 (j + 1) (Nat.zero_le _) (by omega)
    rw [chk1_succ hj (hck _ hj)] at this
    split at this
    · cases this
    · split at this
      · cases this
      · rename_i hu; simpa using hu
theorem chkS_of {l : List Fi} (h : OkS l) : chkS l = 0 := by
  unfold chkS
  rw [if_neg (by have := h.n; omega)]
  refine chkF_of _ _ fun j _ hj => ?_
  have hj : j < l.length := by omega
  cases j with
  | zero => exact chk1_zero hj (h.ck _ (List.getElem_mem hj))
  | succ j => rw [chk1_succ hj (h.ck _ (List.getElem_mem hj)), if_neg (by have := h.lt j hj; omega), h.un j hj]; rfl
theorem cmp_trans {a b c : ByteArray} (h1 : PathS.cmp a b < 0) (h2 : PathS.cmp b c < 0) : PathS.cmp a c < 0 := PathS.cmp_tw.tr a b c h1 h2
theorem OkS.far {l : List Fi} (h : OkS l) : ∀ (d i : Nat) (hj : i + d + 1 < l.length), PathS.cmp (l[i]'(by omega)).path l[i + d + 1].path < 0
  | 0, i, hj => h.lt i hj
  | d + 1, i, hj => cmp_trans (h.far d i (by omega)) (h.lt (i + d + 1) hj)
theorem OkS.far' {l : List Fi} (h : OkS l) {i j : Nat} (hij : i < j) (hj : j < l.length) : PathS.cmp (l[i]'(by omega)).path l[j].path < 0 := by
  have := h.far (j - i - 1) i (by omega)
  simpa only [show i + (j - i - 1) + 1 = j by omega] using this
theorem cmp_self (a : ByteArray) : PathS.cmp a a = 0 := (PathS.cmp_tw.eq0 a a).2 rfl
theorem OkS.nodup {l : List Fi} (h : OkS l) : (l.map (·.path)).Nodup := by
  rw [List.nodup_iff_pairwise_ne, List.pairwise_map, List.pairwise_iff_getElem]
  intro i j hi hj hij e
  have := h.far' hij hj
  rw [e, cmp_self] at this
  omega
theorem OkS.pw {l : List Fi} (h : OkS l) : (l.map (·.path)).Pairwise PathS.le := by
  rw [List.pairwise_map, List.pairwise_iff_getElem]
  intro i j hi hj hij
  exact Int.le_of_lt (h.far' hij hj)
theorem OkS.no_under {l : List Fi} (h : OkS l) {i j : Nat} (hij : i < j) (hj : j < l.length) : PathS.under l[j].path (l[i]'(by omega)).path = false := by
  cases e : PathS.under l[j].path (l[i]'(by omega)).path with
  | false => rfl
  | true =>
    by_cases h1 : j = i + 1
    · subst h1; rw [h.un i hj] at e; cases e
    · have hb := PathS.between (m := (l[i + 1]'(by omega)).path) (Int.le_of_lt (h.lt i (by omega))) (Int.le_of_lt (h.far' (i := i + 1) (j := j) (by omega) hj)) (.inr e)
      rcases hb with hb | hb
      · have := h.lt i (by omega); rw [hb, cmp_self] at this; omega
      · rw [h.un i (by omega)] at hb; cases hb
/-- Where the outcomes' paths are a snapshot's, there is no clash. -/
theorem clashed_id {l : List Fi} (h : OkS l) {os : List Ou} (hp : os.map (·.path) = l.map (·.path)) : clashed os = os := by
  have hlen : os.length = l.length := by have := congrArg List.length hp; simpa using this
  have hpa : ∀ j (hj : j < os.length), os[j].path = (l[j]'(by omega)).path := by
    intro j hj
    have h1 : (os.map (·.path))[j]? = (l.map (·.path))[j]? := by rw [hp]
    rw [List.getElem?_map, List.getElem?_map, List.getElem?_eq_getElem hj, List.getElem?_eq_getElem (by omega)] at h1
    exact Option.some.inj h1
  apply List.ext_getElem?
  intro i
  unfold clashed
  rw [List.getElem?_mapIdx]
  by_cases hi : i < os.length
  · rw [List.getElem?_eq_getElem hi]
    show some (clash1 os i os[i]) = some os[i]
    unfold clash1
    rw [if_neg]
    rw [Bool.not_eq_true, List.any_eq_false]
    intro x hx
    obtain ⟨k, hk, rfl⟩ := List.getElem_of_mem hx
    rw [List.length_take] at hk
    rw [List.getElem_take, hpa i hi, hpa k (by omega), h.no_under (by omega) (by omega)]
    simp
  · rw [List.getElem?_eq_none (by omega)]; rfl
theorem filterMap_same {α β : Type} {f g : α → Option β} : ∀ {l : List α}, (∀ x ∈ l, f x = g x) → l.filterMap f = l.filterMap g
  | [], _ => rfl
  | x :: l, h => by rw [List.filterMap_cons, List.filterMap_cons, h x (by simp), filterMap_same fun y hy => h y (by simp [hy])]
/-- What a side's file becomes when it is kept. -/
def keptO (T : T3 (List Fi)) (f : Fi) : Ou := ⟨f.path, 1, f.id, cn f.stamp, ByteArray.empty, hasT T f.path, idsT T f.path⟩
/-- One snapshot is the outcome. -/
theorem merge_side {src : List Nat → ByteArray × Int} {T : T3 (List Fi)} (h : okT3 T) (hc : chkA T 3 = 0) {O : List Fi} (hO : OkS O) (hin : ∀ p ∈ O.map (·.path), p ∈ nmsT T)
    (hd : ∀ p ∈ nmsT T, decT src T p = ⟨(fiAt O p).isSome, 0, 1, idF (fiAt O p), ByteArray.empty⟩) (hw : ∀ f ∈ O, whenS (hasT T f.path) (stsT T f.path) = cn f.stamp) :
    mergeS src (upT T 3) (chkA T 3) = (0, O.map (keptO T)) := by
  rw [merge_ok h hc (fun p hp => by rw [hd p hp])]
  have e1 : (nmsT T).filterMap (outT src T) = ((nmsT T).filter fun p => (fiAt O p).isSome).filterMap fun p => (fiAt O p).map (keptO T) := by
    rw [List.filterMap_filter]
    refine filterMap_same fun p hp => ?_
    unfold outT
    rw [hd p hp]
    cases e : fiAt O p with
    | none => rfl
    | some f =>
      obtain ⟨hf, rfl⟩ := fiAt_some e
      show some (outOf _ _) = some (keptO T f)
      unfold outOf keptO
      show some (Ou.mk f.path 1 f.id (whenS (hasT T f.path) (stsT T f.path)) ByteArray.empty (hasT T f.path) (idsT T f.path)) = _
      rw [hw f hf]
  have e2 : ((nmsT T).filter fun p => (fiAt O p).isSome) = O.map (·.path) := by
    have hp : ((nmsT T).filter fun p => (fiAt O p).isSome).Perm (O.map (·.path)) := by
      rw [List.perm_ext_iff_of_nodup ((nms_nodup T).filter _) hO.nodup]
      intro p
      rw [List.mem_filter]
      have hs : (fiAt O p).isSome = true ↔ p ∈ O.map (·.path) := by
        cases e : fiAt O p with
        | none => simp; have := fiAt_none.1 e; simpa using this
        | some f => obtain ⟨hf, rfl⟩ := fiAt_some e; simp; exact ⟨f, hf, rfl⟩
      rw [hs]
      exact ⟨fun h => h.2, fun h => ⟨hin p h, h⟩⟩
    rw [PathS.sorted_one hp ((nms_pw T).filter _)]
    exact (PathS.sorted_one (List.Perm.refl _) hO.pw).symm
  have e3 : ((O.map (·.path)).filterMap fun p => (fiAt O p).map (keptO T)) = O.map (keptO T) := by
    rw [List.filterMap_map]
    rw [← List.filterMap_eq_map]
    refine filterMap_same fun f hf => ?_
    show (fiAt O f.path).map (keptO T) = some (keptO T f)
    rw [fiAt_mem hO.nodup hf]; rfl
  rw [e1, e2, e3, clashed_id hO (by rw [List.map_map]; rfl)]
end Go.Proofs.YtpcipdkoncmdcaaGreatDoor
namespace Go.Proofs.YtpcipdkoncmdcaaGreatDoor
open Go Go.RowKit

theorem eqS_same (b : Bool) (x : List Nat) : eqS b b x x = true := by simp [eqS]
theorem chkA_of {T : T3 (List Fi)} (ha : OkS T.a) (hb : OkS T.b) (hc : OkS T.c) : chkA T 3 = 0 := by
  have e0 : chkS (T.get 0) = 0 := chkS_of ha
  have e1 : chkS (T.get 1) = 0 := chkS_of hb
  have e2 : chkS (T.get 2) = 0 := chkS_of hc
  show (if chkS (T.get 0) ≠ 0 then chkS (T.get 0) else if chkS (T.get 1) ≠ 0 then chkS (T.get 1) else if chkS (T.get 2) ≠ 0 then chkS (T.get 2) else 0) = 0
  rw [e0, e1, e2]; rfl
theorem side1 {B O : List Fi} (hB : OkS B) (hO : OkS O) (src : List Nat → ByteArray × Int) : mergeS src (upT ⟨B, O, B⟩ 3) (chkA ⟨B, O, B⟩ 3) = (0, O.map (keptO ⟨B, O, B⟩)) := by
  have hk : okT3 ⟨B, O, B⟩ := ⟨hB.nodup, hO.nodup, hB.nodup⟩
  refine merge_side hk (chkA_of hB hO hB) hO (fun p hp => (mem_nms hk p).2 (.inr (.inl hp))) (fun p _ => ?_) (fun f hf => ?_)
  · unfold decT decS hasT idsT
    simp only [eqS_same, Bool.or_true, if_true]
  · unfold whenS hasT stsT
    simp only [fiAt_mem hO.nodup hf]
    cases fiAt B f.path with
    | none => simp [stF]
    | some g =>
      simp only [Option.isSome_some, stF, Bool.true_eq_false, if_false, true_and]
      split
      · rename_i h; exact h.symm
      · rfl
theorem side2 {B O : List Fi} (hB : OkS B) (hO : OkS O) (src : List Nat → ByteArray × Int) : mergeS src (upT ⟨B, B, O⟩ 3) (chkA ⟨B, B, O⟩ 3) = (0, O.map (keptO ⟨B, B, O⟩)) := by
  have hk : okT3 ⟨B, B, O⟩ := ⟨hB.nodup, hB.nodup, hO.nodup⟩
  refine merge_side hk (chkA_of hB hB hO) hO (fun p hp => (mem_nms hk p).2 (.inr (.inr hp))) (fun p _ => ?_) (fun f hf => ?_)
  · unfold decT decS hasT idsT
    simp only [eqS_same, if_true]
    by_cases h : (eqS (fiAt B p).isSome (fiAt O p).isSome (idF (fiAt B p)) (idF (fiAt O p)) || eqS (fiAt B p).isSome (fiAt O p).isSome (idF (fiAt B p)) (idF (fiAt O p))) = true
    · rw [if_pos h]
      rw [Bool.or_self] at h
      unfold eqS at h
      simp only [Bool.and_eq_true, decide_eq_true_eq] at h
      rw [h.1, h.2]
    · rw [if_neg h]
  · unfold whenS hasT stsT
    simp only [fiAt_mem hO.nodup hf]
    cases fiAt B f.path with
    | none => simp [stF]
    | some g => simp [stF]
theorem side3 {B O : List Fi} (hB : OkS B) (hO : OkS O) (src : List Nat → ByteArray × Int) : mergeS src (upT ⟨B, O, O⟩ 3) (chkA ⟨B, O, O⟩ 3) = (0, O.map (keptO ⟨B, O, O⟩)) := by
  have hk : okT3 ⟨B, O, O⟩ := ⟨hB.nodup, hO.nodup, hO.nodup⟩
  refine merge_side hk (chkA_of hB hO hO) hO (fun p hp => (mem_nms hk p).2 (.inr (.inl hp))) (fun p _ => ?_) (fun f hf => ?_)
  · unfold decT decS hasT idsT
    simp only [eqS_same, Bool.true_or, if_true]
  · unfold whenS hasT stsT
    simp only [fiAt_mem hO.nodup hf, Option.isSome_some, stF, Bool.true_eq_false, if_false]
    repeat' split
    all_goals rfl
end Go.Proofs.YtpcipdkoncmdcaaGreatDoor
namespace Go.Proofs.YtpcipdkoncmdcaaGreatDoor
open Go Go.RowKit

theorem out_zsz {x : Ov} (h : (ouC x).length = 135) : Tryz.zeroCells54.size = (ouC x).toArray.size := by
  have e1 : Tryz.zeroCells54.size = 135 := by kernel_rfl
  have e2 : (ouC x).toArray.size = 135 := by rw [List.size_toArray, h]
  rw [e1, e2]
theorem out_isz {x : Ov} (h : (ouC x).length = 135) : (Tryz.prog.info? 54).map (·.size) = some (ouC x).toArray.size := by
  have e2 : (ouC x).toArray.size = 135 := by rw [List.size_toArray, h]
  rw [e2]; exact out_info
/-- The outcome in the block p is the file at b, o kept. -/
structure CmpS (W : World) (p b o : Nat) (f : Fi) : Prop where
  kd : W.cell? ⟨p, 1, none⟩ = some (.int .i64 1)
  pa : W.cell? ⟨p, 0, none⟩ = some (.string f.path)
  id : W.rangeAt p 2 (nb f.id)
  st : W.cell? ⟨p, 34, none⟩ = some (.float .f64 (cn f.stamp))
  fp : W.cell? ⟨b, o, none⟩ = some (.string f.path)
  fi : W.rangeAt b (o + 1) (nb f.id)
  fs : W.cell? ⟨b, o + 33, none⟩ = some (.float .f64 f.stamp)
theorem cmpS_of {W : World} {p b o : Nat} {f : Fi} {x : Ov} (hf : OkFi f) (h1 : W.heap[p]? = some (.cells (ouC x).toArray 54 (0, 0))) (h2 : W.rangeAt b o (fiC f)) (hp : x.o.path = f.path) (hk : x.o.kind = 1) (hi : x.o.id = f.id) (hs : x.o.stamp = cn f.stamp) : CmpS W p b o f := by
  have hc : ∀ j u, (ouC x)[j]? = some u → W.cell? ⟨p, j, none⟩ = some u := fun j u hu => by simp only [World.cell?, h1]; simpa using hu
  have hl := hf.id.1
  refine ⟨hc 1 _ (by unfold ouC; rw [hk]; rfl), hc 0 _ (by unfold ouC; rw [hp]; rfl), fun j u hu => ?_, ?_, h2 0 _ rfl, fun j u hu => ?_, ?_⟩
  · refine hc (2 + j) u ?_
    unfold ouC
    rw [hi, show 2 + j = j + 1 + 1 by omega, List.getElem?_cons_succ, List.getElem?_cons_succ, List.getElem?_append_left (List.getElem?_eq_some_iff.1 hu).1]; exact hu
  · refine hc 34 _ ?_
    unfold ouC
    rw [hi, hs, show (34 : Nat) = 32 + 1 + 1 from rfl, List.getElem?_cons_succ, List.getElem?_cons_succ, List.getElem?_append_right (by rw [nb_len, hl]; exact Nat.le_refl _), nb_len, hl]; rfl
  · rw [Nat.add_assoc]
    refine h2 (1 + j) u ?_
    unfold fiC
    rw [show 1 + j = j + 1 by omega, List.getElem?_cons_succ, List.getElem?_append_left (List.getElem?_eq_some_iff.1 hu).1]; exact hu
  · refine h2 33 _ ?_
    unfold fiC
    rw [show (33 : Nat) = 32 + 1 from rfl, List.getElem?_cons_succ, List.getElem?_append_right (by rw [nb_len, hl]; exact Nat.le_refl _), nb_len, hl]; rfl
theorem CmpS.dn {W : World} {p b o : Nat} {f : Fi} (h : CmpS W p b o f) (n : Nat) : CmpS (W.drewN n) p b o f := ⟨h.kd, h.pa, h.id, h.st, h.fp, h.fi, h.fs⟩
/-- Merging, its answer a snapshot kept. -/
theorem merge_kept {W : World} {va vb vc : Value} {T : T3 (List Fi)} {O : List Fi} (ha : FS W va T.a) (hb : FS W vb T.b) (hc : FS W vc T.c) (hg : Gl W) (hm : mergeS (textS []) (upT T 3) (chkA T 3) = (0, O.map (keptO T))) :
    Calls Tryz.prog 13 #[.agg #[va, vb, vc], SrcV (.slice none 0 0)] W fun e w' => ∃ ov V, e = .returned (.tuple #[ov, .int .i64 0]) ∧ V.map (·.o) = O.map (keptO T) ∧ OR w' ov V ∧ (∀ x ∈ V, x.tv.oneCell' = true) ∧ Below W.heap.size W w' := by
  refine (merge_c (bl := []) ha hb hc hg (fun _ => Nat.zero_le _) (BS.nil W)).mono ?_
  rintro e w' ⟨ov, V, rfl, hV, hMO⟩
  rw [hm] at hV
  rw [hm]
  exact ⟨ov, V, rfl, hV, hMO.or, fun x hx => tx_one (hMO.tx x hx).1.tx, hMO.below⟩
end Go.Proofs.YtpcipdkoncmdcaaGreatDoor
namespace Go.Proofs.YtpcipdkoncmdcaaGreatDoor
open Go Go.RowKit

set_option maxRecDepth 100000 in
set_option maxHeartbeats 8000000 in
theorem sides_c {w : World} {va vo : Value} {B O : List Fi} (hb : FS w va B) (ho : FS w vo O) (hg : Gl w) :
    Calls Tryz.prog 4 #[va, vo] w fun e w' => e = .returned (.bool true) ∧ Below w.heap.size w w' := by
  have HFB := Lib.hid hb
  have HFO := Lib.hid ho
  have HGL := Lib.hid hg
  have HAW := Lib.hid (awake_c w hg)
  obtain ⟨ba, bc, rfl⟩ := hb.lit
  obtain ⟨oa, oc, rfl⟩ := ho.lit
  clear hb ho hg
  go_enter Tryz.func4, Tryz.ntmps4
  go_upto_region 3 with (go_at_call 10; refine HAW.out.mono ?_; rintro e W1 ⟨rfl, hb1⟩)
  have HB1 := Lib.hid hb1
  have HC1 := Lib.hid (tcheck_c (HFB.out.below hb1) (HGL.out.below hb1 (Nat.le_refl _)))
  clear hb1 HAW
  obtain ⟨c1, hc1⟩ : ∃ c1, chkS B = c1 := ⟨_, rfl⟩
  rw [hc1] at HC1
  by_cases h1 : c1 = 0
  · subst h1
    have HOB := Lib.hid (okS_of hc1)
    clear hc1
    have HC2 : Hid (∀ W, Below w.heap.size w W → Calls Tryz.prog 19 #[.slice oa O.length oc] W fun e w' => e = .returned (.int .i64 (chkS O)) ∧ Below W.heap.size W w') := fun W hW => tcheck_c (HFO.out.below hW) (HGL.out.below hW (Nat.le_refl _))
    obtain ⟨c2, hc2⟩ : ∃ c2, chkS O = c2 := ⟨_, rfl⟩
    rw [hc2] at HC2
    by_cases h2 : c2 = 0
    · subst h2
      have HOO := Lib.hid (okS_of hc2)
      clear hc2
      go_upto_region 5 with (first
        | (go_at_call 19; refine HC1.out.mono ?_; rintro e W2 ⟨rfl, hb2⟩; have HB2 := Lib.hid (HB1.out.trans (hb2.mono HB1.out.size)); clear hb2 HC1)
        | (go_at_call 19; refine (HC2.out _ HB2.out).mono ?_; rintro e W3 ⟨rfl, hb3⟩; have HB3 := Lib.hid (HB2.out.trans (hb3.mono HB2.out.size)); clear hb3))
      clear HC2 HB1 HB2
      have hcells : W3.alloc (.cells #[.slice ba B.length bc, .slice oa O.length oc, .slice ba B.length bc, .slice ba B.length bc, .slice ba B.length bc, .slice oa O.length oc, .slice ba B.length bc, .slice oa O.length oc, .slice oa O.length oc] 23 (0, 0)) = W3.alloc (.cells #[.slice ba B.length bc, .slice oa O.length oc, .slice ba B.length bc, .slice ba B.length bc, .slice ba B.length bc, .slice oa O.length oc, .slice ba B.length bc, .slice oa O.length oc, .slice oa O.length oc] 23 (0, 0)) := rfl
      obtain ⟨W4, hW4⟩ : ∃ W4, W3.alloc (.cells #[.slice ba B.length bc, .slice oa O.length oc, .slice ba B.length bc, .slice ba B.length bc, .slice ba B.length bc, .slice oa O.length oc, .slice ba B.length bc, .slice oa O.length oc, .slice oa O.length oc] 23 (0, 0)) = W4 := ⟨_, rfl⟩
      have hB4 : Below W3.heap.size W3 W4 := by rw [← hW4]; exact (Below.refl _ W3).alloc (Nat.le_refl _) _
      have hblk : W4.heap[W3.heap.size]? = some (.cells #[.slice ba B.length bc, .slice oa O.length oc, .slice ba B.length bc, .slice ba B.length bc, .slice ba B.length bc, .slice oa O.length oc, .slice ba B.length bc, .slice oa O.length oc, .slice oa O.length oc] 23 (0, 0)) := by rw [← hW4]; exact Array.getElem?_push_size
      have HB4 := Lib.hid (HB3.out.trans (hB4.mono HB3.out.size))
      have HBLK := Lib.hid hblk
      have HW4 := Lib.hid hW4
      have HLT : Hid (W3.heap.size < W4.heap.size) := (Array.getElem?_eq_some_iff.1 hblk).1
      clear hB4 hblk hW4 hcells HB3
      go_upto_region 6 with fail
      rw [HW4.out]
      clear HW4
      have HMG : Hid (∀ i, i < 3 → ∃ xa xb xc, ∃ T : T3 (List Fi), (∀ W : World, W.heap[W3.heap.size]? = some (.cells #[.slice ba B.length bc, .slice oa O.length oc, .slice ba B.length bc, .slice ba B.length bc, .slice ba B.length bc, .slice oa O.length oc, .slice ba B.length bc, .slice oa O.length oc, .slice oa O.length oc] 23 (0, 0)) → W.rangeAt W3.heap.size (i * 3) [xa, xb, xc]) ∧ FS w xa T.a ∧ FS w xb T.b ∧ FS w xc T.c ∧ mergeS (textS []) (upT T 3) (chkA T 3) = (0, O.map (keptO T))) := by
        intro i hi
        rcases i with _ | _ | _ | i
        · refine ⟨_, _, _, ⟨B, O, B⟩, fun W hW j u hu => ?_, HFB.out, HFO.out, HFB.out, side1 HOB.out HOO.out _⟩
          simp only [World.cell?, hW]
          rcases j with _ | _ | _ | j
          · exact hu
          · exact hu
          · exact hu
          · simp at hu
        · refine ⟨_, _, _, ⟨B, B, O⟩, fun W hW j u hu => ?_, HFB.out, HFB.out, HFO.out, side2 HOB.out HOO.out _⟩
          simp only [World.cell?, hW]
          rcases j with _ | _ | _ | j
          · exact hu
          · exact hu
          · exact hu
          · simp at hu
        · refine ⟨_, _, _, ⟨B, O, O⟩, fun W hW j u hu => ?_, HFB.out, HFO.out, HFO.out, side3 HOB.out HOO.out _⟩
          simp only [World.cell?, hW]
          rcases j with _ | _ | _ | j
          · exact hu
          · exact hu
          · exact hu
          · simp at hu
        · omega
      clear HOB HFB
      generalize W3.heap.size = pb at *
      go_loopw [35] (fun iv wx => ∃ i : Nat, i ≤ 3 ∧ iv = .int .i64 i ∧ Hid (Below w.heap.size w wx) ∧ Hid (wx.heap[pb]? = some (.cells #[.slice ba B.length bc, .slice oa O.length oc, .slice ba B.length bc, .slice ba B.length bc, .slice ba B.length bc, .slice oa O.length oc, .slice ba B.length bc, .slice oa O.length oc, .slice oa O.length oc] 23 (0, 0))) ∧ Hid (pb < wx.heap.size)) (fun iv _ => (3 - intOf iv).toNat)
      case atStart => exact ⟨0, by decide, rfl, HB4, HBLK, HLT⟩
      case round =>
        clear HB4 HBLK HLT
        obtain ⟨i, hi, rfl, HBW, HBLK, HLT⟩ := hrel
        by_cases hlt : i < 3
        · have d1 : decide ((i : Int) < 3) = true := decide_eq_true (by omega)
          have d2 : decide (i < 3) = true := decide_eq_true hlt
          have d3 : (0 : Int) ≤ (i : Int) := by omega
          have d4 : (i : Int) < 3 := by omega
          have dw : IntKind.i64.wrap ((i : Int) + 1) = ((i + 1 : Nat) : Int) := IntWalk.i64_in _ (by omega)
          obtain ⟨xa, xb, xc, T, hr, ha, hb, hc, hm⟩ := HMG.out i hlt
          have HR : Hid (wr.rangeAt pb (i * 3) [xa, xb, xc]) := hr wr HBLK.out
          have HMK : Hid (∀ W, Below w.heap.size w W → Calls Tryz.prog 13 #[.agg #[xa, xb, xc], SrcV (.slice none 0 0)] W fun e w' => ∃ ov V, e = .returned (.tuple #[ov, .int .i64 0]) ∧ V.map (·.o) = O.map (keptO T) ∧ OR w' ov V ∧ (∀ x ∈ V, x.tv.oneCell' = true) ∧ Below W.heap.size W w') := fun W hW => merge_kept (ha.below hW) (hb.below hW) (hc.below hW) (HGL.out.below hW (Nat.le_refl _)) hm
          have HONE3 : Hid ((#[xa, xb, xc] : Array Value).all (·.oneCell') = true) := by
            obtain ⟨_, _, rfl⟩ := ha.lit
            obtain ⟨_, _, rfl⟩ := hb.lit
            obtain ⟨_, _, rfl⟩ := hc.lit
            show _ = _
            simp [Value.oneCell']
          clear hr ha hb hc hm
          go_upto_region 8 with (first
            | (refine wpList_load_mid rfl 23 _ rfl pb (i * 3) rfl [xa, xb, xc] _ HR.out Tryz.underlying23 rfl (by kernel_rfl) ?_)
            | (refine wp_storeB rfl 23 _ _ rfl wr.heap.size #[xa, xb, xc] rfl rfl Array.getElem?_push_size rfl (by kernel_rfl) HONE3.out ?_; intro W5 hb5 hg5))
          have hB5 : Below wr.heap.size wr W5 := ((Below.refl wr.heap.size wr).alloc (Nat.le_refl _) _).grown hg5 (by simp) (fun k hk => by cases hk; exact Nat.le_refl _)
          have HB5 := Lib.hid (HBW.out.trans (hB5.mono HBW.out.size))
          have HBLK5 : Hid (W5.heap[pb]? = _) := (hB5.block pb HLT.out).trans HBLK.out
          have HLT5 : Hid (pb < W5.heap.size) := Nat.lt_of_lt_of_le HLT.out hB5.size
          have HX5 := Lib.hid hb5
          clear hb5 hg5 hB5 HBW HBLK HLT HR HONE3
          generalize wr.heap.size = p6 at *
          go_upto_region 9 with (first
            | (refine wp_loadB rfl 23 _ rfl p6 rfl HX5.out _ Tryz.underlying23 rfl (by kernel_rfl) ?_)
            | (go_at_call 13; refine (HMK.out _ HB5.out).mono ?_; rintro e W6 ⟨ov, V, rfl, hV, hor, hone, hb6⟩))
          have hln : V.length = O.length := by have := congrArg List.length hV; simpa using this
          have hol : O.length ≤ 256 := HOO.out.n
          obtain ⟨oa6, oc6, rfl⟩ := hor.lit
          have HOR := Lib.hid hor
          have HV := Lib.hid hV
          have HB6 := Lib.hid (HB5.out.trans (hb6.mono HB5.out.size))
          have HBLK6 : Hid (W6.heap[pb]? = _) := (hb6.block pb HLT5.out).trans HBLK5.out
          have HLT6 : Hid (pb < W6.heap.size) := Nat.lt_of_lt_of_le HLT5.out hb6.size
          have hcl : (V.all fun x => cleanO x.o) = true := by
            rw [List.all_eq_true]
            intro x hx
            have h1 : x.o ∈ V.map (·.o) := List.mem_map_of_mem hx
            rw [hV] at h1
            obtain ⟨f, -, hf⟩ := List.mem_map.1 h1
            rw [← hf]; rfl
          have hcc := clean_c hor hone (by omega)
          rw [hcl] at hcc
          have HCC := Lib.hid hcc
          have hle : ((V.length : Int) == (O.length : Int)) = true := beq_iff_eq.2 (by omega)
          have HLN := Lib.hid hln
          clear hln
          have HONE := Lib.hid hone
          clear hor hV hb6 hcl hcc hone HB5 HBLK5 HLT5 HX5 HMK
          go_upto_region 11 with (go_at_call 18; refine HCC.out.mono ?_; rintro e W7 ⟨rfl, hb7⟩)
          have HOR7 := Lib.hid (HOR.out.below hb7)
          have HB7 := Lib.hid (HB6.out.trans (hb7.mono HB6.out.size))
          have HBLK7 : Hid (W7.heap[pb]? = _) := (hb7.block pb HLT6.out).trans HBLK6.out
          have HLT7 : Hid (pb < W7.heap.size) := Nat.lt_of_lt_of_le HLT6.out hb7.size
          clear hb7 HB6 HBLK6 HLT6 HOR HCC hle
          go_upto_region 12 with fail
          go_loopw [62] (fun kv wx => ∃ k : Nat, k ≤ V.length ∧ kv = .int .i64 k ∧ Hid (Below w.heap.size w wx) ∧ Hid (OR wx (.slice oa6 V.length oc6) V) ∧ Hid (wx.heap[pb]? = some (.cells #[.slice ba B.length bc, .slice oa O.length oc, .slice ba B.length bc, .slice ba B.length bc, .slice ba B.length bc, .slice oa O.length oc, .slice ba B.length bc, .slice oa O.length oc, .slice oa O.length oc] 23 (0, 0))) ∧ Hid (pb < wx.heap.size)) (fun kv _ => (V.length - intOf kv).toNat)
          case atStart => exact ⟨0, Nat.zero_le _, rfl, HB7, HOR7, HBLK7, HLT7⟩
          case round =>
            clear HB7 HOR7 HBLK7 HLT7
            obtain ⟨k, hk, rfl, HBW, HOR, HBLK, HLT⟩ := hrel
            by_cases hkl : k < V.length
            · have k1 : decide ((k : Int) < (V.length : Int)) = true := decide_eq_true (by omega)
              have k2 : decide (k < V.length) = true := decide_eq_true hkl
              have k3 : (0 : Int) ≤ (k : Int) := by omega
              have k4 : (k : Int) < (V.length : Int) := by omega
              have k5 : (k : Int) < (O.length : Int) := by have := HLN.out; omega
              have kw : IntKind.i64.wrap ((k : Int) + 1) = ((k + 1 : Nat) : Int) := IntWalk.i64_in _ (by omega)
              have hko : k < O.length := by have := HLN.out; omega
              obtain ⟨b, o, c', e, hbl, hr⟩ := HOR.out.at hkl
              injection e with e1 _ e2
              subst e1 e2
              obtain ⟨fb, fo, c2', e, hfl, hfr⟩ := (HFO.out.below HBW.out).at hko
              injection e with e1 _ e2
              subst e1 e2
              have HR : Hid (wr.rangeAt b (o + k * 135) (ouC V[k])) := hr k hkl
              have HFR : Hid (wr.rangeAt fb (fo + k * 34) (fiC O[k])) := hfr k hko
              have HFK : Hid (OkFi O[k]) := HFO.out.ok _ (List.getElem_mem hko)
              have HFL : Hid (fb < wr.heap.size) := hfl
              have HCL : Hid ((ouC V[k]).length = 135) := ouC_len (HOR.out.ok _ (List.getElem_mem hkl))
              have HOE : Hid ((ouC V[k]).toArray.all (·.oneCell') = true) := by show _ = _; rw [List.all_toArray, List.all_eq_true]; exact ouC_one (HONE.out _ (List.getElem_mem hkl))
              have HVK : Hid (V[k].o = keptO T O[k]) := by
                have h1 : (V.map (·.o))[k]? = (O.map (keptO T))[k]? := by rw [HV.out]
                rw [List.getElem?_map, List.getElem?_map, List.getElem?_eq_getElem hkl, List.getElem?_eq_getElem hko] at h1
                exact Option.some.inj h1
              clear hr hfr hfl hbl
              generalize V[k] = x at *
              generalize O[k] = f at *
              go_upto_region 14 with (first
                | (refine wpList_load_mid rfl 54 _ rfl b (o + k * 135) rfl (ouC x) _ HR.out Tryz.underlying54 rfl (by rw [HCL.out]; exact out_info) ?_)
                | (refine wp_storeB rfl 54 _ _ rfl wr.heap.size (ouC x).toArray rfl rfl Array.getElem?_push_size (out_zsz HCL.out) (out_isz HCL.out) HOE.out ?_; intro W8 hb8 hg8))
              have hB8 : Below wr.heap.size wr W8 := ((Below.refl wr.heap.size wr).alloc (Nat.le_refl _) _).grown hg8 (by simp) (fun k hk => by cases hk; exact Nat.le_refl _)
              have hs0 : CmpS (W8.drewN 1) wr.heap.size fb (fo + k * 34) f := (cmpS_of HFK.out hb8 (fun j u hu => (hB8.cell (p := ⟨fb, fo + k * 34 + j, none⟩) HFL.out).trans (HFR.out j u hu)) (by rw [HVK.out]; rfl) (by rw [HVK.out]; rfl) (by rw [HVK.out]; rfl) (by rw [HVK.out]; rfl)).dn 1
              have HB8 := Lib.hid (below_dN (HBW.out.trans (hB8.mono HBW.out.size)) 1)
              have HOR8 : Hid (OR (W8.drewN 1) (.slice (some ⟨b, o, none⟩) V.length oc6) V) := HOR.out.below (below_dN hB8 1)
              have HBLK8 : Hid ((W8.drewN 1).heap[pb]? = _) := (hB8.block pb HLT.out).trans HBLK.out
              have HLT8 : Hid (pb < (W8.drewN 1).heap.size) := Nat.lt_of_lt_of_le HLT.out hB8.size
              have HBT : Hid (∀ W, Calls Tryz.prog 20 #[.float .f64 (cn f.stamp)] W fun e w' => e = .returned (.int .u64 (cn f.stamp)) ∧ w' = W) := fun W => by have := refbits_c (cn f.stamp) W; rw [cn_cn] at this; exact this
              clear hb8 hg8 hB8 HBW HOR HBLK HLT HR HFR HCL HOE HVK HFL
              generalize wr.heap.size = p10 at *
              refine wp_region_hz (fun W => CmpS W p10 fb (fo + k * 34) f) (.tk 0 (.tk 1 (.tk 2 (.tk 3 (.tk 4 (.tk 5 (.tk 6 (.tk 7 (.tk 8 (.tk 9 (.tk 10 (.tk 11 (.tk 12 (.tk 13 (.tk 14 (.tk 15 (.tk 16 (.tk 17 (.tk 18 (.tk 19 (.tk 20 (.tk 21 (.tk 22 (.tk 23 (.tk 24 (.tk 25 (.tk 27 (.tk 28 (.tk 29 (.tk 30 (.tk 31 (.fc 26 (.fc 32 (.tk 33 (.tk 34 (.nil)))))))))))))))))))))))))))))))))))) (by kernel_rfl) (by kernel_rfl) (fun _ _ _ _ _ h => h) ?_
              refine goZ_tk rfl rfl 67 rfl (.pointer (some ⟨p10, 1, none⟩)) (fun _ => rfl) ?_
              simp only [List.setIfInBounds_toArray, List.set_cons_zero, List.set_cons_succ]
              refine goZ_ld rfl rfl 68 rfl 3 _ rfl ⟨p10, 1, none⟩ (.int .i64 1) rfl (fun W hS => ld_int _ _ W hS.kd) (hs0) ?_
              simp only [List.setIfInBounds_toArray, List.set_cons_zero, List.set_cons_succ]
              refine goZ_tk rfl rfl 69 rfl (.bool false) (fun _ => by go_simp) ?_
              simp only [List.setIfInBounds_toArray, List.set_cons_zero, List.set_cons_succ]
              refine goZ_tk rfl rfl 70 rfl (.bool false) (fun _ => rfl) ?_
              simp only [List.setIfInBounds_toArray, List.set_cons_zero, List.set_cons_succ]
              refine goZ_tk rfl rfl 71 rfl (.pointer (some ⟨p10, 0, none⟩)) (fun _ => rfl) ?_
              simp only [List.setIfInBounds_toArray, List.set_cons_zero, List.set_cons_succ]
              refine goZ_ld rfl rfl 72 rfl 9 _ rfl ⟨p10, 0, none⟩ (.string f.path) rfl (fun W hS => ld_string _ _ W hS.pa) (hs0) ?_
              simp only [List.setIfInBounds_toArray, List.set_cons_zero, List.set_cons_succ]
              refine goZ_tk rfl rfl 73 rfl (.slice (some ⟨fb, fo, none⟩) O.length oc) (fun _ => rfl) ?_
              simp only [List.setIfInBounds_toArray, List.set_cons_zero, List.set_cons_succ]
              refine goZ_tk rfl rfl 74 rfl (.int .i64 k) (fun _ => rfl) ?_
              simp only [List.setIfInBounds_toArray, List.set_cons_zero, List.set_cons_succ]
              refine goZ_tk rfl rfl 75 rfl (.pointer (some ⟨fb, fo + k * 34, none⟩)) (fun _ => by go_simp) ?_
              simp only [List.setIfInBounds_toArray, List.set_cons_zero, List.set_cons_succ]
              refine goZ_tk rfl rfl 76 rfl (.pointer (some ⟨fb, fo + k * 34, none⟩)) (fun _ => rfl) ?_
              simp only [List.setIfInBounds_toArray, List.set_cons_zero, List.set_cons_succ]
              refine goZ_ld rfl rfl 77 rfl 9 _ rfl ⟨fb, fo + k * 34, none⟩ (.string f.path) rfl (fun W hS => ld_string _ _ W hS.fp) (hs0) ?_
              simp only [List.setIfInBounds_toArray, List.set_cons_zero, List.set_cons_succ]
              refine goZ_tk rfl rfl 78 rfl (.bool false) (fun _ => by go_simp) ?_
              simp only [List.setIfInBounds_toArray, List.set_cons_zero, List.set_cons_succ]
              refine goZ_tk rfl rfl 79 rfl (.bool false) (fun _ => rfl) ?_
              simp only [List.setIfInBounds_toArray, List.set_cons_zero, List.set_cons_succ]
              refine goZ_tk rfl rfl 80 rfl (.bool false) (fun _ => rfl) ?_
              simp only [List.setIfInBounds_toArray, List.set_cons_zero, List.set_cons_succ]
              refine goZ_tk rfl rfl 81 rfl (.pointer (some ⟨p10, 2, none⟩)) (fun _ => rfl) ?_
              simp only [List.setIfInBounds_toArray, List.set_cons_zero, List.set_cons_succ]
              refine goZ_ld rfl rfl 82 rfl 43 _ rfl ⟨p10, 2, none⟩ (.agg (nums .u8 f.id)) rfl (fun W hS => ld_id HFK.out.id hS.id) (hs0) ?_
              simp only [List.setIfInBounds_toArray, List.set_cons_zero, List.set_cons_succ]
              refine goZ_tk rfl rfl 83 rfl (.slice (some ⟨fb, fo, none⟩) O.length oc) (fun _ => rfl) ?_
              simp only [List.setIfInBounds_toArray, List.set_cons_zero, List.set_cons_succ]
              refine goZ_tk rfl rfl 84 rfl (.int .i64 k) (fun _ => rfl) ?_
              simp only [List.setIfInBounds_toArray, List.set_cons_zero, List.set_cons_succ]
              refine goZ_tk rfl rfl 85 rfl (.pointer (some ⟨fb, fo + k * 34, none⟩)) (fun _ => by go_simp) ?_
              simp only [List.setIfInBounds_toArray, List.set_cons_zero, List.set_cons_succ]
              refine goZ_tk rfl rfl 86 rfl (.pointer (some ⟨fb, fo + k * 34 + 1, none⟩)) (fun _ => rfl) ?_
              simp only [List.setIfInBounds_toArray, List.set_cons_zero, List.set_cons_succ]
              refine goZ_ld rfl rfl 87 rfl 43 _ rfl ⟨fb, fo + k * 34 + 1, none⟩ (.agg (nums .u8 f.id)) rfl (fun W hS => ld_id HFK.out.id hS.fi) (hs0) ?_
              simp only [List.setIfInBounds_toArray, List.set_cons_zero, List.set_cons_succ]
              refine goZ_tk rfl rfl 88 rfl (.bool false) (exec_bin _ _ rfl rfl rfl (fun _ => by first | rfl | go_simp) (id_same HFK.out.id)) ?_
              simp only [List.setIfInBounds_toArray, List.set_cons_zero, List.set_cons_succ]
              refine goZ_tk rfl rfl 89 rfl (.bool false) (fun _ => rfl) ?_
              simp only [List.setIfInBounds_toArray, List.set_cons_zero, List.set_cons_succ]
              refine goZ_tk rfl rfl 90 rfl (.bool false) (fun _ => rfl) ?_
              simp only [List.setIfInBounds_toArray, List.set_cons_zero, List.set_cons_succ]
              refine goZ_tk rfl rfl 91 rfl (.pointer (some ⟨p10, 34, none⟩)) (fun _ => rfl) ?_
              simp only [List.setIfInBounds_toArray, List.set_cons_zero, List.set_cons_succ]
              refine goZ_ld rfl rfl 92 rfl 44 _ rfl ⟨p10, 34, none⟩ (.float .f64 (cn f.stamp)) rfl (fun W hS => ld_float _ _ W hS.st) (hs0) ?_
              simp only [List.setIfInBounds_toArray, List.set_cons_zero, List.set_cons_succ]
              refine goZ_tk rfl rfl 94 rfl (.slice (some ⟨fb, fo, none⟩) O.length oc) (fun _ => rfl) ?_
              simp only [List.setIfInBounds_toArray, List.set_cons_zero, List.set_cons_succ]
              refine goZ_tk rfl rfl 95 rfl (.int .i64 k) (fun _ => rfl) ?_
              simp only [List.setIfInBounds_toArray, List.set_cons_zero, List.set_cons_succ]
              refine goZ_tk rfl rfl 96 rfl (.pointer (some ⟨fb, fo + k * 34, none⟩)) (fun _ => by go_simp) ?_
              simp only [List.setIfInBounds_toArray, List.set_cons_zero, List.set_cons_succ]
              refine goZ_tk rfl rfl 97 rfl (.pointer (some ⟨fb, fo + k * 34 + 33, none⟩)) (fun _ => rfl) ?_
              simp only [List.setIfInBounds_toArray, List.set_cons_zero, List.set_cons_succ]
              refine goZ_ld rfl rfl 98 rfl 44 _ rfl ⟨fb, fo + k * 34 + 33, none⟩ (.float .f64 f.stamp) rfl (fun W hS => ld_float _ _ W hS.fs) (hs0) ?_
              simp only [List.setIfInBounds_toArray, List.set_cons_zero, List.set_cons_succ]
              refine goZ_call (ds' := [31, 20, 15, 10, 5, 1]) rfl rfl (by kernel_rfl) 93 rfl 20 _ rfl [(.float .f64 (cn f.stamp))] rfl (enters_of Tryz.func20 (by kernel_rfl) rfl) ((HBT.out _).mono ?_)
              rintro _ _ ⟨rfl, rfl⟩
              refine ⟨(.int .u64 (cn f.stamp)), rfl, fun _ => hs0, ?_⟩
              simp only [List.setIfInBounds_toArray, List.set_cons_zero, List.set_cons_succ]
              refine goZ_call (ds' := [20, 15, 10, 5, 1]) rfl rfl (by kernel_rfl) 99 rfl 20 _ rfl [(.float .f64 f.stamp)] rfl (enters_of Tryz.func20 (by kernel_rfl) rfl) ((refbits_c f.stamp _).mono ?_)
              rintro _ _ ⟨rfl, rfl⟩
              refine ⟨(.int .u64 (cn f.stamp)), rfl, fun _ => hs0, ?_⟩
              simp only [List.setIfInBounds_toArray, List.set_cons_zero, List.set_cons_succ]
              refine goZ_tk rfl rfl 100 rfl (.bool false) (fun _ => by go_simp) ?_
              simp only [List.setIfInBounds_toArray, List.set_cons_zero, List.set_cons_succ]
              refine goZ_tk rfl rfl 101 rfl (.bool false) (fun _ => rfl) ?_
              simp only [List.setIfInBounds_toArray, List.set_cons_zero, List.set_cons_succ]
              refine goZ_end ?_
              generalize W8.drewN 1 = W9 at *
              have QB8 := Lib.hid HB8
              have QOR8 := Lib.hid HOR8
              have QBLK8 := Lib.hid HBLK8
              have QLT8 := Lib.hid HLT8
              clear HB8 HOR8 HBLK8 HLT8
              go_wp2_with fail
              exact ⟨⟨_, _, _, _, ⟨k + 1, hkl, rfl, QB8.out, QOR8.out, QBLK8.out, QLT8.out⟩, rfl, rfl, rfl, by go_num⟩, by simp [intOf]; omega⟩
            · have k1 : decide ((k : Int) < (V.length : Int)) = false := decide_eq_false (by omega)
              have k2 : decide (k < V.length) = false := decide_eq_false hkl
              have QBW := Lib.hid HBW
              have QBLK := Lib.hid HBLK
              have QLT := Lib.hid HLT
              clear HBW HBLK HLT
              go_wp2_with fail
              go_roundw
              case rel => exact ⟨i + 1, hlt, by go_num, QBW.out, QBLK.out, QLT.out⟩
              case measure => simp [intOf]; omega
        · have d1 : decide ((i : Int) < 3) = false := decide_eq_false (by omega)
          have d2 : decide (i < 3) = false := decide_eq_false hlt
          go_wp2_with fail
          go_ret
          exact ⟨rfl, HBW.out⟩
    · have e2 : (c2 == 0) = false := beq_eq_false_iff_ne.2 h2
      go_wp2_with (first
        | (go_at_call 19; refine HC1.out.mono ?_; rintro e W2 ⟨rfl, hb2⟩; have HB2 := Lib.hid (HB1.out.trans (hb2.mono HB1.out.size)); clear hb2 HC1)
        | (go_at_call 19; refine (HC2.out _ HB2.out).mono ?_; rintro e W3 ⟨rfl, hb3⟩; have HB3 := Lib.hid (HB2.out.trans (hb3.mono HB2.out.size)); clear hb3))
      go_ret
      exact ⟨rfl, HB3.out⟩
  · have e1 : (c1 == 0) = false := beq_eq_false_iff_ne.2 h1
    go_wp2_with (go_at_call 19; refine HC1.out.mono ?_; rintro e W2 ⟨rfl, hb2⟩; have HB2 := Lib.hid (HB1.out.trans (hb2.mono HB1.out.size)); clear hb2)
    go_ret
    exact ⟨rfl, HB2.out⟩
end Go.Proofs.YtpcipdkoncmdcaaGreatDoor
namespace Go.Proofs.YtpcipdkoncmdcaaGreatDoor.joinSides
open Go.ChangeShapes Go.WideShapes Go.ChangeAt Go.RowKit
open Go.WideMaps Go.WideElems
open Go.ChangeMaps (open_string shut_string)

theorem reads (os : Os) {H : Type} (enc : TypeId × Value → H) : ∃ places, DataW.whole enc Tryz.prog ((laidWorld os).forCall (fun _ _ => 0) ⟨#[], #[Value.slice none 0 0, .slice none 0 0], []⟩).memory Tryz.f4.params.toList Rows.joinSidesSpec.vars false (#[Value.slice none 0 0, .slice none 0 0] : Array Value).toList 8 = some ([.nil, .nil], [], places) :=
  ⟨[], by kernel_rfl⟩

set_option maxRecDepth 100000 in
theorem contract (H : Type) (enc : TypeId × Value → H) (W : World) (base : Nat) (args : Array Value) (ds : List (DataW H)) (p : List MemPlace)
    (hval : ∀ (j : Nat) t v, Tryz.f4.params[j]? = some t → args[j]? = some v → Value.okWide Tryz.prog W .any base t v)
    (hA : DataW.TrodAll enc Tryz.prog W 0 (fun _ => true) true Tryz.f4.params.toList args.toList ds p) (hk : Rows.uptoSmall H ds = true) (_hL : laidMetH Tryz.prog Rows.joinSidesUptoRow.laid W) (hshape : W.ShapedOpen Tryz.prog) :
    Calls Tryz.prog 4 args W fun e W' => e = .returned (.bool true) ∧ Below W.heap.size W W' := by
  rw [Tryz.params4] at hA hval
  obtain ⟨v0, vs0, d0, ds0, p0, q0, hargs0, rfl, rfl, h0, r0⟩ := trodAll_cons hA
  obtain ⟨v1, vs1, d1, ds1, p1, q1, hargs1, rfl, rfl, h1, r1⟩ := trodAll_cons r0
  obtain ⟨rfl, rfl, rfl⟩ := trodAll_nil r1
  rw [hargs1] at hargs0
  obtain rfl : args = #[v0, v1] := by cases args; simp_all
  have k0 := bulk_mem hk (d := d0) (by simp)
  obtain ⟨_, fs0, -⟩ := open_files (hval 0 22 v0 rfl rfl) h0 k0
  have k1 := bulk_mem hk (d := d1) (by simp)
  obtain ⟨_, fs1, -⟩ := open_files (hval 1 22 v1 rfl rfl) h1 k1
  exact sides_c fs0 fs1 (gl_of_shaped hshape)

set_option maxRecDepth 100000 in
theorem lifted (os : Os) (started : os.Started) (H : Type) (enc : TypeId × Value → H) (F : Stop.Interp) :
    ReturnsInHanded {} Tryz.checked os 4 .any ((Rows.OpenSpec.upto Rows.joinSidesSpec).preRow enc Tryz.prog Tryz.f4 Rows.joinSidesUptoRow.domain false Rows.joinSidesUptoRow.laid) (((Rows.OpenSpec.upto Rows.joinSidesSpec).at F).post enc Tryz.prog Tryz.f4 false true false false) := by
  obtain ⟨places, hx⟩ := reads os enc
  refine law_lifted (laid := Rows.joinSidesUptoRow.laid) started Tryz.func4 (by kernel_rfl) rfl rfl ?_ (by kernel_rfl) ?_ ?_ ?_
  · intro ds h
    match ds, h with
    | [_, _], _ => rfl
  · rw [Tryz.params4]
    intro t ht
    have ht : t ∈ [22, 22] := ht
    simp only [List.mem_cons, List.mem_nil_iff, or_false] at ht
    rcases ht with rfl | rfl <;> exact ⟨by kernel_rfl, of_decide_eq_true (by kernel_rfl)⟩
  · exact witness_row_at (enc := enc) (C := Tryz.checked) false (laidWorld os) #[Value.slice none 0 0, .slice none 0 0] rfl (by kernel_rfl) (by kernel_rfl) (by kernel_rfl)
      (OpenSpec.preRow_of_cond 8 hx (by kernel_rfl) (fun k hk => by cases hk; kernel_rfl) (by kernel_rfl) (laid_met os _))
  · exact contract H enc

theorem saidUpto : Rows.JoinSidesUptoSaid :=
  OpenClaim.holds_of_cond 4 Tryz.f4 rfl rfl rfl rfl rfl rfl rfl ⟨rfl, rfl, rfl, rfl, rfl⟩ rfl rfl rfl rfl rfl (by kernel_rfl) Tryz.func4 (by kernel_rfl)
    (of_decide_eq_true (by kernel_rfl)) (by unfold Func.isWrapper; rw [if_neg (by decide +kernel)]; exact ⟨rfl, rfl⟩)
    (fun os started H enc _ F => by rw [OpenClaim.pre_eq_preRow]; exact lifted os started H enc F)

theorem plain (f : FuncId) (fn : Func) (hf : Tryz.pinned.checked.prog.funcNamed "towline/towlinelaw13.JoinSides" = some f) (hfn : Tryz.pinned.checked.prog.funcs[f]? = some fn) :
    false = Tryz.pinned.checked.prog.looks [] ∧ ∀ (j : Nat) t, fn.params[j]? = some t → Tryz.pinned.checked.prog.wantsStandIn t = false := by
  obtain rfl : f = 4 := Option.some.inj ((show Tryz.prog.funcNamed "towline/towlinelaw13.JoinSides" = some 4 by kernel_rfl).symm.trans hf) |>.symm
  obtain rfl : fn = Tryz.f4 := (Option.some.inj (Tryz.func4.symm.trans hfn)).symm
  refine ⟨by kernel_rfl, fun j t ht => ?_⟩
  rw [Tryz.params4] at ht
  have ht : t ∈ [22, 22] := by simpa using Array.mem_of_getElem? ht
  simp only [List.mem_cons, List.mem_nil_iff, or_false] at ht
  rcases ht with rfl | rfl <;> exact (show Tryz.prog.wantsStandIn _ = false by kernel_rfl)

theorem cardUpto : Rows.JoinSidesUptoCardSaid :=
  Claim7.holds_tied_plain_at .later [] _ _ _ _ saidUpto (fun _ h => by cases h) (by kernel_rfl) (fun _ h => by cases h) joinSidesUpto_row_tie rfl ⟨rfl, rfl⟩ (by kernel_rfl) rfl plain (by kernel_rfl)
end Go.Proofs.YtpcipdkoncmdcaaGreatDoor.joinSides
