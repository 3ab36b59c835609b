/- Texts of mine, joined: Ids, files, snapshots, blobs that came in, opened. | What merging answers, path by path: plain. | One side is the base, or both are alike: plain. | The files of a clean merge are a snapshot's: plain. -/
import Derived.Test.YtpcipdkoncmdcaaGreatDoorZ27
namespace Go.Proofs.YtpcipdkoncmdcaaGreatDoor
open Go Go.ChangeShapes Go.WideShapes Go.ChangeAt Go.RowKit

section
variable {H : Type} {enc : TypeId × Value → H} {W : World}
theorem flat_nb (l : List Nat) : (l.flatMap fun (n : Nat) => [Value.int .u8 (n : Int)]) = nb l := by
  induction l with
  | nil => rfl
  | cons x l ih => rw [List.flatMap_cons, ih]; rfl
set_option maxRecDepth 100000 in
theorem opn_id : Opn enc Tryz.prog W 43 (List Nat) nb (fun l _ => OkId l) := by
  intro n cs x h
  obtain ⟨y, h1, h2, -, -, h5⟩ := (opn_arr (enc := enc) (W := W) (ok := fun (n : Nat) b => 0 < b ∧ n < 256) id_under (k := 1) (by kernel_rfl) (by kernel_rfl) (by decide) (fun _ a b hab h => ⟨Nat.lt_of_lt_of_le h.1 hab, h.2⟩) (fun _ => 0) (fun _ _ _ => Nat.zero_le _) (opn_u8 Tryz.underlying5)) n cs x h
  exact ⟨y, Eq.trans h1 (flat_nb y), h2, fun z hz => (h5 z hz).2⟩
set_option maxRecDepth 100000 in
theorem open_id {base : Nat} {v : Value} {d : DataW H} {p : List MemPlace} (hv : Value.okWide Tryz.prog W .any base 43 v) (h : DataW.Trod enc Tryz.prog W 0 (fun _ => true) true 43 v d p) : ∃ l, v = .agg (nums .u8 l) ∧ OkId l := by
  obtain ⟨cs, rfl, -⟩ := arr_okWide id_under hv
  obtain ⟨l, h1, h2⟩ := opn_id.arg h
  have : cs.toList = nb l := h1
  exact ⟨l, by rw [show cs = (nb l).toArray by rw [← this]]; rfl, h2⟩
set_option maxRecDepth 100000 in
theorem open_f3 {base : Nat} {v : Value} {d : DataW H} {p : List MemPlace} (hv : Value.okWide Tryz.prog W .any base 64 v) (h : DataW.Trod enc Tryz.prog W 0 (fun _ => true) true 64 v d p) : ∃ s : T3 Nat, v = .agg #[.float .f64 s.a, .float .f64 s.b, .float .f64 s.c] ∧ s.a < 2 ^ 64 ∧ s.b < 2 ^ 64 ∧ s.c < 2 ^ 64 := by
  obtain ⟨cs, rfl, -⟩ := arr_okWide Tryz.underlying64 hv
  obtain ⟨l, h1, h2, -, -, h5⟩ := (opn_arr (enc := enc) (W := W) (ok := fun (n : Nat) b => 0 < b ∧ n < 2 ^ 64) Tryz.underlying64 (k := 1) (by kernel_rfl) (by kernel_rfl) (by decide) (fun _ a b hab h => ⟨Nat.lt_of_lt_of_le h.1 hab, h.2⟩) (fun _ => 0) (fun _ _ _ => Nat.zero_le _) (opn_f64 Tryz.underlying44)).arg h
  have h1 : cs.toList = l.flatMap fun n => [Value.float .f64 n] := h1
  rcases l with _ | ⟨a, _ | ⟨b, _ | ⟨c, _ | ⟨e, l⟩⟩⟩⟩
  · simp at h2
  · simp at h2
  · simp at h2
  · refine ⟨⟨a, b, c⟩, ?_, (h5 a (by simp)).2, (h5 b (by simp)).2, (h5 c (by simp)).2⟩
    rw [show cs = (cs.toList).toArray by simp, h1]; rfl
  · simp at h2

set_option maxRecDepth 100000 in
theorem opn_file : Opn enc Tryz.prog W 56 Fi fiC (fun f b => OkId f.id ∧ f.stamp < 2 ^ 64 ∧ f.path.size < b) := by
  intro n cs x h
  obtain ⟨xs, m, -, hx, hl, hxl, hf⟩ := DataW.trod_struct Tryz.underlying56 h
  have hxl : xs.length = 3 := hxl
  rcases xs with _ | ⟨x0, _ | ⟨x1, _ | ⟨x2, _ | ⟨x3, l⟩⟩⟩⟩
  · simp at hxl
  · simp at hxl
  · simp at hxl
  · obtain ⟨p, e0, b0⟩ := opn_str (W := W) Tryz.underlying9 m _ x0 (hf 0 _ rfl)
    obtain ⟨i, e1, b1⟩ := opn_id (W := W) m _ x1 (hf 1 _ rfl)
    obtain ⟨s, e2, b2⟩ := opn_f64 (W := W) Tryz.underlying44 m _ x2 (hf 2 _ rfl)
    have hcl : cs.length = 34 := hl.trans (by kernel_rfl)
    have k0 : (Tryz.prog).cellsOf 9 = 1 := by kernel_rfl
    have k1 : (Tryz.prog).cellsOf 43 = 32 := by kernel_rfl
    have k2 : (Tryz.prog).cellsOf 44 = 1 := by kernel_rfl
    have e0 : (cs.drop 0).take 1 = [.string p] := by rw [← k0]; exact e0
    have e1 : (cs.drop 1).take 32 = nb i := by rw [← k1]; exact e1
    have e2 : (cs.drop 33).take 1 = [.float .f64 s] := by rw [← k2]; exact e2
    have hcs : cs = fiC ⟨p, i, s⟩ := by
      have a1 : cs = (cs.drop 0).take 1 ++ ((cs.drop 1).take 32 ++ (cs.drop 33).take 1) := by
        rw [List.take_of_length_le (l := cs.drop 33) (by rw [List.length_drop]; omega), show cs.drop 33 = (cs.drop 1).drop 32 by rw [List.drop_drop], List.take_append_drop, List.drop_zero, List.take_append_drop]
      rw [a1, e0, e1, e2]; rfl
    have hb : Rows.uptoBulk x.1 = Rows.uptoBulk x0.1 + (Rows.uptoBulk x1.1 + (Rows.uptoBulk x2.1 + 0)) + 1 := by
      rw [hx]; simp only [Rows.uptoBulk, Rows.uptoBulkAll, List.map_cons, List.map_nil]
    exact ⟨⟨p, i, s⟩, hcs, b1, b2.2, by show p.size < _; omega⟩
  · simp at hxl
theorem file_mono : ∀ (f : Fi) (a b : Nat), a ≤ b → (OkId f.id ∧ f.stamp < 2 ^ 64 ∧ f.path.size < a) → OkId f.id ∧ f.stamp < 2 ^ 64 ∧ f.path.size < b := fun _ _ _ hab h => ⟨h.1, h.2.1, Nat.lt_of_lt_of_le h.2.2 hab⟩
instance : Inhabited Fi := ⟨⟨ByteArray.empty, [], 0⟩⟩
set_option maxRecDepth 100000 in
/-- A snapshot's files. -/
theorem opn_files : Opn enc Tryz.prog W 22 (Option Addr × Nat × List Fi) (fun y => [.slice y.1 y.2.2.length y.2.1]) (fun y b => Sl W y.1 (fiR y.2.2) ∧ y.2.2.length < b ∧ ∀ f ∈ y.2.2, OkId f.id ∧ f.stamp < 2 ^ 64 ∧ f.path.size < b) := by
  intro n cs x h
  obtain ⟨y, e, h1, -, h3, -, h5⟩ := (opn_slice (enc := enc) (W := W) Tryz.underlying22 (k := 34) (by kernel_rfl) (by decide) file_mono (fun _ => 0) (fun _ _ _ => Nat.zero_le _) opn_file) n cs x h
  exact ⟨y, e, h1, h3, h5⟩
theorem files_fs {y : Option Addr × Nat × List Fi} {b : Nat} (h : Sl W y.1 (fiR y.2.2) ∧ y.2.2.length < b ∧ ∀ f ∈ y.2.2, OkId f.id ∧ f.stamp < 2 ^ 64 ∧ f.path.size < b) (hb : b ≤ 1048576) : FS W (.slice y.1 y.2.2.length y.2.1) y.2.2 :=
  ⟨⟨y.1, y.2.1, rfl, h.1⟩, fun f hf => ⟨(h.2.2 f hf).1, (h.2.2 f hf).2.1, by have := (h.2.2 f hf).2.2; omega⟩, by have := h.2.1; omega⟩
set_option maxRecDepth 100000 in
theorem open_files {base : Nat} {v : Value} {d : DataW H} {p : List MemPlace} (hv : Value.okWide Tryz.prog W .any base 22 v) (h : DataW.Trod enc Tryz.prog W 0 (fun _ => true) true 22 v d p) (hk : Rows.uptoBulk d ≤ 1048576) : ∃ l, FS W v l ∧ l.length ≤ 1048576 := by
  obtain ⟨a0, len, cap, rfl⟩ := okWide_slice Tryz.underlying22 hv
  obtain ⟨y, e, h1⟩ := opn_files.arg h
  have e := (List.cons.inj e).1
  rw [e]
  exact ⟨y.2.2, files_fs h1 hk, by have := h1.2.1; omega⟩
set_option maxRecDepth 100000 in
/-- Three snapshots. -/
theorem open_snaps {base : Nat} {v : Value} {d : DataW H} {p : List MemPlace} (hv : Value.okWide Tryz.prog W .any base 23 v) (h : DataW.Trod enc Tryz.prog W 0 (fun _ => true) true 23 v d p) (hk : Rows.uptoBulk d ≤ 1048576) :
    ∃ va vb vc, ∃ T : T3 (List Fi), v = .agg #[va, vb, vc] ∧ FS W va T.a ∧ FS W vb T.b ∧ FS W vc T.c := by
  obtain ⟨cs, rfl, -⟩ := arr_okWide Tryz.underlying23 hv
  obtain ⟨l, h1, h2, -, -, h5⟩ := (opn_arr (enc := enc) (W := W) Tryz.underlying23 (k := 1) (by kernel_rfl) (by kernel_rfl) (by decide) (ok := fun (y : Option Addr × Nat × List Fi) b => Sl W y.1 (fiR y.2.2) ∧ y.2.2.length < b ∧ ∀ f ∈ y.2.2, OkId f.id ∧ f.stamp < 2 ^ 64 ∧ f.path.size < b) (fun y a b hab h => ⟨h.1, Nat.lt_of_lt_of_le h.2.1 hab, fun f hf => file_mono f a b hab (h.2.2 f hf)⟩) (fun _ => 0) (fun _ _ _ => Nat.zero_le _) opn_files).arg h
  have h1 : cs.toList = l.flatMap fun y => [Value.slice y.1 y.2.2.length y.2.1] := h1
  rcases l with _ | ⟨a, _ | ⟨b, _ | ⟨c, _ | ⟨e, l⟩⟩⟩⟩
  · simp at h2
  · simp at h2
  · simp at h2
  · refine ⟨_, _, _, ⟨a.2.2, b.2.2, c.2.2⟩, ?_, files_fs (h5 a (by simp)) hk, files_fs (h5 b (by simp)) hk, files_fs (h5 c (by simp)) hk⟩
    rw [show cs = (cs.toList).toArray by simp, h1]; rfl
  · simp at h2
end
end Go.Proofs.YtpcipdkoncmdcaaGreatDoor
namespace Go.Proofs.YtpcipdkoncmdcaaGreatDoor
open Go Go.RowKit

/-- The file of a path. -/
def fiAt (l : List Fi) (p : ByteArray) : Option Fi := l.find? fun f => decide (f.path = p)
def thAt (L : List Th) (p : ByteArray) : Option Th := L.find? fun t => decide (t.path = p)
theorem fiAt_some {l : List Fi} {p : ByteArray} {f : Fi} (h : fiAt l p = some f) : f ∈ l ∧ f.path = p := ⟨List.mem_of_find?_eq_some h, by simpa using List.find?_some h⟩
theorem fiAt_none {l : List Fi} {p : ByteArray} : fiAt l p = none ↔ p ∉ l.map (·.path) := by
  unfold fiAt
  rw [List.find?_eq_none]
  constructor
  · intro h hm
    obtain ⟨f, hf, rfl⟩ := List.mem_map.1 hm
    exact h f hf (decide_eq_true rfl)
  · intro h f hf e
    exact h (List.mem_map.2 ⟨f, hf, by simpa using e⟩)
theorem fiAt_mem {l : List Fi} (hn : (l.map (·.path)).Nodup) {f : Fi} (hf : f ∈ l) : fiAt l f.path = some f := by
  induction l with
  | nil => cases hf
  | cons g l ih =>
    rw [List.map_cons, List.nodup_cons] at hn
    unfold fiAt
    rw [List.find?_cons]
    rcases List.mem_cons.1 hf with rfl | hf
    · simp
    · have : g.path ≠ f.path := fun e => hn.1 (e ▸ List.mem_map_of_mem hf)
      rw [decide_eq_false this]
      exact ih hn.2 hf
theorem thAt_taken (i : Nat) (f : Fi) (p : ByteArray) : ∀ L : List Th, thAt (taken i f L) p = if p = f.path then some (((thAt L p).getD { zTh with path := p }).add i f) else thAt L p
  | [] => by
    show thAt [({ zTh with path := f.path } : Th).add i f] p = _
    by_cases h : p = f.path
    · rw [if_pos h, h]; simp [thAt, Th.add]
    · rw [if_neg h]
      have h' : ¬ f.path = p := fun e => h e.symm
      simp [thAt, Th.add, h']
  | t :: L => by
    have ih := thAt_taken i f p L
    show thAt (if t.path = f.path then t.add i f :: L else t :: taken i f L) p = _
    have hc : ∀ (s : Th) (M : List Th), thAt (s :: M) p = if s.path = p then some s else thAt M p := by
      intro s M
      unfold thAt
      rw [List.find?_cons]
      by_cases h : s.path = p <;> simp [h]
    by_cases h1 : t.path = f.path
    · rw [if_pos h1, hc, hc]
      show (if t.path = p then _ else _) = _
      by_cases h2 : p = f.path
      · rw [if_pos (h1.trans h2.symm), if_pos h2, if_pos (h1.trans h2.symm)]; rfl
      · have h3 : ¬ t.path = p := fun e => h2 (e.symm.trans h1)
        rw [if_neg h3, if_neg h2, if_neg h3]
    · rw [if_neg h1, hc, hc, ih]
      by_cases h2 : p = f.path
      · have h3 : ¬ t.path = p := fun e => h1 (e.trans h2)
        rw [if_neg h3, if_pos h2, if_pos h2, if_neg h3]
      · rw [if_neg h2, if_neg h2]
theorem thAt_takenAll (i : Nat) (p : ByteArray) : ∀ (fs : List Fi) (L : List Th), (fs.map (·.path)).Nodup → thAt (takenAll i L fs) p = match fiAt fs p with | none => thAt L p | some f => some (((thAt L p).getD { zTh with path := p }).add i f)
  | [], L, _ => rfl
  | f :: fs, L, hn => by
    rw [List.map_cons, List.nodup_cons] at hn
    show thAt (takenAll i (taken i f L) fs) p = _
    rw [thAt_takenAll i p fs (taken i f L) hn.2, thAt_taken]
    have hc : fiAt (f :: fs) p = if f.path = p then some f else fiAt fs p := by
      unfold fiAt
      rw [List.find?_cons]
      by_cases h : f.path = p <;> simp [h]
    rw [hc]
    by_cases h : p = f.path
    · subst h
      have : fiAt fs f.path = none := fiAt_none.2 hn.1
      rw [this, if_pos rfl, if_pos rfl]
    · rw [if_neg h, if_neg (fun e => h e.symm)]
def okT3 (T : T3 (List Fi)) : Prop := (T.a.map (·.path)).Nodup ∧ (T.b.map (·.path)).Nodup ∧ (T.c.map (·.path)).Nodup
/-- A path's three, out of the snapshots. -/
def hasT (T : T3 (List Fi)) (p : ByteArray) : T3 Bool := ⟨(fiAt T.a p).isSome, (fiAt T.b p).isSome, (fiAt T.c p).isSome⟩
def idF : Option Fi → List Nat | none => zId | some f => f.id
def stF : Option Fi → Nat | none => 0 | some f => f.stamp
def idsT (T : T3 (List Fi)) (p : ByteArray) : T3 (List Nat) := ⟨idF (fiAt T.a p), idF (fiAt T.b p), idF (fiAt T.c p)⟩
def stsT (T : T3 (List Fi)) (p : ByteArray) : T3 Nat := ⟨stF (fiAt T.a p), stF (fiAt T.b p), stF (fiAt T.c p)⟩
def thT (T : T3 (List Fi)) (p : ByteArray) : Th := { zTh with path := p, has := hasT T p, ids := idsT T p, sts := stsT T p }
theorem thAt_upT {T : T3 (List Fi)} (h : okT3 T) (p : ByteArray) : thAt (upT T 3) p = if fiAt T.a p = none ∧ fiAt T.b p = none ∧ fiAt T.c p = none then none else some (thT T p) := by
  show thAt (takenAll 2 (takenAll 1 (takenAll 0 [] T.a) T.b) T.c) p = _
  rw [thAt_takenAll 2 p _ _ h.2.2, thAt_takenAll 1 p _ _ h.2.1, thAt_takenAll 0 p _ _ h.1]
  unfold thT hasT idsT stsT
  cases fiAt T.a p <;> cases fiAt T.b p <;> cases fiAt T.c p <;> rfl
theorem thOf_thAt (L : List Th) (p : ByteArray) : thOf L p = (thAt L p).getD zTh := rfl
theorem mem_thAt {L : List Th} {p : ByteArray} : p ∈ L.map (·.path) ↔ thAt L p ≠ none := by
  unfold thAt
  rw [Ne, List.find?_eq_none]
  constructor
  · intro hm h
    obtain ⟨t, ht, rfl⟩ := List.mem_map.1 hm
    exact h t ht (decide_eq_true rfl)
  · intro h
    false_or_by_contra
    rename_i hm
    exact h fun t ht e => hm (List.mem_map.2 ⟨t, ht, by simpa using e⟩)
theorem mem_upT {T : T3 (List Fi)} (h : okT3 T) (p : ByteArray) : p ∈ (upT T 3).map (·.path) ↔ (p ∈ T.a.map (·.path) ∨ p ∈ T.b.map (·.path) ∨ p ∈ T.c.map (·.path)) := by
  rw [mem_thAt, thAt_upT h]
  have e : ∀ l : List Fi, fiAt l p = none ↔ p ∉ l.map (·.path) := fun l => fiAt_none
  by_cases ha : fiAt T.a p = none
  · by_cases hb : fiAt T.b p = none
    · by_cases hc : fiAt T.c p = none
      · rw [if_pos ⟨ha, hb, hc⟩]
        exact ⟨fun h => absurd rfl h, fun h => (h.elim ((e _).1 ha) (fun h => h.elim ((e _).1 hb) ((e _).1 hc))).elim⟩
      · rw [if_neg (fun h => hc h.2.2)]
        exact ⟨fun _ => .inr (.inr (Classical.not_not.1 (fun h => hc ((e _).2 h)))), fun _ => by simp⟩
    · rw [if_neg (fun h => hb h.2.1)]
      exact ⟨fun _ => .inr (.inl (Classical.not_not.1 (fun h => hb ((e _).2 h)))), fun _ => by simp⟩
  · rw [if_neg (fun h => ha h.1)]
    exact ⟨fun _ => .inl (Classical.not_not.1 (fun h => ha ((e _).2 h))), fun _ => by simp⟩
/-- The names that are merged. -/
def nmsT (T : T3 (List Fi)) : List ByteArray := PathS.sorted ((upT T 3).map (·.path))
theorem upT_nodup (T : T3 (List Fi)) : ((upT T 3).map (·.path)).Nodup := takenAll_nodup (takenAll_nodup (takenAll_nodup List.nodup_nil))
theorem nms_nodup (T : T3 (List Fi)) : (nmsT T).Nodup := (PathS.sorted_perm _).nodup_iff.2 (upT_nodup T)
theorem nms_pw (T : T3 (List Fi)) : (nmsT T).Pairwise PathS.le := PathS.sorted_pw _
theorem mem_nms {T : T3 (List Fi)} (h : okT3 T) (p : ByteArray) : p ∈ nmsT T ↔ (p ∈ T.a.map (·.path) ∨ p ∈ T.b.map (·.path) ∨ p ∈ T.c.map (·.path)) := (PathS.sorted_perm _).mem_iff.trans (mem_upT h p)
theorem thOf_nms {T : T3 (List Fi)} (h : okT3 T) {p : ByteArray} (hp : p ∈ nmsT T) : thOf (upT T 3) p = thT T p := by
  have hm := mem_thAt.1 ((PathS.sorted_perm _).mem_iff.1 hp)
  rw [thAt_upT h] at hm
  rw [thOf_thAt, thAt_upT h]
  split at hm
  · exact absurd rfl hm
  · rename_i hn; rw [if_neg hn]; rfl
def decT (src : List Nat → ByteArray × Int) (T : T3 (List Fi)) (p : ByteArray) : Dec := decS src (hasT T p) (idsT T p) zId
def outT (src : List Nat → ByteArray × Int) (T : T3 (List Fi)) (p : ByteArray) : Option Ou := if (decT src T p).keep then some (outOf (decT src T p) (thT T p)) else none
theorem decGo_acc {src : List Nat → ByteArray × Int} {T : T3 (List Fi)} (h : okT3 T) : ∀ (l : List ByteArray) (acc : List Ou), (∀ p ∈ l, p ∈ nmsT T) → (∀ p ∈ l, (decT src T p).err = 0) → decGo src (upT T 3) acc l = (0, acc ++ l.filterMap (outT src T))
  | [], acc, _, _ => by simp [decGo]
  | p :: l, acc, hm, he => by
    have h1 := thOf_nms h (hm p (by simp))
    have h2 := he p (by simp)
    rw [decGo_step (d := decT src T p) h1 rfl, if_neg (by simp [h2]), decGo_acc h l _ (fun q hq => hm q (by simp [hq])) (fun q hq => he q (by simp [hq]))]
    rw [List.filterMap_cons]
    unfold outT
    by_cases hk : (decT src T p).keep = true
    · rw [if_pos hk, if_pos hk]; simp
    · rw [if_neg hk, if_neg hk]
/-- Merging whole. -/
theorem merge_ok {src : List Nat → ByteArray × Int} {T : T3 (List Fi)} (h : okT3 T) (hc : chkA T 3 = 0) (he : ∀ p ∈ nmsT T, (decT src T p).err = 0) : mergeS src (upT T 3) (chkA T 3) = (0, clashed ((nmsT T).filterMap (outT src T))) := by
  unfold mergeS
  rw [hc, if_neg (by simp), show PathS.sorted ((upT T 3).map (·.path)) = nmsT T from rfl, decGo_acc h _ _ (fun p hp => hp) he]
  simp

-- snapshots in their order
theorem chkF_zero {l : List Fi} : ∀ (n k : Nat), chkF l n k = 0 → ∀ j, k ≤ j → j < k + n → chk1 l j = 0
  | 0, k, _, j, h1, h2 => by omega
  | n + 1, k, h, j, h1, h2 => by
    rw [show chkF l (n + 1) k = if chk1 l k ≠ 0 then chk1 l k else chkF l n (k + 1) from rfl] at h
    split at h
    · rename_i hne; exact absurd h hne
    · rename_i he
      by_cases e : j = k
      · subst e; simpa using he
      · exact chkF_zero n (k + 1) h j (by omega) (by omega)
theorem chkF_of {l : List Fi} : ∀ (n k : Nat), (∀ j, k ≤ j → j < k + n → chk1 l j = 0) → chkF l n k = 0
  | 0, k, _ => rfl
  | n + 1, k, h => by
    rw [show chkF l (n + 1) k = if chk1 l k ≠ 0 then chk1 l k else chkF l n (k + 1) from rfl, if_neg (by simp [h k (Nat.le_refl _) (by omega)])]
    exact chkF_of n (k + 1) fun j h1 h2 => h j (by omega) (by omega)
structure OkS (l : List Fi) : Prop where
  n : l.length ≤ 256
  ck : ∀ f ∈ l, PathS.check f.path = 0
  lt : ∀ j (h : j + 1 < l.length), PathS.cmp (l[j]'(by omega)).path l[j + 1].path < 0
  un : ∀ j (h : j + 1 < l.length), PathS.under l[j + 1].path (l[j]'(by omega)).path = false
theorem okS_of {l : List Fi} (h : chkS l = 0) : OkS l := by
  have hn := chkS_len h
  unfold chkS at h
  rw [if_neg (by omega)] at h
  have h1 := chkF_zero _ _ h
  have hck : ∀ j (hj : j < l.length), PathS.check l[j].path = 0 := by
    intro j hj
    false_or_by_contra
    rename_i hne
    have := h1 j (Nat.zero_le _) (by omega)
    rw [chk1_bad hj hne] at this
    exact hne this
  refine ⟨hn, fun f hf => ?_, fun j hj => ?_, fun j hj => ?_⟩
  · obtain ⟨j, hj, rfl⟩ := List.getElem_of_mem hf; exact hck j hj
  · have := h1 (j + 1) (Nat.zero_le _) (by omega)
    rw [chk1_succ hj (hck _ hj)] at this
    split at this
    · cases this
    · omega
  · have := h1 (j + 1) (Nat.zero_le _) (by omega)
    rw [chk1_succ hj (hck _ hj)] at this
    split at this
    · cases this
    · split at this
      · cases this
      · rename_i hu; simpa using hu
theorem chkS_of {l : List Fi} (h : OkS l) : chkS l = 0 := by
  unfold chkS
  rw [if_neg (by have := h.n; omega)]
  refine chkF_of _ _ fun j _ hj => ?_
  have hj : j < l.length := by omega
  cases j with
  | zero => exact chk1_zero hj (h.ck _ (List.getElem_mem hj))
  | succ j => rw [chk1_succ hj (h.ck _ (List.getElem_mem hj)), if_neg (by have := h.lt j hj; omega), h.un j hj]; rfl
theorem cmp_trans {a b c : ByteArray} (h1 : PathS.cmp a b < 0) (h2 : PathS.cmp b c < 0) : PathS.cmp a c < 0 := PathS.cmp_tw.tr a b c h1 h2
theorem OkS.far {l : List Fi} (h : OkS l) : ∀ (d i : Nat) (hj : i + d + 1 < l.length), PathS.cmp (l[i]'(by omega)).path l[i + d + 1].path < 0
  | 0, i, hj => h.lt i hj
  | d + 1, i, hj => cmp_trans (h.far d i (by omega)) (h.lt (i + d + 1) hj)
theorem OkS.far' {l : List Fi} (h : OkS l) {i j : Nat} (hij : i < j) (hj : j < l.length) : PathS.cmp (l[i]'(by omega)).path l[j].path < 0 := by
  have := h.far (j - i - 1) i (by omega)
  simpa only [show i + (j - i - 1) + 1 = j by omega] using this
theorem cmp_self (a : ByteArray) : PathS.cmp a a = 0 := (PathS.cmp_tw.eq0 a a).2 rfl
theorem OkS.nodup {l : List Fi} (h : OkS l) : (l.map (·.path)).Nodup := by
  rw [List.nodup_iff_pairwise_ne, List.pairwise_map, List.pairwise_iff_getElem]
  intro i j hi hj hij e
  have := h.far' hij hj
  rw [e, cmp_self] at this
  omega
theorem OkS.pw {l : List Fi} (h : OkS l) : (l.map (·.path)).Pairwise PathS.le := by
  rw [List.pairwise_map, List.pairwise_iff_getElem]
  intro i j hi hj hij
  exact Int.le_of_lt (h.far' hij hj)
theorem OkS.no_under {l : List Fi} (h : OkS l) {i j : Nat} (hij : i < j) (hj : j < l.length) : PathS.under l[j].path (l[i]'(by omega)).path = false := by
  cases e : PathS.under l[j].path (l[i]'(by omega)).path with
  | false => rfl
  | true =>
    by_cases h1 : j = i + 1
    · subst h1; rw [h.un i hj] at e; cases e
    · have hb := PathS.between (m := (l[i + 1]'(by omega)).path) (Int.le_of_lt (h.lt i (by omega))) (Int.le_of_lt (h.far' (i := i + 1) (j := j) (by omega) hj)) (.inr e)
      rcases hb with hb | hb
      · have := h.lt i (by omega); rw [hb, cmp_self] at this; omega
      · rw [h.un i (by omega)] at hb; cases hb
/-- Where the outcomes' paths are a snapshot's, there is no clash. -/
theorem clashed_id {l : List Fi} (h : OkS l) {os : List Ou} (hp : os.map (·.path) = l.map (·.path)) : clashed os = os := by
  have hlen : os.length = l.length := by have := congrArg List.length hp; simpa using this
  have hpa : ∀ j (hj : j < os.length), os[j].path = (l[j]'(by omega)).path := by
    intro j hj
    have h1 : (os.map (·.path))[j]? = (l.map (·.path))[j]? := by rw [hp]
    rw [List.getElem?_map, List.getElem?_map, List.getElem?_eq_getElem hj, List.getElem?_eq_getElem (by omega)] at h1
    exact Option.some.inj h1
  apply List.ext_getElem?
  intro i
  unfold clashed
  rw [List.getElem?_mapIdx]
  by_cases hi : i < os.length
  · rw [List.getElem?_eq_getElem hi]
    show some (clash1 os i os[i]) = some os[i]
    unfold clash1
    rw [if_neg]
    rw [Bool.not_eq_true, List.any_eq_false]
    intro x hx
    obtain ⟨k, hk, rfl⟩ := List.getElem_of_mem hx
    rw [List.length_take] at hk
    rw [List.getElem_take, hpa i hi, hpa k (by omega), h.no_under (by omega) (by omega)]
    simp
  · rw [List.getElem?_eq_none (by omega)]; rfl
theorem filterMap_same {α β : Type} {f g : α → Option β} : ∀ {l : List α}, (∀ x ∈ l, f x = g x) → l.filterMap f = l.filterMap g
  | [], _ => rfl
  | x :: l, h => by rw [List.filterMap_cons, List.filterMap_cons, h x (by simp), filterMap_same fun y hy => h y (by simp [hy])]
/-- What a side's file becomes when it is kept. -/
def keptO (T : T3 (List Fi)) (f : Fi) : Ou := ⟨f.path, 1, f.id, cn f.stamp, ByteArray.empty, hasT T f.path, idsT T f.path⟩
/-- One snapshot is the outcome. -/
theorem merge_side {src : List Nat → ByteArray × Int} {T : T3 (List Fi)} (h : okT3 T) (hc : chkA T 3 = 0) {O : List Fi} (hO : OkS O) (hin : ∀ p ∈ O.map (·.path), p ∈ nmsT T)
    (hd : ∀ p ∈ nmsT T, decT src T p = ⟨(fiAt O p).isSome, 0, 1, idF (fiAt O p), ByteArray.empty⟩) (hw : ∀ f ∈ O, whenS (hasT T f.path) (stsT T f.path) = cn f.stamp) :
    mergeS src (upT T 3) (chkA T 3) = (0, O.map (keptO T)) := by
  rw [merge_ok h hc (fun p hp => by rw [hd p hp])]
  have e1 : (nmsT T).filterMap (outT src T) = ((nmsT T).filter fun p => (fiAt O p).isSome).filterMap fun p => (fiAt O p).map (keptO T) := by
    rw [List.filterMap_filter]
    refine filterMap_same fun p hp => ?_
    unfold outT
    rw [hd p hp]
    cases e : fiAt O p with
    | none => rfl
    | some f =>
      obtain ⟨hf, rfl⟩ := fiAt_some e
      show some (outOf _ _) = some (keptO T f)
      unfold outOf keptO
      show some (Ou.mk f.path 1 f.id (whenS (hasT T f.path) (stsT T f.path)) ByteArray.empty (hasT T f.path) (idsT T f.path)) = _
      rw [hw f hf]
  have e2 : ((nmsT T).filter fun p => (fiAt O p).isSome) = O.map (·.path) := by
    have hp : ((nmsT T).filter fun p => (fiAt O p).isSome).Perm (O.map (·.path)) := by
      rw [List.perm_ext_iff_of_nodup ((nms_nodup T).filter _) hO.nodup]
      intro p
      rw [List.mem_filter]
      have hs : (fiAt O p).isSome = true ↔ p ∈ O.map (·.path) := by
        cases e : fiAt O p with
        | none => simp; have := fiAt_none.1 e; simpa using this
        | some f => obtain ⟨hf, rfl⟩ := fiAt_some e; simp; exact ⟨f, hf, rfl⟩
      rw [hs]
      exact ⟨fun h => h.2, fun h => ⟨hin p h, h⟩⟩
    rw [PathS.sorted_one hp ((nms_pw T).filter _)]
    exact (PathS.sorted_one (List.Perm.refl _) hO.pw).symm
  have e3 : ((O.map (·.path)).filterMap fun p => (fiAt O p).map (keptO T)) = O.map (keptO T) := by
    rw [List.filterMap_map]
    rw [← List.filterMap_eq_map]
    refine filterMap_same fun f hf => ?_
    show (fiAt O f.path).map (keptO T) = some (keptO T f)
    rw [fiAt_mem hO.nodup hf]; rfl
  rw [e1, e2, e3, clashed_id hO (by rw [List.map_map]; rfl)]
end Go.Proofs.YtpcipdkoncmdcaaGreatDoor
namespace Go.Proofs.YtpcipdkoncmdcaaGreatDoor
open Go Go.RowKit

theorem eqS_same (b : Bool) (x : List Nat) : eqS b b x x = true := by simp [eqS]
theorem chkA_of {T : T3 (List Fi)} (ha : OkS T.a) (hb : OkS T.b) (hc : OkS T.c) : chkA T 3 = 0 := by
  have e0 : chkS (T.get 0) = 0 := chkS_of ha
  have e1 : chkS (T.get 1) = 0 := chkS_of hb
  have e2 : chkS (T.get 2) = 0 := chkS_of hc
  show (if chkS (T.get 0) ≠ 0 then chkS (T.get 0) else if chkS (T.get 1) ≠ 0 then chkS (T.get 1) else if chkS (T.get 2) ≠ 0 then chkS (T.get 2) else 0) = 0
  rw [e0, e1, e2]; rfl
theorem side1 {B O : List Fi} (hB : OkS B) (hO : OkS O) (src : List Nat → ByteArray × Int) : mergeS src (upT ⟨B, O, B⟩ 3) (chkA ⟨B, O, B⟩ 3) = (0, O.map (keptO ⟨B, O, B⟩)) := by
  have hk : okT3 ⟨B, O, B⟩ := ⟨hB.nodup, hO.nodup, hB.nodup⟩
  refine merge_side hk (chkA_of hB hO hB) hO (fun p hp => (mem_nms hk p).2 (.inr (.inl hp))) (fun p _ => ?_) (fun f hf => ?_)
  · unfold decT decS hasT idsT
    simp only [eqS_same, Bool.or_true, if_true]
  · unfold whenS hasT stsT
    simp only [fiAt_mem hO.nodup hf]
    cases fiAt B f.path with
    | none => simp [stF]
    | some g =>
      simp only [Option.isSome_some, stF, Bool.true_eq_false, if_false, true_and]
      split
      · rename_i h; exact h.symm
      · rfl
theorem side2 {B O : List Fi} (hB : OkS B) (hO : OkS O) (src : List Nat → ByteArray × Int) : mergeS src (upT ⟨B, B, O⟩ 3) (chkA ⟨B, B, O⟩ 3) = (0, O.map (keptO ⟨B, B, O⟩)) := by
  have hk : okT3 ⟨B, B, O⟩ := ⟨hB.nodup, hB.nodup, hO.nodup⟩
  refine merge_side hk (chkA_of hB hB hO) hO (fun p hp => (mem_nms hk p).2 (.inr (.inr hp))) (fun p _ => ?_) (fun f hf => ?_)
  · unfold decT decS hasT idsT
    simp only [eqS_same, if_true]
    by_cases h : (eqS (fiAt B p).isSome (fiAt O p).isSome (idF (fiAt B p)) (idF (fiAt O p)) || eqS (fiAt B p).isSome (fiAt O p).isSome (idF (fiAt B p)) (idF (fiAt O p))) = true
    · rw [if_pos h]
      rw [Bool.or_self] at h
      unfold eqS at h
      simp only [Bool.and_eq_true, decide_eq_true_eq] at h
      rw [h.1, h.2]
    · rw [if_neg h]
  · unfold whenS hasT stsT
    simp only [fiAt_mem hO.nodup hf]
    cases fiAt B f.path with
    | none => simp [stF]
    | some g => simp [stF]
theorem side3 {B O : List Fi} (hB : OkS B) (hO : OkS O) (src : List Nat → ByteArray × Int) : mergeS src (upT ⟨B, O, O⟩ 3) (chkA ⟨B, O, O⟩ 3) = (0, O.map (keptO ⟨B, O, O⟩)) := by
  have hk : okT3 ⟨B, O, O⟩ := ⟨hB.nodup, hO.nodup, hO.nodup⟩
  refine merge_side hk (chkA_of hB hO hO) hO (fun p hp => (mem_nms hk p).2 (.inr (.inl hp))) (fun p _ => ?_) (fun f hf => ?_)
  · unfold decT decS hasT idsT
    simp only [eqS_same, Bool.true_or, if_true]
  · unfold whenS hasT stsT
    simp only [fiAt_mem hO.nodup hf, Option.isSome_some, stF, Bool.true_eq_false, if_false]
    repeat' split
    all_goals rfl
end Go.Proofs.YtpcipdkoncmdcaaGreatDoor
namespace Go.Proofs.YtpcipdkoncmdcaaGreatDoor
open Go Go.RowKit

theorem decGo_err {src : List Nat → ByteArray × Int} {T : T3 (List Fi)} (h : okT3 T) : ∀ (l : List ByteArray) (acc : List Ou), (∀ p ∈ l, p ∈ nmsT T) → (decGo src (upT T 3) acc l).1 = 0 → ∀ p ∈ l, (decT src T p).err = 0
  | [], _, _, _, p, hp => by cases hp
  | q :: l, acc, hm, he, p, hp => by
    rw [decGo_step (d := decT src T q) (thOf_nms h (hm q (by simp))) rfl] at he
    by_cases hq : (decT src T q).err = 0
    · rw [if_neg (by simp [hq])] at he
      rcases List.mem_cons.1 hp with rfl | hp
      · exact hq
      · exact decGo_err h l _ (fun x hx => hm x (by simp [hx])) he p hp
    · rw [if_pos hq] at he
      exact absurd he hq
theorem chkA_ok {T : T3 (List Fi)} (h : chkA T 3 = 0) : OkS T.a ∧ OkS T.b ∧ OkS T.c := ⟨okS_of (chkA_zero h 0 (by decide)), okS_of (chkA_zero h 1 (by decide)), okS_of (chkA_zero h 2 (by decide))⟩
/-- What a merge without an error answers. -/
theorem merge_inv {src : List Nat → ByteArray × Int} {T : T3 (List Fi)} (h : (mergeS src (upT T 3) (chkA T 3)).1 = 0) : chkA T 3 = 0 ∧ (∀ p ∈ nmsT T, (decT src T p).err = 0) ∧ (mergeS src (upT T 3) (chkA T 3)).2 = clashed ((nmsT T).filterMap (outT src T)) := by
  have hc : chkA T 3 = 0 := by
    false_or_by_contra
    rename_i hne
    unfold mergeS at h
    rw [if_pos hne] at h
    exact hne h
  obtain ⟨ha, hb, hcc⟩ := chkA_ok hc
  have hk : okT3 T := ⟨ha.nodup, hb.nodup, hcc.nodup⟩
  have he : ∀ p ∈ nmsT T, (decT src T p).err = 0 := by
    unfold mergeS at h
    rw [if_neg (by simp [hc])] at h
    exact decGo_err hk _ _ (fun p hp => hp) h
  exact ⟨hc, he, by rw [merge_ok hk hc he]⟩
/-- A file out of an outcome. -/
def fileO (o : Ou) : Fi := ⟨o.path, o.id, o.stamp⟩
theorem outs_paths {src : List Nat → ByteArray × Int} {T : T3 (List Fi)} : ((nmsT T).filterMap (outT src T)).map (·.path) = (nmsT T).filter fun p => (decT src T p).keep := by
  generalize nmsT T = l
  induction l with
  | nil => rfl
  | cons p l ih =>
    rw [List.filterMap_cons, List.filter_cons]
    unfold outT
    by_cases hk : (decT src T p).keep = true
    · rw [if_pos hk, if_pos hk, List.map_cons]
      congr 1
    · rw [if_neg hk, if_neg hk]
      exact ih
theorem le_lt {a b : ByteArray} (h : PathS.le a b) (hne : a ≠ b) : PathS.cmp a b < 0 := by
  have h1 : PathS.cmp a b ≤ 0 := h
  by_cases e : PathS.cmp a b = 0
  · exact absurd ((PathS.cmp_tw.eq0 a b).1 e) hne
  · omega
theorem nms_check {T : T3 (List Fi)} (hc : chkA T 3 = 0) {p : ByteArray} (hp : p ∈ nmsT T) : PathS.check p = 0 := by
  obtain ⟨ha, hb, hcc⟩ := chkA_ok hc
  rcases (mem_nms ⟨ha.nodup, hb.nodup, hcc.nodup⟩ p).1 hp with h | h | h
  · obtain ⟨f, hf, rfl⟩ := List.mem_map.1 h; exact ha.ck f hf
  · obtain ⟨f, hf, rfl⟩ := List.mem_map.1 h; exact hb.ck f hf
  · obtain ⟨f, hf, rfl⟩ := List.mem_map.1 h; exact hcc.ck f hf
theorem nms_len (T : T3 (List Fi)) : (nmsT T).length ≤ T.a.length + T.b.length + T.c.length := by
  unfold nmsT
  rw [PathS.sorted_length, List.length_map]
  have h0 := takenAll_len 0 T.a []
  have h1 := takenAll_len 1 T.b (takenAll 0 [] T.a)
  have h2 := takenAll_len 2 T.c (takenAll 1 (takenAll 0 [] T.a) T.b)
  have e : upT T 3 = takenAll 2 (takenAll 1 (takenAll 0 [] T.a) T.b) T.c := rfl
  rw [e]
  simp at h0
  omega
theorem clash1_keeps (l : List Ou) (i : Nat) (o : Ou) : (clash1 l i o).path = o.path := by unfold clash1; split <;> rfl
/-- The files of a clean merge. -/
theorem again_ok {src : List Nat → ByteArray × Int} {T : T3 (List Fi)} (hn : T.a.length + T.b.length + T.c.length ≤ 256) (he : (mergeS src (upT T 3) (chkA T 3)).1 = 0) (hcl : (mergeS src (upT T 3) (chkA T 3)).2.all cleanO = true) :
    OkS ((mergeS src (upT T 3) (chkA T 3)).2.map fileO) := by
  obtain ⟨hc, herr, hout⟩ := merge_inv he
  rw [hout] at hcl ⊢
  obtain ⟨os, hos⟩ : ∃ os, (nmsT T).filterMap (outT src T) = os := ⟨_, rfl⟩
  rw [hos] at hcl ⊢
  have hpa : os.map (·.path) = (nmsT T).filter fun p => (decT src T p).keep := by rw [← hos]; exact outs_paths
  have hcp : ((clashed os).map fileO).map (·.path) = (nmsT T).filter fun p => (decT src T p).keep := by
    rw [← hpa, List.map_map]
    apply List.ext_getElem?
    intro i
    unfold clashed
    rw [List.getElem?_map, List.getElem?_map, List.getElem?_mapIdx]
    cases os[i]? with
    | none => rfl
    | some o => show some _ = some _; congr 1; exact clash1_keeps os i o
  obtain ⟨m, hm⟩ : ∃ m, (clashed os).map fileO = m := ⟨_, rfl⟩
  have hlm : m.length = os.length := by rw [← hm]; simp [clashed]
  rw [hm] at hcp ⊢
  have hnd : (m.map (·.path)).Nodup := by rw [hcp]; exact (nms_nodup T).filter _
  have hpw : (m.map (·.path)).Pairwise PathS.le := by rw [hcp]; exact (nms_pw T).filter _
  have hnu : ∀ i (hi : i < os.length), ∀ k (hk : k < i), PathS.under os[i].path (os[k]'(by omega)).path = false := by
    intro i hi k hk
    have h1 : (clashed os)[i]? = some (clash1 os i os[i]) := by unfold clashed; rw [List.getElem?_mapIdx, List.getElem?_eq_getElem hi]; rfl
    have h2 := List.all_eq_true.1 hcl _ (List.mem_of_getElem? h1)
    cases e : PathS.under os[i].path (os[k]'(by omega)).path with
    | false => rfl
    | true =>
      unfold clash1 at h2
      rw [if_pos] at h2
      · simp [cleanO] at h2
      · rw [List.any_eq_true]
        exact ⟨os[k], List.mem_of_getElem? (i := k) (by rw [List.getElem?_take, if_pos hk, List.getElem?_eq_getElem (by omega)]), e⟩
  have hmp : ∀ j (hj : j < m.length), m[j].path = (os[j]'(by omega)).path := by
    intro j hj
    have h1 : (m.map (·.path))[j]? = (os.map (·.path))[j]? := by rw [hcp, hpa]
    rw [List.getElem?_map, List.getElem?_map, List.getElem?_eq_getElem hj, List.getElem?_eq_getElem (by omega)] at h1
    exact Option.some.inj h1
  refine ⟨?_, fun f hf => ?_, fun j hj => ?_, fun j hj => ?_⟩
  · have h1 : m.length ≤ (nmsT T).length := by
      have := congrArg List.length hcp
      rw [List.length_map] at this
      rw [this]; exact List.length_filter_le _ _
    have h2 := nms_len T
    omega
  · have h1 : f.path ∈ m.map (·.path) := List.mem_map_of_mem hf
    rw [hcp] at h1
    exact nms_check hc (List.mem_filter.1 h1).1
  · refine le_lt ?_ ?_
    · have := List.pairwise_iff_getElem.1 hpw j (j + 1) (by simp; omega) (by simpa using hj) (by omega)
      simpa using this
    · intro e
      have := List.pairwise_iff_getElem.1 (List.nodup_iff_pairwise_ne.1 hnd) j (j + 1) (by simp; omega) (by simpa using hj) (by omega)
      exact this (by simpa using e)
  · rw [hmp _ hj, hmp j (by omega)]
    exact hnu (j + 1) (by omega) j (by omega)
theorem again_len {src : List Nat → ByteArray × Int} {T : T3 (List Fi)} (he : (mergeS src (upT T 3) (chkA T 3)).1 = 0) : (mergeS src (upT T 3) (chkA T 3)).2.length ≤ T.a.length + T.b.length + T.c.length := by
  obtain ⟨_, _, hout⟩ := merge_inv he
  rw [hout]
  have h1 : (clashed ((nmsT T).filterMap (outT src T))).length = ((nmsT T).filterMap (outT src T)).length := by simp [clashed]
  have h2 := List.length_filterMap_le (outT src T) (nmsT T)
  have h3 := nms_len T
  omega
theorem again_mem {src : List Nat → ByteArray × Int} {T : T3 (List Fi)} (he : (mergeS src (upT T 3) (chkA T 3)).1 = 0) {o : Ou} (ho : o ∈ (mergeS src (upT T 3) (chkA T 3)).2) : ∃ g, (g ∈ T.a ∨ g ∈ T.b ∨ g ∈ T.c) ∧ g.path = o.path := by
  obtain ⟨hc, herr, hout⟩ := merge_inv he
  rw [hout] at ho
  obtain ⟨i, hi, rfl⟩ := List.getElem_of_mem ho
  have h1 : (clashed ((nmsT T).filterMap (outT src T)))[i]? = some (clashed ((nmsT T).filterMap (outT src T)))[i] := List.getElem?_eq_getElem hi
  unfold clashed at h1
  rw [List.getElem?_mapIdx] at h1
  obtain ⟨x, hx, hxe⟩ := Option.map_eq_some_iff.1 h1
  have h2 : x.path ∈ ((nmsT T).filterMap (outT src T)).map (·.path) := List.mem_map_of_mem (List.mem_of_getElem? hx)
  rw [outs_paths] at h2
  have h3 := (List.mem_filter.1 h2).1
  obtain ⟨ha, hb, hcc⟩ := chkA_ok hc
  have e : (clashed ((nmsT T).filterMap (outT src T)))[i].path = x.path := by
    have : (clashed ((nmsT T).filterMap (outT src T)))[i] = clash1 ((nmsT T).filterMap (outT src T)) i x := hxe.symm
    rw [this]; exact clash1_keeps _ _ _
  rw [e]
  rcases (mem_nms ⟨ha.nodup, hb.nodup, hcc.nodup⟩ x.path).1 h3 with h | h | h
  · obtain ⟨g, hg, e⟩ := List.mem_map.1 h; exact ⟨g, .inl hg, e⟩
  · obtain ⟨g, hg, e⟩ := List.mem_map.1 h; exact ⟨g, .inr (.inl hg), e⟩
  · obtain ⟨g, hg, e⟩ := List.mem_map.1 h; exact ⟨g, .inr (.inr hg), e⟩
end Go.Proofs.YtpcipdkoncmdcaaGreatDoor
