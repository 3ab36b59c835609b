/- Texts of mine, joined: What each outcome keeps: plain. | The sides turned about: plain. | Walk: bytes cloned. An append of nothing; of every program. | An outcome beside a file. -/
import Derived.Test.YtpcipdkoncmdcaaGreatDoorRows
import Derived.Deep.Cut
import Derived.BigQuiet
import Derived.Deep.QuietTactic
import Derived.Lib.SliceRun
import Derived.Test.YtpcipdkoncmdcaaGreatDoorZ28
namespace Go.Proofs.YtpcipdkoncmdcaaGreatDoor
open Go Go.RowKit

section
variable {src : List Nat → ByteArray × Int} {T : T3 (List Fi)}
/-- An outcome, by its path. -/
theorem keeps_out (he : (mergeS src (upT T 3) (chkA T 3)).1 = 0) {o : Ou} (ho : o ∈ (mergeS src (upT T 3) (chkA T 3)).2) :
    o.path ∈ nmsT T ∧ (decT src T o.path).keep = true ∧ o.has = hasT T o.path ∧ o.ids = idsT T o.path ∧ o.id = (decT src T o.path).id ∧ (o.kind = 4 ∨ o.kind = (decT src T o.path).kind) := by
  obtain ⟨hc, herr, hout⟩ := merge_inv he
  rw [hout] at ho
  obtain ⟨i, hi, rfl⟩ := List.getElem_of_mem ho
  have h1 : (clashed ((nmsT T).filterMap (outT src T)))[i]? = some (clashed ((nmsT T).filterMap (outT src T)))[i] := List.getElem?_eq_getElem hi
  unfold clashed at h1
  rw [List.getElem?_mapIdx] at h1
  obtain ⟨x, hx, hxe⟩ := Option.map_eq_some_iff.1 h1
  have e : (clashed ((nmsT T).filterMap (outT src T)))[i] = clash1 ((nmsT T).filterMap (outT src T)) i x := hxe.symm
  rw [e]
  obtain ⟨p, hp, hpx⟩ := List.mem_filterMap.1 (List.mem_of_getElem? hx)
  unfold outT at hpx
  split at hpx
  · rename_i hk
    injection hpx with hpx
    subst hpx
    have hcl : ∀ l, (clash1 l i (outOf (decT src T p) (thT T p))).path = p ∧ (clash1 l i (outOf (decT src T p) (thT T p))).has = hasT T p ∧ (clash1 l i (outOf (decT src T p) (thT T p))).ids = idsT T p ∧ (clash1 l i (outOf (decT src T p) (thT T p))).id = (decT src T p).id ∧ ((clash1 l i (outOf (decT src T p) (thT T p))).kind = 4 ∨ (clash1 l i (outOf (decT src T p) (thT T p))).kind = (decT src T p).kind) := by
      intro l
      unfold clash1
      split
      · exact ⟨rfl, rfl, rfl, rfl, .inl rfl⟩
      · exact ⟨rfl, rfl, rfl, rfl, .inr rfl⟩
    obtain ⟨c1, c2, c3, c4, c5⟩ := hcl ((nmsT T).filterMap (outT src T))
    rw [c1]
    exact ⟨hp, hk, c2, c3, c4, c5⟩
  · cases hpx
theorem clashed_paths (l : List Ou) : (clashed l).map (·.path) = l.map (·.path) := by
  apply List.ext_getElem?
  intro i
  unfold clashed
  rw [List.getElem?_map, List.getElem?_map, List.getElem?_mapIdx]
  cases l[i]? with
  | none => rfl
  | some o => show some _ = some _; congr 1; exact clash1_keeps l i o
/-- Each path once. -/
theorem keeps_once (he : (mergeS src (upT T 3) (chkA T 3)).1 = 0) : ((mergeS src (upT T 3) (chkA T 3)).2.map (·.path)).Nodup := by
  obtain ⟨hc, herr, hout⟩ := merge_inv he
  rw [hout, clashed_paths, outs_paths]
  exact (nms_nodup T).filter _
/-- Of a path that has no outcome. -/
theorem keeps_gone (he : (mergeS src (upT T 3) (chkA T 3)).1 = 0) {p : ByteArray} (hp : p ∈ nmsT T) (hn : p ∉ (mergeS src (upT T 3) (chkA T 3)).2.map (·.path)) : (decT src T p).keep = false := by
  obtain ⟨hc, herr, hout⟩ := merge_inv he
  rw [hout, clashed_paths, outs_paths] at hn
  cases e : (decT src T p).keep with
  | false => rfl
  | true => exact absurd (List.mem_filter.2 ⟨hp, e⟩) hn
theorem decGo_nil (L : List Th) : ∀ (l : List ByteArray) (acc : List Ou), (decGo src L acc l).1 ≠ 0 → (decGo src L acc l).2 = []
  | [], acc, h => absurd rfl h
  | p :: l, acc, h => by
    rw [decGo_step (d := decS src (thOf L p).has (thOf L p).ids (thOf L p).id) rfl rfl] at h ⊢
    by_cases he : (decS src (thOf L p).has (thOf L p).ids (thOf L p).id).err ≠ 0
    · rw [if_pos he]
    · rw [if_neg he] at h ⊢
      exact decGo_nil L l _ h
/-- With an error there is nothing. -/
theorem merge_nil (h : (mergeS src (upT T 3) (chkA T 3)).1 ≠ 0) : (mergeS src (upT T 3) (chkA T 3)).2 = [] := by
  unfold mergeS at h ⊢
  by_cases hc : chkA T 3 ≠ 0
  · rw [if_pos hc]
  · rw [if_neg hc] at h ⊢
    show clashed _ = []
    rw [decGo_nil _ _ _ h]; rfl
theorem eqS_iff {b c : Bool} {x y : List Nat} : eqS b c x y = true ↔ b = c ∧ x = y := by simp [eqS]
/-- What is kept as it is, is some side's. -/
theorem keeps_n {p : ByteArray} (hk : (decT src T p).keep = true) (h1 : (decT src T p).kind = 1) : (∃ f, fiAt T.b p = some f ∧ f.id = (decT src T p).id) ∨ ∃ f, fiAt T.c p = some f ∧ f.id = (decT src T p).id := by
  unfold decT decS at hk h1 ⊢
  split at hk
  · rename_i hc
    rw [if_pos hc]
    left
    have hk : (fiAt T.b p).isSome = true := hk
    cases e : fiAt T.b p with
    | none => rw [e] at hk; cases hk
    | some f => exact ⟨f, rfl, by show f.id = idF (fiAt T.b p); rw [e]; rfl⟩
  · rename_i hc
    rw [if_neg hc]
    split at hk
    · rename_i hc2
      rw [if_pos hc2]
      right
      have hk : (fiAt T.c p).isSome = true := hk
      cases e : fiAt T.c p with
      | none => rw [e] at hk; cases hk
      | some f => exact ⟨f, rfl, by show f.id = idF (fiAt T.c p); rw [e]; rfl⟩
    · rename_i hc2
      rw [if_neg hc, if_neg hc2] at h1
      have h1 : (weaveS src (hasT T p) (idsT T p)).2.1 = 1 := h1
      exfalso
      unfold weaveS at h1
      split at h1
      · cases h1
      · split at h1
        · cases h1
        · cases h1
        · simp only at h1
          split at h1 <;> cases h1
/-- A clash: the sides differ. -/
theorem keeps_clash {p : ByteArray} (h3 : (decT src T p).kind = 3) : ¬ ((hasT T p).b = (hasT T p).c ∧ (idsT T p).b = (idsT T p).c) := by
  intro h
  unfold decT decS at h3
  rw [eqS_iff.2 h, Bool.true_or, if_pos rfl] at h3
  cases h3
/-- A path that is gone is as the base on the side that has it. -/
theorem keeps_side {p : ByteArray} (hk : (decT src T p).keep = false) : ((hasT T p).b && (hasT T p).c) = false ∧ ((hasT T p).b = true → (hasT T p).a = true ∧ (idsT T p).a = (idsT T p).b) ∧ ((hasT T p).c = true → (hasT T p).a = true ∧ (idsT T p).a = (idsT T p).c) := by
  unfold decT decS at hk
  split at hk
  · rename_i hc
    have hk : (hasT T p).b = false := hk
    rw [Bool.or_eq_true] at hc
    refine ⟨(by rw [hk]; rfl), (fun h => by rw [hk] at h; cases h), (fun h => ?_)⟩
    rcases hc with hc | hc
    · have := (eqS_iff.1 hc).1; rw [hk, h] at this; cases this
    · obtain ⟨h1, h2⟩ := eqS_iff.1 hc; exact ⟨h1.trans h, h2⟩
  · split at hk
    · rename_i hc
      have hk : (hasT T p).c = false := hk
      refine ⟨(by rw [hk, Bool.and_false]), (fun h => ?_), (fun h => by rw [hk] at h; cases h)⟩
      obtain ⟨h1, h2⟩ := eqS_iff.1 hc; exact ⟨h1.trans h, h2⟩
    · cases hk
end
end Go.Proofs.YtpcipdkoncmdcaaGreatDoor
namespace Go.Proofs.YtpcipdkoncmdcaaGreatDoor
open Go Go.RowKit

namespace JoinS
def Pt.sw (p : Pt ByteArray) : Pt ByteArray := ⟨p.b, p.t, p.o⟩
theorem kind_sw (p : Pt ByteArray) : decide (kindOf p.sw ≠ 4) = decide (kindOf p ≠ 4) := by
  unfold kindOf Pt.sw
  by_cases h1 : p.o = p.b
  · by_cases h2 : p.t = p.b
    · simp [h1, h2]
    · simp [h1, h2]
  · by_cases h2 : p.t = p.b
    · simp [h1, h2]
    · by_cases h3 : p.o = p.t
      · have h4 : p.t = p.o := h3.symm
        simp [h2, h3]
      · have h4 : ¬ p.t = p.o := fun e => h3 e.symm
        simp [h1, h2, h3, h4]
theorem emit_sw (u v : ByteArray) (p : Pt ByteArray) (h : kindOf p ≠ 4) : emit u v p.sw = emit u v p := by
  have hs : kindOf p.sw ≠ 4 := by have := kind_sw p; rw [decide_eq_true h] at this; exact of_decide_eq_true this
  unfold emit
  rw [if_neg h, if_neg hs]
  unfold kindOf Pt.sw at *
  by_cases h1 : p.o = p.b
  · by_cases h2 : p.t = p.b
    · simp [h1, h2]
    · simp [h1, h2]
  · by_cases h2 : p.t = p.b
    · simp [h1, h2]
    · by_cases h3 : p.o = p.t
      · have h4 : p.t = p.o := h3.symm
        simp [h1, h4]
      · simp [h1, h2, h3] at h
def sw3 (x : Nat × Nat × Nat) : Nat × Nat × Nat := (x.1, x.2.2, x.2.1)
theorem meets_sw : ∀ (a b : List (Nat × Nat)), meets b a = (meets a b).map sw3
  | [], b => by rw [meets_nil_l, meets_nil_r]; rfl
  | x :: a, [] => by rw [meets_nil_l, meets_nil_r]; rfl
  | x :: a, y :: b => by
    by_cases h : x.1 = y.1
    · rw [meets_eq h, meets_eq h.symm, meets_sw a b]; simp [sw3, h]
    · by_cases h2 : x.1 < y.1
      · rw [meets_lt h2, meets_gt h2, meets_sw a (y :: b)]
      · have h3 : y.1 < x.1 := by omega
        rw [meets_gt h3, meets_lt h3, meets_sw (x :: a) b]
termination_by a b => a.length + b.length
theorem raw_sw : ∀ (r : List (Nat × Nat × Nat)) (bs os ts : List ByteArray) (i j k : Nat), raw bs ts os i k j (r.map sw3) = (raw bs os ts i j k r).map Pt.sw
  | [], _, _, _, _, _, _ => rfl
  | (x, y, z) :: r, bs, os, ts, i, j, k => by
    rw [raw, List.map_cons, List.map_cons, List.map_cons, ← raw_sw r]
    rfl
theorem parts_sw (b o t : List ByteArray) : parts b t o = (parts b o t).map Pt.sw := by
  unfold parts
  rw [meets_sw (ScoreS.P 0 0 b o) (ScoreS.P 0 0 b t), raw_sw]
theorem clean_sw (l : List (Pt ByteArray)) : clean (l.map Pt.sw) = clean l := by
  unfold clean
  induction l with
  | nil => rfl
  | cons p l ih => rw [List.map_cons, List.all_cons, List.all_cons, ih, kind_sw]
theorem tell_sw (u v : ByteArray) : ∀ (l : List (Pt ByteArray)), clean l = true → tellAll u v (l.map Pt.sw) = tellAll u v l
  | [], _ => rfl
  | p :: l, h => by
    unfold clean at h
    rw [List.all_cons, Bool.and_eq_true] at h
    have ih := tell_sw u v l h.2
    unfold tellAll at ih ⊢
    rw [List.map_cons, List.flatMap_cons, List.flatMap_cons, ih, emit_sw u v p (of_decide_eq_true h.1)]
theorem woven_sw (u v : ByteArray) (b o t : List ByteArray) : clean (joinAll [] (parts b t o)) = clean (joinAll [] (parts b o t)) ∧ (clean (joinAll [] (parts b o t)) = true → tellAll u v (joinAll [] (parts b t o)) = tellAll u v (joinAll [] (parts b o t))) := by
  have h1 := joinAll_tell u v (parts b o t) []
  have h2 := joinAll_tell u v (parts b t o) []
  rw [h1.1, h1.2, h2.1, h2.2, parts_sw, clean_sw]
  refine ⟨rfl, fun h => ?_⟩
  rw [Bool.and_eq_true] at h
  rw [tell_sw u v _ h.2]
end JoinS

def T3.sw {α : Type} (t : T3 α) : T3 α := ⟨t.a, t.c, t.b⟩
theorem T3.sw_sw {α : Type} (t : T3 α) : t.sw.sw = t := rfl
section
variable {src : List Nat → ByteArray × Int}
theorem gath2 {has : T3 Bool} {ids : T3 (List Nat)} (hb : has.b = true) (hc : has.c = true) (l : T3 (List ByteArray)) : gathF src has ids 2 l =
    if (src ids.b).2 ≠ 0 then .err (src ids.b).2 else if JoinS.isText (src ids.b).1 = false then .stop else
    if (src ids.c).2 ≠ 0 then .err (src ids.c).2 else if JoinS.isText (src ids.c).1 = false then .stop else .go ⟨l.a, JoinS.lns (src ids.b).1, JoinS.lns (src ids.c).1⟩ := by
  simp only [gathF, T3.get, T3.set, hb, hc]
  simp
/-- What is made of both with the sides turned about. -/
theorem gath_sw {has : T3 Bool} {ids : T3 (List Nat)} (hb : has.b = true) (hc : has.c = true) :
    (∃ e, e ≠ 0 ∧ gathF src has ids 3 ⟨[], [], []⟩ = .err e) ∨ (∃ e, e ≠ 0 ∧ gathF src has.sw ids.sw 3 ⟨[], [], []⟩ = .err e) ∨
    (gathF src has ids 3 ⟨[], [], []⟩ = .stop ∧ gathF src has.sw ids.sw 3 ⟨[], [], []⟩ = .stop) ∨
    ∃ l : T3 (List ByteArray), gathF src has ids 3 ⟨[], [], []⟩ = .go l ∧ gathF src has.sw ids.sw 3 ⟨[], [], []⟩ = .go l.sw := by
  have st : ∀ (h : T3 Bool) (d : T3 (List Nat)), gathF src h d 3 ⟨[], [], []⟩ = if h.a = false then gathF src h d 2 ⟨[], [], []⟩ else if (src d.a).2 ≠ 0 then .err (src d.a).2 else if JoinS.isText (src d.a).1 = false then .stop else gathF src h d 2 ⟨JoinS.lns (src d.a).1, [], []⟩ := fun _ _ => rfl
  have sb : has.sw.b = true := hc
  have sc : has.sw.c = true := hb
  rw [st, st]
  have two : ∀ l : List ByteArray, (∃ e, e ≠ 0 ∧ gathF src has ids 2 ⟨l, [], []⟩ = .err e) ∨ (∃ e, e ≠ 0 ∧ gathF src has.sw ids.sw 2 ⟨l, [], []⟩ = .err e) ∨
      (gathF src has ids 2 ⟨l, [], []⟩ = .stop ∧ gathF src has.sw ids.sw 2 ⟨l, [], []⟩ = .stop) ∨ ∃ m : T3 (List ByteArray), gathF src has ids 2 ⟨l, [], []⟩ = .go m ∧ gathF src has.sw ids.sw 2 ⟨l, [], []⟩ = .go m.sw := by
    intro l
    rw [gath2 hb hc, gath2 sb sc]
    show (∃ e, e ≠ 0 ∧ _ = _) ∨ (∃ e, e ≠ 0 ∧ (if (src ids.c).2 ≠ 0 then GR.err (src ids.c).2 else if JoinS.isText (src ids.c).1 = false then .stop else
      if (src ids.b).2 ≠ 0 then .err (src ids.b).2 else if JoinS.isText (src ids.b).1 = false then .stop else .go ⟨l, JoinS.lns (src ids.c).1, JoinS.lns (src ids.b).1⟩) = _) ∨ (_ = _ ∧ (if (src ids.c).2 ≠ 0 then GR.err (src ids.c).2 else if JoinS.isText (src ids.c).1 = false then .stop else
      if (src ids.b).2 ≠ 0 then .err (src ids.b).2 else if JoinS.isText (src ids.b).1 = false then .stop else .go ⟨l, JoinS.lns (src ids.c).1, JoinS.lns (src ids.b).1⟩) = _) ∨ ∃ m : T3 (List ByteArray), _ = _ ∧ (if (src ids.c).2 ≠ 0 then GR.err (src ids.c).2 else if JoinS.isText (src ids.c).1 = false then .stop else
      if (src ids.b).2 ≠ 0 then .err (src ids.b).2 else if JoinS.isText (src ids.b).1 = false then .stop else .go ⟨l, JoinS.lns (src ids.c).1, JoinS.lns (src ids.b).1⟩) = _
    by_cases b1 : (src ids.b).2 = 0
    · by_cases c1 : (src ids.c).2 = 0
      · by_cases b2 : JoinS.isText (src ids.b).1 = false
        · by_cases c2 : JoinS.isText (src ids.c).1 = false
          · exact .inr (.inr (.inl ⟨by simp [b1, b2], by simp [c1, c2]⟩))
          · exact .inr (.inr (.inl ⟨by simp [b1, b2], by simp [c1, b1, b2]⟩))
        · by_cases c2 : JoinS.isText (src ids.c).1 = false
          · exact .inr (.inr (.inl ⟨by simp [b1, c1, c2], by simp [c1, c2]⟩))
          · exact .inr (.inr (.inr ⟨⟨l, JoinS.lns (src ids.b).1, JoinS.lns (src ids.c).1⟩, by simp [b1, b2, c1, c2], by simp [b1, b2, c1, c2, T3.sw]⟩))
      · exact .inr (.inl ⟨(src ids.c).2, c1, by rw [if_pos c1]⟩)
    · exact .inl ⟨(src ids.b).2, b1, by rw [if_pos b1]⟩
  show (∃ e, e ≠ 0 ∧ _ = _) ∨ (∃ e, e ≠ 0 ∧ (if has.a = false then gathF src has.sw ids.sw 2 ⟨[], [], []⟩ else if (src ids.a).2 ≠ 0 then .err (src ids.a).2 else if JoinS.isText (src ids.a).1 = false then .stop else gathF src has.sw ids.sw 2 ⟨JoinS.lns (src ids.a).1, [], []⟩) = _) ∨
    (_ = _ ∧ (if has.a = false then gathF src has.sw ids.sw 2 ⟨[], [], []⟩ else if (src ids.a).2 ≠ 0 then .err (src ids.a).2 else if JoinS.isText (src ids.a).1 = false then .stop else gathF src has.sw ids.sw 2 ⟨JoinS.lns (src ids.a).1, [], []⟩) = _) ∨
    ∃ l : T3 (List ByteArray), _ = _ ∧ (if has.a = false then gathF src has.sw ids.sw 2 ⟨[], [], []⟩ else if (src ids.a).2 ≠ 0 then .err (src ids.a).2 else if JoinS.isText (src ids.a).1 = false then .stop else gathF src has.sw ids.sw 2 ⟨JoinS.lns (src ids.a).1, [], []⟩) = _
  by_cases ha : has.a = false
  · simp only [if_pos ha]; exact two []
  · simp only [if_neg ha]
    by_cases a1 : (src ids.a).2 = 0
    · simp only [if_neg (not_not_intro a1)]
      by_cases a2 : JoinS.isText (src ids.a).1 = false
      · simp only [if_pos a2]; first | exact .inr (.inr (.inl ⟨rfl, rfl⟩)) | exact .inr (.inr (.inl ⟨trivial, trivial⟩))
      · simp only [if_neg a2]; exact two _
    · simp only [if_pos a1]; exact .inl ⟨_, a1, rfl⟩
theorem weave_sw {has : T3 Bool} {ids : T3 (List Nat)} (h1 : (weaveS src has ids).1 = 0) (h2 : (weaveS src has.sw ids.sw).1 = 0) :
    (weaveS src has.sw ids.sw).2.1 = (weaveS src has ids).2.1 ∧ ((weaveS src has ids).2.1 = 2 → (weaveS src has.sw ids.sw).2.2 = (weaveS src has ids).2.2) := by
  unfold weaveS at *
  by_cases hh : has.b = false ∨ has.c = false
  · have hs : has.sw.b = false ∨ has.sw.c = false := hh.symm
    rw [if_pos hh, if_pos hs]; exact ⟨rfl, fun h => absurd h (by decide)⟩
  · have hs : ¬ (has.sw.b = false ∨ has.sw.c = false) := fun h => hh h.symm
    have hb : has.b = true := by cases e : has.b with | true => rfl | false => exact absurd (.inl e) hh
    have hc : has.c = true := by cases e : has.c with | true => rfl | false => exact absurd (.inr e) hh
    rw [if_neg hh] at h1
    rw [if_neg hs] at h2
    rw [if_neg hh, if_neg hs]
    rcases gath_sw (src := src) (ids := ids) hb hc with ⟨e, he, h⟩ | ⟨e, he, h⟩ | ⟨h, h'⟩ | ⟨l, h, h'⟩
    · rw [h] at h1; exact absurd h1 he
    · rw [h] at h2; exact absurd h2 he
    · rw [h, h']; exact ⟨rfl, fun h => absurd h (by decide)⟩
    · rw [h, h']
      have hw := JoinS.woven_sw oursB theirsB l.a l.b l.c
      show (if JoinS.clean (JoinS.joinAll [] (JoinS.parts l.a l.c l.b)) then 2 else 3) = (if JoinS.clean (JoinS.joinAll [] (JoinS.parts l.a l.b l.c)) then 2 else 3) ∧ ((if JoinS.clean (JoinS.joinAll [] (JoinS.parts l.a l.b l.c)) then 2 else 3) = 2 → JoinS.cat (JoinS.tellAll oursB theirsB (JoinS.joinAll [] (JoinS.parts l.a l.c l.b))) = JoinS.cat (JoinS.tellAll oursB theirsB (JoinS.joinAll [] (JoinS.parts l.a l.b l.c))))
      rw [hw.1]
      refine ⟨rfl, fun hk => ?_⟩
      cases hcl : JoinS.clean (JoinS.joinAll [] (JoinS.parts l.a l.b l.c)) with
      | true => rw [hw.2 hcl]
      | false => rw [hcl] at hk; exact absurd hk (by decide)
theorem eqS_sym (b c : Bool) (x y : List Nat) : eqS b c x y = eqS c b y x := by
  rw [Bool.eq_iff_iff, eqS_iff, eqS_iff]
  exact ⟨fun h => ⟨h.1.symm, h.2.symm⟩, fun h => ⟨h.1.symm, h.2.symm⟩⟩
/-- What is decided with the sides turned about. -/
theorem dec_sw {has : T3 Bool} {ids : T3 (List Nat)} {z : List Nat} (h1 : (decS src has ids z).err = 0) (h2 : (decS src has.sw ids.sw z).err = 0) :
    (decS src has.sw ids.sw z).keep = (decS src has ids z).keep ∧ (decS src has.sw ids.sw z).kind = (decS src has ids z).kind ∧ (decS src has.sw ids.sw z).id = (decS src has ids z).id ∧ ((decS src has ids z).kind = 2 → (decS src has.sw ids.sw z).text = (decS src has ids z).text) := by
  have hs : decS src has.sw ids.sw z = if eqS has.b has.c ids.b ids.c || eqS has.a has.b ids.a ids.b then ⟨has.c, 0, 1, ids.c, ByteArray.empty⟩ else if eqS has.a has.c ids.a ids.c then ⟨has.b, 0, 1, ids.b, ByteArray.empty⟩
      else ⟨true, (weaveS src has.sw ids.sw).1, (weaveS src has.sw ids.sw).2.1, z, (weaveS src has.sw ids.sw).2.2⟩ := by
    rw [eqS_sym has.b]; rfl
  rw [hs] at h2 ⊢
  clear hs
  unfold decS at h1 ⊢
  cases hbc : eqS has.b has.c ids.b ids.c with
  | true =>
    obtain ⟨e1, e2⟩ := eqS_iff.1 hbc
    simp only [Bool.true_or, if_true]
    exact ⟨e1.symm, trivial, e2.symm, fun h => absurd h (by decide)⟩
  | false =>
    rw [hbc] at h1 h2
    cases hac : eqS has.a has.c ids.a ids.c with
    | true =>
      have hab : eqS has.a has.b ids.a ids.b = false := by
        cases hab : eqS has.a has.b ids.a ids.b with
        | false => rfl
        | true =>
          obtain ⟨e1, e2⟩ := eqS_iff.1 hab
          obtain ⟨e3, e4⟩ := eqS_iff.1 hac
          have := eqS_iff.2 (⟨e1.symm.trans e3, e2.symm.trans e4⟩ : has.b = has.c ∧ ids.b = ids.c)
          rw [hbc] at this; cases this
      rw [hab]
      exact ⟨rfl, rfl, rfl, fun h => absurd (show (1 : Nat) = 2 from h) (by decide)⟩
    | false =>
      rw [hac] at h1 h2
      cases hab : eqS has.a has.b ids.a ids.b with
      | true => exact ⟨rfl, rfl, rfl, fun h => absurd (show (1 : Nat) = 2 from h) (by decide)⟩
      | false =>
        rw [hab] at h1 h2
        have hw := weave_sw (src := src) (has := has) (ids := ids) h1 h2
        exact ⟨rfl, hw.1, rfl, hw.2⟩
end
/-- The time with the sides turned about. -/
theorem when_sw {T : T3 (List Fi)} (hst : ∀ i, i < 3 → ∀ f ∈ T.get i, f.stamp < 2 ^ 64) (p : ByteArray) : whenS (hasT T.sw p) (stsT T.sw p) = whenS (hasT T p) (stsT T p) := by
  have hb : stF (fiAt T.b p) < 2 ^ 64 := by
    cases e : fiAt T.b p with
    | none => show 0 < 2 ^ 64; decide
    | some f => exact hst 1 (by decide) f (fiAt_some e).1
  have hc : stF (fiAt T.c p) < 2 ^ 64 := by
    cases e : fiAt T.c p with
    | none => show 0 < 2 ^ 64; decide
    | some f => exact hst 2 (by decide) f (fiAt_some e).1
  have hz : (fiAt T.b p).isSome = false → (fiAt T.c p).isSome = false → stF (fiAt T.b p) = stF (fiAt T.c p) := by
    intro h1 h2
    cases e : fiAt T.b p with
    | some f => rw [e] at h1; cases h1
    | none =>
      cases e2 : fiAt T.c p with
      | some f => rw [e2] at h2; cases h2
      | none => rfl
  unfold whenS
  show (if (fiAt T.c p).isSome = false then cn (stF (fiAt T.b p)) else if (fiAt T.b p).isSome = false then cn (stF (fiAt T.c p)) else
      if (fiAt T.a p).isSome = true ∧ cn (stF (fiAt T.c p)) = cn (stF (fiAt T.a p)) then cn (stF (fiAt T.b p)) else if (fiAt T.a p).isSome = true ∧ cn (stF (fiAt T.b p)) = cn (stF (fiAt T.a p)) then cn (stF (fiAt T.c p)) else
      if fkey (stF (fiAt T.c p)) < fkey (stF (fiAt T.b p)) then cn (stF (fiAt T.b p)) else cn (stF (fiAt T.c p))) =
    (if (fiAt T.b p).isSome = false then cn (stF (fiAt T.c p)) else if (fiAt T.c p).isSome = false then cn (stF (fiAt T.b p)) else
      if (fiAt T.a p).isSome = true ∧ cn (stF (fiAt T.b p)) = cn (stF (fiAt T.a p)) then cn (stF (fiAt T.c p)) else if (fiAt T.a p).isSome = true ∧ cn (stF (fiAt T.c p)) = cn (stF (fiAt T.a p)) then cn (stF (fiAt T.b p)) else
      if fkey (stF (fiAt T.b p)) < fkey (stF (fiAt T.c p)) then cn (stF (fiAt T.c p)) else cn (stF (fiAt T.b p)))
  generalize (fiAt T.a p).isSome = ha at *
  generalize (fiAt T.b p).isSome = hB at *
  generalize (fiAt T.c p).isSome = hC at *
  generalize stF (fiAt T.a p) = x at *
  generalize stF (fiAt T.b p) = y at *
  generalize stF (fiAt T.c p) = z at *
  have hk : ¬ fkey y < fkey z → ¬ fkey z < fkey y → cn y = cn z := fun h1 h2 => fkey_cn hb hc (by omega)
  cases hB with
  | false =>
    cases hC with
    | false => rw [if_pos rfl, if_pos rfl, hz rfl rfl]
    | true => rw [if_neg (by decide), if_pos rfl, if_pos rfl]
  | true =>
    cases hC with
    | false => rw [if_pos rfl, if_neg (by decide), if_pos rfl]
    | true =>
      have e : ¬ (true = false) := by decide
      rw [if_neg e, if_neg e, if_neg e, if_neg e]
      by_cases h1 : ha = true ∧ cn y = cn x
      · by_cases h2 : ha = true ∧ cn z = cn x
        · simp only [if_pos h1, if_pos h2]; rw [h1.2, h2.2]
        · simp only [if_pos h1, if_neg h2]
      · by_cases h2 : ha = true ∧ cn z = cn x
        · simp only [if_neg h1, if_pos h2]
        · simp only [if_neg h1, if_neg h2]
          by_cases h3 : fkey y < fkey z
          · rw [if_pos h3, if_neg (by omega)]
          · by_cases h4 : fkey z < fkey y
            · rw [if_pos h4, if_neg h3]
            · rw [if_neg h4, if_neg h3, hk h3 h4]
/-- An outcome and that of the sides turned about. -/
def Ag (x y : Ou) : Prop := y.path = x.path ∧ y.kind = x.kind ∧ y.id = x.id ∧ y.stamp = x.stamp ∧ y.has = x.has.sw ∧ y.ids = x.ids.sw ∧ (x.kind = 2 → y.text = x.text)
def Als : List Ou → List Ou → Prop
  | [], [] => True
  | x :: l, y :: m => Ag x y ∧ Als l m
  | _, _ => False
theorem als_filterMap {f g : ByteArray → Option Ou} : ∀ {l : List ByteArray}, (∀ p ∈ l, (f p = none ∧ g p = none) ∨ ∃ x y, f p = some x ∧ g p = some y ∧ Ag x y) → Als (l.filterMap f) (l.filterMap g)
  | [], _ => trivial
  | p :: l, h => by
    have ih := als_filterMap (l := l) fun q hq => h q (by simp [hq])
    rw [List.filterMap_cons, List.filterMap_cons]
    rcases h p (by simp) with ⟨h1, h2⟩ | ⟨x, y, h1, h2, h3⟩
    · rw [h1, h2]; exact ih
    · rw [h1, h2]; exact ⟨h3, ih⟩
theorem als_paths : ∀ {l m : List Ou}, Als l m → m.map (·.path) = l.map (·.path)
  | [], [], _ => rfl
  | x :: l, y :: m, h => by rw [List.map_cons, List.map_cons, als_paths h.2, h.1.1]
  | [], _ :: _, h => h.elim
  | _ :: _, [], h => h.elim
theorem als_at : ∀ {l m : List Ou}, Als l m → ∀ (i : Nat), (l[i]? = none ∧ m[i]? = none) ∨ ∃ x y, l[i]? = some x ∧ m[i]? = some y ∧ Ag x y
  | [], [], _, i => .inl ⟨rfl, rfl⟩
  | x :: l, y :: m, h, 0 => .inr ⟨x, y, rfl, rfl, h.1⟩
  | x :: l, y :: m, h, i + 1 => by rw [List.getElem?_cons_succ, List.getElem?_cons_succ]; exact als_at h.2 i
  | [], _ :: _, h, _ => h.elim
  | _ :: _, [], h, _ => h.elim
theorem clash_sw {l m : List Ou} (h : Als l m) (i : Nat) : ((clashed l)[i]? = none ∧ (clashed m)[i]? = none) ∨ ∃ x y, (clashed l)[i]? = some x ∧ (clashed m)[i]? = some y ∧ Ag x y := by
  unfold clashed
  rw [List.getElem?_mapIdx, List.getElem?_mapIdx]
  rcases als_at h i with ⟨h1, h2⟩ | ⟨x, y, h1, h2, h3⟩
  · rw [h1, h2]; exact .inl ⟨rfl, rfl⟩
  · rw [h1, h2]
    refine .inr ⟨_, _, rfl, rfl, ?_⟩
    have ha : ∀ (k : List Ou) (p : ByteArray), (k.take i).any (fun z => PathS.under p z.path) = ((k.map (·.path)).take i).any (fun q => PathS.under p q) := by
      intro k p; rw [← List.map_take, List.any_map]; rfl
    show Ag (clash1 l i x) (clash1 m i y)
    unfold clash1
    rw [ha, ha, als_paths h, h3.1]
    by_cases hc : ((l.map (·.path)).take i).any (fun q => PathS.under x.path q) = true
    · rw [if_pos hc, if_pos hc]
      exact ⟨rfl, rfl, h3.2.2.1, h3.2.2.2.1, h3.2.2.2.2.1, h3.2.2.2.2.2.1, fun h => absurd (show (4 : Nat) = 2 from h) (by decide)⟩
    · rw [if_neg hc, if_neg hc]; exact h3
section
variable {src : List Nat → ByteArray × Int} {T : T3 (List Fi)}
theorem nms_sw (hk : okT3 T) : nmsT T.sw = nmsT T := by
  have hk' : okT3 T.sw := ⟨hk.1, hk.2.2, hk.2.1⟩
  have hp : (nmsT T.sw).Perm (nmsT T) := by
    rw [List.perm_ext_iff_of_nodup (nms_nodup _) (nms_nodup _)]
    intro p
    rw [mem_nms hk' p, mem_nms hk p]
    show _ ∨ p ∈ T.c.map (·.path) ∨ p ∈ T.b.map (·.path) ↔ _
    constructor
    · rintro (h | h | h)
      · exact .inl h
      · exact .inr (.inr h)
      · exact .inr (.inl h)
    · rintro (h | h | h)
      · exact .inl h
      · exact .inr (.inr h)
      · exact .inr (.inl h)
  rw [PathS.sorted_one hp (nms_pw T.sw)]
  exact (PathS.sorted_one (List.Perm.refl _) (nms_pw T)).symm
/-- Both ways the same. -/
theorem swap_ok (hst : ∀ i, i < 3 → ∀ f ∈ T.get i, f.stamp < 2 ^ 64) (h1 : (mergeS src (upT T 3) (chkA T 3)).1 = 0) (h2 : (mergeS src (upT T.sw 3) (chkA T.sw 3)).1 = 0) (i : Nat) :
    ((mergeS src (upT T 3) (chkA T 3)).2[i]? = none ∧ (mergeS src (upT T.sw 3) (chkA T.sw 3)).2[i]? = none) ∨ ∃ x y, (mergeS src (upT T 3) (chkA T 3)).2[i]? = some x ∧ (mergeS src (upT T.sw 3) (chkA T.sw 3)).2[i]? = some y ∧ Ag x y := by
  obtain ⟨hc, herr, hout⟩ := merge_inv h1
  obtain ⟨hc', herr', hout'⟩ := merge_inv h2
  obtain ⟨oa, ob, oc⟩ := chkA_ok hc
  have hk : okT3 T := ⟨oa.nodup, ob.nodup, oc.nodup⟩
  rw [hout, hout']
  rw [nms_sw hk] at herr' ⊢
  refine clash_sw (als_filterMap fun p hp => ?_) i
  have hd := dec_sw (src := src) (has := hasT T p) (ids := idsT T p) (z := zId) (herr p hp) (herr' p hp)
  have e1 : decT src T.sw p = decS src (hasT T p).sw (idsT T p).sw zId := rfl
  have e2 : decT src T p = decS src (hasT T p) (idsT T p) zId := rfl
  unfold outT
  rw [e1, e2]
  cases hkp : (decS src (hasT T p) (idsT T p) zId).keep with
  | false =>
    rw [hkp] at hd
    rw [hd.1]
    exact .inl ⟨rfl, rfl⟩
  | true =>
    rw [hkp] at hd
    rw [hd.1]
    exact .inr ⟨_, _, rfl, rfl, rfl, hd.2.1, hd.2.2.1, when_sw hst p, rfl, rfl, hd.2.2.2⟩
/-- No text of an outcome is great. -/
theorem gath_small (hz : ∀ id, (src id).1.size ≤ 1000) {has : T3 Bool} {ids : T3 (List Nat)} : ∀ (n : Nat), n ≤ 3 → ∀ (L l : T3 (List ByteArray)), Smal L → gathF src has ids n L = .go l → Smal l
  | 0, _, L, l, hL, h => by
    have h : GR.go L = .go l := h
    injection h with h
    rw [← h]; exact hL
  | n + 1, hn, L, l, hL, h => by
    rw [show gathF src has ids (n + 1) L = if has.get (2 - n) = false then gathF src has ids n L else
      if (src (ids.get (2 - n))).2 ≠ 0 then .err (src (ids.get (2 - n))).2 else
      if JoinS.isText (src (ids.get (2 - n))).1 = false then .stop else gathF src has ids n (L.set (2 - n) (JoinS.lns (src (ids.get (2 - n))).1)) from rfl] at h
    by_cases h1 : has.get (2 - n) = false
    · rw [if_pos h1] at h; exact gath_small hz n (by omega) L l hL h
    · rw [if_neg h1] at h
      by_cases h2 : (src (ids.get (2 - n))).2 ≠ 0
      · rw [if_pos h2] at h; cases h
      · rw [if_neg h2] at h
        by_cases h3 : JoinS.isText (src (ids.get (2 - n))).1 = false
        · rw [if_pos h3] at h; cases h
        · rw [if_neg h3] at h
          have hs := hz (ids.get (2 - n))
          exact gath_small hz n (by omega) _ l (hL.put (by omega) (Nat.le_trans (JoinS.lns_len _) hs) (fun s hm => Nat.le_trans (JoinS.lns_size _ s hm) hs)) h
theorem weave_size (hz : ∀ id, (src id).1.size ≤ 1000) (has : T3 Bool) (ids : T3 (List Nat)) : (weaveS src has ids).2.2.size ≤ 1000000000 := by
  unfold weaveS
  split
  · show (0 : Nat) ≤ _; omega
  · cases h : gathF src has ids 3 ⟨[], [], []⟩ with
    | err e => show (0 : Nat) ≤ _; omega
    | stop => show (0 : Nat) ≤ _; omega
    | go l =>
      have hs : Smal l := gath_small hz 3 (Nat.le_refl _) _ _ (fun j hj => by rcases j with _ | _ | _ | j <;> exact ⟨Nat.zero_le _, fun s hs => nomatch hs⟩) h
      exact (woven_small hs rfl oursB theirsB (by decide) (by decide)).2.2.2.2
theorem merge_tsize (hz : ∀ id, (src id).1.size ≤ 1000) (he : (mergeS src (upT T 3) (chkA T 3)).1 = 0) : ∀ o ∈ (mergeS src (upT T 3) (chkA T 3)).2, o.text.size ≤ 1000000000 := by
  obtain ⟨hc, herr, hout⟩ := merge_inv he
  rw [hout]
  intro o ho
  obtain ⟨i, hi, rfl⟩ := List.getElem_of_mem ho
  have h1 : (clashed ((nmsT T).filterMap (outT src T)))[i]? = some (clashed ((nmsT T).filterMap (outT src T)))[i] := List.getElem?_eq_getElem hi
  unfold clashed at h1
  rw [List.getElem?_mapIdx] at h1
  obtain ⟨x, hx, hxe⟩ := Option.map_eq_some_iff.1 h1
  have e : (clashed ((nmsT T).filterMap (outT src T)))[i] = clash1 ((nmsT T).filterMap (outT src T)) i x := hxe.symm
  rw [e]
  have e2 : (clash1 ((nmsT T).filterMap (outT src T)) i x).text = x.text := by unfold clash1; split <;> rfl
  rw [e2]
  obtain ⟨p, hp, hpx⟩ := List.mem_filterMap.1 (List.mem_of_getElem? hx)
  unfold outT at hpx
  split at hpx
  · injection hpx with hpx
    rw [← hpx]
    show (decT src T p).text.size ≤ _
    unfold decT decS
    split
    · show (0 : Nat) ≤ _; omega
    · split
      · show (0 : Nat) ≤ _; omega
      · exact weave_size hz _ _
  · cases hpx
end
end Go.Proofs.YtpcipdkoncmdcaaGreatDoor
namespace Go.Proofs.YtpcipdkoncmdcaaGreatDoor
open Go Go.RowKit

theorem wp_app0 {P : Program} {ops : Array Oper} {rest : List Oper} {o : Oper} {a : Act} {Q : Exit → Act → World → Prop} {w : World} (hgd : o.guard = none) (s x : Operand) (t tx : TypeId)
    (ho : o.op = .call { callee := .builtin .append, args := #[s, x], argTypes := #[t, tx] })
    {e : TypeId} {z : Value} {size bytes : Nat} (E : Elem P t e z size bytes) {ad : Addr} {xv : Value}
    (hs : a.eval s = .slice (some ad) 0 0) (hx : a.eval x = xv) (hsrc : Src P size tx xv 0 [] w)
    (h : wpList P ops Q rest (a.put o.dst (.slice (some ad) 0 0)) w) : wpList P ops Q (o :: rest) a w := by
  refine wpList_plain hgd fun K hK => ?_
  obtain ⟨i, hi, g1, g2, g3⟩ := info_parts E.info
  subst g2
  have hr := run_append_nothing (P := P) w t tx o.type e i E.under hi (some ad) 0 0 (Nat.le_refl _) xv hsrc
  unfold Oper.wp execOp
  simp only [ho, resolve, invoke, builtin, Sem.run_bind, Sem.run_pure, Result.andThen_ok, List.map_toArray, List.map_cons, List.map_nil, hs, hx, hr]
  exact hK _ _ h
theorem u8Elem : Elem Tryz.prog 52 5 (.int .u8 0) 1 1 := ⟨by kernel_rfl, by kernel_rfl⟩
/-- Bytes whose block, if it matters, is not below. -/
def Off (B : Nat) (v : Value) (t : ByteArray) : Prop := t.size ≠ 0 → ∀ a n c, v = .slice (some a) n c → B ≤ a.block
set_option maxRecDepth 100000 in
set_option maxHeartbeats 2000000 in
theorem bclone_c {w : World} {v : Value} {t : ByteArray} (h : Tx w v t) (hz : t.size ≤ 1000000000) : Calls Tryz.prog 41 #[v] w fun e w' => ∃ v', e = .returned v' ∧ Tx w' v' t ∧ Off w.heap.size v' t ∧ Below w.heap.size w w' := by
  obtain ⟨a, c, rfl, hc1, hc2, hc3, hs⟩ := h
  have hnil := fun (W : World) (n c : Nat) => Lib.run_eql_slice_nil (P := Tryz.prog) W 52 _ a n c 0 0 Tryz.underlying52
  cases a with
  | none =>
    have hc0 := hc3 rfl
    subst hc0
    have h0 : t.size = 0 := by omega
    rw [h0]
    have HT : Hid (Tx w (.slice none 0 0) t) := ⟨none, 0, by rw [h0], by omega, Nat.zero_le _, fun _ => rfl, hs⟩
    have H0 := Lib.hid h0
    clear hs hc1 hc2 hc3 h0
    go_enter Tryz.func41, Tryz.ntmps41
    go_wp2_with fail
    go_ret
    exact ⟨_, rfl, HT.out, fun h => absurd H0.out h, Below.refl _ _⟩
  | some ad =>
    by_cases h0 : t.size = 0
    · rw [h0]
      have hBE : Below w.heap.size w (w.alloc (.cells #[] 5)) := (Below.refl _ w).alloc (Nat.le_refl _) _
      have hsrc : Src Tryz.prog 1 52 (.slice (some ad) 0 c) 0 [] (w.alloc (.cells #[] 5)) := Src.ofSlice _ Tryz.underlying52 _ 0 c [] rfl (fun j u hu => nomatch hu) (fun u hu => nomatch hu)
      have HB := bts_len t
      have HNL : Hid (bts t = []) := List.eq_nil_of_length_eq_zero (HB.trans h0)
      have H0 := Lib.hid h0
      have HSRC := Lib.hid hsrc
      have HBE := Lib.hid hBE
      clear hs hc1 hc2 hc3 h0 hsrc hBE HB
      go_enter Tryz.func41, Tryz.ntmps41
      go_wp2_with (refine wp_app0 rfl _ _ _ _ rfl u8Elem rfl rfl HSRC.out ?_)
      go_ret
      exact ⟨_, rfl, ⟨some ⟨w.heap.size, 0, none⟩, 0, by rw [H0.out]; rfl, by rw [H0.out]; exact Nat.le_refl _, Nat.zero_le _, (fun h => nomatch h), .inl HNL.out⟩, fun h => absurd H0.out h, HBE.out⟩
    · have H0 := Lib.hid h0
      have HZ := Lib.hid hz
      have hBE : Below w.heap.size w (w.alloc (.cells #[] 5)) := (Below.refl _ w).alloc (Nat.le_refl _) _
      have hsrc : Src Tryz.prog 1 52 (.slice (some ad) t.size c) t.size (bts t) (w.alloc (.cells #[] 5)) := by
        obtain ⟨b, o, e, hl, hc⟩ := (hs.below hBE).resolve_left (fun e => h0 (by have := congrArg List.length e; rw [bts_len] at this; simpa using this))
        injection e with e
        subst e
        exact Src.ofSlice _ Tryz.underlying52 _ t.size c _ (by rw [bts_len]; omega) (fun j u hu => by rw [Addr.add_lit]; exact hc j u hu) (fun u hu => bts_one t u hu)
      have HSRC := Lib.hid hsrc
      have HBE := Lib.hid hBE
      have HCM : Hid (∀ c, t.size ≤ c → c ≤ maxLen → t.size ≤ c ∧ c ≤ maxLen) := fun c h1 h2 => ⟨h1, h2⟩
      clear hs h0 hz hc1 hc2 hc3 hsrc hBE
      go_enter Tryz.func41, Tryz.ntmps41
      go_wp2_with (refine wp_appNew rfl _ _ _ _ rfl u8Elem rfl rfl rfl HSRC.out (by have := H0.out; omega) (by have := HZ.out; simp [maxLen]; omega) (by have := HZ.out; omega) ?_; intro cv w5 hcv ho2 hb2)
      go_ret
      rw [show (w.alloc (.cells #[] 5)).heap.size = w.heap.size + 1 by simp] at ho2
      obtain ⟨a', c', e', h1, h2, h3⟩ := ho2.form
      injection e' with e1 e2 e3
      subst e1 e3
      exact ⟨_, rfl, ⟨_, _, rfl, h1, h2, (fun h => nomatch h), h3⟩, (fun _ a n c e => by injection e with e _ _; injection e with e; rw [← e]; exact Nat.le_succ _), HBE.out.trans (hb2.mono HBE.out.size)⟩
end Go.Proofs.YtpcipdkoncmdcaaGreatDoor
namespace Go.Proofs.YtpcipdkoncmdcaaGreatDoor
open Go Go.RowKit

theorem out_zsz {x : Ov} (h : (ouC x).length = 135) : Tryz.zeroCells54.size = (ouC x).toArray.size := by
  have e1 : Tryz.zeroCells54.size = 135 := by kernel_rfl
  have e2 : (ouC x).toArray.size = 135 := by rw [List.size_toArray, h]
  rw [e1, e2]
theorem out_isz {x : Ov} (h : (ouC x).length = 135) : (Tryz.prog.info? 54).map (·.size) = some (ouC x).toArray.size := by
  have e2 : (ouC x).toArray.size = 135 := by rw [List.size_toArray, h]
  rw [e2]; exact out_info
/-- The outcome in the block p is the file at b, o kept. -/
structure CmpS (W : World) (p b o : Nat) (f : Fi) : Prop where
  kd : W.cell? ⟨p, 1, none⟩ = some (.int .i64 1)
  pa : W.cell? ⟨p, 0, none⟩ = some (.string f.path)
  id : W.rangeAt p 2 (nb f.id)
  st : W.cell? ⟨p, 34, none⟩ = some (.float .f64 (cn f.stamp))
  fp : W.cell? ⟨b, o, none⟩ = some (.string f.path)
  fi : W.rangeAt b (o + 1) (nb f.id)
  fs : W.cell? ⟨b, o + 33, none⟩ = some (.float .f64 f.stamp)
theorem cmpS_of {W : World} {p b o : Nat} {f : Fi} {x : Ov} (hf : OkFi f) (h1 : W.heap[p]? = some (.cells (ouC x).toArray 54 (0, 0))) (h2 : W.rangeAt b o (fiC f)) (hp : x.o.path = f.path) (hk : x.o.kind = 1) (hi : x.o.id = f.id) (hs : x.o.stamp = cn f.stamp) : CmpS W p b o f := by
  have hc : ∀ j u, (ouC x)[j]? = some u → W.cell? ⟨p, j, none⟩ = some u := fun j u hu => by simp only [World.cell?, h1]; simpa using hu
  have hl := hf.id.1
  refine ⟨hc 1 _ (by unfold ouC; rw [hk]; rfl), hc 0 _ (by unfold ouC; rw [hp]; rfl), fun j u hu => ?_, ?_, h2 0 _ rfl, fun j u hu => ?_, ?_⟩
  · refine hc (2 + j) u ?_
    unfold ouC
    rw [hi, show 2 + j = j + 1 + 1 by omega, List.getElem?_cons_succ, List.getElem?_cons_succ, List.getElem?_append_left (List.getElem?_eq_some_iff.1 hu).1]; exact hu
  · refine hc 34 _ ?_
    unfold ouC
    rw [hi, hs, show (34 : Nat) = 32 + 1 + 1 from rfl, List.getElem?_cons_succ, List.getElem?_cons_succ, List.getElem?_append_right (by rw [nb_len, hl]; exact Nat.le_refl _), nb_len, hl]; rfl
  · rw [Nat.add_assoc]
    refine h2 (1 + j) u ?_
    unfold fiC
    rw [show 1 + j = j + 1 by omega, List.getElem?_cons_succ, List.getElem?_append_left (List.getElem?_eq_some_iff.1 hu).1]; exact hu
  · refine h2 33 _ ?_
    unfold fiC
    rw [show (33 : Nat) = 32 + 1 from rfl, List.getElem?_cons_succ, List.getElem?_append_right (by rw [nb_len, hl]; exact Nat.le_refl _), nb_len, hl]; rfl
theorem CmpS.dn {W : World} {p b o : Nat} {f : Fi} (h : CmpS W p b o f) (n : Nat) : CmpS (W.drewN n) p b o f := ⟨h.kd, h.pa, h.id, h.st, h.fp, h.fi, h.fs⟩
/-- Merging, its answer a snapshot kept. -/
theorem merge_kept {W : World} {va vb vc : Value} {T : T3 (List Fi)} {O : List Fi} (ha : FS W va T.a) (hb : FS W vb T.b) (hc : FS W vc T.c) (hg : Gl W) (hm : mergeS (textS []) (upT T 3) (chkA T 3) = (0, O.map (keptO T))) :
    Calls Tryz.prog 13 #[.agg #[va, vb, vc], SrcV (.slice none 0 0)] W fun e w' => ∃ ov V, e = .returned (.tuple #[ov, .int .i64 0]) ∧ V.map (·.o) = O.map (keptO T) ∧ OR w' ov V ∧ (∀ x ∈ V, x.tv.oneCell' = true) ∧ Below W.heap.size W w' := by
  refine (merge_c (bl := []) ha hb hc hg (fun _ => Nat.zero_le _) (BS.nil W)).mono ?_
  rintro e w' ⟨ov, V, rfl, hV, hMO⟩
  rw [hm] at hV
  rw [hm]
  exact ⟨ov, V, rfl, hV, hMO.or, fun x hx => tx_one (hMO.tx x hx).1.tx, hMO.below⟩
end Go.Proofs.YtpcipdkoncmdcaaGreatDoor
