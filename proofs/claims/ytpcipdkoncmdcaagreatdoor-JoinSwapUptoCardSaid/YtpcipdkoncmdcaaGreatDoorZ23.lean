/- Texts of mine, joined: The threes and their names as they lie while join.Merge takes the files in. | What join.Merge answers, in plain Lean. | How things lie while join.Merge decides path by path. | '[]T{x}' of a value of several cells; its place in an append. Of every program. | Names put together, parents. No program in sight. | Right paths are their names put together. No program in sight. | Clashes of paths, and the deepest common folder. No program in sight. -/
import Derived.Great.BuildSlice
import Derived.Lib.Join
import Derived.Lib.LastIndexByte
import Derived.Test.YtpcipdkoncmdcaaGreatDoorZ22
namespace Go.Proofs.YtpcipdkoncmdcaaGreatDoor
open Go Go.RowKit Go.Maps

/-- Where a path's three lies. -/
def lookF : List (Th × Nat) → ByteArray → Option (Option Nat)
  | [], _ => none
  | x :: l, p => if x.1.path = p then some (some x.2) else lookF l p
theorem lookF_app : ∀ (l m : List (Th × Nat)) (p : ByteArray), lookF (l ++ m) p = match lookF l p with | some a => some a | none => lookF m p
  | [], m, p => rfl
  | x :: l, m, p => by
    show (if x.1.path = p then some (some x.2) else lookF (l ++ m) p) = match (if x.1.path = p then some (some x.2) else lookF l p) with | some a => some a | none => lookF m p
    by_cases h : x.1.path = p
    · rw [if_pos h, if_pos h]
    · rw [if_neg h, if_neg h]; exact lookF_app l m p
/-- The three of a path is found, or there is none. -/
theorem lookF_cases : ∀ (l : List (Th × Nat)) (p : ByteArray), (lookF l p = none ∧ ∀ x ∈ l, x.1.path ≠ p) ∨ ∃ pre t q post, l = pre ++ (t, q) :: post ∧ t.path = p ∧ lookF l p = some (some q) ∧ ∀ x ∈ pre, x.1.path ≠ p
  | [], p => .inl ⟨rfl, fun x hx => nomatch hx⟩
  | (t, q) :: l, p => by
    by_cases h : t.path = p
    · exact .inr ⟨[], t, q, l, rfl, h, if_pos h, fun x hx => nomatch hx⟩
    · rcases lookF_cases l p with ⟨h1, h2⟩ | ⟨pre, t', q', post, h1, h2, h3, h4⟩
      · refine .inl ⟨(if_neg h).trans h1, fun x hx => ?_⟩
        rcases List.mem_cons.1 hx with rfl | hx
        · exact h
        · exact h2 x hx
      · refine .inr ⟨(t, q) :: pre, t', q', post, by rw [h1]; rfl, h2, (if_neg h).trans h3, fun x hx => ?_⟩
        rcases List.mem_cons.1 hx with rfl | hx
        · exact h
        · exact h4 x hx
theorem lookF_path : ∀ {l m : List (Th × Nat)}, l.map (fun x => (x.1.path, x.2)) = m.map (fun x => (x.1.path, x.2)) → ∀ p, lookF l p = lookF m p
  | [], [], _, _ => rfl
  | [], y :: m, h, _ => by simp at h
  | x :: l, [], h, _ => by simp at h
  | x :: l, y :: m, h, p => by
    simp only [List.map_cons, List.cons.injEq, Prod.mk.injEq] at h
    show (if x.1.path = p then some (some x.2) else lookF l p) = (if y.1.path = p then some (some y.2) else lookF m p)
    rw [h.1.1, h.1.2, lookF_path h.2 p]
theorem taken_new {i : Nat} {f : Fi} : ∀ {l : List Th}, (∀ t ∈ l, t.path ≠ f.path) → taken i f l = l ++ [({ zTh with path := f.path } : Th).add i f]
  | [], _ => rfl
  | t :: l, h => by
    show (if t.path = f.path then t.add i f :: l else t :: taken i f l) = _
    rw [if_neg (h t (by simp)), taken_new fun t ht => h t (by simp [ht])]; rfl
theorem taken_old {i : Nat} {f : Fi} {t : Th} {post : List Th} (ht : t.path = f.path) : ∀ {pre : List Th}, (∀ t ∈ pre, t.path ≠ f.path) → taken i f (pre ++ t :: post) = pre ++ t.add i f :: post
  | [], _ => if_pos ht
  | s :: pre, h => by
    show (if s.path = f.path then _ else s :: taken i f (pre ++ t :: post)) = _
    rw [if_neg (h s (by simp)), taken_old ht fun t ht => h t (by simp [ht])]; rfl

/-- The map mb, the names pv, the threes X: all made since w0. -/
structure MT (w0 w : World) (mb : Nat) (pv : Value) (X : List (Th × Nat)) : Prop where
  map : MapG QC w mb X.length (lookF X)
  tr : ∀ x ∈ X, TR w x.2 x.1 ∧ x.1.tv = .slice none 0 0
  nd : (X.map (·.2)).Nodup
  at_ : ∀ x ∈ X, x.2 ≠ mb ∧ w0.heap.size ≤ x.2
  row : OwnG w 9 1 pv X.length (lrow (X.map (·.1.path)))
  own : ∀ k, pv.ownBlock = some k → k ≠ mb ∧ w0.heap.size ≤ k ∧ ∀ x ∈ X, x.2 ≠ k
  mb0 : w0.heap.size ≤ mb
  below : Below w0.heap.size w0 w
section
variable {w0 w w' : World} {mb : Nat} {pv : Value} {X : List (Th × Nat)}
theorem MT.step (h : MT w0 w mb pv X) (hb : Below w.heap.size w w') : MT w0 w' mb pv X :=
  ⟨h.map.below hb, fun x hx => ⟨(h.tr x hx).1.below hb, (h.tr x hx).2⟩, h.nd, h.at_, h.row.below hb, h.own, h.mb0, h.below.trans (hb.mono h.below.size)⟩
/-- One three is turned. -/
theorem MT.turn {pre post : List (Th × Nat)} {t t' : Th} {q : Nat} (h : MT w0 w mb pv (pre ++ (t, q) :: post)) (hg : w.grownBy w' (some q)) (ht : TR w' q t') (hp : t'.path = t.path) (hv : t'.tv = .slice none 0 0) : MT w0 w' mb pv (pre ++ (t', q) :: post) := by
  have hmem : (t, q) ∈ pre ++ (t, q) :: post := by simp
  have hq := h.at_ _ hmem
  have hln : (pre ++ (t', q) :: post).length = (pre ++ (t, q) :: post).length := by simp
  have hpm : (pre ++ (t', q) :: post).map (fun x => (x.1.path, x.2)) = (pre ++ (t, q) :: post).map (fun x => (x.1.path, x.2)) := by simp [hp]
  have hnd := h.nd
  have hrp : (pre ++ (t', q) :: post).map (·.1.path) = (pre ++ (t, q) :: post).map (·.1.path) := by simp [hp]
  have hne : ∀ x, x ∈ pre ∨ x ∈ post → x.2 ≠ q := by
    intro x hx
    rw [List.map_append, List.map_cons, List.nodup_append] at hnd
    rcases hx with hx | hx
    · exact fun e => hnd.2.2 _ (List.mem_map_of_mem hx) q (by simp) e
    · exact fun e => (List.nodup_cons.1 hnd.2.1).1 (List.mem_map.2 ⟨x, hx, e⟩)
  refine ⟨?_, fun x hx => ?_, ?_, fun x hx => ?_, ?_, fun k hk => ⟨(h.own k hk).1, (h.own k hk).2.1, fun x hx => ?_⟩, h.mb0, h.below.grown hg h.below.size (fun k hk => by cases hk; exact hq.2)⟩
  · rw [hln]
    exact (h.map.kept hg (by simp; exact fun e => hq.1 e.symm)).congr (fun p => lookF_path hpm.symm p)
  · rcases List.mem_append.1 hx with h1 | h1
    · have := h.tr x (by simp [h1])
      exact ⟨this.1.kept hg (by simp; exact hne x (.inl h1)), this.2⟩
    · rcases List.mem_cons.1 h1 with rfl | h1
      · exact ⟨ht, hv⟩
      · have := h.tr x (by simp [h1])
        exact ⟨this.1.kept hg (by simp; exact hne x (.inr h1)), this.2⟩
  · rw [show (pre ++ (t', q) :: post).map (·.2) = (pre ++ (t, q) :: post).map (·.2) by simp]; exact hnd
  · rcases List.mem_append.1 hx with h1 | h1
    · exact h.at_ x (by simp [h1])
    · rcases List.mem_cons.1 h1 with rfl | h1
      · exact hq
      · exact h.at_ x (by simp [h1])
  · rw [hln, hrp]
    refine h.row.kept hg ?_
    cases e : pv.ownBlock with
    | none => exact .inl rfl
    | some k => exact .inr (by simp; exact fun e2 => (h.own k e).2.2 _ hmem e2.symm)
  · rcases List.mem_append.1 hx with h1 | h1
    · exact (h.own k hk).2.2 x (by simp [h1])
    · rcases List.mem_cons.1 h1 with rfl | h1
      · exact (h.own k hk).2.2 (t, q) hmem
      · exact (h.own k hk).2.2 x (by simp [h1])
/-- A new three comes in. -/
theorem MT.new {w1 w2 : World} {t : Th} {q : Nat} {pv' : Value} (h : MT w0 w mb pv X) (ht : TR w q t) (hv : t.tv = .slice none 0 0) (hq : q ≠ mb ∧ w0.heap.size ≤ q ∧ (∀ x ∈ X, x.2 ≠ q) ∧ pv.ownBlock ≠ some q) (hX : lookF X t.path = none)
    (hm : MapG QC w1 mb (X.length + 1) (fun z => if z = t.path then some (some q) else lookF X z)) (hg1 : w.grownBy w1 (some mb)) (hr : OwnG w2 9 1 pv' (X.length + 1) (lrow (X.map (·.1.path)) ++ [.string t.path])) (hg2 : w1.grownBy w2 pv.ownBlock) (ho : ∀ k, pv'.ownBlock = some k → pv.ownBlock = some k ∨ w1.heap.size ≤ k) :
    MT w0 w2 mb pv' (X ++ [(t, q)]) := by
  have hq1 : q < w1.heap.size := Nat.lt_of_lt_of_le ht.blk.lt hg1.size
  have hmb1 := hm.lt
  have hown : ∀ k, pv.ownBlock = some k → k ≠ mb ∧ w0.heap.size ≤ k := fun k hk => ⟨(h.own k hk).1, (h.own k hk).2.1⟩
  refine ⟨?_, fun x hx => ?_, ?_, fun x hx => ?_, ?_, fun k hk => ?_, h.mb0, ?_⟩
  · rw [List.length_append]
    refine (hm.kept hg2 (by intro e; exact (h.own mb e.symm).1 rfl)).congr fun p => ?_
    rw [lookF_app]
    by_cases hp : p = t.path
    · subst hp; rw [if_pos rfl, hX]; exact (if_pos rfl).symm
    · rw [if_neg hp]
      cases lookF X p with
      | some a => rfl
      | none => exact (if_neg (fun e => hp e.symm)).symm
  · rcases List.mem_append.1 hx with h1 | h1
    · refine ⟨((h.tr x h1).1.kept hg1 (by simp; exact (h.at_ x h1).1)).kept hg2 ?_, (h.tr x h1).2⟩
      intro e; exact (h.own x.2 e.symm).2.2 x h1 rfl
    · rw [List.mem_singleton] at h1
      subst h1
      exact ⟨(ht.kept hg1 (by simp; exact hq.1)).kept hg2 (fun e => hq.2.2.2 e.symm), hv⟩
  · rw [List.map_append, List.nodup_append]
    refine ⟨h.nd, by simp, fun a ha b hb => ?_⟩
    simp at hb
    subst hb
    obtain ⟨x, hx, rfl⟩ := List.mem_map.1 ha
    exact hq.2.2.1 x hx
  · rcases List.mem_append.1 hx with h1 | h1
    · exact h.at_ x h1
    · rw [List.mem_singleton] at h1; subst h1; exact ⟨hq.1, hq.2.1⟩
  · rw [List.length_append, List.map_append, lrow_app]; exact hr
  · have hx1 : ∀ x ∈ X, x.2 < w1.heap.size := fun x hx => Nat.lt_of_lt_of_le (h.tr x hx).1.blk.lt hg1.size
    rcases ho k hk with h1 | h1
    · refine ⟨(hown k h1).1, (hown k h1).2, fun x hx => ?_⟩
      rcases List.mem_append.1 hx with h2 | h2
      · exact (h.own k h1).2.2 x h2
      · rw [List.mem_singleton] at h2; subst h2; exact fun e => hq.2.2.2 (by rw [h1, ← e])
    · have h0 : w0.heap.size ≤ w1.heap.size := Nat.le_trans h.below.size hg1.size
      refine ⟨by omega, by omega, fun x hx => ?_⟩
      rcases List.mem_append.1 hx with h2 | h2
      · have := hx1 x h2; omega
      · rw [List.mem_singleton] at h2; subst h2; show q ≠ k; omega
  · refine (h.below.grown hg1 h.below.size (fun k hk => by cases hk; exact h.mb0)).grown hg2 (Nat.le_trans h.below.size hg1.size) (fun k hk => (hown k hk).2)
end
end Go.Proofs.YtpcipdkoncmdcaaGreatDoor
namespace Go.Proofs.YtpcipdkoncmdcaaGreatDoor
open Go Go.RowKit

structure Ou where
  path : ByteArray
  kind : Nat
  id : List Nat
  stamp : Nat
  text : ByteArray
  has : T3 Bool
  ids : T3 (List Nat)
def outOf (d : Dec) (t : Th) : Ou := ⟨t.path, d.kind, d.id, whenS t.has t.sts, d.text, t.has, t.ids⟩
structure OkOu (o : Ou) : Prop where
  id : OkId o.id
  ia : OkId o.ids.a
  ib : OkId o.ids.b
  ic : OkId o.ids.c
  kd : o.kind ≤ 4
  st : o.stamp < 2 ^ 64
  pz : o.path.size ≤ 10000000
/-- The three of a path. -/
def thOf (L : List Th) (p : ByteArray) : Th := (L.find? fun t => decide (t.path = p)).getD zTh
/-- The paths decided in order; what is kept so far. -/
def decGo (src : List Nat → ByteArray × Int) (L : List Th) : List Ou → List ByteArray → Int × List Ou
  | acc, [] => (0, acc)
  | acc, p :: l =>
    if (decS src (thOf L p).has (thOf L p).ids (thOf L p).id).err ≠ 0 then ((decS src (thOf L p).has (thOf L p).ids (thOf L p).id).err, []) else
    decGo src L (if (decS src (thOf L p).has (thOf L p).ids (thOf L p).id).keep then acc ++ [outOf (decS src (thOf L p).has (thOf L p).ids (thOf L p).id) (thOf L p)] else acc) l
/-- A kept path under another kept one is a clash. -/
def clash1 (l : List Ou) (i : Nat) (o : Ou) : Ou := if (l.take i).any (fun x => PathS.under o.path x.path) then { o with kind := 4 } else o
def clashed (l : List Ou) : List Ou := l.mapIdx fun i o => clash1 l i o

theorem taken_nodup {i : Nat} {f : Fi} : ∀ {l : List Th}, (l.map (·.path)).Nodup → ((taken i f l).map (·.path)).Nodup
  | [], _ => by simp [taken]
  | t :: l, h => by
    rw [show taken i f (t :: l) = if t.path = f.path then t.add i f :: l else t :: taken i f l from rfl]
    rw [List.map_cons, List.nodup_cons] at h
    split
    · rw [List.map_cons, List.nodup_cons]; exact h
    · rename_i hne
      rw [List.map_cons, List.nodup_cons]
      refine ⟨fun hm => ?_, taken_nodup h.2⟩
      obtain ⟨x, hx, e⟩ := List.mem_map.1 hm
      have : x.path = f.path ∨ ∃ s ∈ l, x.path = s.path := by
        clear h e hm hne
        induction l with
        | nil =>
          rw [show taken i f [] = [({ zTh with path := f.path } : Th).add i f] from rfl, List.mem_singleton] at hx
          subst hx; exact .inl rfl
        | cons s l ih =>
          rw [show taken i f (s :: l) = if s.path = f.path then s.add i f :: l else s :: taken i f l from rfl] at hx
          split at hx
          · rename_i e
            rcases List.mem_cons.1 hx with rfl | hx
            · exact .inl e
            · exact .inr ⟨x, by simp [hx], rfl⟩
          · rcases List.mem_cons.1 hx with rfl | hx
            · exact .inr ⟨x, by simp, rfl⟩
            · rcases ih hx with h | ⟨y, hy, h⟩
              · exact .inl h
              · exact .inr ⟨y, by simp [hy], h⟩
      rcases this with h1 | ⟨s, hs, h1⟩
      · exact hne (e.symm.trans h1)
      · exact h.1 (List.mem_map.2 ⟨s, hs, h1.symm.trans e⟩)
theorem takenAll_nodup {i : Nat} : ∀ {fs : List Fi} {l : List Th}, (l.map (·.path)).Nodup → ((takenAll i l fs).map (·.path)).Nodup
  | [], _, h => h
  | f :: fs, _, h => takenAll_nodup (fs := fs) (taken_nodup (i := i) (f := f) h)
theorem thOf_mem {L : List Th} (hn : (L.map (·.path)).Nodup) {t : Th} (ht : t ∈ L) : thOf L t.path = t := by
  induction L with
  | nil => cases ht
  | cons s l ih =>
    rw [List.map_cons, List.nodup_cons] at hn
    unfold thOf
    rw [List.find?_cons]
    rcases List.mem_cons.1 ht with rfl | ht
    · simp
    · have hne : ¬ s.path = t.path := fun e => hn.1 (List.mem_map.2 ⟨t, ht, e.symm⟩)
      rw [decide_eq_false hne]
      exact ih hn.2 ht
end Go.Proofs.YtpcipdkoncmdcaaGreatDoor
namespace Go.Proofs.YtpcipdkoncmdcaaGreatDoor
open Go Go.RowKit Go.Maps

structure Ov where
  o : Ou
  tv : Value
def ouC (x : Ov) : List Value := .string x.o.path :: .int .i64 x.o.kind :: (nb x.o.id ++ (.float .f64 x.o.stamp :: x.tv :: .bool x.o.has.a :: .bool x.o.has.b :: .bool x.o.has.c :: (nb x.o.ids.a ++ (nb x.o.ids.b ++ nb x.o.ids.c))))
def ouR (l : List Ov) : List Value := l.flatMap ouC
/-- The text's value lies in no block k. -/
def OffB (v : Value) (k : Nat) : Prop := ∀ a n c, v = .slice (some a) n c → a.block ≠ k

theorem TxN.off {B : Nat} {w w' : World} {v : Value} {t : ByteArray} {row : Option Nat} (h : TxN B w v t) (hg : w.grownBy w' row) (ho : t.size ≠ 0 → ∀ k, row = some k → OffB v k) : TxN B w' v t := by
  rcases h with h | ⟨g, c, rfl, hb, h⟩
  · exact .inl h
  · refine .inr ⟨g, c, rfl, hb, ?_⟩
    by_cases h0 : t.size = 0
    · obtain ⟨a, c', e, h2, h3, h4, h5⟩ := h
      exact ⟨a, c', e, h2, h3, h4, .inl (List.eq_nil_of_length_eq_zero (by rw [bts_len]; exact h0))⟩
    · exact h.kept hg fun e => ho h0 g e.symm _ _ _ rfl rfl
theorem TxN.lt {B : Nat} {w : World} {v : Value} {t : ByteArray} (h : TxN B w v t) (h0 : t.size ≠ 0) {k : Nat} (hk : w.heap.size ≤ k) : OffB v k := by
  rcases h with ⟨rfl, _⟩ | ⟨g, c, rfl, hb, h⟩
  · exact absurd rfl h0
  · obtain ⟨b, o, c', e, h2, h3, h5⟩ := h.some_ h0
    intro a n c2 e2
    injection e with e _ _
    injection e2 with e2 _ _
    injection e with e
    injection e2 with e2
    subst e2
    rcases h5 with h5 | ⟨b', o', e3, hl, _⟩
    · exact absurd (by have := bts_len t; rw [h5] at this; simpa using this.symm) h0
    · injection e3 with e3
      have : g = b' := by have := congrArg Addr.block e; have h7 := congrArg Addr.block e3; simp at this h7; omega
      simp only; omega

structure MD (w0 w : World) (mb B : Nat) (X : List (Th × Nat)) (ov : Value) (V : List Ov) (rest : List ByteArray) : Prop where
  map : MapG QC w mb X.length (lookF X)
  tr : ∀ x ∈ X, x.1.path ∈ rest → TR w x.2 x.1 ∧ x.1.tv = .slice none 0 0
  nd : (X.map (·.2)).Nodup
  np : (X.map (·.1.path)).Nodup
  at_ : ∀ x ∈ X, x.2 ≠ mb ∧ x.2 < B ∧ w0.heap.size ≤ x.2
  row : OwnG w 54 135 ov V.length (ouR V)
  own : ∀ k, ov.ownBlock = some k → B ≤ k
  tx : ∀ v ∈ V, TxN B w v.tv v.o.text ∧ (v.o.text.size ≠ 0 → ∀ k, ov.ownBlock = some k → OffB v.tv k)
  ok : ∀ v ∈ V, OkOu v.o
  mbB : mb < B ∧ w0.heap.size ≤ mb
  bB : B ≤ w.heap.size ∧ w0.heap.size ≤ B
  below : Below w0.heap.size w0 w
section
variable {w0 w w' : World} {mb B : Nat} {X : List (Th × Nat)} {ov : Value} {V : List Ov} {rest : List ByteArray}
theorem MD.step (h : MD w0 w mb B X ov V rest) (hb : Below w.heap.size w w') : MD w0 w' mb B X ov V rest :=
  ⟨h.map.below hb, fun x hx hr => ⟨(h.tr x hx hr).1.below hb, (h.tr x hx hr).2⟩, h.nd, h.np, h.at_, h.row.below hb, h.own, fun v hv => ⟨(h.tx v hv).1.below hb, (h.tx v hv).2⟩, h.ok, h.mbB, ⟨Nat.le_trans h.bB.1 hb.size, h.bB.2⟩, h.below.trans (hb.mono h.below.size)⟩
/-- One path is decided: its three may have turned. -/
theorem MD.decided {p : ByteArray} {t : Th} {q : Nat} (h : MD w0 w mb B X ov V (p :: rest)) (hx : (t, q) ∈ X) (ht : t.path = p) (hp : p ∉ rest) (hg : w.grownBy w' (some q)) : MD w0 w' mb B X ov V rest := by
  have hq := h.at_ _ hx
  have hun : ∀ x ∈ X, x.2 = q → x = (t, q) := by
    intro x hxm e
    have hnd := h.nd
    obtain ⟨i, hi, ei⟩ := List.getElem_of_mem hxm
    obtain ⟨j, hj, ej⟩ := List.getElem_of_mem hx
    have e2 : (X.map (·.2))[i]'(by simpa using hi) = (X.map (·.2))[j]'(by simpa using hj) := by rw [List.getElem_map, List.getElem_map, ei, ej]; exact e
    have : i = j := by
      rcases Nat.lt_trichotomy i j with hlt | heq | hgt
      · exact absurd e2 (List.pairwise_iff_getElem.1 hnd i j _ _ hlt)
      · exact heq
      · exact absurd e2.symm (List.pairwise_iff_getElem.1 hnd j i _ _ hgt)
    subst this
    rw [← ei, ej]
  refine ⟨h.map.kept hg (by simp; exact fun e => hq.1 e.symm), fun x hxm hr => ?_, h.nd, h.np, h.at_, h.row.kept hg ?_, h.own, fun v hv => ⟨(h.tx v hv).1.kept hg hq.2.1, (h.tx v hv).2⟩, h.ok, h.mbB, ⟨Nat.le_trans h.bB.1 hg.size, h.bB.2⟩, h.below.grown hg h.below.size (fun k hk => by cases hk; exact hq.2.2)⟩
  · have h1 := h.tr x hxm (by simp [hr])
    refine ⟨h1.1.kept hg ?_, h1.2⟩
    intro e
    have e2 : x = (t, q) := hun x hxm (by simpa using e)
    subst e2
    exact hp (ht ▸ hr)
  · cases e : ov.ownBlock with
    | none => exact .inl rfl
    | some k => exact .inr (by simp; have := h.own k e; omega)
theorem ouR_app (l m : List Ov) : ouR (l ++ m) = ouR l ++ ouR m := by simp [ouR]
/-- The start, behind the sort. -/
theorem MT.decide {pv : Value} (h : MT w0 w mb pv X) (hn : (X.map (·.1.path)).Nodup) (hg : w.grownBy w' pv.ownBlock) (names : List ByteArray) : MD w0 w' mb w'.heap.size X (.slice none 0 0) [] names := by
  have hne : ∀ k, k = mb ∨ (∃ x ∈ X, x.2 = k) → some k ≠ pv.ownBlock := by
    intro k hk e
    have := h.own k e.symm
    rcases hk with rfl | ⟨x, hx, rfl⟩
    · exact this.1 rfl
    · exact this.2.2 x hx rfl
  refine ⟨h.map.kept hg (hne mb (.inl rfl)), fun x hx _ => ⟨(h.tr x hx).1.kept hg (hne _ (.inr ⟨x, hx, rfl⟩)), (h.tr x hx).2⟩, h.nd, hn, fun x hx => ⟨(h.at_ x hx).1, Nat.lt_of_lt_of_le (h.tr x hx).1.blk.lt hg.size, (h.at_ x hx).2⟩, OwnG.nil _ _ _, (fun k hk => by cases hk), (fun v hv => nomatch hv), (fun v hv => nomatch hv), ⟨Nat.lt_of_lt_of_le h.map.lt hg.size, h.mb0⟩, ⟨Nat.le_refl _, Nat.le_trans h.below.size hg.size⟩, h.below.grown hg h.below.size (fun k hk => (h.own k hk).2.1)⟩
/-- One more is kept. -/
theorem MD.app {ov' : Value} {x : Ov} (h : MD w0 w mb B X ov V rest) (hr : OwnG w' 54 135 ov' (V.length + 1) (ouR V ++ ouC x)) (hg : w.grownBy w' ov.ownBlock) (ho : ∀ k, ov'.ownBlock = some k → ov.ownBlock = some k ∨ w.heap.size ≤ k) (hx : TxN B w x.tv x.o.text) (hoff : x.o.text.size ≠ 0 → ∀ k, ov.ownBlock = some k → OffB x.tv k) (hok : OkOu x.o) : MD w0 w' mb B X ov' (V ++ [x]) rest := by
  have hne : ∀ k, k < B → some k ≠ ov.ownBlock := by
    intro k hk e
    have := h.own k e.symm
    omega
  have hall : ∀ v ∈ V ++ [x], TxN B w v.tv v.o.text ∧ (v.o.text.size ≠ 0 → ∀ k, ov.ownBlock = some k → OffB v.tv k) := by
    intro v hv
    rcases List.mem_append.1 hv with hv | hv
    · exact h.tx v hv
    · rw [List.mem_singleton] at hv; subst hv; exact ⟨hx, hoff⟩
  refine ⟨h.map.kept hg (hne mb h.mbB.1), fun y hy hyr => ⟨(h.tr y hy hyr).1.kept hg (hne _ (h.at_ y hy).2.1), (h.tr y hy hyr).2⟩, h.nd, h.np, h.at_, ?_, fun k hk => ?_, fun v hv => ⟨(hall v hv).1.off hg (hall v hv).2, fun h0 k hk => ?_⟩, (fun v hv => (List.mem_append.1 hv).elim (h.ok v) (fun e => by rw [List.mem_singleton] at e; subst e; exact hok)), h.mbB, ⟨Nat.le_trans h.bB.1 hg.size, h.bB.2⟩, h.below.grown hg h.below.size (fun k hk => Nat.le_trans h.bB.2 (h.own k hk))⟩
  · rw [List.length_append, ouR_app, show ouR [x] = ouC x by simp [ouR]]; exact hr
  · rcases ho k hk with h1 | h1
    · exact h.own k h1
    · exact Nat.le_trans h.bB.1 h1
  · rcases ho k hk with h1 | h1
    · exact (hall v hv).2 h0 k h1
    · exact (hall v hv).1.lt h0 h1
theorem Tl.own {v : Value} {l : List ByteArray} (h : Tl w v l) : Tn w (fun b => v.ownBlock = some b) v l := by
  obtain ⟨a, c, rfl, h2, h3, h4, h5⟩ := h
  refine ⟨a, c, rfl, h2, h3, h4, ?_⟩
  rcases h5 with h5 | ⟨b, o, rfl, hl, hc⟩
  · exact .inl h5
  · exact .inr ⟨b, o, rfl, rfl, hl, hc⟩
theorem Tn.grown {F : Nat → Prop} {v : Value} {l : List ByteArray} {row : Option Nat} (h : Tn w F v l) (hg : w.grownBy w' row) (hF : ∀ b, F b → some b ≠ row) : Tn w' F v l :=
  h.keep hg.size fun b hb hl => ⟨hg.block b hl (hF b hb), hb⟩
end
end Go.Proofs.YtpcipdkoncmdcaaGreatDoor
namespace Go.Proofs.YtpcipdkoncmdcaaGreatDoor
open Go Go.RowKit

theorem fill_one {n : Nat} (hn : 0 < n) {cs : Array Value} (hc : cs.size = n) (z : Array Value) : Instr.fill (fun i => some (i * n, n)) ((Array.range (1 * n)).map (fun i => z[i % z.size]!)) [(0, .agg cs)] = some cs := by
  refine (Go.Great.fill_whole (s := n) hn [.agg cs] _ (fun v hv => ?_) (by simp)).trans ?_
  · obtain rfl := List.mem_singleton.1 hv
    exact hc
  · simp [Value.cells]
theorem run_build1 {P : Program} {t e : TypeId} {n : Nat} {cs : Array Value} (hu : P.underlying t = some (.slice e)) (h1 : (P.info? e).map (·.size) = some n) (h2 : ((P.info? e).bind (·.zero)).isSome = true) (hn : 0 < n) (hm : n ≤ 2 ^ 24) (hc : cs.size = n) (w : World) :
    (Instr.buildSlice t 1 #[(0, .agg cs)]).run P w = .ok (.slice (some ⟨w.heap.size, 0, none⟩) 1 1) (w.alloc (.cells cs e)) := by
  revert h1 h2
  rcases hie : P.info? e with _ | ie
  · intro h1; cases h1
  · intro h1 h2
    have h1 : ie.size = n := Option.some.inj h1
    rcases hz : ie.zero with _ | z
    · rw [Option.bind_some, hz] at h2; cases h2
    · refine run_buildSlice w _ _ 1 _ _ ie z hu hie hz ?_ ?_ ?_
      · rw [h1, Nat.one_mul]; exact Nat.not_lt.2 hm
      · rw [h1, Nat.one_mul]; omega
      · rw [h1]; exact fill_one hn hc _
/-- The operation. -/
theorem wpList_build1 {P : Program} {ops : Array Oper} {rest : List Oper} {o : Oper} {a : Act} {w : World} {Q : Exit → Act → World → Prop} {t e : TypeId} {n : Nat} {cs : Array Value} (hgd : o.guard = none) (parts : Array (Nat × Operand)) (ho : o.op = .buildSlice t 1 parts) (hp : (parts.map fun (i, y) => (i, a.eval y)) = #[(0, .agg cs)])
    (hu : P.underlying t = some (.slice e)) (h1 : (P.info? e).map (·.size) = some n) (h2 : ((P.info? e).bind (·.zero)).isSome = true) (hn : 0 < n) (hm : n ≤ 2 ^ 24) (hc : cs.size = n)
    (h : wpList P ops Q rest (a.put o.dst (.slice (some ⟨w.heap.size, 0, none⟩) 1 1)) (w.alloc (.cells cs e))) : wpList P ops Q (o :: rest) a w :=
  wpList_plain hgd fun K hK => by
    unfold Oper.wp execOp
    simp only [ho, Sem.run_bind, hp, run_build1 hu h1 h2 hn hm hc w, Result.andThen_ok]
    exact hK _ _ h
end Go.Proofs.YtpcipdkoncmdcaaGreatDoor
namespace Go.Proofs.YtpcipdkoncmdcaaGreatDoor
namespace PathS
open Go

theorem joinTo_data (l : List ByteArray) : ∀ k, k ≤ l.length → (joinTo l k).data.toList = joinL ((l.take k).map fun b => b.data.toList)
  | 0, _ => by simp [joinTo, joinL]
  | k + 1, h => by
    have ih := joinTo_data l k (by omega)
    have hd : l.getD k ByteArray.empty = l[k] := by rw [List.getD_eq_getElem?_getD, List.getElem?_eq_getElem (by omega)]; rfl
    rw [joinTo, hd, List.take_succ_eq_append_getElem (by omega), List.map_append]
    by_cases h0 : 0 < k
    · rw [if_pos h0, joinL_append _ _ (by simp; exact ⟨by omega, fun e => by subst e; simp at h⟩) (by simp), ← ih]
      simp [joinL]
    · have : k = 0 := by omega
      subst this
      simp [joinTo, joinL]

theorem join_joinL : ∀ xs : List (List UInt8), Lib.join xs [47] = joinL xs
  | [] => rfl
  | [a] => by simp [Lib.join, List.intercalate, joinL]
  | a :: b :: l => by
    have := join_joinL (b :: l)
    simp only [Lib.join, List.intercalate, List.intersperse, joinL] at this ⊢
    rw [← this]
    cases l <;> simp [List.intersperse]

theorem getBang (s : ByteArray) (i : Nat) (h : i < s.size) : s.data[i]! = s.data.toList[i]'(by simpa using h) := by
  rw [getElem!_pos s.data i (by simpa using h)]; simp

theorem parent_last (p : ByteArray) : parent p = p.extract 0 (Lib.lastIndexByte p 47).toNat := by
  unfold parent
  rw [split_spl]
  apply ba_ext
  rw [extract_list, List.drop_zero]
  unfold Lib.lastIndexByte
  rcases Lib.lastIdx_spec p 47 p.size with ⟨h1, h2⟩ | ⟨i, h0, h1, h2, h3⟩
  · rw [h1]
    have hn : 47 ∉ p.data.toList := by
      intro hm
      obtain ⟨j, hj, e⟩ := List.getElem_of_mem hm
      have hj' : j < p.size := by simpa using hj
      apply h2 j hj'
      rw [getBang p j hj', e]; rfl
    have hl : (spl p).length < 2 := by
      unfold spl
      split
      · simp
      · rw [pcs, piecesA_none _ _ hn]; simp
    rw [if_pos hl]; rfl
  · rw [h1]
    have hg : p.data.toList[i]'(by simpa using h0) = 47 := by
      rw [getBang p i h0] at h2
      exact UInt8.toNat_inj.1 (by have : ((47 : UInt8).toNat : Int) = 47 := rfl; omega)
    have hp : p.data.toList = p.data.toList.take i ++ 47 :: p.data.toList.drop (i + 1) := by
      conv => lhs; rw [← List.take_append_drop i p.data.toList, List.drop_eq_getElem_cons (by simpa using h0), hg]
    have hr : 47 ∉ p.data.toList.drop (i + 1) := by
      intro hm
      obtain ⟨j, hj, e⟩ := List.getElem_of_mem hm
      rw [List.length_drop] at hj
      have hj' : i + 1 + j < p.size := by rw [Lib.size_eq]; omega
      apply h3 (i + 1 + j) (by omega) hj'
      rw [List.getElem_drop] at e
      rw [getBang p _ hj', e]; rfl
    have hsz : ¬ p.size = 0 := by omega
    have hpl : pl p = piecesA [] (p.data.toList.take i) ++ [p.data.toList.drop (i + 1)] := by
      rw [pl, if_neg hsz]
      conv => lhs; rw [hp]
      rw [piecesA_append, piecesA_none _ _ hr]; rfl
    have hlen : ¬ (spl p).length < 2 := by
      rw [spl_map, hpl]
      obtain ⟨a, r, e⟩ := List.exists_cons_of_ne_nil (piecesA_ne [] (p.data.toList.take i))
      rw [e]; simp
    rw [if_neg hlen, joinTo_data _ _ (by simp), List.take_of_length_le (by simp), spl_map, hpl]
    simp only [List.map_append, List.map_cons, List.map_nil, List.dropLast_concat, List.map_map]
    have e2 : ((fun b : ByteArray => b.data.toList) ∘ mkB) = id := funext data_mkB
    rw [e2, List.map_id, joinL_piecesA]
    simp

end PathS
end Go.Proofs.YtpcipdkoncmdcaaGreatDoor
namespace Go.Proofs.YtpcipdkoncmdcaaGreatDoor
namespace PathS
open Go

theorem getD_at' (l : List ByteArray) (k : Nat) (h : k < l.length) : l.getD k ByteArray.empty = l[k] := by rw [List.getD_eq_getElem?_getD, List.getElem?_eq_getElem h]; rfl

def joinB (l : List ByteArray) : ByteArray := joinTo l l.length

theorem joinB_data (l : List ByteArray) : (joinB l).data.toList = joinL (l.map fun b => b.data.toList) := by
  rw [joinB, joinTo_data _ _ (Nat.le_refl _), List.take_length]

theorem pieces_join : ∀ (xs : List (List UInt8)), xs ≠ [] → (∀ x ∈ xs, 47 ∉ x) → piecesA [] (joinL xs) = xs
  | [], h, _ => absurd rfl h
  | [a], _, h => by rw [joinL, piecesA_none _ _ (h a (by simp))]; rfl
  | a :: b :: l, _, h => by
    rw [joinL, piecesA_cut _ _ _ (h a (by simp)), pieces_join (b :: l) (by simp) (fun x hx => h x (List.mem_cons_of_mem _ hx))]; rfl

theorem name_parts {s : ByteArray} (h : name s = true) : 47 ∉ s.data.toList ∧ s.size ≠ 0 := by
  unfold name nameL at h
  simp only [Bool.and_eq_true, bne_iff_ne, ne_eq, List.all_eq_true] at h
  obtain ⟨⟨⟨⟨h1, _⟩, _⟩, _⟩, h2⟩ := h
  refine ⟨fun hm => ?_, fun e => h1 (List.eq_nil_of_length_eq_zero (by rw [← Lib.size_eq]; exact e))⟩
  have := h2 47 hm
  revert this; decide

theorem spl_joinB {l : List ByteArray} (h : l ≠ []) (hn : l.all name = true) : spl (joinB l) = l := by
  have hn := List.all_eq_true.1 hn
  have hp := pieces_join (l.map fun b => b.data.toList) (by simpa using h) (by
    intro x hx
    obtain ⟨b, hb, rfl⟩ := List.mem_map.1 hx
    exact (name_parts (hn b hb)).1)
  have hs : (joinB l).size ≠ 0 := by
    intro e
    have h0 : (joinB l).data.toList = [] := List.eq_nil_of_length_eq_zero (by rw [← Lib.size_eq]; exact e)
    rw [← joinB_data, h0] at hp
    obtain ⟨b, r, rfl⟩ := List.exists_cons_of_ne_nil h
    simp [piecesA] at hp
    exact (name_parts (hn b (by simp))).2 (by rw [Lib.size_eq, hp.1]; rfl)
  rw [spl, if_neg hs, pcs, joinB_data, hp, List.map_map]
  have e : (mkB ∘ fun b : ByteArray => b.data.toList) = id := funext mkB_data
  rw [e, List.map_id]

theorem check_ok (s : ByteArray) : check s = 0 ↔ s.size ≤ 255 ∧ (spl s).length ≤ 16 ∧ (spl s).all name = true ∧ (spl s).length ≠ 0 := by
  unfold check
  rw [split_spl]
  constructor
  · intro h
    split at h
    · omega
    · split at h
      · split at h
        · omega
        · exact ⟨by omega, by omega, by assumption, by assumption⟩
      · omega
  · rintro ⟨h1, h2, h3, h4⟩
    rw [if_neg (by omega), if_pos h3, if_neg h4]

theorem check_join {l : List ByteArray} (h : l ≠ []) (hn : l.all name = true) (h16 : l.length ≤ 16) (h255 : (joinB l).size ≤ 255) : check (joinB l) = 0 := by
  rw [check_ok, spl_joinB h hn]
  exact ⟨h255, h16, hn, fun e => h (List.eq_nil_of_length_eq_zero e)⟩

theorem join_spl (p : ByteArray) : joinB (spl p) = p := by
  apply ba_ext
  rw [joinB_data, spl_map, List.map_map]
  have e : ((fun b : ByteArray => b.data.toList) ∘ mkB) = id := funext data_mkB
  rw [e, List.map_id, joinL_pl]

theorem parent_join (p : ByteArray) (h : 2 ≤ (spl p).length) : parent p = joinB (spl p).dropLast := by
  unfold parent joinB
  rw [split_spl, if_neg (by omega), List.length_dropLast]

theorem all_dropLast {l : List ByteArray} (h : l.all name = true) : l.dropLast.all name = true := by
  rw [List.all_eq_true] at h ⊢
  intro x hx; exact h x (List.dropLast_subset _ hx)

theorem parent_spl (p : ByteArray) (h : 2 ≤ (spl p).length) (hn : (spl p).all name = true) : spl (parent p) = (spl p).dropLast := by
  rw [parent_join p h, spl_joinB (by intro e; have := congrArg List.length e; simp at this; omega) (all_dropLast hn)]

theorem parent_size (p : ByteArray) : (parent p).size ≤ p.size := by
  rw [parent_last, Lib.size_eq, extract_list, Lib.size_eq]
  simp
  omega

theorem parent_check (p : ByteArray) (h : 2 ≤ (spl p).length) (hc : check p = 0) : check (parent p) = 0 := by
  obtain ⟨h1, h2, h3, h4⟩ := (check_ok p).1 hc
  rw [check_ok, parent_spl p h h3, List.length_dropLast]
  have := parent_size p
  exact ⟨by omega, by omega, all_dropLast h3, by omega⟩

theorem parent_under (p : ByteArray) (h : 2 ≤ (spl p).length) (hc : check p = 0) : under p (parent p) = true := by
  obtain ⟨h1, h2, h3, h4⟩ := (check_ok p).1 hc
  refine (under_spl _ _).2 ⟨[(spl p).getLast (by intro e; rw [e] at h; simp at h)], by simp, ?_⟩
  rw [parent_spl p h h3, List.dropLast_concat_getLast]

theorem joinB_snoc (l : List ByteArray) (x : ByteArray) (h : l ≠ []) : joinB (l ++ [x]) = joinB l ++ ⟨#[47]⟩ ++ x := by
  apply ba_ext
  rw [joinB_data, List.map_append, joinL_append _ _ (by simpa using h) (by simp), ← joinB_data]
  simp [joinL]

theorem parent_whole (p : ByteArray) (h : 2 ≤ (spl p).length) : parent p ++ ⟨#[47]⟩ ++ (spl p).getD ((spl p).length - 1) ByteArray.empty = p := by
  have hne : spl p ≠ [] := by intro e; rw [e] at h; simp at h
  have hg : (spl p).getD ((spl p).length - 1) ByteArray.empty = (spl p).getLast hne := by
    rw [List.getD_eq_getElem?_getD, List.getElem?_eq_getElem (by omega), List.getLast_eq_getElem]; rfl
  rw [hg, parent_join p h, ← joinB_snoc _ _ (by intro e; have := congrArg List.length e; simp at this; omega), List.dropLast_concat_getLast, join_spl]

theorem under_root (p : ByteArray) (h : p.size ≠ 0) : under p ByteArray.empty = true := by
  have : ByteArray.empty.size = 0 := rfl
  simp [under, h]

theorem check_size {p : ByteArray} (h : check p = 0) : p.size ≠ 0 := by
  intro e
  have := ((check_ok p).1 h).2.2.2
  apply this
  simp [spl, e]

theorem parent_one (p : ByteArray) (h : (spl p).length < 2) : parent p = ByteArray.empty := by
  unfold parent
  rw [split_spl, if_pos h]

end PathS
end Go.Proofs.YtpcipdkoncmdcaaGreatDoor
namespace Go.Proofs.YtpcipdkoncmdcaaGreatDoor
namespace PathS
open Go

/-- Is x the path y, or does it lie under it? -/
def cl (x y : ByteArray) : Prop := x = y ∨ under x y = true

def clashA : List ByteArray → ByteArray × ByteArray
  | [] => (ByteArray.empty, ByteArray.empty)
  | [_] => (ByteArray.empty, ByteArray.empty)
  | a :: b :: r => if b = a ∨ under b a = true then (b, a) else clashA (b :: r)

theorem clashA_skip (l : List ByteArray) : ∀ k, k < l.length → (∀ j (h : j + 1 < l.length), j < k → ¬ cl (l[j + 1]'h) (l[j]'(by omega))) → clashA l = clashA (l.drop k)
  | 0, _, _ => rfl
  | k + 1, hk, h => by
    rw [clashA_skip l k (by omega) (fun j hj hjk => h j hj (by omega))]
    rw [List.drop_eq_getElem_cons (show k < l.length by omega), List.drop_eq_getElem_cons hk, clashA]
    exact if_neg (h k hk (by omega))

theorem clashA_none (l : List ByteArray) (h : ∀ j (h : j + 1 < l.length), ¬ cl (l[j + 1]'h) (l[j]'(by omega))) : clashA l = (ByteArray.empty, ByteArray.empty) := by
  by_cases h0 : l.length = 0
  · rw [List.eq_nil_of_length_eq_zero h0]; rfl
  · rw [clashA_skip l (l.length - 1) (by omega) (fun j hj _ => h j hj), List.drop_eq_getElem_cons (show l.length - 1 < l.length by omega), List.drop_eq_nil_of_le (by omega)]
    rfl

theorem clashA_hit (l : List ByteArray) (i : Nat) (hi : i + 1 < l.length) (h : ∀ j (hj : j + 1 < l.length), j < i → ¬ cl (l[j + 1]'hj) (l[j]'(by omega))) (hc : cl (l[i + 1]'hi) (l[i]'(by omega))) : clashA l = (l[i + 1]'hi, l[i]'(by omega)) := by
  rw [clashA_skip l i (by omega) h, List.drop_eq_getElem_cons (show i < l.length by omega), List.drop_eq_getElem_cons hi, clashA]
  exact if_pos hc

theorem le_antisymm {a b : ByteArray} (h1 : le a b) (h2 : le b a) : a = b := by
  unfold le at h1 h2
  have := cmp_tw.anti a b
  exact (cmp_tw.eq0 a b).1 (by omega)

/-- What lies between a path and one that clashes with it clashes with it, too. -/
theorem between {a m c : ByteArray} (h1 : le a m) (h2 : le m c) (h : cl c a) : cl m a := by
  rcases h with rfl | h
  · exact .inl (le_antisymm h2 h1)
  · by_cases e : m = a
    · exact .inl e
    · right
      cases hu : under m a
      · have h3 : cmp a m < 0 := by
          rcases cmp_tw.rng a m with h | h | h
          · omega
          · exact absurd ((cmp_tw.eq0 a m).1 h).symm e
          · unfold le at h1; omega
        have h4 := order_last c a m h hu h3
        unfold le at h2
        have := cmp_tw.anti c m
        omega
      · rfl

/-- The first place of a sorted list that clashes with one ahead clashes with the one just ahead. -/
theorem first_just (l : List ByteArray) (hs : l.Pairwise le) (i k : Nat) (hi : i < l.length) (hk : k < i) (hc : cl (l[i]'hi) (l[k]'(by omega)))
    (h : ∀ i' (hi' : i' < l.length), i' < i → ∀ k' (hk' : k' < i'), ¬ cl (l[i']'hi') (l[k']'(by omega))) : k + 1 = i := by
  by_cases e : k + 1 = i
  · exact e
  · exfalso
    have hp := List.pairwise_iff_getElem.1 hs
    exact h (k + 1) (by omega) (by omega) k (by omega) (between (hp k (k + 1) (by omega) (by omega) (by omega)) (hp (k + 1) i (by omega) hi (by omega)) hc)

theorem ins_perm (x : ByteArray) (out : List ByteArray) : (ins x out).Perm (x :: out) := by
  unfold ins
  generalize insPos x out out.length = p
  have h : (x :: out).Perm (x :: (out.take p ++ out.drop p)) := by rw [List.take_append_drop]
  refine List.Perm.trans ?_ h.symm
  rw [List.append_assoc, List.singleton_append]
  exact List.perm_middle

theorem sortTo_perm (l : List ByteArray) : ∀ k, k ≤ l.length → (sortTo l k).Perm (l.take k)
  | 0, _ => by simp [sortTo]
  | k + 1, h => by
    have hd : l.getD k ByteArray.empty = l[k] := getD_at l k (by omega)
    have ht : l.take (k + 1) = l.take k ++ [l[k]] := List.take_succ_eq_append_getElem (by omega)
    rw [sortTo, hd, ht]
    refine (ins_perm _ _).trans ?_
    refine List.Perm.trans ((sortTo_perm l k (by omega)).cons _) ?_
    exact (List.perm_append_singleton _ _).symm

def sorted (l : List ByteArray) : List ByteArray := sortTo l l.length

theorem sorted_perm (l : List ByteArray) : (sorted l).Perm l := by
  have := sortTo_perm l l.length (Nat.le_refl _)
  rwa [List.take_length] at this

theorem sorted_pw (l : List ByteArray) : (sorted l).Pairwise le := sortTo_sorted l l.length

/-- Whatever is a permutation, and in order, is the same list. -/
theorem sorted_one {l m : List ByteArray} (hp : m.Perm l) (hs : m.Pairwise le) : m = sorted l :=
  List.Perm.eq_of_pairwise (fun _ _ _ _ h1 h2 => le_antisymm h1 h2) hs (sorted_pw l) (hp.trans (sorted_perm l).symm)

theorem sorted_length (l : List ByteArray) : (sorted l).length = l.length := sortTo_length l l.length

def clash (l : List ByteArray) : ByteArray × ByteArray := clashA (sorted l)

end PathS
end Go.Proofs.YtpcipdkoncmdcaaGreatDoor
