/- Texts of mine, joined: What join.Merge answers, in plain Lean. | How things lie while join.Merge decides path by path. | '[]T{x}' of a value of several cells; its place in an append. Of every program. | Names put together, parents. No program in sight. | Right paths are their names put together. No program in sight. | Clashes of paths, and the deepest common folder. No program in sight. | slices.SortFunc over paths with Compare: the row holds the sorted list. | slices.SortFunc over paths with Compare: nothing but the row's block turns. | Walk: the paths are sorted in their own row. | The outcomes' row: its cells, a kind turned. -/
import Derived.Great.BuildSlice
import Derived.Lib.Join
import Derived.Lib.LastIndexByte
import Derived.Test.YtpcipdkoncmdcaaGreatDoorYJoinApart17
namespace Go.Proofs.YtpcipdkoncmdcaaGreatDoor
open Go Go.RowKit
structure Ou where
  path : ByteArray
  kind : Nat
  id : List Nat
  stamp : Nat
  text : ByteArray
  has : T3 Bool
  ids : T3 (List Nat)
def outOf (d : Dec) (t : Th) : Ou := ⟨t.path, d.kind, d.id, whenS t.has t.sts, d.text, t.has, t.ids⟩
structure OkOu (o : Ou) : Prop where
  id : OkId o.id
  ia : OkId o.ids.a
  ib : OkId o.ids.b
  ic : OkId o.ids.c
  kd : o.kind ≤ 4
  st : o.stamp < 2 ^ 64
  pz : o.path.size ≤ 10000000
/-- The three of a path. -/
def thOf (L : List Th) (p : ByteArray) : Th := (L.find? fun t => decide (t.path = p)).getD zTh
/-- The paths decided in order; what is kept so far. -/
def decGo (src : List Nat → ByteArray × Int) (L : List Th) : List Ou → List ByteArray → Int × List Ou
  | acc, [] => (0, acc)
  | acc, p :: l =>
    if (decS src (thOf L p).has (thOf L p).ids (thOf L p).id).err ≠ 0 then ((decS src (thOf L p).has (thOf L p).ids (thOf L p).id).err, []) else
    decGo src L (if (decS src (thOf L p).has (thOf L p).ids (thOf L p).id).keep then acc ++ [outOf (decS src (thOf L p).has (thOf L p).ids (thOf L p).id) (thOf L p)] else acc) l
/-- A kept path under another kept one is a clash. -/
def clash1 (l : List Ou) (i : Nat) (o : Ou) : Ou := if (l.take i).any (fun x => PathS.under o.path x.path) then { o with kind := 4 } else o
def clashed (l : List Ou) : List Ou := l.mapIdx fun i o => clash1 l i o

theorem taken_nodup {i : Nat} {f : Fi} : ∀ {l : List Th}, (l.map (·.path)).Nodup → ((taken i f l).map (·.path)).Nodup
  | [], _ => by simp [taken]
  | t :: l, h => by
    rw [show taken i f (t :: l) = if t.path = f.path then t.add i f :: l else t :: taken i f l from rfl]
    rw [List.map_cons, List.nodup_cons] at h
    split
    · rw [List.map_cons, List.nodup_cons]; exact h
    · rename_i hne
      rw [List.map_cons, List.nodup_cons]
      refine ⟨fun hm => ?_, taken_nodup h.2⟩
      obtain ⟨x, hx, e⟩ := List.mem_map.1 hm
      have : x.path = f.path ∨ ∃ s ∈ l, x.path = s.path := by
        clear h e hm hne
        induction l with
        | nil =>
          rw [show taken i f [] = [({ zTh with path := f.path } : Th).add i f] from rfl, List.mem_singleton] at hx
          subst hx; exact .inl rfl
        | cons s l ih =>
          rw [show taken i f (s :: l) = if s.path = f.path then s.add i f :: l else s :: taken i f l from rfl] at hx
          split at hx
          · rename_i e
            rcases List.mem_cons.1 hx with rfl | hx
            · exact .inl e
            · exact .inr ⟨x, by simp [hx], rfl⟩
          · rcases List.mem_cons.1 hx with rfl | hx
            · exact .inr ⟨x, by simp, rfl⟩
            · rcases ih hx with h | ⟨y, hy, h⟩
              · exact .inl h
              · exact .inr ⟨y, by simp [hy], h⟩
      rcases this with h1 | ⟨s, hs, h1⟩
      · exact hne (e.symm.trans h1)
      · exact h.1 (List.mem_map.2 ⟨s, hs, h1.symm.trans e⟩)
theorem takenAll_nodup {i : Nat} : ∀ {fs : List Fi} {l : List Th}, (l.map (·.path)).Nodup → ((takenAll i l fs).map (·.path)).Nodup
  | [], _, h => h
  | f :: fs, _, h => takenAll_nodup (fs := fs) (taken_nodup (i := i) (f := f) h)
theorem thOf_mem {L : List Th} (hn : (L.map (·.path)).Nodup) {t : Th} (ht : t ∈ L) : thOf L t.path = t := by
  induction L with
  | nil => cases ht
  | cons s l ih =>
    rw [List.map_cons, List.nodup_cons] at hn
    unfold thOf
    rw [List.find?_cons]
    rcases List.mem_cons.1 ht with rfl | ht
    · simp
    · have hne : ¬ s.path = t.path := fun e => hn.1 (List.mem_map.2 ⟨t, ht, e.symm⟩)
      rw [decide_eq_false hne]
      exact ih hn.2 ht
end Go.Proofs.YtpcipdkoncmdcaaGreatDoor
namespace Go.Proofs.YtpcipdkoncmdcaaGreatDoor
open Go Go.RowKit Go.Maps
structure Ov where
  o : Ou
  tv : Value
def ouC (x : Ov) : List Value := .string x.o.path :: .int .i64 x.o.kind :: (nb x.o.id ++ (.float .f64 x.o.stamp :: x.tv :: .bool x.o.has.a :: .bool x.o.has.b :: .bool x.o.has.c :: (nb x.o.ids.a ++ (nb x.o.ids.b ++ nb x.o.ids.c))))
def ouR (l : List Ov) : List Value := l.flatMap ouC
/-- The text's value lies in no block k. -/
def OffB (v : Value) (k : Nat) : Prop := ∀ a n c, v = .slice (some a) n c → a.block ≠ k

theorem TxN.off {B : Nat} {w w' : World} {v : Value} {t : ByteArray} {row : Option Nat} (h : TxN B w v t) (hg : w.grownBy w' row) (ho : t.size ≠ 0 → ∀ k, row = some k → OffB v k) : TxN B w' v t := by
  rcases h with h | ⟨g, c, rfl, hb, h⟩
  · exact .inl h
  · refine .inr ⟨g, c, rfl, hb, ?_⟩
    by_cases h0 : t.size = 0
    · obtain ⟨a, c', e, h2, h3, h4, h5⟩ := h
      exact ⟨a, c', e, h2, h3, h4, .inl (List.eq_nil_of_length_eq_zero (by rw [bts_len]; exact h0))⟩
    · exact h.kept hg fun e => ho h0 g e.symm _ _ _ rfl rfl
theorem TxN.lt {B : Nat} {w : World} {v : Value} {t : ByteArray} (h : TxN B w v t) (h0 : t.size ≠ 0) {k : Nat} (hk : w.heap.size ≤ k) : OffB v k := by
  rcases h with ⟨rfl, _⟩ | ⟨g, c, rfl, hb, h⟩
  · exact absurd rfl h0
  · obtain ⟨b, o, c', e, h2, h3, h5⟩ := h.some_ h0
    intro a n c2 e2
    injection e with e _ _
    injection e2 with e2 _ _
    injection e with e
    injection e2 with e2
    subst e2
    rcases h5 with h5 | ⟨b', o', e3, hl, _⟩
    · exact absurd (by have := bts_len t; rw [h5] at this; simpa using this.symm) h0
    · injection e3 with e3
      have : g = b' := by have := congrArg Addr.block e; have h7 := congrArg Addr.block e3; simp at this h7; omega
      simp only; omega

structure MD (w0 w : World) (mb B : Nat) (X : List (Th × Nat)) (ov : Value) (V : List Ov) (rest : List ByteArray) : Prop where
  map : MapG QC w mb X.length (lookF X)
  tr : ∀ x ∈ X, x.1.path ∈ rest → TR w x.2 x.1 ∧ x.1.tv = .slice none 0 0
  nd : (X.map (·.2)).Nodup
  np : (X.map (·.1.path)).Nodup
  at_ : ∀ x ∈ X, x.2 ≠ mb ∧ x.2 < B ∧ w0.heap.size ≤ x.2
  row : OwnG w 54 135 ov V.length (ouR V)
  own : ∀ k, ov.ownBlock = some k → B ≤ k
  tx : ∀ v ∈ V, TxN B w v.tv v.o.text ∧ (v.o.text.size ≠ 0 → ∀ k, ov.ownBlock = some k → OffB v.tv k)
  ok : ∀ v ∈ V, OkOu v.o
  mbB : mb < B ∧ w0.heap.size ≤ mb
  bB : B ≤ w.heap.size ∧ w0.heap.size ≤ B
  below : Below w0.heap.size w0 w
section
variable {w0 w w' : World} {mb B : Nat} {X : List (Th × Nat)} {ov : Value} {V : List Ov} {rest : List ByteArray}
theorem MD.step (h : MD w0 w mb B X ov V rest) (hb : Below w.heap.size w w') : MD w0 w' mb B X ov V rest :=
  ⟨h.map.below hb, fun x hx hr => ⟨(h.tr x hx hr).1.below hb, (h.tr x hx hr).2⟩, h.nd, h.np, h.at_, h.row.below hb, h.own, fun v hv => ⟨(h.tx v hv).1.below hb, (h.tx v hv).2⟩, h.ok, h.mbB, ⟨Nat.le_trans h.bB.1 hb.size, h.bB.2⟩, h.below.trans (hb.mono h.below.size)⟩
/-- One path is decided: its three may have turned. -/
theorem MD.decided {p : ByteArray} {t : Th} {q : Nat} (h : MD w0 w mb B X ov V (p :: rest)) (hx : (t, q) ∈ X) (ht : t.path = p) (hp : p ∉ rest) (hg : w.grownBy w' (some q)) : MD w0 w' mb B X ov V rest := by
  have hq := h.at_ _ hx
  have hun : ∀ x ∈ X, x.2 = q → x = (t, q) := by
    intro x hxm e
    have hnd := h.nd
    obtain ⟨i, hi, ei⟩ := List.getElem_of_mem hxm
    obtain ⟨j, hj, ej⟩ := List.getElem_of_mem hx
    have e2 : (X.map (·.2))[i]'(by simpa using hi) = (X.map (·.2))[j]'(by simpa using hj) := by rw [List.getElem_map, List.getElem_map, ei, ej]; exact e
    have : i = j := by
      rcases Nat.lt_trichotomy i j with hlt | heq | hgt
      · exact absurd e2 (List.pairwise_iff_getElem.1 hnd i j _ _ hlt)
      · exact heq
      · exact absurd e2.symm (List.pairwise_iff_getElem.1 hnd j i _ _ hgt)
    subst this
    rw [← ei, ej]
  refine ⟨h.map.kept hg (by simp; exact fun e => hq.1 e.symm), fun x hxm hr => ?_, h.nd, h.np, h.at_, h.row.kept hg ?_, h.own, fun v hv => ⟨(h.tx v hv).1.kept hg hq.2.1, (h.tx v hv).2⟩, h.ok, h.mbB, ⟨Nat.le_trans h.bB.1 hg.size, h.bB.2⟩, h.below.grown hg h.below.size (fun k hk => by cases hk; exact hq.2.2)⟩
  · have h1 := h.tr x hxm (by simp [hr])
    refine ⟨h1.1.kept hg ?_, h1.2⟩
    intro e
    have e2 : x = (t, q) := hun x hxm (by simpa using e)
    subst e2
    exact hp (ht ▸ hr)
  · cases e : ov.ownBlock with
    | none => exact .inl rfl
    | some k => exact .inr (by simp; have := h.own k e; omega)
theorem ouR_app (l m : List Ov) : ouR (l ++ m) = ouR l ++ ouR m := by simp [ouR]
/-- The start, behind the sort. -/
theorem MT.decide {pv : Value} (h : MT w0 w mb pv X) (hn : (X.map (·.1.path)).Nodup) (hg : w.grownBy w' pv.ownBlock) (names : List ByteArray) : MD w0 w' mb w'.heap.size X (.slice none 0 0) [] names := by
  have hne : ∀ k, k = mb ∨ (∃ x ∈ X, x.2 = k) → some k ≠ pv.ownBlock := by
    intro k hk e
    have := h.own k e.symm
    rcases hk with rfl | ⟨x, hx, rfl⟩
    · exact this.1 rfl
    · exact this.2.2 x hx rfl
  refine ⟨h.map.kept hg (hne mb (.inl rfl)), fun x hx _ => ⟨(h.tr x hx).1.kept hg (hne _ (.inr ⟨x, hx, rfl⟩)), (h.tr x hx).2⟩, h.nd, hn, fun x hx => ⟨(h.at_ x hx).1, Nat.lt_of_lt_of_le (h.tr x hx).1.blk.lt hg.size, (h.at_ x hx).2⟩, OwnG.nil _ _ _, (fun k hk => by cases hk), (fun v hv => nomatch hv), (fun v hv => nomatch hv), ⟨Nat.lt_of_lt_of_le h.map.lt hg.size, h.mb0⟩, ⟨Nat.le_refl _, Nat.le_trans h.below.size hg.size⟩, h.below.grown hg h.below.size (fun k hk => (h.own k hk).2.1)⟩
/-- One more is kept. -/
theorem MD.app {ov' : Value} {x : Ov} (h : MD w0 w mb B X ov V rest) (hr : OwnG w' 54 135 ov' (V.length + 1) (ouR V ++ ouC x)) (hg : w.grownBy w' ov.ownBlock) (ho : ∀ k, ov'.ownBlock = some k → ov.ownBlock = some k ∨ w.heap.size ≤ k) (hx : TxN B w x.tv x.o.text) (hoff : x.o.text.size ≠ 0 → ∀ k, ov.ownBlock = some k → OffB x.tv k) (hok : OkOu x.o) : MD w0 w' mb B X ov' (V ++ [x]) rest := by
  have hne : ∀ k, k < B → some k ≠ ov.ownBlock := by
    intro k hk e
    have := h.own k e.symm
    omega
  have hall : ∀ v ∈ V ++ [x], TxN B w v.tv v.o.text ∧ (v.o.text.size ≠ 0 → ∀ k, ov.ownBlock = some k → OffB v.tv k) := by
    intro v hv
    rcases List.mem_append.1 hv with hv | hv
    · exact h.tx v hv
    · rw [List.mem_singleton] at hv; subst hv; exact ⟨hx, hoff⟩
  refine ⟨h.map.kept hg (hne mb h.mbB.1), fun y hy hyr => ⟨(h.tr y hy hyr).1.kept hg (hne _ (h.at_ y hy).2.1), (h.tr y hy hyr).2⟩, h.nd, h.np, h.at_, ?_, fun k hk => ?_, fun v hv => ⟨(hall v hv).1.off hg (hall v hv).2, fun h0 k hk => ?_⟩, (fun v hv => (List.mem_append.1 hv).elim (h.ok v) (fun e => by rw [List.mem_singleton] at e; subst e; exact hok)), h.mbB, ⟨Nat.le_trans h.bB.1 hg.size, h.bB.2⟩, h.below.grown hg h.below.size (fun k hk => Nat.le_trans h.bB.2 (h.own k hk))⟩
  · rw [List.length_append, ouR_app, show ouR [x] = ouC x by simp [ouR]]; exact hr
  · rcases ho k hk with h1 | h1
    · exact h.own k h1
    · exact Nat.le_trans h.bB.1 h1
  · rcases ho k hk with h1 | h1
    · exact (hall v hv).2 h0 k h1
    · exact (hall v hv).1.lt h0 h1
theorem Tl.own {v : Value} {l : List ByteArray} (h : Tl w v l) : Tn w (fun b => v.ownBlock = some b) v l := by
  obtain ⟨a, c, rfl, h2, h3, h4, h5⟩ := h
  refine ⟨a, c, rfl, h2, h3, h4, ?_⟩
  rcases h5 with h5 | ⟨b, o, rfl, hl, hc⟩
  · exact .inl h5
  · exact .inr ⟨b, o, rfl, rfl, hl, hc⟩
theorem Tn.grown {F : Nat → Prop} {v : Value} {l : List ByteArray} {row : Option Nat} (h : Tn w F v l) (hg : w.grownBy w' row) (hF : ∀ b, F b → some b ≠ row) : Tn w' F v l :=
  h.keep hg.size fun b hb hl => ⟨hg.block b hl (hF b hb), hb⟩
end
end Go.Proofs.YtpcipdkoncmdcaaGreatDoor
namespace Go.Proofs.YtpcipdkoncmdcaaGreatDoor
open Go Go.RowKit
theorem fill_one {n : Nat} (hn : 0 < n) {cs : Array Value} (hc : cs.size = n) (z : Array Value) : Instr.fill (fun i => some (i * n, n)) ((Array.range (1 * n)).map (fun i => z[i % z.size]!)) [(0, .agg cs)] = some cs := by
  refine (Go.Great.fill_whole (s := n) hn [.agg cs] _ (fun v hv => ?_) (by simp)).trans ?_
  · obtain rfl := List.mem_singleton.1 hv
    exact hc
  · simp [Value.cells]
theorem run_build1 {P : Program} {t e : TypeId} {n : Nat} {cs : Array Value} (hu : P.underlying t = some (.slice e)) (h1 : (P.info? e).map (·.size) = some n) (h2 : ((P.info? e).bind (·.zero)).isSome = true) (hn : 0 < n) (hm : n ≤ 2 ^ 24) (hc : cs.size = n) (w : World) :
    (Instr.buildSlice t 1 #[(0, .agg cs)]).run P w = .ok (.slice (some ⟨w.heap.size, 0, none⟩) 1 1) (w.alloc (.cells cs e)) := by
  revert h1 h2
  rcases hie : P.info? e with _ | ie
  · intro h1; cases h1
  · intro h1 h2
    have h1 : ie.size = n := Option.some.inj h1
    rcases hz : ie.zero with _ | z
    · rw [Option.bind_some, hz] at h2; cases h2
    · refine run_buildSlice w _ _ 1 _ _ ie z hu hie hz ?_ ?_ ?_
      · rw [h1, Nat.one_mul]; exact Nat.not_lt.2 hm
      · rw [h1, Nat.one_mul]; omega
      · rw [h1]; exact fill_one hn hc _
/-- The operation. -/
theorem wpList_build1 {P : Program} {ops : Array Oper} {rest : List Oper} {o : Oper} {a : Act} {w : World} {Q : Exit → Act → World → Prop} {t e : TypeId} {n : Nat} {cs : Array Value} (hgd : o.guard = none) (parts : Array (Nat × Operand)) (ho : o.op = .buildSlice t 1 parts) (hp : (parts.map fun (i, y) => (i, a.eval y)) = #[(0, .agg cs)])
    (hu : P.underlying t = some (.slice e)) (h1 : (P.info? e).map (·.size) = some n) (h2 : ((P.info? e).bind (·.zero)).isSome = true) (hn : 0 < n) (hm : n ≤ 2 ^ 24) (hc : cs.size = n)
    (h : wpList P ops Q rest (a.put o.dst (.slice (some ⟨w.heap.size, 0, none⟩) 1 1)) (w.alloc (.cells cs e))) : wpList P ops Q (o :: rest) a w :=
  wpList_plain hgd fun K hK => by
    unfold Oper.wp execOp
    simp only [ho, Sem.run_bind, hp, run_build1 hu h1 h2 hn hm hc w, Result.andThen_ok]
    exact hK _ _ h
end Go.Proofs.YtpcipdkoncmdcaaGreatDoor
namespace Go.Proofs.YtpcipdkoncmdcaaGreatDoor
namespace PathS
open Go
end PathS
end Go.Proofs.YtpcipdkoncmdcaaGreatDoor
namespace Go.Proofs.YtpcipdkoncmdcaaGreatDoor
namespace PathS
open Go
end PathS
end Go.Proofs.YtpcipdkoncmdcaaGreatDoor
namespace Go.Proofs.YtpcipdkoncmdcaaGreatDoor
namespace PathS
open Go
def clashA : List ByteArray → ByteArray × ByteArray
  | [] => (ByteArray.empty, ByteArray.empty)
  | [_] => (ByteArray.empty, ByteArray.empty)
  | a :: b :: r => if b = a ∨ under b a = true then (b, a) else clashA (b :: r)

theorem le_antisymm {a b : ByteArray} (h1 : le a b) (h2 : le b a) : a = b := by
  unfold le at h1 h2
  have := cmp_tw.anti a b
  exact (cmp_tw.eq0 a b).1 (by omega)

theorem ins_perm (x : ByteArray) (out : List ByteArray) : (ins x out).Perm (x :: out) := by
  unfold ins
  generalize insPos x out out.length = p
  have h : (x :: out).Perm (x :: (out.take p ++ out.drop p)) := by rw [List.take_append_drop]
  refine List.Perm.trans ?_ h.symm
  rw [List.append_assoc, List.singleton_append]
  exact List.perm_middle

theorem sortTo_perm (l : List ByteArray) : ∀ k, k ≤ l.length → (sortTo l k).Perm (l.take k)
  | 0, _ => by simp [sortTo]
  | k + 1, h => by
    have hd : l.getD k ByteArray.empty = l[k] := getD_at l k (by omega)
    have ht : l.take (k + 1) = l.take k ++ [l[k]] := List.take_succ_eq_append_getElem (by omega)
    rw [sortTo, hd, ht]
    refine (ins_perm _ _).trans ?_
    refine List.Perm.trans ((sortTo_perm l k (by omega)).cons _) ?_
    exact (List.perm_append_singleton _ _).symm

def sorted (l : List ByteArray) : List ByteArray := sortTo l l.length

theorem sorted_perm (l : List ByteArray) : (sorted l).Perm l := by
  have := sortTo_perm l l.length (Nat.le_refl _)
  rwa [List.take_length] at this

theorem sorted_pw (l : List ByteArray) : (sorted l).Pairwise le := sortTo_sorted l l.length

/-- Whatever is a permutation, and in order, is the same list. -/
theorem sorted_one {l m : List ByteArray} (hp : m.Perm l) (hs : m.Pairwise le) : m = sorted l :=
  List.Perm.eq_of_pairwise (fun _ _ _ _ h1 h2 => le_antisymm h1 h2) hs (sorted_pw l) (hp.trans (sorted_perm l).symm)

theorem sorted_length (l : List ByteArray) : (sorted l).length = l.length := sortTo_length l l.length

def clash (l : List ByteArray) : ByteArray × ByteArray := clashA (sorted l)

end PathS
end Go.Proofs.YtpcipdkoncmdcaaGreatDoor
namespace Go.Proofs.YtpcipdkoncmdcaaGreatDoor
open Go Go.RowKit Go.Sort
theorem Gl.below2 {w w' : World} {B : Nat} (h : Gl w) (hb : Below B w w') (hB : 1 < B) : Gl w' := by
  obtain ⟨⟨m, hm⟩, hs⟩ := h
  exact ⟨⟨m, by rw [hb.cell (p := ⟨1, 0, none⟩) hB]; exact hm⟩, Nat.lt_of_lt_of_le hs hb.size⟩

/-- A text that is no longer than the walks take. -/
structure Sh where
  val : ByteArray
  ok : val.size ≤ 10000000
instance : Inhabited Sh := ⟨⟨ByteArray.empty, by decide⟩⟩
def encS (x : Sh) : Value := .string x.val
def cmpS (x y : Sh) : Int := PathS.cmp x.val y.val

theorem ltS {x y : Sh} : ltOf cmpS x y = true ↔ PathS.cmp x.val y.val < 0 := decide_eq_true_iff
theorem ltS_not {x y : Sh} : ltOf cmpS x y = false ↔ ¬ PathS.cmp x.val y.val < 0 := decide_eq_false_iff_not

theorem swoS : SWO (ltOf cmpS) where
  irrefl x := by
    have := (PathS.cmp_tw.eq0 x.val x.val).2 rfl
    exact ltS_not.2 (by omega)
  trans x y z h1 h2 := ltS.2 (PathS.cmp_tw.tr _ _ _ (ltS.1 h1) (ltS.1 h2))
  ntrans x y z h1 h2 := by
    have h1 := ltS_not.1 h1
    have h2 := ltS_not.1 h2
    refine ltS_not.2 ?_
    have a1 := PathS.cmp_tw.anti x.val y.val
    have a2 := PathS.cmp_tw.anti y.val z.val
    have a3 := PathS.cmp_tw.anti x.val z.val
    have := PathS.cmp_tw.le z.val y.val x.val (by omega) (by omega)
    omega

theorem sh_ext {x y : Sh} (h : x.val = y.val) : x = y := by cases x; cases y; simp at h; subst h; rfl

theorem totS (x y : Sh) (h1 : ltOf cmpS x y = false) (h2 : ltOf cmpS y x = false) : x = y := by
  have h1 := ltS_not.1 h1
  have h2 := ltS_not.1 h2
  have a1 := PathS.cmp_tw.anti x.val y.val
  exact sh_ext ((PathS.cmp_tw.eq0 _ _).1 (by omega))

theorem enter_cmp : ∀ args w, (callFunc 27 args).run Tryz.prog w = .ok (.enter 27 args) w := enters_of Tryz.func27 (by kernel_rfl) rfl

theorem below_sortWorld {α : Type} [Inhabited α] (enc : α → Value) (w : World) (blk off m : Nat) (dk : Array α) (os : Array Obj) (h : blk < w.heap.size) : Below blk w (sortWorld enc w blk off m dk os) := by
  refine ⟨rfl, rfl, rfl, ?_, fun k hk => ?_⟩
  · simp [sortWorld, grow, putRow, mapBlock, Sort.ahead]
  · show ((Array.modify w.heap blk _) ++ os)[k]? = w.heap[k]?
    rw [Array.getElem?_append, if_pos (by simp; omega), Array.getElem?_modify, if_neg (by omega)]

def pack : (l : List ByteArray) → (∀ s ∈ l, s.size ≤ 10000000) → List Sh
  | [], _ => []
  | s :: l, h => ⟨s, h s (by simp)⟩ :: pack l (fun x hx => h x (by simp [hx]))

theorem pack_val : ∀ (l : List ByteArray) (hz : ∀ s ∈ l, s.size ≤ 10000000), (pack l hz).map (·.val) = l
  | [], _ => rfl
  | s :: l, h => by rw [pack, List.map_cons, pack_val l]

end Go.Proofs.YtpcipdkoncmdcaaGreatDoor
namespace Go.Proofs.YtpcipdkoncmdcaaGreatDoor
open Go Go.RowKit Go.Sort
theorem grown_sortWorld {α : Type} [Inhabited α] (enc : α → Value) (w : World) (blk off m : Nat) (dk : Array α) (os : Array Obj) : w.grownBy (sortWorld enc w blk off m dk os) (some blk) := by
  refine ⟨rfl, rfl, rfl, ?_, fun k hk hne => ?_⟩
  · simp [sortWorld, grow, putRow, mapBlock, Sort.ahead]
  · show ((Array.modify w.heap blk _) ++ os)[k]? = w.heap[k]?
    rw [Array.getElem?_append, if_pos (by simp; omega), Array.getElem?_modify, if_neg (fun e => hne (by rw [e]))]

theorem psort_g (g o c : Nat) (l : List ByteArray) (w : World) (hg : Gl w) (hbg : 1 < g) (hgl : g < w.heap.size) (hcell : ∀ j (hj : j < l.length), w.cell? ⟨g, o + j, none⟩ = some (.string l[j]) ∧ w.frozen? ⟨g, o + j, none⟩ = false) (hz : ∀ s ∈ l, s.size ≤ 10000000) (hl : l.length ≤ 10000000) :
    Calls Tryz.prog 26 #[.slice (some ⟨g, o, none⟩) l.length c, .func (.func 27) #[] #[]] w fun e w' => e = .returned (.tuple #[]) ∧ Sl w' (some ⟨g, o, none⟩) ((PathS.sorted l).map Value.string) ∧ w.grownBy w' (some g) := by
  have hlen : (pack l hz).toArray.size = l.length := by have := congrArg List.length (pack_val l hz); simpa using this
  have hget : ∀ j (hj : j < l.length), ((pack l hz).toArray[j]!).val = l[j] := by
    intro j hj
    rw [getElem!_pos _ j (by rw [hlen]; exact hj)]
    have h := pack_val l hz
    have h2 : ((pack l hz).map (·.val))[j]? = l[j]? := by rw [h]
    rw [List.getElem?_map, List.getElem?_eq_getElem (by have := hlen; simp at this; omega), List.getElem?_eq_getElem hj] at h2
    simpa using h2
  have hH : Holds encS w g o (pack l hz).toArray := by
    intro j hj
    rw [hlen] at hj
    refine ⟨?_, (hcell j hj).2⟩
    rw [(hcell j hj).1]
    show some (Value.string l[j]) = some (Value.string ((pack l hz).toArray[j]!).val)
    rw [hget j hj]
  have hcmp : CmpLays1 Tryz.prog 27 #[] encS cmpS g o (pack l hz).toArray.size w := by
    intro m os dk _ x y
    have hb := below_sortWorld encS w g o m dk os hgl
    refine (cmp_g x.val y.val _ (hg.below2 hb hbg) x.ok y.ok).mono ?_
    rintro e w' ⟨rfl, h⟩
    exact ⟨rfl, h.form⟩
  have h := Tryz.slices_SortFunc_total encS (fun _ => rfl) cmpS swoS 27 #[] g o c (pack l hz).toArray w enter_cmp hcmp hH hgl (by rw [hlen]; omega) totS
  rw [hlen] at h
  refine h.mono ?_
  rintro e w' ⟨rfl, n, os, rfl⟩
  refine ⟨rfl, ?_, grown_sortWorld encS w g o n _ os⟩
  have hd : ((pack l hz).mergeSort fun x y => !(ltOf cmpS) y x).map (·.val) = PathS.sorted l := by
    apply PathS.sorted_one
    · have := (List.mergeSort_perm (pack l hz) (fun x y => !(ltOf cmpS) y x)).map (·.val)
      rwa [pack_val] at this
    · rw [List.pairwise_map]
      refine List.Pairwise.imp ?_ (List.pairwise_mergeSort ?_ ?_ (pack l hz))
      · intro a b hab
        have hab := ltS_not.1 (by simpa using hab : ltOf cmpS b a = false)
        have := PathS.cmp_tw.anti a.val b.val
        unfold PathS.le; omega
      · intro a b d h1 h2
        simp only [Bool.not_eq_true'] at h1 h2 ⊢
        exact swoS.ntrans _ _ _ h2 h1
      · intro a b
        cases h1 : ltOf cmpS b a
        · simp
        · cases h2 : ltOf cmpS a b
          · simp
          · have := swoS.trans _ _ _ h1 h2
            rw [swoS.irrefl] at this; cases this
  generalize (pack l hz).mergeSort (fun x y => !(ltOf cmpS) y x) = srt at *
  have hsl : srt.toArray.size = (pack l hz).toArray.size := by
    have := congrArg List.length hd
    rw [List.length_map, PathS.sorted_length] at this
    rw [hlen]; simpa using this
  by_cases h0 : l.length = 0
  · left
    rw [List.map_eq_nil_iff]
    exact List.eq_nil_of_length_eq_zero (by rw [PathS.sorted_length]; exact h0)
  · refine .inr ⟨g, o, rfl, ?_, fun i u hu => ?_⟩
    · simp [sortWorld, grow, putRow, mapBlock, Sort.ahead]; omega
    · have hi : i < srt.toArray.size := by
        have := (List.getElem?_eq_some_iff.1 hu).1
        rw [List.length_map, PathS.sorted_length] at this
        rw [hsl, hlen]; exact this
      have h1 := cell?_putRow encS (Sort.ahead w n) g o (pack l hz).toArray srt.toArray (holds_ahead encS w n g o _ hH) hsl i hi
      have h2 : (sortWorld encS w g o n srt.toArray os).cell? ⟨g, o + i, none⟩ = (putRow encS (Sort.ahead w n) g o srt.toArray).cell? ⟨g, o + i, none⟩ := by
        simp only [sortWorld, grow, World.cell?]
        rw [Array.getElem?_append, if_pos (by simp [putRow, mapBlock, Sort.ahead]; exact hgl)]
      rw [h2, h1]
      rw [← hd, List.getElem?_map, List.getElem?_map] at hu
      have hi' : i < srt.length := by simpa using hi
      rw [List.getElem?_eq_getElem hi'] at hu
      rw [getElem!_pos _ i hi]
      simpa [encS] using hu
end Go.Proofs.YtpcipdkoncmdcaaGreatDoor
namespace Go.Proofs.YtpcipdkoncmdcaaGreatDoor
open Go Go.RowKit
theorem psort_o {w : World} {v : Value} {l : List ByteArray} (h : OwnG w 9 1 v l.length (lrow l)) (hg : Gl w) (hk : ∀ k, v.ownBlock = some k → 1 < k) (hz : ∀ s ∈ l, s.size ≤ 10000000) (hl : l.length ≤ 10000000) :
    Calls Tryz.prog 26 #[v, .func (.func 27) #[] #[]] w fun e w' => e = .returned (.tuple #[]) ∧ Tl w' v (PathS.sorted l) ∧ w.grownBy w' v.ownBlock := by
  by_cases h0 : l = []
  · subst h0
    obtain ⟨a, c, rfl, h2, h3, h4⟩ := h.form
    refine (Tryz.slices_SortFunc_none (α := ByteArray) a c _ w).mono ?_
    rintro e w' ⟨rfl, rfl⟩
    have hs : PathS.sorted [] = [] := List.eq_nil_of_length_eq_zero (by rw [PathS.sorted_length]; rfl)
    rw [hs]
    refine ⟨rfl, ?_, rfl, rfl, rfl, Nat.le_refl _, fun _ _ _ => rfl⟩
    obtain ⟨h1, h2'⟩ := h
    rcases h2' with ⟨e, _⟩ | ⟨g, o, cap, cur, e, _⟩
    · rw [e]; exact Tl.nil _
    · cases e; exact ⟨_, _, rfl, h2, h3, (fun h => nomatch h), .inl rfl⟩
  · obtain ⟨h1, h2⟩ := h
    rcases h2 with ⟨rfl, e0⟩ | ⟨g, o, cap, cur, rfl, hh, hn, hc, hs, ht⟩
    · exact absurd (List.eq_nil_of_length_eq_zero e0) h0
    · have hgl : g < w.heap.size := (Array.getElem?_eq_some_iff.1 hh).1
      refine (psort_g g o cap l w hg (hk g rfl) hgl (fun j hj => ⟨?_, ?_⟩) hz hl).mono ?_
      · simp only [World.cell?, hh]
        exact ht j _ (by unfold lrow; rw [List.getElem?_map, List.getElem?_eq_getElem hj]; rfl)
      · simp [World.frozen?, hh]
      · rintro e w' ⟨rfl, hsl, hgr⟩
        exact ⟨rfl, ⟨some ⟨g, o, none⟩, cap, by rw [PathS.sorted_length], by rw [PathS.sorted_length]; exact hn, hc, (fun h => nomatch h), hsl⟩, hgr⟩
end Go.Proofs.YtpcipdkoncmdcaaGreatDoor
namespace Go.Proofs.YtpcipdkoncmdcaaGreatDoor
open Go Go.RowKit Go.Maps
theorem ouC_len {x : Ov} (h : OkOu x.o) : (ouC x).length = 135 := by simp [ouC, nb_len, h.id.1, h.ia.1, h.ib.1, h.ic.1]
theorem ouR_len : ∀ {l : List Ov}, (∀ b ∈ l, OkOu b.o) → (ouR l).length = l.length * 135
  | [], _ => rfl
  | b :: l, h => by
    show (ouC b ++ ouR l).length = _
    rw [List.length_append, ouC_len (h b (by simp)), ouR_len (fun x hx => h x (by simp [hx])), List.length_cons]; omega
theorem ouR_get : ∀ {l : List Ov}, (∀ b ∈ l, OkOu b.o) → ∀ (k : Nat) (hk : k < l.length) (j : Nat), j < 135 → (ouR l)[k * 135 + j]? = (ouC l[k])[j]?
  | b :: l, h, 0, _, j, hj => by
    show (ouC b ++ ouR l)[0 * 135 + j]? = _
    rw [Nat.zero_mul, Nat.zero_add, List.getElem?_append_left (by rw [ouC_len (h b (by simp))]; exact hj)]; rfl
  | b :: l, h, k + 1, hk, j, hj => by
    show (ouC b ++ ouR l)[(k + 1) * 135 + j]? = _
    have hl := ouC_len (h b (by simp))
    rw [List.getElem?_append_right (by rw [hl]; omega), hl, show (k + 1) * 135 + j - 135 = k * 135 + j by omega]
    exact ouR_get (fun x hx => h x (by simp [hx])) k (by simpa using hk) j hj
def kx (x : Ov) (k : Nat) : Ov := { x with o := { x.o with kind := k } }
theorem ouR_set : ∀ {l : List Ov}, (∀ b ∈ l, OkOu b.o) → ∀ (i : Nat) (hi : i < l.length) (k : Nat), (ouR l).set (i * 135 + 1) (.int .i64 k) = ouR (l.set i (kx l[i] k))
  | b :: l, h, 0, _, k => rfl
  | b :: l, h, i + 1, hi, k => by
    have hi' : i < l.length := by simpa using hi
    show (ouC b ++ ouR l).set ((i + 1) * 135 + 1) _ = ouC b ++ ouR (l.set i (kx (l[i]'hi') k))
    have hl := ouC_len (h b (by simp))
    rw [List.set_append_right _ _ (by omega), hl, show (i + 1) * 135 + 1 - 135 = i * 135 + 1 by omega, ouR_set (fun x hx => h x (by simp [hx])) i (by simpa using hi) k]
theorem outElem : Elem Tryz.prog 29 54 (.agg Tryz.zeroCells54) 135 192 := ⟨by kernel_rfl, by kernel_rfl⟩
theorem out_info : (Tryz.prog.info? 54).map (·.size) = some 135 := by kernel_rfl
theorem out_zero : ((Tryz.prog.info? 54).bind (·.zero)).isSome = true := by kernel_rfl
theorem tcs_out (d : Dec) (t : Th) (tv : Value) : tcs { t with kind := d.kind, id := d.id, stamp := whenS t.has t.sts, tv := tv } = ouC ⟨outOf d t, tv⟩ ++ [.float .f64 t.sts.a, .float .f64 t.sts.b, .float .f64 t.sts.c] := by
  simp [tcs, ouC, outOf]
theorem ouC_one {x : Ov} (ht : x.tv.oneCell' = true) : ∀ u ∈ ouC x, u.oneCell' = true := by
  intro u hu
  simp only [ouC, List.mem_cons, List.mem_append] at hu
  have hn : ∀ {l : List Nat}, u ∈ nb l → u.oneCell' = true := fun h => by obtain ⟨y, -, rfl⟩ := List.mem_map.1 h; rfl
  rcases hu with rfl | rfl | hu | rfl | rfl | rfl | rfl | rfl | hu | hu | hu
  · rfl
  · rfl
  · exact hn hu
  · rfl
  · exact ht
  · rfl
  · rfl
  · rfl
  · exact hn hu
  · exact hn hu
  · exact hn hu

structure MO (w0 w : World) (B : Nat) (ov : Value) (V : List Ov) : Prop where
  row : OwnG w 54 135 ov V.length (ouR V)
  own : ∀ k, ov.ownBlock = some k → B ≤ k
  tx : ∀ v ∈ V, TxN B w v.tv v.o.text ∧ (v.o.text.size ≠ 0 → ∀ k, ov.ownBlock = some k → OffB v.tv k)
  ok : ∀ v ∈ V, OkOu v.o
  b : w0.heap.size ≤ B
  below : Below w0.heap.size w0 w
section
variable {w0 w w' : World} {mb B : Nat} {X : List (Th × Nat)} {ov : Value} {V : List Ov} {rest : List ByteArray}
theorem MD.mo (h : MD w0 w mb B X ov V rest) : MO w0 w B ov V := ⟨h.row, h.own, h.tx, h.ok, h.bB.2, h.below⟩
theorem MO.step (h : MO w0 w B ov V) (hb : Below w.heap.size w w') : MO w0 w' B ov V :=
  ⟨h.row.below hb, h.own, fun v hv => ⟨(h.tx v hv).1.below hb, (h.tx v hv).2⟩, h.ok, h.b, h.below.trans (hb.mono h.below.size)⟩
theorem MO.nil (hb : Below w0.heap.size w0 w) : MO w0 w w0.heap.size (.slice none 0 0) [] := ⟨OwnG.nil _ _ _, (fun k hk => by cases hk), (fun v hv => nomatch hv), (fun v hv => nomatch hv), Nat.le_refl _, hb⟩
theorem MO.mono {B' : Nat} (h : MO w0 w B ov V) (hb : w0.heap.size ≤ B') (hB : B' ≤ B) : MO w0 w B' ov V := ⟨h.row, fun k hk => Nat.le_trans hB (h.own k hk), fun v hv => ⟨(h.tx v hv).1.mono hB, (h.tx v hv).2⟩, h.ok, hb, h.below⟩
theorem MO.place (h : MO w0 w B ov V) (h0 : 0 < V.length) : ∃ g o c, ov = .slice (some ⟨g, o, none⟩) V.length c := by
  obtain ⟨g, o, c, e, _⟩ := h.row.place h0
  exact ⟨g, o, c, e⟩
theorem MO.cell {g o n c : Nat} (h : MO w0 w B (.slice (some ⟨g, o, none⟩) n c) V) {j i : Nat} (hj : j < V.length) (hi : i < 135) {u : Value} (hu : (ouC V[j])[i]? = some u) : w.cell? ⟨g, o + (j * 135 + i), none⟩ = some u := by
  obtain ⟨g', o', c', e, _, _, hc, _⟩ := h.row.place (by omega)
  injection e with e1 _ e2
  injection e1 with e1
  injection e1 with e1 e3
  subst e1 e2 e3
  exact hc _ _ (by rw [ouR_get h.ok j hj i hi]; exact hu)
theorem MO.fz {g o n c : Nat} (h : MO w0 w B (.slice (some ⟨g, o, none⟩) n c) V) (h0 : 0 < V.length) (j : Nat) : w.frozen? ⟨g, j, none⟩ = false := by
  obtain ⟨g', o', c', e, _, _, _, hf⟩ := h.row.place h0
  injection e with e1 _ e2
  injection e1 with e1
  injection e1 with e1 e3
  subst e1
  exact hf j
theorem MO.path {g o n c : Nat} (h : MO w0 w B (.slice (some ⟨g, o, none⟩) n c) V) {j : Nat} {x : Ou} (hx : (V.map (·.o))[j]? = some x) : w.cell? ⟨g, o + j * 135, none⟩ = some (.string x.path) := by
  rw [List.getElem?_map] at hx
  obtain ⟨y, hy, rfl⟩ := Option.map_eq_some_iff.1 hx
  obtain ⟨hj, rfl⟩ := List.getElem?_eq_some_iff.1 hy
  exact h.cell hj (i := 0) (by decide) rfl
theorem MO.kind {g o n c : Nat} (h : MO w0 w B (.slice (some ⟨g, o, none⟩) n c) V) {j : Nat} {x : Ou} (hx : (V.map (·.o))[j]? = some x) : w.cell? ⟨g, o + j * 135 + 1, none⟩ = some (.int .i64 x.kind) := by
  rw [List.getElem?_map] at hx
  obtain ⟨y, hy, rfl⟩ := Option.map_eq_some_iff.1 hx
  obtain ⟨hj, rfl⟩ := List.getElem?_eq_some_iff.1 hy
  exact h.cell hj (i := 1) (by decide) rfl
/-- A kind is turned. -/
theorem MO.setk {g o n c : Nat} (h : MO w0 w B (.slice (some ⟨g, o, none⟩) n c) V) {i : Nat} (hi : i < V.length) {k : Nat} (hk : k ≤ 4) : MO w0 (w.setCell ⟨g, o + i * 135 + 1, none⟩ (.int .i64 k)) B (.slice (some ⟨g, o, none⟩) n c) (V.set i (kx V[i] k)) := by
  have hn : n = V.length := by obtain ⟨g', o', c', e, _⟩ := h.row.place (by omega); injection e
  subst hn
  have hg : w.grownBy (w.setCell ⟨g, o + i * 135 + 1, none⟩ (.int .i64 k)) (some g) := grown_set w g (o + i * 135 + 1) (.int .i64 k)
  have hm : ∀ v ∈ V.set i (kx V[i] k), (∃ y ∈ V, v.tv = y.tv ∧ v.o.text = y.o.text) ∧ OkOu v.o := by
    intro v hv
    rcases List.mem_or_eq_of_mem_set hv with hv | rfl
    · exact ⟨⟨v, hv, rfl, rfl⟩, h.ok v hv⟩
    · have := h.ok _ (List.getElem_mem hi)
      exact ⟨⟨V[i], List.getElem_mem hi, rfl, rfl⟩, ⟨this.id, this.ia, this.ib, this.ic, hk, this.st, this.pz⟩⟩
  refine ⟨?_, h.own, fun v hv => ?_, fun v hv => (hm v hv).2, h.b, h.below.grown hg h.below.size (fun j hj => by cases hj; exact Nat.le_trans h.b (h.own g rfl))⟩
  · rw [← ouR_set h.ok i hi k, List.length_set]
    exact h.row.setAt (i * 135 + 1) (by rw [ouR_len h.ok]; omega) _
  · obtain ⟨⟨y, hy, e1, e2⟩, -⟩ := hm v hv
    rw [e1, e2]
    exact ⟨(h.tx y hy).1.off hg (fun h0 k hk => (h.tx y hy).2 h0 k (by rw [← hk]; rfl)), (h.tx y hy).2⟩
end
/-- Clashes of the first i. -/
def clN (l : List Ou) (i : Nat) : List Ou := l.mapIdx fun j o => if j < i then clash1 l j o else o
theorem clN_zero (l : List Ou) : clN l 0 = l := by
  apply List.ext_getElem?
  intro j
  simp [clN]
theorem clN_all (l : List Ou) : clN l l.length = clashed l := by
  apply List.ext_getElem?
  intro j
  simp only [clN, clashed, List.getElem?_mapIdx]
  by_cases h : j < l.length
  · rw [List.getElem?_eq_getElem h]; simp [h]
  · rw [List.getElem?_eq_none (by omega)]; rfl
theorem clN_len (l : List Ou) (i : Nat) : (clN l i).length = l.length := by simp [clN]
def kk (o : Ou) (b : Bool) : Ou := if b then { o with kind := 4 } else o
theorem clN_step {l : List Ou} {i : Nat} (hi : i < l.length) : (clN l i).set i (kk l[i] ((l.take i).any fun x => PathS.under l[i].path x.path)) = clN l (i + 1) := by
  apply List.ext_getElem?
  intro j
  rw [List.getElem?_set]
  simp only [clN, List.getElem?_mapIdx, List.length_mapIdx]
  by_cases h : i = j
  · subst h
    rw [if_pos rfl, if_pos hi, List.getElem?_eq_getElem hi]
    simp [kk, clash1]
  · rw [if_neg h]
    cases e : l[j]? with
    | none => rfl
    | some x =>
      simp only [Option.map_some]
      by_cases h2 : j < i
      · rw [if_pos h2, if_pos (by omega)]
      · rw [if_neg h2, if_neg (by omega)]
theorem clN_start {l : List Ou} {i : Nat} (hi : i < l.length) : clN l i = (clN l i).set i (kk l[i] false) := by
  apply List.ext_getElem?
  intro j
  rw [List.getElem?_set]
  by_cases h : i = j
  · subst h
    rw [if_pos rfl, if_pos (by rw [clN_len]; exact hi)]
    simp [clN, kk, List.getElem?_eq_getElem hi]
  · rw [if_neg h]
theorem clN_at {l : List Ou} {i : Nat} {o : Ou} (hi : i < l.length) : ((clN l i).set i o)[i]? = some o := by rw [List.getElem?_set, if_pos rfl, if_pos (by rw [clN_len]; exact hi)]
theorem clN_other {l : List Ou} {i j : Nat} {o : Ou} (hj : j < l.length) (hne : j ≠ i) : ∃ x, ((clN l i).set i o)[j]? = some x ∧ x.path = l[j].path := by
  rw [List.getElem?_set, if_neg (fun e => hne e.symm)]
  simp only [clN, List.getElem?_mapIdx, List.getElem?_eq_getElem hj, Option.map_some]
  refine ⟨_, rfl, ?_⟩
  split
  · unfold clash1; split <;> rfl
  · rfl
theorem take_any {α : Type} {l : List α} {m : Nat} (hm : m < l.length) (p : α → Bool) : (l.take (m + 1)).any p = ((l.take m).any p || p l[m]) := by
  rw [List.take_add_one, List.any_append, List.getElem?_eq_getElem hm]; simp
theorem decGo_step {src : List Nat → ByteArray × Int} {L : List Th} {acc : List Ou} {p : ByteArray} {l : List ByteArray} {t : Th} {d : Dec} (ht : thOf L p = t) (hd : decS src t.has t.ids t.id = d) : decGo src L acc (p :: l) = if d.err ≠ 0 then (d.err, []) else decGo src L (if d.keep then acc ++ [outOf d t] else acc) l := by
  rw [decGo, ht, hd]
theorem weaveS_kind (src : List Nat → ByteArray × Int) (has : T3 Bool) (ids : T3 (List Nat)) : (weaveS src has ids).2.1 ≤ 3 := by
  unfold weaveS
  split
  · exact Nat.le_refl _
  · split
    · exact Nat.le_refl _
    · exact Nat.le_refl _
    · show (if _ then 2 else 3) ≤ 3
      split <;> decide
theorem decS_kind (src : List Nat → ByteArray × Int) (has : T3 Bool) (ids : T3 (List Nat)) (id0 : List Nat) : (decS src has ids id0).kind ≤ 3 := by
  unfold decS
  split
  · exact (by decide : 1 ≤ 3)
  · split
    · exact (by decide : 1 ≤ 3)
    · exact weaveS_kind src has ids
theorem whenS_lt {has : T3 Bool} {sts : T3 Nat} (hb : sts.b < 2 ^ 64) (hc : sts.c < 2 ^ 64) : whenS has sts < 2 ^ 64 := by
  unfold whenS
  repeat' split
  all_goals first | exact cn_lt hb | exact cn_lt hc
/-- What join.Merge answers. -/
def mergeS (src : List Nat → ByteArray × Int) (T : List Th) (ck : Int) : Int × List Ou :=
  if ck ≠ 0 then (ck, []) else ((decGo src T [] (PathS.sorted (T.map (·.path)))).1, clashed (decGo src T [] (PathS.sorted (T.map (·.path)))).2)
end Go.Proofs.YtpcipdkoncmdcaaGreatDoor
