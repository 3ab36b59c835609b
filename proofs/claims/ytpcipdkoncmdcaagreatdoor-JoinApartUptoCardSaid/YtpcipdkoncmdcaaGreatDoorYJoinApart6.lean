/- Texts of mine, joined: A loom in memory: the three lists that are left, the parts that are made. | A region that draws its order, walked by a tree of moves; what was taken under S is kept pending, S is asked for only while something pends: until an operation comes up that waits for it. Of every program. | The new part of a loom while it is made: rows cut off, a block of its own, in whatever order. -/
import Derived.Test.YtpcipdkoncmdcaaGreatDoorYJoinApart5
namespace Go.Proofs.YtpcipdkoncmdcaaGreatDoor
open Go Go.RowKit
/-- Two values do not own one block. -/
def Db (a b : Value) : Prop := a.ownBlock = none ∨ a.ownBlock ≠ b.ownBlock
theorem Db.ne {a b : Value} (h : Db a b) {k : Nat} (hb : b.ownBlock = some k) : a.ownBlock ≠ some k := by
  rcases h with h | h
  · rw [h]; simp
  · rw [← hb]; exact h

/-- A part, its lists as values. -/
structure PtV where
  p : JoinS.Pt ByteArray
  b : Value
  o : Value
  t : Value
def pvC (x : PtV) : List Value := [.int .i64 (JoinS.kindOf x.p), x.b, x.o, x.t]
def pvR (l : List PtV) : List Value := l.flatMap pvC
theorem pvR_app (l m : List PtV) : pvR (l ++ m) = pvR l ++ pvR m := by simp [pvR]
theorem pvR_len (l : List PtV) : (pvR l).length = l.length * 4 := by
  induction l with
  | nil => rfl
  | cons x l ih => show (pvC x ++ pvR l).length = _; rw [List.length_append, ih, List.length_cons]; simp [pvC]; omega
theorem pvR_at (ys : List PtV) (z : PtV) (j : Nat) (hj : j < 4) : (pvR (ys ++ [z]))[ys.length * 4 + j]? = (pvC z)[j]? := by
  rw [pvR_app, List.getElem?_append_right (by rw [pvR_len]; omega), pvR_len, Nat.add_sub_cancel_left]
  simp [pvR]

def FF (q : Nat) (pv : Value) (z : PtV) (b : Nat) : Prop := b ≠ q ∧ pv.ownBlock ≠ some b ∧ z.b.ownBlock ≠ some b ∧ z.o.ownBlock ≠ some b ∧ z.t.ownBlock ≠ some b

/-- The parts: the last one's lists can be written, nobody else looks at them. -/
structure LZ (w0 w : World) (q : Nat) (pv : Value) (ys : List PtV) (z : PtV) : Prop where
  row : OwnG w 182 4 pv (ys ++ [z]).length (pvR (ys ++ [z]))
  zb : OwnG w 9 1 z.b z.p.b.length (lrow z.p.b)
  zo : OwnG w 9 1 z.o z.p.o.length (lrow z.p.o)
  zt : OwnG w 9 1 z.t z.p.t.length (lrow z.p.t)
  nw : ∀ v, v = pv ∨ v = z.b ∨ v = z.o ∨ v = z.t → ∀ k, v.ownBlock = some k → w0.heap.size ≤ k ∧ k ≠ q
  d1 : Db pv z.b
  d2 : Db pv z.o
  d3 : Db pv z.t
  d4 : Db z.b z.o
  d5 : Db z.b z.t
  d6 : Db z.o z.t
  old : ∀ y ∈ ys, Tn w (FF q pv z) y.b y.p.b ∧ Tn w (FF q pv z) y.o y.p.o ∧ Tn w (FF q pv z) y.t y.p.t

def LP (w0 w : World) (q : Nat) (pv : Value) (xs : List PtV) : Prop := (xs = [] ∧ pv = .slice none 0 0) ∨ ∃ ys z, xs = ys ++ [z] ∧ LZ w0 w q pv ys z

theorem kept_ne {w w' : World} {v : Value} {q : Nat} {e : TypeId} {s n : Nat} {xs : List Value} (h : OwnG w e s v n xs) (hg : w.grownBy w' (some q)) (hq : ∀ k, v.ownBlock = some k → k ≠ q) : OwnG w' e s v n xs :=
  h.kept hg (by cases hv : v.ownBlock with
    | none => exact .inl rfl
    | some k => exact .inr (by have := hq k hv; simpa using this))

theorem LZ.keepq {w0 w w' : World} {q : Nat} {pv : Value} {ys : List PtV} {z : PtV} (h : LZ w0 w q pv ys z) (hg : w.grownBy w' (some q)) : LZ w0 w' q pv ys z where
  row := kept_ne h.row hg fun k hk => (h.nw _ (.inl rfl) k hk).2
  zb := kept_ne h.zb hg fun k hk => (h.nw _ (.inr (.inl rfl)) k hk).2
  zo := kept_ne h.zo hg fun k hk => (h.nw _ (.inr (.inr (.inl rfl))) k hk).2
  zt := kept_ne h.zt hg fun k hk => (h.nw _ (.inr (.inr (.inr rfl))) k hk).2
  nw := h.nw
  d1 := h.d1
  d2 := h.d2
  d3 := h.d3
  d4 := h.d4
  d5 := h.d5
  d6 := h.d6
  old y hy := by
    have hk : ∀ b, FF q pv z b → b < w.heap.size → w'.heap[b]? = w.heap[b]? ∧ FF q pv z b := fun b hF hb => ⟨hg.block b hb (by simpa using hF.1), hF⟩
    obtain ⟨h1, h2, h3⟩ := h.old y hy
    exact ⟨h1.keep hg.size hk, h2.keep hg.size hk, h3.keep hg.size hk⟩
theorem LP.keepq {w0 w w' : World} {q : Nat} {pv : Value} {xs : List PtV} (h : LP w0 w q pv xs) (hg : w.grownBy w' (some q)) : LP w0 w' q pv xs :=
  h.imp id fun ⟨ys, z, e, hz⟩ => ⟨ys, z, e, hz.keepq hg⟩

/-- The loom at block q, made since w0. -/
structure LJ (w0 w : World) (q : Nat) (bv ov tv pv : Value) (xs : List PtV) (bs os ts : List ByteArray) : Prop where
  below : Below w0.heap.size w0 w
  q0 : w0.heap.size ≤ q
  blk : w.heap[q]? = some (.cells #[bv, ov, tv, pv] 179 (0, 0))
  tb : Tn w (fun b => b < w0.heap.size) bv bs
  to_ : Tn w (fun b => b < w0.heap.size) ov os
  tt : Tn w (fun b => b < w0.heap.size) tv ts
  parts : LP w0 w q pv xs

section
variable {w0 w w' : World} {q : Nat} {bv ov tv pv : Value} {xs : List PtV} {bs os ts : List ByteArray}
theorem LJ.lt (h : LJ w0 w q bv ov tv pv xs bs os ts) : q < w.heap.size := (Array.getElem?_eq_some_iff.1 h.blk).1
theorem LJ.c0 (h : LJ w0 w q bv ov tv pv xs bs os ts) : w.cell? ⟨q, 0, none⟩ = some bv := by simp only [World.cell?, h.blk]; rfl
theorem LJ.c1 (h : LJ w0 w q bv ov tv pv xs bs os ts) : w.cell? ⟨q, 1, none⟩ = some ov := by simp only [World.cell?, h.blk]; rfl
theorem LJ.c2 (h : LJ w0 w q bv ov tv pv xs bs os ts) : w.cell? ⟨q, 2, none⟩ = some tv := by simp only [World.cell?, h.blk]; rfl
theorem LJ.c3 (h : LJ w0 w q bv ov tv pv xs bs os ts) : w.cell? ⟨q, 3, none⟩ = some pv := by simp only [World.cell?, h.blk]; rfl
theorem LJ.fz (h : LJ w0 w q bv ov tv pv xs bs os ts) (j : Nat) : w.frozen? ⟨q, j, none⟩ = false := by simp [World.frozen?, h.blk]

theorem tn_q {F : Nat → Prop} {v : Value} {l : List ByteArray} {k0 : Nat} (h : Tn w F v l) (hF : ∀ b, F b → b < k0) (hq : k0 ≤ q) (hg : w.grownBy w' (some q)) : Tn w' F v l :=
  h.keep hg.size fun b hb hl => ⟨hg.block b hl (by have := hF b hb; simp; omega), hb⟩

/-- The block is turned, the rest may have grown. -/
theorem LJ.turn {bv' ov' tv' : Value} {bs' os' ts' : List ByteArray} (h : LJ w0 w q bv ov tv pv xs bs os ts) (hg : w.grownBy w' (some q)) (hb : w'.heap[q]? = some (.cells #[bv', ov', tv', pv] 179 (0, 0)))
    (h1 : Tn w (fun b => b < w0.heap.size) bv' bs') (h2 : Tn w (fun b => b < w0.heap.size) ov' os') (h3 : Tn w (fun b => b < w0.heap.size) tv' ts') : LJ w0 w' q bv' ov' tv' pv xs bs' os' ts' where
  below := h.below.grown hg h.below.size fun k hk => by injection hk with hk; subst hk; exact h.q0
  q0 := h.q0
  blk := hb
  tb := tn_q h1 (fun _ h => h) h.q0 hg
  to_ := tn_q h2 (fun _ h => h) h.q0 hg
  tt := tn_q h3 (fun _ h => h) h.q0 hg
  parts := h.parts.keepq hg
theorem LJ.grow (h : LJ w0 w q bv ov tv pv xs bs os ts) (hb : Below w.heap.size w w') : LJ w0 w' q bv ov tv pv xs bs os ts := by
  have hg : w.grownBy w' (some q) := ⟨hb.os, hb.tape, hb.output, hb.size, fun k hk _ => hb.block k hk⟩
  exact h.turn hg ((hb.block q h.lt).trans h.blk) h.tb h.to_ h.tt

theorem grown_none (hb : Below w.heap.size w w') (r : Option Nat) : w.grownBy w' r := ⟨hb.os, hb.tape, hb.output, hb.size, fun k hk _ => hb.block k hk⟩
theorem grown_set (w : World) (q i : Nat) (v : Value) : w.grownBy (w.setCell ⟨q, i, none⟩ v) (some q) :=
  ⟨rfl, rfl, rfl, by simp [World.setCell], fun k hk hne => by
    simp only [World.setCell]
    rw [Array.getElem?_modify, if_neg (fun e1 => hne (by rw [e1]))]⟩

/-- What 'cut' leaves: a new row, the loom's list shorter. -/
def CutP (w : World) (q : Nat) (l : List ByteArray) (n : Nat) (L : World → Value → Prop) (e : Ending) (w' : World) : Prop :=
  ∃ v' u, e = .returned v' ∧ L w' u ∧ OwnG w' 9 1 v' (l.take n).length (lrow (l.take n)) ∧ (∀ k, v'.ownBlock = some k → w.heap.size ≤ k ∧ k < w'.heap.size) ∧ w.grownBy w' (some q)

theorem cut_own {w w1 : World} {q i n : Nat} {v' v2 : Value} {l : List ByteArray} (hq : q < w.heap.size) (hn : n ≤ l.length) (ho : w1.ownsRow w.heap.size 9 1 v' n (lrow (l.take n))) : OwnG (w1.setCell ⟨q, i, none⟩ v2) 9 1 v' (l.take n).length (lrow (l.take n)) := by
  have e : (l.take n).length = n := by rw [List.length_take]; omega
  rw [e]
  exact kept_ne (OwnG.of_own ho) (grown_set w1 q i v2) fun k hk => by have := (ho.lt k hk).1; omega

theorem LJ.cut0 (h : LJ w0 w q bv ov tv pv xs bs os ts) {n : Nat} (hn : n ≤ bs.length) (hl : bs.length ≤ 10000000) :
    Calls Tryz.prog 126 #[.pointer (some ⟨q, 0, none⟩), .int .i64 n] w (CutP w q bs n fun w' u => LJ w0 w' q u ov tv pv xs (bs.drop n) os ts) := by
  refine (cut_c h.c0 (h.fz 0) h.tb hn hl).mono ?_
  rintro e w' ⟨v', v2, w1, rfl, ho, ht, hb, rfl⟩
  have hg := (grown_none hb (some q)).trans (grown_set w1 q 0 v2)
  have hs := (set_blk (((hb.block q h.lt).trans h.blk)) 0 v2).1
  exact ⟨v', v2, rfl, h.turn hg hs ht h.to_ h.tt, cut_own h.lt hn ho, fun k hk => ⟨(ho.lt k hk).1, by simpa [World.setCell] using (ho.lt k hk).2⟩, hg⟩
theorem LJ.cut1 (h : LJ w0 w q bv ov tv pv xs bs os ts) {n : Nat} (hn : n ≤ os.length) (hl : os.length ≤ 10000000) :
    Calls Tryz.prog 126 #[.pointer (some ⟨q, 1, none⟩), .int .i64 n] w (CutP w q os n fun w' u => LJ w0 w' q bv u tv pv xs bs (os.drop n) ts) := by
  refine (cut_c h.c1 (h.fz 1) h.to_ hn hl).mono ?_
  rintro e w' ⟨v', v2, w1, rfl, ho, ht, hb, rfl⟩
  have hg := (grown_none hb (some q)).trans (grown_set w1 q 1 v2)
  have hs := (set_blk (((hb.block q h.lt).trans h.blk)) 1 v2).1
  exact ⟨v', v2, rfl, h.turn hg hs h.tb ht h.tt, cut_own h.lt hn ho, fun k hk => ⟨(ho.lt k hk).1, by simpa [World.setCell] using (ho.lt k hk).2⟩, hg⟩
theorem LJ.cut2 (h : LJ w0 w q bv ov tv pv xs bs os ts) {n : Nat} (hn : n ≤ ts.length) (hl : ts.length ≤ 10000000) :
    Calls Tryz.prog 126 #[.pointer (some ⟨q, 2, none⟩), .int .i64 n] w (CutP w q ts n fun w' u => LJ w0 w' q bv ov u pv xs bs os (ts.drop n)) := by
  refine (cut_c h.c2 (h.fz 2) h.tt hn hl).mono ?_
  rintro e w' ⟨v', v2, w1, rfl, ho, ht, hb, rfl⟩
  have hg := (grown_none hb (some q)).trans (grown_set w1 q 2 v2)
  have hs := (set_blk (((hb.block q h.lt).trans h.blk)) 2 v2).1
  exact ⟨v', v2, rfl, h.turn hg hs h.tb h.to_ ht, cut_own h.lt hn ho, fun k hk => ⟨(ho.lt k hk).1, by simpa [World.setCell] using (ho.lt k hk).2⟩, hg⟩
end
end Go.Proofs.YtpcipdkoncmdcaaGreatDoor
namespace Go.Proofs.YtpcipdkoncmdcaaGreatDoor
open Go Go.RowKit
section
variable {P : Program} {ops : Array Oper} {md : Region.Mode} {Q : Exit → Act → World → Prop} {S : World → Prop}
/-- j waits for i, directly or through others. -/
def waitsT (md : Region.Mode) (ops : Array Oper) : Nat → Nat → Nat → Bool
  | 0, j, i => Region.waitsFor md ops j i
  | n + 1, j, i => Region.waitsFor md ops j i || (List.range ops.size).any fun k => Region.waitsFor md ops j k && waitsT md ops n k i
/-- What has come up has all that it waits for behind it. -/
def Closed (md : Region.Mode) (ops : Array Oper) (up : Array Bool) : Prop := ∀ k ok, ops[k]? = some ok → up.getD k false = true → ∀ e ∈ ok.after, Region.binds md e = true → up.getD e.on false = true
theorem Closed.set {up : Array Bool} {i : Nat} (h : Closed md ops up) (hi : i ∈ Region.ready md ops up) : Closed md ops (up.setIfInBounds i true) := by
  obtain ⟨_, oi, hoi, hall⟩ := mem_ready.1 hi
  intro j oj hj hl e he hb
  by_cases hij : i = j
  · subst hij
    have : oj = oi := Option.some.inj (hj.symm.trans hoi)
    subst this
    exact getD_set_true (hall e he hb)
  · rw [getD_set_ne false hij] at hl
    exact getD_set_true (h j oj hj hl e he hb)
theorem Closed.none (n : Nat) : Closed md ops (Array.replicate n false) := by
  intro k ok _ h
  rw [Array.getD_eq_getD_getElem?, Array.getElem?_replicate] at h
  split at h <;> simp at h
theorem waitsT_false {up : Array Bool} {i : Nat} (hc : Closed md ops up) (hi : up.getD i true = false) : ∀ (n j : Nat) (oj : Oper), ops[j]? = some oj → (∀ e ∈ oj.after, Region.binds md e = true → up.getD e.on false = true) → waitsT md ops n j i = false := by
  have base : ∀ (j : Nat) (oj : Oper), ops[j]? = some oj → (∀ e ∈ oj.after, Region.binds md e = true → up.getD e.on false = true) → Region.waitsFor md ops j i = false := fun j oj hj hd => waits_false hj fun e he hb heq => by
    have h1 := hd e he hb
    rw [heq, getD_both hi] at h1
    cases h1
  intro n
  induction n with
  | zero => exact base
  | succ n ih =>
    intro j oj hj hd
    unfold waitsT
    rw [base j oj hj hd, Bool.false_or, List.any_eq_false]
    intro k _ hk
    simp only [Bool.and_eq_true] at hk
    obtain ⟨o', ho', e, he, hb, hon⟩ := Region.waitsFor_spec hk.1
    have : o' = oj := Option.some.inj (ho'.symm.trans hj)
    subst this
    have hl := hd e he hb
    rw [hon] at hl
    cases hok : ops[k]? with
    | none =>
      have h2 := hk.2
      have hw : ∀ (n : Nat) (x : Nat), ops[k]? = none → waitsT md ops n k x = false := by
        intro n x h0
        have hb0 : ∀ y, Region.waitsFor md ops k y = false := fun y => by
          cases hw : Region.waitsFor md ops k y with
          | false => rfl
          | true => obtain ⟨o2, h2, _⟩ := Region.waitsFor_spec hw; rw [h0] at h2; cases h2
        cases n with
        | zero => exact hb0 x
        | succ n => unfold waitsT; simp [hb0]
      rw [hw n i hok] at h2; cases h2
    | some ok =>
      have := ih k ok hok (hc k ok hok hl)
      rw [this] at hk
      exact absurd hk.2 (by simp)

/-- What pends behind operation j. -/
def pend (md : Region.Mode) (ops : Array Oper) (j : Nat) (ds : List Nat) : List Nat := ds.filter fun i => !waitsT md ops 1 j i

def wpAnyV (P : Program) (md : Region.Mode) (ops : Array Oper) (Q : Exit → Act → World → Prop) (S : World → Prop) : Nat → List Nat → Array Bool → Act → World → Prop
  | 0, _, listed, a, w => Region.ready md ops listed = [] ∧ Q .normal a w
  | fuel + 1, ds, listed, a, w =>
    (Region.ready md ops listed = [] → Q .normal a w) ∧
    ∀ j ∈ Region.ready md ops listed, wpOp P ops Q j (fun a' w' => (pend md ops j ds ≠ [] → S w') ∧ wpAnyV P md ops Q S fuel (pend md ops j ds) (listed.setIfInBounds j true) a' w') a w

theorem wpAny_of_V : ∀ (fuel : Nat) (ds : List Nat) (listed : Array Bool) (a : Act) (w : World), wpAnyV P md ops Q S fuel ds listed a w → wpAny P md ops Q fuel listed a w
  | 0, _, _, _, _, h => h
  | fuel + 1, _, _, _, _, h => ⟨h.1, fun j hj => wpOp_mono (fun a' w' h' => wpAny_of_V fuel _ _ a' w' h'.2) (h.2 j hj)⟩

theorem pend_sub {j : Nat} {ds ds' : List Nat} (h : ∀ i ∈ ds', i ∈ ds) : ∀ i ∈ pend md ops j ds', i ∈ pend md ops j ds := by
  intro i hi
  obtain ⟨h1, h2⟩ := List.mem_filter.1 hi
  exact List.mem_filter.2 ⟨h i h1, h2⟩
theorem ne_of_sub {ds ds' : List Nat} (h : ∀ i ∈ ds', i ∈ ds) (h0 : ds' ≠ []) : ds ≠ [] := by
  rintro rfl
  cases ds' with
  | nil => exact h0 rfl
  | cons a l => exact absurd (h a (by simp)) (by simp)
theorem wpAnyV_mono : ∀ (fuel : Nat) (ds ds' : List Nat) (listed : Array Bool) (a : Act) (w : World), (∀ i ∈ ds', i ∈ ds) → wpAnyV P md ops Q S fuel ds listed a w → wpAnyV P md ops Q S fuel ds' listed a w
  | 0, _, _, _, _, _, _, h => h
  | fuel + 1, _, _, _, _, _, hs, h => ⟨h.1, fun j hj => wpOp_mono (fun a' w' h' => ⟨fun h0 => h'.1 (ne_of_sub (pend_sub hs) h0), wpAnyV_mono fuel _ _ _ a' w' (pend_sub hs) h'.2⟩) (h.2 j hj)⟩

/-- One that is taken first: ds' pends behind it. -/
theorem wpAnyV_first {S' : World → Prop} {i : Nat} {oi : Oper} {v : Value} (hi : ops[i]? = some oi) (hsel : ∀ (j : Nat) (o : Oper) cs b, ops[j]? = some o → o.op ≠ .select cs b)
    (hQ : ∀ c a w, Q (.panic c) (a.put oi.dst v) w → Q (.panic c) a w) :
    ∀ (fuel : Nat) (ds ds' : List Nat) (listed : Array Bool) (a : Act) (w : World), Closed md ops listed → (∀ x ∈ ds, x ∈ ds') → ((i ∈ ds' ∧ ∀ w, S w → S' w) ∨ ∀ w, S' w) →
      (∀ j oj, ops[j]? = some oj → j ≠ i → listed.getD j true = false → (∀ e ∈ oj.after, Region.binds md e = true → e.on ≠ i) → oi.apart ops oj = true) →
      i ∈ Region.ready md ops listed → YieldsIf P ops S' oi v a → (ds' ≠ [] → S w) →
      wpAnyV P md ops Q S fuel ds' (listed.setIfInBounds i true) (a.put oi.dst v) w → wpAnyV P md ops Q S (fuel + 1) ds listed a w := by
  intro fuel
  induction fuel with
  | zero =>
    intro ds ds' listed a w hC hsub hcl _ hr hy hS H
    have hS' : S' w := hcl.elim (fun h => h.2 w (hS (fun e => by rw [e] at h; exact absurd h.1 (by simp)))) fun h => h w
    refine ⟨fun h => (by rw [h] at hr; cases hr), fun j hj => ?_⟩
    by_cases hji : j = i
    · subst hji
      exact hy.wpOp hi hS' ⟨fun h0 => hS (ne_of_sub hsub (ne_of_sub (fun x hx => (List.mem_filter.1 hx).1) h0)), H⟩
    · have := ready_mono hj hji
      rw [H.1] at this
      cases this
  | succ fuel ih =>
    intro ds ds' listed a w hC hsub hcl hfree hr hy hS H
    have hS' : S' w := hcl.elim (fun h => h.2 w (hS (fun e => by rw [e] at h; exact absurd h.1 (by simp)))) fun h => h w
    refine ⟨fun h => (by rw [h] at hr; cases hr), fun j hj => ?_⟩
    by_cases hji : j = i
    · subst hji
      exact hy.wpOp hi hS' ⟨fun h0 => hS (ne_of_sub hsub (ne_of_sub (fun x hx => (List.mem_filter.1 hx).1) h0)), wpAnyV_mono _ _ _ _ _ _ (fun x hx => hsub x (List.mem_filter.1 hx).1) H⟩
    · have h1 := H.2 j (ready_mono hj hji)
      obtain ⟨hjun, oj, hoj, hall⟩ := mem_ready.1 hj
      have hnot : ∀ e ∈ oj.after, Region.binds md e = true → e.on ≠ i := fun e he hb heq => by
        have h1 := hall e he hb
        have h0 := (mem_ready.1 hr).1
        rw [heq] at h1
        rcases Nat.lt_or_ge i listed.size with h' | h'
        · simp [h'] at h0 h1; rw [h0] at h1; cases h1
        · simp [Array.getElem?_eq_none h'] at h1
      have h2 := wpOp_putIf hoj (hfree j oj hoj hji hjun hnot) (fun cs b => hsel i oi cs b hi) (fun cs b => hsel j oj cs b hoj) hQ hy h1
      have hfree' : ∀ k ok, ops[k]? = some ok → k ≠ i → (listed.setIfInBounds j true).getD k true = false →
          (∀ e ∈ ok.after, Region.binds md e = true → e.on ≠ i) → oi.apart ops ok = true := fun k ok hk hki hun hno => by
        refine hfree k ok hk hki ?_ hno
        by_cases hjk : j = k
        · subst hjk; exact hjun
        · rw [getD_set_ne true hjk] at hun; exact hun
      have hcl' : (i ∈ pend md ops j ds' ∧ ∀ w, S w → S' w) ∨ ∀ w, S' w :=
        hcl.imp (fun ⟨g1, g2⟩ => ⟨List.mem_filter.2 ⟨g1, by rw [waitsT_false hC (mem_ready.1 hr).1 1 j oj hoj hall]; rfl⟩, g2⟩) id
      refine wpOp_mono (fun a' w' h3 => ⟨fun h0 => h3.2.1 (ne_of_sub (pend_sub hsub) h0), ih _ (pend md ops j ds') (listed.setIfInBounds j true) a' w' (hC.set (mem_ready.2 ⟨hjun, oj, hoj, hall⟩)) (pend_sub hsub) hcl' hfree' (ready_mono hr (Ne.symm hji)) h3.1 h3.2.1 ?_⟩) h2
      rw [Array.setIfInBounds_comm _ _ hji]
      exact h3.2.2

/-- The walk: what is taken pends or not. -/
def goZ (P : Program) (md : Region.Mode) (ops : Array Oper) (Q : Exit → Act → World → Prop) (S : World → Prop) : HT → List Nat → Act → World → Prop
  | .nil, _, a, w => Q .normal a w
  | .tk k t, ds, a, w => ∃ o, ops[k]? = some o ∧ ∃ v, ((YieldsIf P ops S o v a ∧ S w ∧ goZ P md ops Q S t (k :: ds) (a.put o.dst v) w) ∨ (Yields P ops o v a ∧ goZ P md ops Q S t ds (a.put o.dst v) w))
  | .fc k t, ds, a, w => ∃ o, ops[k]? = some o ∧ wpList P ops (Exit.then (fun a' w' => (pend md ops k ds ≠ [] → S w') ∧ goZ P md ops Q S t (pend md ops k ds) a' w') Q) [o] a w
  | .br i ti j tj, ds, a, w => (∃ o, ops[i]? = some o ∧ wpList P ops (Exit.then (fun a' w' => (pend md ops i ds ≠ [] → S w') ∧ goZ P md ops Q S ti (pend md ops i ds) a' w') Q) [o] a w) ∧ (∃ o, ops[j]? = some o ∧ wpList P ops (Exit.then (fun a' w' => (pend md ops j ds ≠ [] → S w') ∧ goZ P md ops Q S tj (pend md ops j ds) a' w') Q) [o] a w)

theorem goZ_wp (hsel : Region.noSelect ops = true) (hQ : ∀ (d : Tmp) (v : Value) c a w, Q (.panic c) (a.put (some d) v) w → Q (.panic c) a w) :
    ∀ (t : HT) (n : Nat) (ds : List Nat) (up : Array Bool) (a : Act) (w : World), okT md ops t n up = true → Closed md ops up → (ds ≠ [] → S w) → goZ P md ops Q S t ds a w → wpAnyV P md ops Q S n ds up a w
  | .nil, n, ds, up, a, w, hB, _, _, h => by
    simp only [okT, Bool.and_eq_true, decide_eq_true_eq] at hB
    obtain ⟨rfl, h2⟩ := hB
    exact ⟨h2, h⟩
  | .tk k t, n + 1, ds, up, a, w, hB, hC, hS, h => by
    simp only [okT, Bool.and_eq_true] at hB
    obtain ⟨⟨hr, hf⟩, hB'⟩ := hB
    obtain ⟨o, ho, v, h⟩ := h
    have hq : ∀ c a w, Q (.panic c) (a.put o.dst v) w → Q (.panic c) a w := fun c a w h => by cases hd : o.dst with | none => rw [hd] at h; exact h | some t => rw [hd] at h; exact hQ t v c a w h
    rcases h with ⟨hy, hw, h⟩ | ⟨hy, h⟩
    · exact wpAnyV_first (S' := S) ho (Region.noSelect_spec hsel) hq n ds (k :: ds) up a w hC (fun x hx => by simp [hx]) (.inl ⟨by simp, fun _ h => h⟩) (Region.free_spec ho hf) (by simpa using hr) hy (fun _ => hw) (goZ_wp hsel hQ t n _ _ _ _ hB' (hC.set (by simpa using hr)) (fun _ => hw) h)
    · exact wpAnyV_first (S' := fun _ => True) ho (Region.noSelect_spec hsel) hq n ds ds up a w hC (fun x hx => hx) (.inr fun _ => trivial) (Region.free_spec ho hf) (by simpa using hr) hy.yieldsIf hS (goZ_wp hsel hQ t n _ _ _ _ hB' (hC.set (by simpa using hr)) hS h)
  | .fc k t, n + 1, ds, up, a, w, hB, hC, hS, h => by
    simp only [okT, Bool.and_eq_true, decide_eq_true_eq] at hB
    refine ⟨fun h1 => (by rw [hB.1] at h1; cases h1), fun j hj => ?_⟩
    have hik : j = k := by rw [hB.1] at hj; simpa using hj
    subst hik
    exact wpOp_mono (fun a' w' h' => ⟨h'.1, goZ_wp hsel hQ t n _ _ a' w' hB.2 (hC.set hj) h'.1 h'.2⟩) (wpT_one h)
  | .br i ti j tj, n + 1, ds, up, a, w, hB, hC, hS, h => by
    simp only [okT, Bool.and_eq_true, decide_eq_true_eq] at hB
    refine ⟨fun h1 => (by rw [hB.1.1] at h1; cases h1), fun m hm => ?_⟩
    have hm' : m = i ∨ m = j := by rw [hB.1.1] at hm; simpa using hm
    rcases hm' with rfl | rfl
    · exact wpOp_mono (fun a' w' h' => ⟨h'.1, goZ_wp hsel hQ ti n _ _ a' w' hB.1.2 (hC.set hm) h'.1 h'.2⟩) (wpT_one h.1)
    · exact wpOp_mono (fun a' w' h' => ⟨h'.1, goZ_wp hsel hQ tj n _ _ a' w' hB.2 (hC.set hm) h'.1 h'.2⟩) (wpT_one h.2)
  | .tk _ _, 0, _, _, _, _, hB, _, _, _ => by simp [okT] at hB
  | .fc _ _, 0, _, _, _, _, hB, _, _, _ => by simp [okT] at hB
  | .br _ _ _ _, 0, _, _, _, _, hB, _, _, _ => by simp [okT] at hB

theorem wp_region_hz {id : Nat} {a : Act} {w : World} {l : List Oper} (S : World → Prop) (t : HT) (hm : P.follows .mixedOrders = true)
    (hB : (Region.noSelect l.toArray && okT .any l.toArray t l.toArray.size (Array.replicate l.toArray.size false)) = true)
    (hQ : ∀ (d : Tmp) (v : Value) c a w, Q (.panic c) (a.put (some d) v) w → Q (.panic c) a w)
    (h : goZ P .any l.toArray Q S t [] a (w.drewN 1)) : (Code.region id l.toArray true).wp P Q a w := by
  simp only [Bool.and_eq_true] at hB
  exact wp_region_any hm (wpAny_of_V _ _ _ _ _ (goZ_wp (md := .any) hB.1 hQ t _ [] _ a _ hB.2 (Closed.none _) (fun h => absurd rfl h) h))

variable {k : Nat} {t : HT} {o : Oper} {T : Array Value} {D : List Deferred} {w : World} {ds : List Nat}
theorem goZ_end {a : Act} (h : Q .normal a w) : goZ P md ops Q S .nil ds a w := h
/-- A pure one. -/
theorem goZ_tk (ho : ops[k]? = some o) (hg : Region.wanted o (yielded ops T) = true) (d : Nat) (hd : o.dst = some d) (v : Value) (hv : ∀ w, (execOp (Act.eval ⟨T, D⟩) o).run P w = .ok (.value v) w) (h : goZ P md ops Q S t ds ⟨T.setIfInBounds d v, D⟩ w) : goZ P md ops Q S (.tk k t) ds ⟨T, D⟩ w :=
  ⟨o, ho, v, .inr ⟨.inl ⟨hg, hv⟩, by rw [hd]; exact h⟩⟩
/-- One that reads under S. -/
theorem goZ_rd (ho : ops[k]? = some o) (hg : Region.wanted o (yielded ops T) = true) (d : Nat) (hd : o.dst = some d) (v : Value) (hv : ∀ w, S w → (execOp (Act.eval ⟨T, D⟩) o).run P w = .ok (.value v) w) (hS : S w) (h : goZ P md ops Q S t (k :: ds) ⟨T.setIfInBounds d v, D⟩ w) : goZ P md ops Q S (.tk k t) ds ⟨T, D⟩ w :=
  ⟨o, ho, v, .inl ⟨.inl ⟨hg, hv⟩, hS, by rw [hd]; exact h⟩⟩
/-- A load under S. -/
theorem goZ_ld (ho : ops[k]? = some o) (hg : Region.wanted o (yielded ops T) = true) (d : Nat) (hd : o.dst = some d) (ty : TypeId) (x : Operand) (hop : o.op = .load ty x) (ad : Addr) (v : Value) (hx : Act.eval ⟨T, D⟩ x = .pointer (some ad))
    (hrun : ∀ w, S w → (Instr.loadAt ty (.pointer (some ad))).run P w = .ok v w) (hS : S w) (h : goZ P md ops Q S t (k :: ds) ⟨T.setIfInBounds d v, D⟩ w) : goZ P md ops Q S (.tk k t) ds ⟨T, D⟩ w :=
  goZ_rd ho hg d hd v (fun w hS => by unfold execOp; simp only [hop, hx, Sem.run_bind, hrun w hS, Result.andThen_ok, Sem.run_pure]) hS h
theorem goZ_no (ho : ops[k]? = some o) (hg : Region.wanted o (yielded ops T) = false) (d : Nat) (hd : o.dst = some d) (h : goZ P md ops Q S t ds ⟨T.setIfInBounds d undef, D⟩ w) : goZ P md ops Q S (.tk k t) ds ⟨T, D⟩ w :=
  ⟨o, ho, undef, .inr ⟨.inr ⟨hg, rfl⟩, by rw [hd]; exact h⟩⟩
theorem goZ_br {i j : Nat} {ti tj : HT} (h1 : goZ P md ops Q S (.fc i ti) ds ⟨T, D⟩ w) (h2 : goZ P md ops Q S (.fc j tj) ds ⟨T, D⟩ w) : goZ P md ops Q S (.br i ti j tj) ds ⟨T, D⟩ w := ⟨h1, h2⟩

variable {ds' : List Nat}
/-- A value; the world turns to w'. -/
theorem goZ_val (ho : ops[k]? = some o) (hg : Region.wanted o (yielded ops T) = true) (hp : pend md ops k ds = ds') (d : Nat) (hd : o.dst = some d) (v : Value) (w' : World) (hv : (execOp (Act.eval ⟨T, D⟩) o).run P w = .ok (.value v) w') (hS : ds' ≠ [] → S w') (h : goZ P md ops Q S t ds' ⟨T.setIfInBounds d v, D⟩ w') : goZ P md ops Q S (.fc k t) ds ⟨T, D⟩ w :=
  ⟨o, ho, wpList_step fun K hK => by
    rw [if_pos hg]
    unfold Oper.wp
    rw [hv]
    exact hK _ _ (by rw [hp]; exact ⟨hS, by rw [hd]; exact h⟩)⟩
/-- A store. -/
theorem goZ_st (ho : ops[k]? = some o) (hg : Region.wanted o (yielded ops T) = true) (hp : pend md ops k ds = ds') (hd : o.dst = none) (ty : TypeId) (x y : Operand) (hop : o.op = .store ty x y) (ad : Addr) (u : Value) (hx : Act.eval ⟨T, D⟩ x = .pointer (some ad)) (hy : Act.eval ⟨T, D⟩ y = u) (w' : World)
    (hrun : (Instr.storeAt ty (.pointer (some ad)) u).run P w = .ok () w') (hS : ds' ≠ [] → S w') (h : goZ P md ops Q S t ds' ⟨T, D⟩ w') : goZ P md ops Q S (.fc k t) ds ⟨T, D⟩ w :=
  ⟨o, ho, wpList_step fun K hK => by
    rw [if_pos hg]
    unfold Oper.wp execOp
    simp only [hop, hx, hy, Sem.run_bind, hrun, Result.andThen_ok, Sem.run_pure]
    exact hK _ _ (by rw [hp]; exact ⟨hS, by rw [hd]; exact h⟩)⟩
theorem goZ_call (ho : ops[k]? = some o) (hg : Region.wanted o (yielded ops T) = true) (hp : pend md ops k ds = ds') (d : Nat) (hd : o.dst = some d) (f : FuncId) (l : List Operand) {ats : Array TypeId} (hop : o.op = .call { callee := .value (.func f), args := l.toArray, argTypes := ats })
    (vs : List Value) (hl : l.map (Act.eval ⟨T, D⟩) = vs) (hen : ∀ args w, (callFunc f args).run P w = .ok (.enter f args) w)
    (h : Calls P f vs.toArray w fun e w' => ∃ u, e = .returned u ∧ (ds' ≠ [] → S w') ∧ goZ P md ops Q S t ds' ⟨T.setIfInBounds d u, D⟩ w') : goZ P md ops Q S (.fc k t) ds ⟨T, D⟩ w := by
  refine ⟨o, ho, wpList_step fun K hK => ?_⟩
  rw [if_pos hg]
  unfold Oper.wp
  have hrun : (execOp (Act.eval ⟨T, D⟩) o).run P w = .ok (.enter f vs.toArray) w := by
    obtain ⟨d', op, ty, pos, af, gd⟩ := o
    simp only at hop
    subst hop
    rw [execOp_call_go]
    have e : (#[] ++ l.toArray.map (Act.eval ⟨T, D⟩) ++ #[] : Array Value) = vs.toArray := by rw [← hl]; simp
    rw [e]
    exact hen _ _
  rw [hrun]
  exact h.mono fun _ _ ⟨u, h1, h2, h3⟩ => by subst h1; exact hK _ _ (by rw [hp]; exact ⟨h2, by rw [hd]; exact h3⟩)
/-- A call that is resolved while it runs (a method of an interface). -/
theorem goZ_enter (ho : ops[k]? = some o) (hg : Region.wanted o (yielded ops T) = true) (hp : pend md ops k ds = ds') (d : Nat) (hd : o.dst = some d) (f : FuncId) (args : Array Value) (hrun : (execOp (Act.eval ⟨T, D⟩) o).run P w = .ok (.enter f args) w)
    (h : Calls P f args w fun e w' => ∃ u, e = .returned u ∧ (ds' ≠ [] → S w') ∧ goZ P md ops Q S t ds' ⟨T.setIfInBounds d u, D⟩ w') : goZ P md ops Q S (.fc k t) ds ⟨T, D⟩ w :=
  ⟨o, ho, wpList_step fun K hK => by
    rw [if_pos hg]
    unfold Oper.wp
    rw [hrun]
    exact h.mono fun _ _ ⟨u, h1, h2, h3⟩ => by subst h1; exact hK _ _ (by rw [hp]; exact ⟨h2, by rw [hd]; exact h3⟩)⟩
/-- The same, the frame written out. -/
theorem goZ_lawd (hp : pend md ops k ds = ds') (d : Nat) (h : ∃ o, ops[k]? = some o ∧ o.dst = some d ∧ ∀ K' : Act → World → Prop, (∀ v w', ((ds' ≠ [] → S w') ∧ goZ P md ops Q S t ds' ⟨T.setIfInBounds d v, D⟩ w') → K' (Act.put ⟨T, D⟩ o.dst v) w') → wpList P ops (Exit.then K' Q) [o] ⟨T, D⟩ w) : goZ P md ops Q S (.fc k t) ds ⟨T, D⟩ w := by
  obtain ⟨o, ho, hd, h⟩ := h
  subst hp
  refine ⟨o, ho, h _ fun v w' h => ?_⟩
  rw [hd]
  exact h
/-- The branches meet at R. -/
theorem goZ_meet {R : Act → World → Prop} (h2 : ∀ a w, R a w → Q .normal a w) : ∀ (t : HT) (ds : List Nat) (a : Act) (w : World), goZ P md ops (Exit.then R Q) S t ds a w → goZ P md ops Q S t ds a w
  | .nil, _, a, w, h => h2 a w h
  | .tk k t, ds, a, w, ⟨o, ho, v, h⟩ => ⟨o, ho, v, h.imp (fun ⟨g1, g2, g3⟩ => ⟨g1, g2, goZ_meet h2 t _ _ _ g3⟩) fun ⟨g1, g2⟩ => ⟨g1, goZ_meet h2 t _ _ _ g2⟩⟩
  | .fc k t, ds, a, w, ⟨o, ho, h⟩ => ⟨o, ho, by rw [then_then] at h; exact wpList1_mono (fun a' w' h' => ⟨h'.1, goZ_meet h2 t _ _ _ h'.2⟩) h⟩
  | .br i ti j tj, ds, a, w, ⟨⟨o, ho, h⟩, ⟨o', ho', h'⟩⟩ => ⟨⟨o, ho, by rw [then_then] at h; exact wpList1_mono (fun a' w' h' => ⟨h'.1, goZ_meet h2 ti _ _ _ h'.2⟩) h⟩, ⟨o', ho', by rw [then_then] at h'; exact wpList1_mono (fun a' w' h' => ⟨h'.1, goZ_meet h2 tj _ _ _ h'.2⟩) h'⟩⟩
end
end Go.Proofs.YtpcipdkoncmdcaaGreatDoor
namespace Go.Proofs.YtpcipdkoncmdcaaGreatDoor
open Go Go.RowKit
theorem own_one {w : World} {e : TypeId} {s : Nat} {v : Value} {n : Nat} {xs : List Value} (h : OwnG w e s v n xs) : v.oneCell' = true := by
  rcases h.2 with ⟨rfl, _⟩ | ⟨g, o, cap, cur, rfl, _⟩ <;> rfl

structure R1 (w0 w W : World) (q : Nat) (pv : Value) (xs : List PtV) (bs os ts : List ByteArray) (rows : List (Value × List ByteArray)) (c8 : Option Nat) : Prop where
  lj : ∃ bv ov tv, LJ w0 W q bv ov tv pv xs bs os ts
  own : ∀ r ∈ rows, OwnG W 9 1 r.1 r.2.length (lrow r.2) ∧ ∀ k, r.1.ownBlock = some k → w.heap.size ≤ k
  dis : rows.Pairwise fun r s => Db r.1 s.1
  c8 : ∀ c, c8 = some c → W.heap[c]? = some (.cells #[.int .i64 0, .slice none 0 0, .slice none 0 0, .slice none 0 0] 182 (0, 0)) ∧ w.heap.size ≤ c ∧ ∀ r ∈ rows, r.1.ownBlock ≠ some c
  gr : w.grownBy W (some q)
  hq : q < w.heap.size
  lp : LP w0 w q pv xs

section
variable {w0 w W W' : World} {q : Nat} {pv : Value} {xs : List PtV} {bs os ts bs' os' ts' : List ByteArray} {rows : List (Value × List ByteArray)} {c8 : Option Nat}
theorem R1.start {bv ov tv : Value} (h : LJ w0 w q bv ov tv pv xs bs os ts) : R1 w0 w (w.drewN 1) q pv xs bs os ts [] none where
  lj := ⟨bv, ov, tv, h.grow (below_dN (Below.refl _ w) 1)⟩
  own := fun r hr => by cases hr
  dis := .nil
  c8 := fun c h => by cases h
  gr := grown_none (below_dN (Below.refl _ w) 1) _
  hq := h.lt
  lp := h.parts

theorem R1.push (h : R1 w0 w W q pv xs bs os ts rows c8) (hg : W.grownBy W' (some q)) (hj : ∃ bv ov tv, LJ w0 W' q bv ov tv pv xs bs' os' ts') {v : Value} {l : List ByteArray} (ho : OwnG W' 9 1 v l.length (lrow l)) (hn : ∀ k, v.ownBlock = some k → W.heap.size ≤ k ∧ k < W'.heap.size) :
    R1 w0 w W' q pv xs bs' os' ts' ((v, l) :: rows) c8 where
  lj := hj
  own r hr := by
    rcases List.mem_cons.1 hr with rfl | hr
    · exact ⟨ho, fun k hk => Nat.le_trans h.gr.size (hn k hk).1⟩
    · obtain ⟨h1, h2⟩ := h.own r hr
      exact ⟨kept_ne h1 hg fun k hk => by have := h2 k hk; have := h.hq; omega, h2⟩
  dis := .cons (fun r hr => by
    cases hv : v.ownBlock with
    | none => exact .inl hv
    | some k =>
      refine .inr fun e => ?_
      have h1 := (h.own r hr).1.lt (e.symm.trans hv)
      have h2 := (hn k hv).1
      omega) h.dis
  c8 c hc := by
    obtain ⟨h1, h2, h3⟩ := h.c8 c hc
    have hlt := (Array.getElem?_eq_some_iff.1 h1).1
    refine ⟨(hg.block c hlt (by have := h.hq; simp; omega)).trans h1, h2, fun r hr => ?_⟩
    rcases List.mem_cons.1 hr with rfl | hr
    · intro e
      have := (hn c e).1
      omega
    · exact h3 r hr
  gr := h.gr.trans hg
  hq := h.hq
  lp := h.lp

theorem R1.alloc (h : R1 w0 w W q pv xs bs os ts rows none) : R1 w0 w (W.alloc (.cells #[.int .i64 0, .slice none 0 0, .slice none 0 0, .slice none 0 0] 182 (0, 0))) q pv xs bs os ts rows (some W.heap.size) := by
  have hb : Below W.heap.size W (W.alloc (.cells #[.int .i64 0, .slice none 0 0, .slice none 0 0, .slice none 0 0] 182 (0, 0))) := (Below.refl _ _).alloc (Nat.le_refl _) _
  exact
  { lj := by obtain ⟨bv, ov, tv, hj⟩ := h.lj; exact ⟨bv, ov, tv, hj.grow hb⟩
    own := fun r hr => ⟨(h.own r hr).1.below hb, (h.own r hr).2⟩
    dis := h.dis
    c8 := fun c hc => by
      injection hc with hc
      subst hc
      refine ⟨Array.getElem?_push_size, h.gr.size, fun r hr e => ?_⟩
      have := (h.own r hr).1.lt e
      omega
    gr := h.gr.trans (grown_none hb _)
    hq := h.hq
    lp := h.lp }

def CutR (w0 w : World) (q : Nat) (pv : Value) (xs : List PtV) (bs os ts : List ByteArray) (rows : List (Value × List ByteArray)) (c8 : Option Nat) (l : List ByteArray) (e : Ending) (W' : World) : Prop :=
  ∃ v, e = .returned v ∧ R1 w0 w W' q pv xs bs os ts ((v, l) :: rows) c8

theorem R1.cut0 (h : R1 w0 w W q pv xs bs os ts rows c8) {n : Nat} (hn : n ≤ bs.length) (hl : bs.length ≤ 10000000) :
    Calls Tryz.prog 126 #[.pointer (some ⟨q, 0, none⟩), .int .i64 n] W (CutR w0 w q pv xs (bs.drop n) os ts rows c8 (bs.take n)) := by
  obtain ⟨bv, ov, tv, hj⟩ := h.lj
  refine (hj.cut0 hn hl).mono ?_
  rintro e W' ⟨v, u, rfl, hj', ho, hv, hg⟩
  exact ⟨v, rfl, h.push hg ⟨_, _, _, hj'⟩ ho hv⟩
theorem R1.cut1 (h : R1 w0 w W q pv xs bs os ts rows c8) {n : Nat} (hn : n ≤ os.length) (hl : os.length ≤ 10000000) :
    Calls Tryz.prog 126 #[.pointer (some ⟨q, 1, none⟩), .int .i64 n] W (CutR w0 w q pv xs bs (os.drop n) ts rows c8 (os.take n)) := by
  obtain ⟨bv, ov, tv, hj⟩ := h.lj
  refine (hj.cut1 hn hl).mono ?_
  rintro e W' ⟨v, u, rfl, hj', ho, hv, hg⟩
  exact ⟨v, rfl, h.push hg ⟨_, _, _, hj'⟩ ho hv⟩
theorem R1.cut2 (h : R1 w0 w W q pv xs bs os ts rows c8) {n : Nat} (hn : n ≤ ts.length) (hl : ts.length ≤ 10000000) :
    Calls Tryz.prog 126 #[.pointer (some ⟨q, 2, none⟩), .int .i64 n] W (CutR w0 w q pv xs bs os (ts.drop n) rows c8 (ts.take n)) := by
  obtain ⟨bv, ov, tv, hj⟩ := h.lj
  refine (hj.cut2 hn hl).mono ?_
  rintro e W' ⟨v, u, rfl, hj', ho, hv, hg⟩
  exact ⟨v, rfl, h.push hg ⟨_, _, _, hj'⟩ ho hv⟩

/-- All is there: the part's block is filled. -/
structure R2 (w0 w W : World) (q : Nat) (pv : Value) (xs : List PtV) (bs os ts : List ByteArray) (x : PtV) (kd : Int) (c : Nat) : Prop where
  lj : ∃ bv ov tv, LJ w0 W q bv ov tv pv xs bs os ts
  ob : OwnG W 9 1 x.b x.p.b.length (lrow x.p.b)
  oo : OwnG W 9 1 x.o x.p.o.length (lrow x.p.o)
  ot : OwnG W 9 1 x.t x.p.t.length (lrow x.p.t)
  nw : ∀ v, v = x.b ∨ v = x.o ∨ v = x.t → ∀ k, v.ownBlock = some k → w.heap.size ≤ k ∧ k ≠ c
  d4 : Db x.b x.o
  d5 : Db x.b x.t
  d6 : Db x.o x.t
  c8 : W.heap[c]? = some (.cells #[.int .i64 kd, x.b, x.o, x.t] 182 (0, 0))
  n8 : w.heap.size ≤ c
  gr : w.grownBy W (some q)
  hq : q < w.heap.size
  lp : LP w0 w q pv xs

theorem Db.symm {a b : Value} (h : Db a b) : Db b a := by
  unfold Db at *
  cases hb : b.ownBlock with
  | none => exact .inl rfl
  | some k =>
    right
    rcases h with h | h
    · rw [h]; simp
    · rw [hb] at h; exact fun e => h e.symm

theorem LJ.other {bv ov tv : Value} {c : Nat} (h : LJ w0 W q bv ov tv pv xs bs os ts) (hg : W.grownBy W' (some c)) (hcq : c ≠ q) (hc0 : w0.heap.size ≤ c) (hp : LP w0 W' q pv xs) : LJ w0 W' q bv ov tv pv xs bs os ts where
  below := h.below.grown hg h.below.size fun k hk => by injection hk with hk; subst hk; exact hc0
  q0 := h.q0
  blk := (hg.block q h.lt (by simp; exact fun e => hcq e.symm)).trans h.blk
  tb := tn_q h.tb (fun _ h => h) hc0 hg
  to_ := tn_q h.to_ (fun _ h => h) hc0 hg
  tt := tn_q h.tt (fun _ h => h) hc0 hg
  parts := hp

theorem R1.store {lb lo lt : List ByteArray} {vb vo vt : Value} {c : Nat} (h : R1 w0 w W q pv xs bs os ts [(vt, lt), (vo, lo), (vb, lb)] (some c)) :
    ∃ W', (Instr.storeAt 182 (.pointer (some ⟨c, 0, none⟩)) (.agg #[.int .i64 0, vb, vo, vt])).run Tryz.prog W = .ok () W' ∧ R2 w0 w W' q pv xs bs os ts ⟨⟨lb, lo, lt⟩, vb, vo, vt⟩ 0 c := by
  obtain ⟨h1, h2, h3⟩ := h.c8 c rfl
  have o1 := h.own (vb, lb) (by simp)
  have o2 := h.own (vo, lo) (by simp)
  have o3 := h.own (vt, lt) (by simp)
  obtain ⟨W', hr, hb, hg⟩ := run_storeB (P := Tryz.prog) (ty := 182) (new := #[.int .i64 0, vb, vo, vt]) h1 rfl (by kernel_rfl) (by simp [own_one o1.1, own_one o2.1, own_one o3.1]; rfl)
  have hd := h.dis
  simp only [List.pairwise_cons, List.mem_cons, List.not_mem_nil, or_false, forall_eq_or_imp, forall_eq] at hd
  have hne : ∀ r ∈ [(vt, lt), (vo, lo), (vb, lb)], ∀ k, r.1.ownBlock = some k → k ≠ c := fun r hr k hk e => h3 r hr (by rw [hk, e])
  have hcq : c ≠ q := by have := h.hq; omega
  have hcw : w.grownBy W' (some q) := by
    have := h.gr
    refine ⟨hg.os.trans this.os, hg.tape.trans this.tape, hg.output.trans this.output, Nat.le_trans this.size hg.size, fun k hk hne => ?_⟩
    rw [← this.block k hk hne]
    exact hg.block k (Nat.lt_of_lt_of_le hk this.size) (by simp; omega)
  refine ⟨W', hr, ?_, kept_ne o1.1 hg (hne (vb, lb) (by simp)), kept_ne o2.1 hg (hne (vo, lo) (by simp)), kept_ne o3.1 hg (hne (vt, lt) (by simp)), fun v hv k hk => ?_, hd.2.1.symm, hd.1.2.symm, hd.1.1.symm, hb, h2, hcw, h.hq, h.lp⟩
  · obtain ⟨bv, ov, tv, hj⟩ := h.lj
    exact ⟨bv, ov, tv, hj.other hg hcq (Nat.le_trans (Nat.le_trans hj.q0 (Nat.le_of_lt h.hq)) h2) (h.lp.keepq hcw)⟩
  · rcases hv with e | e | e
    · have e : v = vb := e
      rw [e] at hk
      exact ⟨o1.2 k hk, hne (vb, lb) (by simp) k hk⟩
    · have e : v = vo := e
      rw [e] at hk
      exact ⟨o2.2 k hk, hne (vo, lo) (by simp) k hk⟩
    · have e : v = vt := e
      rw [e] at hk
      exact ⟨o3.2 k hk, hne (vt, lt) (by simp) k hk⟩
end
end Go.Proofs.YtpcipdkoncmdcaaGreatDoor
