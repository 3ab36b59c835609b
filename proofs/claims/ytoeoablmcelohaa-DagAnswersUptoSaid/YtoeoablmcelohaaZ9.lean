/- Texts of mine, joined: A region that draws its order, walked by a list of moves: an operation that yields in whatever world is taken first; a block of quiet ones in the order of the text; those that stand in one order, one behind the other. Of every program. | A drawn region whose callees lay blocks: the class of all worlds that have nothing old turned. Of every program. -/
import Derived.RegionTactic
import Derived.Test.YtoeoablmcelohaaZ8
namespace Go.Proofs.Ytoeoablmcelohaa
open Go

inductive Mv where
  | take (i : Nat)
  | blk (is : List Nat)
  | frc (is : List Nat)

section
variable {P : Program} {ops : Array Oper} {md : Region.Mode}

def opsAt (ops : Array Oper) (is : List Nat) : List Oper := is.filterMap fun i => ops[i]?
def setAll : List Nat → Array Bool → Array Bool
  | [], up => up
  | i :: is, up => setAll is (up.setIfInBounds i true)

/-- The block's operations may come up in the order of the text. -/
def lexOk (md : Region.Mode) (ops : Array Oper) : List Nat → Array Bool → Bool
  | [], _ => true
  | k :: ks, up => (Region.ready md ops up).contains k && Region.free md ops up k && lexOk md ops ks (up.setIfInBounds k true)
def restOf (ops : Array Oper) (is : List Nat) (up : Array Bool) : List Nat := (List.range ops.size).filter fun j => !up.getD j true && !is.contains j
/-- While one of the block has not come up none of the others can. -/
def sinkOk (md : Region.Mode) (ops : Array Oper) (is : List Nat) (up : Array Bool) : Bool :=
  match restOf ops is up with
  | [] => true
  | t0 :: ts => (is.all fun i => (List.range ops.size).any fun j => Region.waitsFor md ops j i && (j == t0 || (decide (i < j) && is.contains j))) &&
      ts.all fun t => (t0 :: ts).any fun t' => Region.waitsFor md ops t t'
def frcOk (md : Region.Mode) (ops : Array Oper) : List Nat → Array Bool → Bool
  | [], _ => true
  | k :: ks, up => decide (Region.ready md ops up = [k]) && frcOk md ops ks (up.setIfInBounds k true)
def closedOk (md : Region.Mode) (ops : Array Oper) (up : Array Bool) : Bool :=
  (List.range ops.size).all fun j => match ops[j]? with
    | some oj => !up.getD j false || oj.after.all fun e => !Region.binds md e || up.getD e.on false
    | none => true

def okB (md : Region.Mode) (ops : Array Oper) : List Mv → Array Bool → Bool
  | [], up => (Region.ready md ops up).isEmpty
  | .take i :: ss, up => (Region.ready md ops up).contains i && Region.free md ops up i && okB md ops ss (up.setIfInBounds i true)
  | .blk is :: ss, up => decide (up.size = ops.size) && closedOk md ops up && is.all (fun i => decide (i < ops.size) && !up.getD i true) && sinkOk md ops is up && lexOk md ops is up && (Region.ready md ops (setAll is up)).all (fun j => !is.contains j) && okB md ops ss (setAll is up)
  | .frc is :: ss, up => frcOk md ops is up && okB md ops ss (setAll is up)
def fuelOf : List Mv → Nat
  | [] => 0
  | .take _ :: ss => fuelOf ss + 1
  | .blk is :: ss => fuelOf ss + is.length
  | .frc is :: ss => fuelOf ss + is.length

def goS (P : Program) (ops : Array Oper) (Q : Exit → Act → World → Prop) (C : World → World → Prop) : List Mv → Act → World → Prop
  | [], a, w => Q .normal a w
  | .take i :: ss, a, w => ∃ o, ops[i]? = some o ∧ ∃ v, Yields P ops o v a ∧ goS P ops Q C ss (a.put o.dst v) w
  | .blk is :: ss, a, w => wpQuiet P ops (C w) (fun a' => ∀ w', C w w' → goS P ops Q C ss a' w') (opsAt ops is) a
  | .frc is :: ss, a, w => wpList P ops (Exit.then (fun a' w' => goS P ops Q C ss a' w') Q) (opsAt ops is) a w

/-- A block's operations come up in any order; then T holds. -/
def BlkAny (P : Program) (md : Region.Mode) (ops : Array Oper) (C : World → Prop) (is : List Nat) (T : Array Bool → Act → Prop) : Nat → Array Bool → Act → Prop
  | 0, up, a => T up a
  | f + 1, up, a => Region.ready md ops up ≠ [] ∧ ∀ i ∈ Region.ready md ops up, i ∈ is ∧ qOp P ops C i (BlkAny P md ops C is T f (up.setIfInBounds i true)) a

theorem blkAny_wp {C : World → Prop} {is : List Nat} {g : Nat} {T : Array Bool → Act → Prop} {Q' : Exit → Act → World → Prop} (hT : ∀ up a w, C w → T up a → wpAny P md ops Q' g up a w) :
    ∀ (f : Nat) (up : Array Bool) (a : Act) (w : World), C w → BlkAny P md ops C is T f up a → wpAny P md ops Q' (f + g) up a w
  | 0, up, a, w, hw, h => by rw [Nat.zero_add]; exact hT _ _ _ hw h
  | f + 1, up, a, w, hw, h => by
    rw [show f + 1 + g = (f + g) + 1 by omega]
    exact ⟨fun h0 => absurd h0 h.1, fun i hi => wpOp_of_qOp hw (fun a' w' hw' h' => blkAny_wp hT f _ a' w' hw' h') (h.2 i hi).2⟩

structure BInv (md : Region.Mode) (ops : Array Oper) (is : List Nat) (up0 up : Array Bool) : Prop where
  size : up.size = ops.size
  closed : ∀ j oj, ops[j]? = some oj → up.getD j false = true → ∀ e ∈ oj.after, Region.binds md e = true → up.getD e.on false = true
  rest : ∀ t ∈ restOf ops is up0, up.getD t true = false
  old : ∀ j, up0.getD j true = true → up.getD j true = true

theorem getD_set_true' {up : Array Bool} {i j : Nat} (h : up.getD j true = true) : (up.setIfInBounds i true).getD j true = true := by
  by_cases hij : i = j
  · subst hij
    simp only [Array.getD_eq_getD_getElem?, Array.getElem?_setIfInBounds_self] at h ⊢
    split
    · rfl
    · rename_i h'
      rw [Array.getElem?_eq_none (by omega)] at h
      exact h
  · rw [getD_set_ne true hij]; exact h

theorem BInv.set {is : List Nat} {up0 up : Array Bool} {i : Nat} (inv : BInv md ops is up0 up) (hi : i ∈ Region.ready md ops up) (hin : i ∈ is) : BInv md ops is up0 (up.setIfInBounds i true) := by
  obtain ⟨_, oi, hoi, hall⟩ := mem_ready.1 hi
  refine ⟨by simp [inv.size], fun j oj hj hl e he hb => ?_, fun t ht => ?_, fun j hj => getD_set_true' (inv.old j hj)⟩
  · by_cases hij : i = j
    · subst hij
      have : oj = oi := Option.some.inj (hj.symm.trans hoi)
      subst this
      exact getD_set_true (hall e he hb)
    · rw [getD_set_ne false hij] at hl
      exact getD_set_true (inv.closed j oj hj hl e he hb)
  · have hne : i ≠ t := fun e => by
      subst e
      have := (List.mem_filter.1 ht).2
      simp only [Bool.and_eq_true, Bool.not_eq_true', List.contains_iff_mem, ← Bool.not_eq_true] at this
      exact this.2 (by simpa using hin)
    rw [getD_set_ne true hne]; exact inv.rest t ht

theorem rest_waits {is : List Nat} {up0 up : Array Bool} (hs : sinkOk md ops is up0 = true) (inv : BInv md ops is up0 up) {i : Nat} (hin : i ∈ is) (hun : up.getD i true = false) : ∀ t ∈ restOf ops is up0, t ∉ Region.ready md ops up := by
  unfold sinkOk at hs
  cases hr : restOf ops is up0 with
  | nil => intro t ht; cases ht
  | cons t0 ts =>
    rw [hr] at hs
    simp only [Bool.and_eq_true] at hs
    obtain ⟨h1, h2⟩ := hs
    have head : ∀ (d i : Nat), ops.size - i = d → i ∈ is → up.getD i true = false → t0 ∉ Region.ready md ops up := by
      intro d
      induction d using Nat.strongRecOn with
      | _ d ih =>
        intro i hd hi hun hr0
        obtain ⟨_, ot, hot, hall⟩ := mem_ready.1 hr0
        obtain ⟨j, hj, hj2⟩ := List.any_eq_true.1 (List.all_eq_true.1 h1 i hi)
        simp only [Bool.and_eq_true, Bool.or_eq_true, decide_eq_true_eq, beq_iff_eq] at hj2
        obtain ⟨oj, hoj, e, he, hb, hon⟩ := Region.waitsFor_spec hj2.1
        rcases hj2.2 with rfl | ⟨hlt, hjs⟩
        · have : oj = ot := Option.some.inj (hoj.symm.trans hot)
          subst this
          have h3 := hall e he hb
          rw [hon, getD_both hun] at h3
          cases h3
        · have hjs : j ∈ is := by simpa using hjs
          have hjlt : j < ops.size := List.mem_range.1 hj
          cases hl : up.getD j false with
          | true =>
            have h3 := inv.closed j oj hoj hl e he hb
            rw [hon, getD_both hun] at h3
            cases h3
          | false => exact ih (ops.size - j) (by omega) j rfl hjs (getD_in (by rw [inv.size]; exact hjlt) hl) hr0
    intro t ht htr
    rcases List.mem_cons.1 ht with rfl | ht'
    · exact head _ i rfl hin hun htr
    · obtain ⟨t', ht1, ht2⟩ := List.any_eq_true.1 (List.all_eq_true.1 h2 t ht')
      obtain ⟨_, ot, hot, hall⟩ := mem_ready.1 htr
      obtain ⟨o', ho', e, he, hb, hon⟩ := Region.waitsFor_spec ht2
      have : o' = ot := Option.some.inj (ho'.symm.trans hot)
      subst this
      have h3 := hall e he hb
      rw [hon, getD_both (inv.rest t' (by rw [hr]; exact ht1))] at h3
      cases h3

theorem blk_ready {is : List Nat} {up0 up : Array Bool} (hs : sinkOk md ops is up0 = true) (inv : BInv md ops is up0 up) {i : Nat} (hin : i ∈ is) (hun : up.getD i true = false) : ∀ j ∈ Region.ready md ops up, j ∈ is := by
  intro j hj
  obtain ⟨hjun, oj, hoj, _⟩ := mem_ready.1 hj
  refine Decidable.byContradiction fun hn => rest_waits hs inv hin hun j (List.mem_filter.2 ⟨List.mem_range.2 (Array.getElem?_eq_some_iff.1 hoj).1, ?_⟩) hj
  simp only [Bool.and_eq_true, Bool.not_eq_true']
  refine ⟨?_, by simpa using hn⟩
  cases h0 : up0.getD j true with
  | false => rfl
  | true => rw [inv.old j h0] at hjun; cases hjun

theorem blkAny_first {C : World → Prop} {is : List Nat} {up0 : Array Bool} {i : Nat} {oi : Oper} {v : Value} {T : Array Bool → Act → Prop} (hi : ops[i]? = some oi) (hsel : ∀ (j : Nat) (o : Oper) cs b, ops[j]? = some o → o.op ≠ .select cs b)
    (hs : sinkOk md ops is up0 = true) (hin : i ∈ is) (hT : ∀ up a, T up a → ∀ j ∈ Region.ready md ops up, j ∉ is) (f : Nat) :
    ∀ (up : Array Bool) (a : Act), BInv md ops is up0 up →
      (∀ j oj, ops[j]? = some oj → j ≠ i → up.getD j true = false → (∀ e ∈ oj.after, Region.binds md e = true → e.on ≠ i) → oi.apart ops oj = true) →
      i ∈ Region.ready md ops up → YieldsIn P ops C oi v a →
      BlkAny P md ops C is T f (up.setIfInBounds i true) (a.put oi.dst v) → BlkAny P md ops C is T (f + 1) up a := by
  induction f with
  | zero =>
    intro up a inv _ hr hy H
    have hun := (mem_ready.1 hr).1
    refine ⟨fun h => (by rw [h] at hr; cases hr), fun j hj => ?_⟩
    have hjn : j ∈ is := blk_ready hs inv hin hun j hj
    refine ⟨hjn, ?_⟩
    by_cases hji : j = i
    · subst hji; exact hy.qOp hi H
    · exact absurd hjn (hT _ _ H j (ready_mono hj hji))
  | succ f ih =>
    intro up a inv hfree hr hy H
    have hun := (mem_ready.1 hr).1
    refine ⟨fun h => (by rw [h] at hr; cases hr), fun j hj => ?_⟩
    have hjn : j ∈ is := blk_ready hs inv hin hun j hj
    refine ⟨hjn, ?_⟩
    by_cases hji : j = i
    · subst hji; exact hy.qOp hi H
    · obtain ⟨hjun, oj, hoj, hall⟩ := mem_ready.1 hj
      have hnot : ∀ e ∈ oj.after, Region.binds md e = true → e.on ≠ i := by
        intro e he hb heq
        have h1 := hall e he hb
        rw [heq, getD_both hun] at h1
        cases h1
      have h2 := qOp_put hoj (hfree j oj hoj hji hjun hnot) (fun cs b => hsel i oi cs b hi) (fun cs b => hsel j oj cs b hoj) hy (H.2 j (ready_mono hj hji)).2
      refine qOp_mono (fun a' h3 => ?_) h2
      refine ih (up.setIfInBounds j true) a' (inv.set hj hjn) ?_ (ready_mono hr (Ne.symm hji)) h3.1 ?_
      · intro k ok hk hki hkun hno
        refine hfree k ok hk hki ?_ hno
        by_cases hjk : j = k
        · subst hjk; exact hjun
        · rwa [getD_set_ne true hjk] at hkun
      · rw [Array.setIfInBounds_comm _ _ hji]
        exact h3.2

theorem blkAny_lex {C : World → Prop} {is : List Nat} {up0 U : Array Bool} {K : Act → Prop} (hsel : Region.noSelect ops = true) (hs : sinkOk md ops is up0 = true) (hU : ∀ j ∈ Region.ready md ops U, j ∉ is) :
    ∀ (ks : List Nat) (up : Array Bool) (a : Act), (∀ k ∈ ks, k ∈ is) → (∀ k ∈ ks, k < ops.size) → setAll ks up = U → BInv md ops is up0 up →
    lexOk md ops ks up = true → wpQuiet P ops C K (opsAt ops ks) a → BlkAny P md ops C is (fun up' a' => up' = U ∧ K a') ks.length up a
  | [], up, a, _, _, hu, _, _, h => ⟨hu, h⟩
  | k :: ks, up, a, hk, hsz, hu, inv, hB, h => by
    have hlt : k < ops.size := hsz k (by simp)
    have h0 : ops[k]? = some ops[k] := Array.getElem?_eq_getElem hlt
    simp only [lexOk, Bool.and_eq_true] at hB
    obtain ⟨⟨hr, hf⟩, hB'⟩ := hB
    have hr' : k ∈ Region.ready md ops up := by simpa using hr
    have he : opsAt ops (k :: ks) = ops[k] :: opsAt ops ks := by unfold opsAt; rw [List.filterMap_cons, h0]
    rw [he] at h
    have hq : qOp P ops C k (wpQuiet P ops C K (opsAt ops ks)) a := by unfold qOp; simp only [h0]; exact h
    obtain ⟨v, hy, hK⟩ := yieldsIn_of_qOp h0 hq
    exact blkAny_first h0 (Region.noSelect_spec hsel) hs (hk k (by simp)) (fun up' a' hT => by rw [hT.1]; exact hU) ks.length up a inv (Region.free_spec h0 hf) hr' hy
      (blkAny_lex hsel hs hU ks _ _ (fun j hj => hk j (by simp [hj])) (fun j hj => hsz j (by simp [hj])) hu (inv.set hr' (hk k (by simp))) hB' hK)

theorem letsOut_then {N : Act → World → Prop} {Q : Exit → Act → World → Prop} (h : LetsOut (Exit.then N Q)) : LetsOut Q := h

theorem wpOp_then {N : Act → World → Prop} {Q : Exit → Act → World → Prop} {i : Nat} {K : Act → World → Prop} {a : Act} {w : World} (h : wpOp P ops (Exit.then N Q) i K a w) : wpOp P ops Q i K a w := by
  unfold wpOp at *
  split
  · rename_i ho; simp only [ho] at h; exact h
  · rename_i o ho
    simp only [ho] at h
    split
    · rename_i hw
      simp only [hw, if_true] at h
      rcases h with h | ⟨h1, h2⟩
      · refine .inl ?_
        unfold Oper.wp at *
        generalize (execOp a.eval o).run P w = r at *
        cases r with
        | ok n w' =>
          cases n <;> simp only [Oper.upon] at h ⊢ <;> first
            | exact h
            | exact h.mono fun e _ he => by cases e <;> exact he
        | halt x w' => cases x <;> simp only [Oper.upon] at h ⊢ <;> exact h
      · exact .inr ⟨h1, letsOut_then h2⟩
    · rename_i hw; simp only [hw] at h; exact h

theorem frc_wp {N : Act → World → Prop} {Q : Exit → Act → World → Prop} {g : Nat} {U : Array Bool} (hN : ∀ a w, N a w → wpAny P md ops Q g U a w) :
    ∀ (ks : List Nat) (up : Array Bool) (a : Act) (w : World), frcOk md ops ks up = true → setAll ks up = U → wpList P ops (Exit.then N Q) (opsAt ops ks) a w → wpAny P md ops Q (g + ks.length) up a w
  | [], up, a, w, _, hu, h => by subst hu; exact hN a w h
  | k :: ks, up, a, w, hB, hu, h => by
    simp only [frcOk, Bool.and_eq_true, decide_eq_true_eq] at hB
    rw [List.length_cons, ← Nat.add_assoc]
    refine ⟨fun h1 => (by rw [hB.1] at h1; cases h1), fun i hi => ?_⟩
    have hik : i = k := by rw [hB.1] at hi; simpa using hi
    subst hik
    obtain ⟨_, o, ho, _⟩ := mem_ready.1 hi
    have he : opsAt ops (i :: ks) = o :: opsAt ops ks := by unfold opsAt; rw [List.filterMap_cons, ho]
    rw [he] at h
    have hw : wpOp P ops (Exit.then N Q) i (wpList P ops (Exit.then N Q) (opsAt ops ks)) a w := by unfold wpOp; simp only [ho]; exact h
    exact wpOp_mono (fun a' w' h' => frc_wp hN ks _ a' w' hB.2 hu h') (wpOp_then hw)

theorem goS_wp {Q : Exit → Act → World → Prop} {C : World → World → Prop} (hsel : Region.noSelect ops = true) (hC : ∀ w, C w w) (hQ : ∀ (d : Tmp) (v : Value) c a w, Q (.panic c) (a.put (some d) v) w → Q (.panic c) a w) :
    ∀ (ss : List Mv) (up : Array Bool) (a : Act) (w : World), okB md ops ss up = true → goS P ops Q C ss a w → wpAny P md ops Q (fuelOf ss) up a w
  | [], up, a, w, hB, h => ⟨by simpa [okB] using hB, h⟩
  | .take i :: ss, up, a, w, hB, h => by
    simp only [okB, Bool.and_eq_true] at hB
    obtain ⟨⟨hr, hf⟩, hB'⟩ := hB
    obtain ⟨o, ho, v, hy, h⟩ := h
    exact wpAny_take ho hsel hf hr (fun c a w h => by cases hd : o.dst with | none => rw [hd] at h; exact h | some t => rw [hd] at h; exact hQ t v c a w h) hy (goS_wp hsel hC hQ ss _ _ _ hB' h)
  | .frc is :: ss, up, a, w, hB, h => by
    simp only [okB, Bool.and_eq_true] at hB
    exact frc_wp (fun a w => goS_wp hsel hC hQ ss _ a w hB.2) is up a w hB.1 rfl h
  | .blk is :: ss, up, a, w, hB, h => by
    simp only [okB, Bool.and_eq_true, decide_eq_true_eq] at hB
    obtain ⟨⟨⟨⟨⟨⟨hsz, hcl⟩, hall⟩, hs⟩, hl⟩, hU⟩, hB'⟩ := hB
    have hall' : ∀ k ∈ is, k < ops.size := fun k hk => by
      have := List.all_eq_true.1 hall k hk
      simp only [Bool.and_eq_true, decide_eq_true_eq] at this
      exact this.1
    have inv : BInv md ops is up up := by
      refine ⟨hsz, fun j oj hj hu e he hb => ?_, fun t ht => ?_, fun _ h => h⟩
      · have h1 := List.all_eq_true.1 hcl j (List.mem_range.2 (Array.getElem?_eq_some_iff.1 hj).1)
        simp only [hj, hu, Bool.not_true, Bool.false_or] at h1
        have h2 := Array.all_eq_true'.1 h1 e he
        simpa [hb] using h2
      · have := (List.mem_filter.1 ht).2
        simp only [Bool.and_eq_true, Bool.not_eq_true'] at this
        exact this.1
    have hU' : ∀ j ∈ Region.ready md ops (setAll is up), j ∉ is := fun j hj hm => by
      have := List.all_eq_true.1 hU j hj
      simp at this
      exact this hm
    have H := blkAny_lex (C := C w) hsel hs hU' is up a (fun _ h => h) hall' rfl inv hl h
    have := blkAny_wp (Q' := Q) (g := fuelOf ss) (fun up' a' w' hw' hT => by
      obtain ⟨e, hT⟩ := hT
      subst e
      exact goS_wp hsel hC hQ ss _ a' w' hB' (hT w' hw')) is.length up a w (hC w) H
    rw [show fuelOf (.blk is :: ss) = is.length + fuelOf ss by simp only [fuelOf]; omega]
    exact this

/-- A region that draws its order, by moves. -/
theorem wp_region_mv {id : Nat} {Q : Exit → Act → World → Prop} {a : Act} {w : World} {l : List Oper} (C : World → World → Prop) (ss : List Mv) (hm : P.follows .mixedOrders = true)
    (hB : (Region.noSelect l.toArray && okB .any l.toArray ss (Array.replicate l.toArray.size false) && decide (fuelOf ss = l.toArray.size)) = true) (hC : ∀ w, C w w)
    (hQ : ∀ (d : Tmp) (v : Value) c a w, Q (.panic c) (a.put (some d) v) w → Q (.panic c) a w) (h : goS P l.toArray Q C ss a { w with drawn := w.drawn + 1 }) : (Code.region id l.toArray true).wp P Q a w := by
  simp only [Bool.and_eq_true, decide_eq_true_eq] at hB
  refine wp_region_any hm ?_
  have := goS_wp (md := .any) hB.1.1 hC hQ ss _ a _ hB.1.2 h
  rwa [hB.2] at this

def DN (w w' : World) : Prop := ∃ q, w' = w.drewN q
theorem DN.refl (w : World) : DN w w := ⟨0, rfl⟩

theorem wp_region_dn {id : Nat} {Q : Exit → Act → World → Prop} {a : Act} {w : World} {l : List Oper} (ss : List Mv) (hm : P.follows .mixedOrders = true)
    (hB : (Region.noSelect l.toArray && okB .any l.toArray ss (Array.replicate l.toArray.size false) && decide (fuelOf ss = l.toArray.size)) = true)
    (hQ : ∀ (d : Tmp) (v : Value) c a w, Q (.panic c) (a.put (some d) v) w → Q (.panic c) a w) (h : goS P l.toArray Q DN ss a (w.drewN 1)) : (Code.region id l.toArray true).wp P Q a w :=
  wp_region_mv DN ss hm hB DN.refl hQ h

variable {Q : Exit → Act → World → Prop} {C : World → World → Prop} {ss : List Mv} {a : Act} {w : World}
theorem goS_take {i : Nat} {o : Oper} {v : Value} (ho : ops[i]? = some o) (hw : Region.wanted o (yielded ops a.tmps) = true) (hv : ∀ w, (execOp a.eval o).run P w = .ok (.value v) w) (h : goS P ops Q C ss (a.put o.dst v) w) : goS P ops Q C (.take i :: ss) a w :=
  ⟨o, ho, v, .inl ⟨hw, hv⟩, h⟩
theorem goS_blk {is : List Nat} (h : wpQuiet P ops (C w) (fun a' => ∀ w', C w w' → goS P ops Q C ss a' w') (opsAt ops is) a) : goS P ops Q C (.blk is :: ss) a w := h
theorem goS_dn {is : List Nat} (h : wpQuiet P ops (fun w' => ∃ q, w' = w.drewN q) (fun a' => ∀ w', (∃ q, w' = w.drewN q) → goS P ops Q DN ss a' w') (opsAt ops is) a) : goS P ops Q DN (.blk is :: ss) a w := h
theorem goS_frc {is : List Nat} (h : wpList P ops (Exit.then (fun a' w' => goS P ops Q C ss a' w') Q) (opsAt ops is) a w) : goS P ops Q C (.frc is :: ss) a w := h
theorem wpList_then {N : Act → World → Prop} (hN : ∀ a w, Q .normal a w → N a w) : ∀ (l : List Oper) (a : Act) (w : World), wpList P ops Q l a w → wpList P ops (Exit.then N Q) l a w
  | [], a, w, h => hN a w h
  | o :: l, a, w, h => by
    unfold wpList at h ⊢
    split at h
    · rename_i hw
      rw [if_pos hw]
      rcases h with h | ⟨h1, h2⟩
      · refine .inl ?_
        unfold Oper.wp at *
        generalize (execOp a.eval o).run P w = r at *
        cases r with
        | ok n w' =>
          cases n <;> simp only [Oper.upon] at h ⊢ <;> first
            | exact wpList_then hN l _ _ h
            | exact h.mono fun e _ he => by cases e <;> first | exact wpList_then hN l _ _ he | exact he
            | exact h.mono fun _ _ he => wpList_then hN l _ _ he
        | halt x w' => cases x <;> simp only [Oper.upon] at h ⊢ <;> exact h
      · exact .inr ⟨h1, h2⟩
    · rename_i hw
      rw [if_neg hw]
      exact wpList_then hN l _ _ h
/-- The last ones. -/
theorem goS_last {is : List Nat} (h : wpList P ops Q (opsAt ops is) a w) : goS P ops Q C [.frc is] a w := goS_frc (wpList_then (fun _ _ h => h) _ _ _ h)
end
end Go.Proofs.Ytoeoablmcelohaa
namespace Go.Proofs.Ytoeoablmcelohaa
open Go Go.RowKit

/-- How far a world is from another one: the draws, the new blocks. -/
structure BW where
  d : Nat
  os : Array Obj
  deriving Inhabited

def bw (w : World) (p : BW) : World := { w with heap := w.heap ++ p.os, drawn := p.d }

theorem bw_below (w : World) (p : BW) : Below w.heap.size w (bw w p) :=
  ⟨rfl, rfl, rfl, by show w.heap.size ≤ (w.heap ++ p.os).size; rw [Array.size_append]; omega, fun k hk => by show (w.heap ++ p.os)[k]? = w.heap[k]?; rw [Array.getElem?_append_left hk]⟩

theorem bw_of {w w' : World} (hb : Below w.heap.size w w') : ∃ p : BW, w' = bw w p := by
  refine ⟨⟨w'.drawn, w'.heap.extract w.heap.size w'.heap.size⟩, ?_⟩
  have hh : w'.heap = w.heap ++ w'.heap.extract w.heap.size w'.heap.size := by
    apply Array.ext_getElem?
    intro i
    rw [Array.getElem?_append]
    split
    · rename_i hi; exact hb.block i hi
    · rename_i hi
      rw [Array.getElem?_extract]
      split
      · congr 1; omega
      · rename_i h2
        have := hb.size
        rw [Array.getElem?_eq_none (by omega)]
  cases w
  cases w'
  obtain ⟨h1, h2, h3, h4, h5⟩ := hb
  simp only at h1 h2 h3 hh
  subst h1 h2 h3
  simp only [bw]
  congr 1

theorem bw_cell {w : World} {a : Addr} {v : Value} (hb : a.block < w.heap.size) (h : w.cell? a = some v) (p : BW) : (bw w p).cell? a = some v := ((bw_below w p).cell hb).trans h

/-- A callee that turns nothing old, met in a world of the class. -/
theorem calls_bw {P : Program} {f : FuncId} {args : Array Value} {w : World} {p : BW} {v : Value}
    (h : Calls P f args (bw w p) fun e w' => e = .returned v ∧ Below (bw w p).heap.size (bw w p) w') : Calls P f args (bw w p) fun e w'' => e = .returned v ∧ ∃ q : BW, w'' = bw w q :=
  h.mono fun _ _ ⟨he, hb⟩ => ⟨he, bw_of ((bw_below w p).trans (hb.mono (bw_below w p).size))⟩

theorem wp_region_bw {P : Program} {id : Nat} {Q : Exit → Act → World → Prop} {a : Act} {w : World} {l : List Oper} (hm : P.follows .mixedOrders = true) (hB : Region.lexB .any l.toArray = true)
    (h : wpQuiet P l.toArray (fun w' => ∃ p : BW, w' = bw w p) (fun a' => ∀ w', (∃ p : BW, w' = bw w p) → Q .normal a' w') l a) : (Code.region id l.toArray true).wp P Q a w :=
  wp_region_quiet (C := fun w' => ∃ p : BW, w' = bw w p) hm hB ⟨⟨w.drawn + 1, #[]⟩, by simp [bw]⟩ (by simpa using h)

theorem wp_region_bw_tail {P : Program} {id : Nat} {Q : Exit → Act → World → Prop} {a : Act} {w : World} {l : List Oper} (n : Nat) (hm : P.follows .mixedOrders = true) (hB : Region.lexTailB .any l.toArray n = true)
    (h : wpQuiet P l.toArray (fun w' => ∃ p : BW, w' = bw w p) (fun a' => ∀ w', (∃ p : BW, w' = bw w p) → wpList P l.toArray Q (l.drop n) a' w') (l.take n) a) : (Code.region id l.toArray true).wp P Q a w :=
  wp_region_tail (C := fun w' => ∃ p : BW, w' = bw w p) n hm hB ⟨⟨w.drawn + 1, #[]⟩, by simp [bw]⟩ h

/-- The class, by moves. -/
def CB (w w' : World) : Prop := ∃ p : BW, w' = bw w p
theorem CB.refl (w : World) : CB w w := bw_of (Below.refl _ w)
theorem wp_region_cb {P : Program} {id : Nat} {Q : Exit → Act → World → Prop} {a : Act} {w : World} {l : List Oper} (ss : List Mv) (hm : P.follows .mixedOrders = true)
    (hB : (Region.noSelect l.toArray && okB .any l.toArray ss (Array.replicate l.toArray.size false) && decide (fuelOf ss = l.toArray.size)) = true)
    (hQ : ∀ (d : Tmp) (v : Value) c a w, Q (.panic c) (a.put (some d) v) w → Q (.panic c) a w) (h : goS P l.toArray Q CB ss a { w with drawn := w.drawn + 1 }) : (Code.region id l.toArray true).wp P Q a w :=
  wp_region_mv CB ss hm hB CB.refl hQ h
theorem goS_cb {P : Program} {ops : Array Oper} {Q : Exit → Act → World → Prop} {ss : List Mv} {a : Act} {w : World} {is : List Nat}
    (h : wpQuiet P ops (fun w' => ∃ p : BW, w' = bw w p) (fun a' => ∀ w', (∃ p : BW, w' = bw w p) → goS P ops Q CB ss a' w') (opsAt ops is) a) : goS P ops Q CB (.blk is :: ss) a { w with drawn := w.drawn + 1 } := h
end Go.Proofs.Ytoeoablmcelohaa
