/- Texts of mine, joined: A region that draws its order, walked by a list of moves: an operation that yields in whatever world is taken first; a block of quiet ones in the order of the text; those that stand in one order, one behind the other. Of every program. | Walks: lists of lines held against one another, cut, closed. | Walk: lines taken off a list. | A result that lies in memory as a whole block; arrays of numbers as functions. Of every program. -/
import Derived.RegionTactic
import Derived.Test.YtpcipdkoncmdcaaGreatDoorZ6
namespace Go.Proofs.YtpcipdkoncmdcaaGreatDoor
open Go

inductive Mv where
  | take (i : Nat)
  | blk (is : List Nat)
  | frc (is : List Nat)

section
variable {P : Program} {ops : Array Oper} {md : Region.Mode}

def opsAt (ops : Array Oper) (is : List Nat) : List Oper := is.filterMap fun i => ops[i]?
def setAll : List Nat → Array Bool → Array Bool
  | [], up => up
  | i :: is, up => setAll is (up.setIfInBounds i true)

/-- The block's operations may come up in the order of the text. -/
def lexOk (md : Region.Mode) (ops : Array Oper) : List Nat → Array Bool → Bool
  | [], _ => true
  | k :: ks, up => (Region.ready md ops up).contains k && Region.free md ops up k && lexOk md ops ks (up.setIfInBounds k true)
def restOf (ops : Array Oper) (is : List Nat) (up : Array Bool) : List Nat := (List.range ops.size).filter fun j => !up.getD j true && !is.contains j
/-- While one of the block has not come up none of the others can. -/
def sinkOk (md : Region.Mode) (ops : Array Oper) (is : List Nat) (up : Array Bool) : Bool :=
  match restOf ops is up with
  | [] => true
  | t0 :: ts => (is.all fun i => (List.range ops.size).any fun j => Region.waitsFor md ops j i && (j == t0 || (decide (i < j) && is.contains j))) &&
      ts.all fun t => (t0 :: ts).any fun t' => Region.waitsFor md ops t t'
def frcOk (md : Region.Mode) (ops : Array Oper) : List Nat → Array Bool → Bool
  | [], _ => true
  | k :: ks, up => decide (Region.ready md ops up = [k]) && frcOk md ops ks (up.setIfInBounds k true)
def closedOk (md : Region.Mode) (ops : Array Oper) (up : Array Bool) : Bool :=
  (List.range ops.size).all fun j => match ops[j]? with
    | some oj => !up.getD j false || oj.after.all fun e => !Region.binds md e || up.getD e.on false
    | none => true

def okB (md : Region.Mode) (ops : Array Oper) : List Mv → Array Bool → Bool
  | [], up => (Region.ready md ops up).isEmpty
  | .take i :: ss, up => (Region.ready md ops up).contains i && Region.free md ops up i && okB md ops ss (up.setIfInBounds i true)
  | .blk is :: ss, up => decide (up.size = ops.size) && closedOk md ops up && is.all (fun i => decide (i < ops.size) && !up.getD i true) && sinkOk md ops is up && lexOk md ops is up && (Region.ready md ops (setAll is up)).all (fun j => !is.contains j) && okB md ops ss (setAll is up)
  | .frc is :: ss, up => frcOk md ops is up && okB md ops ss (setAll is up)
def fuelOf : List Mv → Nat
  | [] => 0
  | .take _ :: ss => fuelOf ss + 1
  | .blk is :: ss => fuelOf ss + is.length
  | .frc is :: ss => fuelOf ss + is.length

def goS (P : Program) (ops : Array Oper) (Q : Exit → Act → World → Prop) (C : World → World → Prop) : List Mv → Act → World → Prop
  | [], a, w => Q .normal a w
  | .take i :: ss, a, w => ∃ o, ops[i]? = some o ∧ ∃ v, Yields P ops o v a ∧ goS P ops Q C ss (a.put o.dst v) w
  | .blk is :: ss, a, w => wpQuiet P ops (C w) (fun a' => ∀ w', C w w' → goS P ops Q C ss a' w') (opsAt ops is) a
  | .frc is :: ss, a, w => wpList P ops (Exit.then (fun a' w' => goS P ops Q C ss a' w') Q) (opsAt ops is) a w

/-- A block's operations come up in any order; then T holds. -/
def BlkAny (P : Program) (md : Region.Mode) (ops : Array Oper) (C : World → Prop) (is : List Nat) (T : Array Bool → Act → Prop) : Nat → Array Bool → Act → Prop
  | 0, up, a => T up a
  | f + 1, up, a => Region.ready md ops up ≠ [] ∧ ∀ i ∈ Region.ready md ops up, i ∈ is ∧ qOp P ops C i (BlkAny P md ops C is T f (up.setIfInBounds i true)) a

theorem blkAny_wp {C : World → Prop} {is : List Nat} {g : Nat} {T : Array Bool → Act → Prop} {Q' : Exit → Act → World → Prop} (hT : ∀ up a w, C w → T up a → wpAny P md ops Q' g up a w) :
    ∀ (f : Nat) (up : Array Bool) (a : Act) (w : World), C w → BlkAny P md ops C is T f up a → wpAny P md ops Q' (f + g) up a w
  | 0, up, a, w, hw, h => by rw [Nat.zero_add]; exact hT _ _ _ hw h
  | f + 1, up, a, w, hw, h => by
    rw [show f + 1 + g = (f + g) + 1 by omega]
    exact ⟨fun h0 => absurd h0 h.1, fun i hi => wpOp_of_qOp hw (fun a' w' hw' h' => blkAny_wp hT f _ a' w' hw' h') (h.2 i hi).2⟩

structure BInv (md : Region.Mode) (ops : Array Oper) (is : List Nat) (up0 up : Array Bool) : Prop where
  size : up.size = ops.size
  closed : ∀ j oj, ops[j]? = some oj → up.getD j false = true → ∀ e ∈ oj.after, Region.binds md e = true → up.getD e.on false = true
  rest : ∀ t ∈ restOf ops is up0, up.getD t true = false
  old : ∀ j, up0.getD j true = true → up.getD j true = true

theorem getD_set_true' {up : Array Bool} {i j : Nat} (h : up.getD j true = true) : (up.setIfInBounds i true).getD j true = true := by
  by_cases hij : i = j
  · subst hij
    simp only [Array.getD_eq_getD_getElem?, Array.getElem?_setIfInBounds_self] at h ⊢
    split
    · rfl
    · rename_i h'
      rw [Array.getElem?_eq_none (by omega)] at h
      exact h
  · rw [getD_set_ne true hij]; exact h

theorem BInv.set {is : List Nat} {up0 up : Array Bool} {i : Nat} (inv : BInv md ops is up0 up) (hi : i ∈ Region.ready md ops up) (hin : i ∈ is) : BInv md ops is up0 (up.setIfInBounds i true) := by
  obtain ⟨_, oi, hoi, hall⟩ := mem_ready.1 hi
  refine ⟨by simp [inv.size], fun j oj hj hl e he hb => ?_, fun t ht => ?_, fun j hj => getD_set_true' (inv.old j hj)⟩
  · by_cases hij : i = j
    · subst hij
      have : oj = oi := Option.some.inj (hj.symm.trans hoi)
      subst this
      exact getD_set_true (hall e he hb)
    · rw [getD_set_ne false hij] at hl
      exact getD_set_true (inv.closed j oj hj hl e he hb)
  · have hne : i ≠ t := fun e => by
      subst e
      have := (List.mem_filter.1 ht).2
      simp only [Bool.and_eq_true, Bool.not_eq_true', List.contains_iff_mem, ← Bool.not_eq_true] at this
      exact this.2 (by simpa using hin)
    rw [getD_set_ne true hne]; exact inv.rest t ht

theorem rest_waits {is : List Nat} {up0 up : Array Bool} (hs : sinkOk md ops is up0 = true) (inv : BInv md ops is up0 up) {i : Nat} (hin : i ∈ is) (hun : up.getD i true = false) : ∀ t ∈ restOf ops is up0, t ∉ Region.ready md ops up := by
  unfold sinkOk at hs
  cases hr : restOf ops is up0 with
  | nil => intro t ht; cases ht
  | cons t0 ts =>
    rw [hr] at hs
    simp only [Bool.and_eq_true] at hs
    obtain ⟨h1, h2⟩ := hs
    have head : ∀ (d i : Nat), ops.size - i = d → i ∈ is → up.getD i true = false → t0 ∉ Region.ready md ops up := by
      intro d
      induction d using Nat.strongRecOn with
      | _ d ih =>
        intro i hd hi hun hr0
        obtain ⟨_, ot, hot, hall⟩ := mem_ready.1 hr0
        obtain ⟨j, hj, hj2⟩ := List.any_eq_true.1 (List.all_eq_true.1 h1 i hi)
        simp only [Bool.and_eq_true, Bool.or_eq_true, decide_eq_true_eq, beq_iff_eq] at hj2
        obtain ⟨oj, hoj, e, he, hb, hon⟩ := Region.waitsFor_spec hj2.1
        rcases hj2.2 with rfl | ⟨hlt, hjs⟩
        · have : oj = ot := Option.some.inj (hoj.symm.trans hot)
          subst this
          have h3 := hall e he hb
          rw [hon, getD_both hun] at h3
          cases h3
        · have hjs : j ∈ is := by simpa using hjs
          have hjlt : j < ops.size := List.mem_range.1 hj
          cases hl : up.getD j false with
          | true =>
            have h3 := inv.closed j oj hoj hl e he hb
            rw [hon, getD_both hun] at h3
            cases h3
          | false => exact ih (ops.size - j) (by omega) j rfl hjs (getD_in (by rw [inv.size]; exact hjlt) hl) hr0
    intro t ht htr
    rcases List.mem_cons.1 ht with rfl | ht'
    · exact head _ i rfl hin hun htr
    · obtain ⟨t', ht1, ht2⟩ := List.any_eq_true.1 (List.all_eq_true.1 h2 t ht')
      obtain ⟨_, ot, hot, hall⟩ := mem_ready.1 htr
      obtain ⟨o', ho', e, he, hb, hon⟩ := Region.waitsFor_spec ht2
      have : o' = ot := Option.some.inj (ho'.symm.trans hot)
      subst this
      have h3 := hall e he hb
      rw [hon, getD_both (inv.rest t' (by rw [hr]; exact ht1))] at h3
      cases h3

theorem blk_ready {is : List Nat} {up0 up : Array Bool} (hs : sinkOk md ops is up0 = true) (inv : BInv md ops is up0 up) {i : Nat} (hin : i ∈ is) (hun : up.getD i true = false) : ∀ j ∈ Region.ready md ops up, j ∈ is := by
  intro j hj
  obtain ⟨hjun, oj, hoj, _⟩ := mem_ready.1 hj
  refine Decidable.byContradiction fun hn => rest_waits hs inv hin hun j (List.mem_filter.2 ⟨List.mem_range.2 (Array.getElem?_eq_some_iff.1 hoj).1, ?_⟩) hj
  simp only [Bool.and_eq_true, Bool.not_eq_true']
  refine ⟨?_, by simpa using hn⟩
  cases h0 : up0.getD j true with
  | false => rfl
  | true => rw [inv.old j h0] at hjun; cases hjun

theorem blkAny_first {C : World → Prop} {is : List Nat} {up0 : Array Bool} {i : Nat} {oi : Oper} {v : Value} {T : Array Bool → Act → Prop} (hi : ops[i]? = some oi) (hsel : ∀ (j : Nat) (o : Oper) cs b, ops[j]? = some o → o.op ≠ .select cs b)
    (hs : sinkOk md ops is up0 = true) (hin : i ∈ is) (hT : ∀ up a, T up a → ∀ j ∈ Region.ready md ops up, j ∉ is) (f : Nat) :
    ∀ (up : Array Bool) (a : Act), BInv md ops is up0 up →
      (∀ j oj, ops[j]? = some oj → j ≠ i → up.getD j true = false → (∀ e ∈ oj.after, Region.binds md e = true → e.on ≠ i) → oi.apart ops oj = true) →
      i ∈ Region.ready md ops up → YieldsIn P ops C oi v a →
      BlkAny P md ops C is T f (up.setIfInBounds i true) (a.put oi.dst v) → BlkAny P md ops C is T (f + 1) up a := by
  induction f with
  | zero =>
    intro up a inv _ hr hy H
    have hun := (mem_ready.1 hr).1
    refine ⟨fun h => (by rw [h] at hr; cases hr), fun j hj => ?_⟩
    have hjn : j ∈ is := blk_ready hs inv hin hun j hj
    refine ⟨hjn, ?_⟩
    by_cases hji : j = i
    · subst hji; exact hy.qOp hi H
    · exact absurd hjn (hT _ _ H j (ready_mono hj hji))
  | succ f ih =>
    intro up a inv hfree hr hy H
    have hun := (mem_ready.1 hr).1
    refine ⟨fun h => (by rw [h] at hr; cases hr), fun j hj => ?_⟩
    have hjn : j ∈ is := blk_ready hs inv hin hun j hj
    refine ⟨hjn, ?_⟩
    by_cases hji : j = i
    · subst hji; exact hy.qOp hi H
    · obtain ⟨hjun, oj, hoj, hall⟩ := mem_ready.1 hj
      have hnot : ∀ e ∈ oj.after, Region.binds md e = true → e.on ≠ i := by
        intro e he hb heq
        have h1 := hall e he hb
        rw [heq, getD_both hun] at h1
        cases h1
      have h2 := qOp_put hoj (hfree j oj hoj hji hjun hnot) (fun cs b => hsel i oi cs b hi) (fun cs b => hsel j oj cs b hoj) hy (H.2 j (ready_mono hj hji)).2
      refine qOp_mono (fun a' h3 => ?_) h2
      refine ih (up.setIfInBounds j true) a' (inv.set hj hjn) ?_ (ready_mono hr (Ne.symm hji)) h3.1 ?_
      · intro k ok hk hki hkun hno
        refine hfree k ok hk hki ?_ hno
        by_cases hjk : j = k
        · subst hjk; exact hjun
        · rwa [getD_set_ne true hjk] at hkun
      · rw [Array.setIfInBounds_comm _ _ hji]
        exact h3.2

theorem blkAny_lex {C : World → Prop} {is : List Nat} {up0 U : Array Bool} {K : Act → Prop} (hsel : Region.noSelect ops = true) (hs : sinkOk md ops is up0 = true) (hU : ∀ j ∈ Region.ready md ops U, j ∉ is) :
    ∀ (ks : List Nat) (up : Array Bool) (a : Act), (∀ k ∈ ks, k ∈ is) → (∀ k ∈ ks, k < ops.size) → setAll ks up = U → BInv md ops is up0 up →
    lexOk md ops ks up = true → wpQuiet P ops C K (opsAt ops ks) a → BlkAny P md ops C is (fun up' a' => up' = U ∧ K a') ks.length up a
  | [], up, a, _, _, hu, _, _, h => ⟨hu, h⟩
  | k :: ks, up, a, hk, hsz, hu, inv, hB, h => by
    have hlt : k < ops.size := hsz k (by simp)
    have h0 : ops[k]? = some ops[k] := Array.getElem?_eq_getElem hlt
    simp only [lexOk, Bool.and_eq_true] at hB
    obtain ⟨⟨hr, hf⟩, hB'⟩ := hB
    have hr' : k ∈ Region.ready md ops up := by simpa using hr
    have he : opsAt ops (k :: ks) = ops[k] :: opsAt ops ks := by unfold opsAt; rw [List.filterMap_cons, h0]
    rw [he] at h
    have hq : qOp P ops C k (wpQuiet P ops C K (opsAt ops ks)) a := by unfold qOp; simp only [h0]; exact h
    obtain ⟨v, hy, hK⟩ := yieldsIn_of_qOp h0 hq
    exact blkAny_first h0 (Region.noSelect_spec hsel) hs (hk k (by simp)) (fun up' a' hT => by rw [hT.1]; exact hU) ks.length up a inv (Region.free_spec h0 hf) hr' hy
      (blkAny_lex hsel hs hU ks _ _ (fun j hj => hk j (by simp [hj])) (fun j hj => hsz j (by simp [hj])) hu (inv.set hr' (hk k (by simp))) hB' hK)

theorem letsOut_then {N : Act → World → Prop} {Q : Exit → Act → World → Prop} (h : LetsOut (Exit.then N Q)) : LetsOut Q := h

theorem wpOp_then {N : Act → World → Prop} {Q : Exit → Act → World → Prop} {i : Nat} {K : Act → World → Prop} {a : Act} {w : World} (h : wpOp P ops (Exit.then N Q) i K a w) : wpOp P ops Q i K a w := by
  unfold wpOp at *
  split
  · rename_i ho; simp only [ho] at h; exact h
  · rename_i o ho
    simp only [ho] at h
    split
    · rename_i hw
      simp only [hw, if_true] at h
      rcases h with h | ⟨h1, h2⟩
      · refine .inl ?_
        unfold Oper.wp at *
        generalize (execOp a.eval o).run P w = r at *
        cases r with
        | ok n w' =>
          cases n <;> simp only [Oper.upon] at h ⊢ <;> first
            | exact h
            | exact h.mono fun e _ he => by cases e <;> exact he
        | halt x w' => cases x <;> simp only [Oper.upon] at h ⊢ <;> exact h
      · exact .inr ⟨h1, letsOut_then h2⟩
    · rename_i hw; simp only [hw] at h; exact h

theorem frc_wp {N : Act → World → Prop} {Q : Exit → Act → World → Prop} {g : Nat} {U : Array Bool} (hN : ∀ a w, N a w → wpAny P md ops Q g U a w) :
    ∀ (ks : List Nat) (up : Array Bool) (a : Act) (w : World), frcOk md ops ks up = true → setAll ks up = U → wpList P ops (Exit.then N Q) (opsAt ops ks) a w → wpAny P md ops Q (g + ks.length) up a w
  | [], up, a, w, _, hu, h => by subst hu; exact hN a w h
  | k :: ks, up, a, w, hB, hu, h => by
    simp only [frcOk, Bool.and_eq_true, decide_eq_true_eq] at hB
    rw [List.length_cons, ← Nat.add_assoc]
    refine ⟨fun h1 => (by rw [hB.1] at h1; cases h1), fun i hi => ?_⟩
    have hik : i = k := by rw [hB.1] at hi; simpa using hi
    subst hik
    obtain ⟨_, o, ho, _⟩ := mem_ready.1 hi
    have he : opsAt ops (i :: ks) = o :: opsAt ops ks := by unfold opsAt; rw [List.filterMap_cons, ho]
    rw [he] at h
    have hw : wpOp P ops (Exit.then N Q) i (wpList P ops (Exit.then N Q) (opsAt ops ks)) a w := by unfold wpOp; simp only [ho]; exact h
    exact wpOp_mono (fun a' w' h' => frc_wp hN ks _ a' w' hB.2 hu h') (wpOp_then hw)

theorem goS_wp {Q : Exit → Act → World → Prop} {C : World → World → Prop} (hsel : Region.noSelect ops = true) (hC : ∀ w, C w w) (hQ : ∀ (d : Tmp) (v : Value) c a w, Q (.panic c) (a.put (some d) v) w → Q (.panic c) a w) :
    ∀ (ss : List Mv) (up : Array Bool) (a : Act) (w : World), okB md ops ss up = true → goS P ops Q C ss a w → wpAny P md ops Q (fuelOf ss) up a w
  | [], up, a, w, hB, h => ⟨by simpa [okB] using hB, h⟩
  | .take i :: ss, up, a, w, hB, h => by
    simp only [okB, Bool.and_eq_true] at hB
    obtain ⟨⟨hr, hf⟩, hB'⟩ := hB
    obtain ⟨o, ho, v, hy, h⟩ := h
    exact wpAny_take ho hsel hf hr (fun c a w h => by cases hd : o.dst with | none => rw [hd] at h; exact h | some t => rw [hd] at h; exact hQ t v c a w h) hy (goS_wp hsel hC hQ ss _ _ _ hB' h)
  | .frc is :: ss, up, a, w, hB, h => by
    simp only [okB, Bool.and_eq_true] at hB
    exact frc_wp (fun a w => goS_wp hsel hC hQ ss _ a w hB.2) is up a w hB.1 rfl h
  | .blk is :: ss, up, a, w, hB, h => by
    simp only [okB, Bool.and_eq_true, decide_eq_true_eq] at hB
    obtain ⟨⟨⟨⟨⟨⟨hsz, hcl⟩, hall⟩, hs⟩, hl⟩, hU⟩, hB'⟩ := hB
    have hall' : ∀ k ∈ is, k < ops.size := fun k hk => by
      have := List.all_eq_true.1 hall k hk
      simp only [Bool.and_eq_true, decide_eq_true_eq] at this
      exact this.1
    have inv : BInv md ops is up up := by
      refine ⟨hsz, fun j oj hj hu e he hb => ?_, fun t ht => ?_, fun _ h => h⟩
      · have h1 := List.all_eq_true.1 hcl j (List.mem_range.2 (Array.getElem?_eq_some_iff.1 hj).1)
        simp only [hj, hu, Bool.not_true, Bool.false_or] at h1
        have h2 := Array.all_eq_true'.1 h1 e he
        simpa [hb] using h2
      · have := (List.mem_filter.1 ht).2
        simp only [Bool.and_eq_true, Bool.not_eq_true'] at this
        exact this.1
    have hU' : ∀ j ∈ Region.ready md ops (setAll is up), j ∉ is := fun j hj hm => by
      have := List.all_eq_true.1 hU j hj
      simp at this
      exact this hm
    have H := blkAny_lex (C := C w) hsel hs hU' is up a (fun _ h => h) hall' rfl inv hl h
    have := blkAny_wp (Q' := Q) (g := fuelOf ss) (fun up' a' w' hw' hT => by
      obtain ⟨e, hT⟩ := hT
      subst e
      exact goS_wp hsel hC hQ ss _ a' w' hB' (hT w' hw')) is.length up a w (hC w) H
    rw [show fuelOf (.blk is :: ss) = is.length + fuelOf ss by simp only [fuelOf]; omega]
    exact this

/-- A region that draws its order, by moves. -/
theorem wp_region_mv {id : Nat} {Q : Exit → Act → World → Prop} {a : Act} {w : World} {l : List Oper} (C : World → World → Prop) (ss : List Mv) (hm : P.follows .mixedOrders = true)
    (hB : (Region.noSelect l.toArray && okB .any l.toArray ss (Array.replicate l.toArray.size false) && decide (fuelOf ss = l.toArray.size)) = true) (hC : ∀ w, C w w)
    (hQ : ∀ (d : Tmp) (v : Value) c a w, Q (.panic c) (a.put (some d) v) w → Q (.panic c) a w) (h : goS P l.toArray Q C ss a { w with drawn := w.drawn + 1 }) : (Code.region id l.toArray true).wp P Q a w := by
  simp only [Bool.and_eq_true, decide_eq_true_eq] at hB
  refine wp_region_any hm ?_
  have := goS_wp (md := .any) hB.1.1 hC hQ ss _ a _ hB.1.2 h
  rwa [hB.2] at this

def DN (w w' : World) : Prop := ∃ q, w' = w.drewN q
theorem DN.refl (w : World) : DN w w := ⟨0, rfl⟩

theorem wp_region_dn {id : Nat} {Q : Exit → Act → World → Prop} {a : Act} {w : World} {l : List Oper} (ss : List Mv) (hm : P.follows .mixedOrders = true)
    (hB : (Region.noSelect l.toArray && okB .any l.toArray ss (Array.replicate l.toArray.size false) && decide (fuelOf ss = l.toArray.size)) = true)
    (hQ : ∀ (d : Tmp) (v : Value) c a w, Q (.panic c) (a.put (some d) v) w → Q (.panic c) a w) (h : goS P l.toArray Q DN ss a (w.drewN 1)) : (Code.region id l.toArray true).wp P Q a w :=
  wp_region_mv DN ss hm hB DN.refl hQ h

variable {Q : Exit → Act → World → Prop} {C : World → World → Prop} {ss : List Mv} {a : Act} {w : World}
theorem goS_take {i : Nat} {o : Oper} {v : Value} (ho : ops[i]? = some o) (hw : Region.wanted o (yielded ops a.tmps) = true) (hv : ∀ w, (execOp a.eval o).run P w = .ok (.value v) w) (h : goS P ops Q C ss (a.put o.dst v) w) : goS P ops Q C (.take i :: ss) a w :=
  ⟨o, ho, v, .inl ⟨hw, hv⟩, h⟩
theorem goS_blk {is : List Nat} (h : wpQuiet P ops (C w) (fun a' => ∀ w', C w w' → goS P ops Q C ss a' w') (opsAt ops is) a) : goS P ops Q C (.blk is :: ss) a w := h
theorem goS_dn {is : List Nat} (h : wpQuiet P ops (fun w' => ∃ q, w' = w.drewN q) (fun a' => ∀ w', (∃ q, w' = w.drewN q) → goS P ops Q DN ss a' w') (opsAt ops is) a) : goS P ops Q DN (.blk is :: ss) a w := h
theorem goS_frc {is : List Nat} (h : wpList P ops (Exit.then (fun a' w' => goS P ops Q C ss a' w') Q) (opsAt ops is) a w) : goS P ops Q C (.frc is :: ss) a w := h
theorem wpList_then {N : Act → World → Prop} (hN : ∀ a w, Q .normal a w → N a w) : ∀ (l : List Oper) (a : Act) (w : World), wpList P ops Q l a w → wpList P ops (Exit.then N Q) l a w
  | [], a, w, h => hN a w h
  | o :: l, a, w, h => by
    unfold wpList at h ⊢
    split at h
    · rename_i hw
      rw [if_pos hw]
      rcases h with h | ⟨h1, h2⟩
      · refine .inl ?_
        unfold Oper.wp at *
        generalize (execOp a.eval o).run P w = r at *
        cases r with
        | ok n w' =>
          cases n <;> simp only [Oper.upon] at h ⊢ <;> first
            | exact wpList_then hN l _ _ h
            | exact h.mono fun e _ he => by cases e <;> first | exact wpList_then hN l _ _ he | exact he
            | exact h.mono fun _ _ he => wpList_then hN l _ _ he
        | halt x w' => cases x <;> simp only [Oper.upon] at h ⊢ <;> exact h
      · exact .inr ⟨h1, h2⟩
    · rename_i hw
      rw [if_neg hw]
      exact wpList_then hN l _ _ h
/-- The last ones. -/
theorem goS_last {is : List Nat} (h : wpList P ops Q (opsAt ops is) a w) : goS P ops Q C [.frc is] a w := goS_frc (wpList_then (fun _ _ h => h) _ _ _ h)
end
end Go.Proofs.YtpcipdkoncmdcaaGreatDoor
namespace Go.Proofs.YtpcipdkoncmdcaaGreatDoor
open Go Go.RowKit

/-- slices.Equal over texts. -/
theorem teq_c {w : World} {v1 v2 : Value} {l1 l2 : List ByteArray} (h1 : Tl w v1 l1) (h2 : Tl w v2 l2) (hl1 : l1.length ≤ 100000000) (hl2 : l2.length ≤ 100000000) : Calls Tryz.prog 137 #[v1, v2] w fun e w' => e = .returned (.bool (decide (l1 = l2))) ∧ ∃ q, w' = w.drewN q := by
  by_cases hn : l1.length = l2.length
  · by_cases h0 : l1 = []
    · subst h0
      have : l2 = [] := List.eq_nil_of_length_eq_zero hn.symm
      subst this
      obtain ⟨a1, c1, rfl, -⟩ := h1
      obtain ⟨a2, c2, rfl, -⟩ := h2
      exact (Tryz.slices_Equal_string_empty a1 a2 c1 0 c2 w (by omega)).mono fun e w' ⟨he, hw⟩ => ⟨he, 0, hw⟩
    · have h0' : l2 ≠ [] := fun e => h0 (List.eq_nil_of_length_eq_zero (by rw [hn, e]; rfl))
      obtain ⟨b1, o1, c1, rfl, -, -, -, g1⟩ := h1.some_ h0
      obtain ⟨b2, o2, c2, rfl, -, -, -, g2⟩ := h2.some_ h0'
      refine (Tryz.slices_Equal_string b1 o1 l1.length c1 b2 o2 l2.length c2 l1 l2 w (Nat.le_refl _) (Nat.le_refl _) (by omega) (by omega) (fun j hj => by rw [g1 j hj, PathS.getD_at l1 j hj]) (fun j hj => by rw [g2 j hj, PathS.getD_at l2 j hj])).mono ?_
      rintro e w' ⟨he, hq⟩
      rw [List.take_length, List.take_length] at he
      exact ⟨he, hq⟩
  · obtain ⟨a1, c1, rfl, -⟩ := h1
    obtain ⟨a2, c2, rfl, -⟩ := h2
    refine (Tryz.slices_Equal_string_lens a1 a2 l1.length c1 l2.length c2 w hn).mono ?_
    rintro e w' ⟨he, hw⟩
    refine ⟨?_, 0, hw⟩
    rw [he, decide_eq_false (fun e => hn (by rw [e]))]

theorem tclone_c {w : World} {v : Value} {l : List ByteArray} (h : Tl w v l) (hl : l.length ≤ 10000000) : Calls Tryz.prog 128 #[v] w fun e w' => ∃ v', e = .returned v' ∧ w'.ownsRow w.heap.size 9 1 v' l.length (lrow l) ∧ Below w.heap.size w w' := by
  obtain ⟨a, c, rfl, -, -, h4, h5⟩ := h
  exact clone_c a c l w h5 h4 hl

theorem Tl.drewN {w : World} {v : Value} {l : List ByteArray} (h : Tl w v l) (q : Nat) : Tl (w.drewN q) v l := h.below (below_dN (Below.refl _ w) q)

set_option maxRecDepth 100000 in
set_option maxHeartbeats 1000000 in
theorem kind_c {w : World} {vb vo vt : Value} {p : JoinS.Pt ByteArray} (hb : Tl w vb p.b) (ho : Tl w vo p.o) (ht : Tl w vt p.t) (lb : p.b.length ≤ 100000000) (lo : p.o.length ≤ 100000000) (lt : p.t.length ≤ 100000000) :
    Calls Tryz.prog 127 #[vb, vo, vt] w fun e w' => e = .returned (.int .i64 (JoinS.kindOf p)) ∧ ∃ q, w' = w.drewN q := by
  have hall : ∀ (v1 v2 : Value) (l1 l2 : List ByteArray) (W : World), Tl w v1 l1 → Tl w v2 l2 → l1.length ≤ 100000000 → l2.length ≤ 100000000 → DN w W → Calls Tryz.prog 137 #[v1, v2] W fun e W' => e = .returned (.bool (decide (l1 = l2))) ∧ DN w W' := by
    rintro v1 v2 l1 l2 W g1 g2 k1 k2 ⟨q, rfl⟩
    refine (teq_c (g1.drewN q) (g2.drewN q) k1 k2).mono ?_
    rintro e W' ⟨he, q2, rfl⟩
    exact ⟨he, q + q2, by rw [World.drewN_drewN]⟩
  have H1 := Lib.hid (fun W => hall vo vb p.o p.b W ho hb lo lb)
  have H2 := Lib.hid (fun W => hall vt vb p.t p.b W ht hb lt lb)
  have H3 := Lib.hid (fun W => hall vo vt p.o p.t W ho ht lo lt)
  clear hall
  have hd := DN.refl w
  have HK : Hid (∀ a b c : Bool, decide (p.o = p.b) = a → decide (p.t = p.b) = b → decide (p.o = p.t) = c → JoinS.kindOf p = if a && b then 0 else if b then 1 else if a then 2 else if c then 3 else 4) := by
    intro a b c e1 e2 e3
    unfold JoinS.kindOf
    rw [← e1, ← e2, ← e3]
    by_cases g1 : p.o = p.b <;> by_cases g2 : p.t = p.b <;> by_cases g3 : p.o = p.t <;> simp [g1, g2, g3]
  clear hb ho ht lb lo lt
  obtain ⟨a, ea⟩ : ∃ a, decide (p.o = p.b) = a := ⟨_, rfl⟩
  obtain ⟨b, eb⟩ : ∃ a, decide (p.t = p.b) = a := ⟨_, rfl⟩
  obtain ⟨c, ec⟩ : ∃ a, decide (p.o = p.t) = a := ⟨_, rfl⟩
  have HK2 := Lib.hid (HK.out a b c ea eb ec)
  rw [ea] at H1
  rw [eb] at H2
  rw [ec] at H3
  clear ea eb ec HK
  go_enter Tryz.func127, Tryz.ntmps127
  cases a <;> cases b <;> (try cases c)
  all_goals
    go_wp2_with (first
      | (go_at_call 137; refine (H1.out _ hd).mono ?_; rintro e w1 ⟨rfl, hd⟩; clear H1)
      | (go_at_call 137; refine (H2.out _ hd).mono ?_; rintro e w2 ⟨rfl, hd⟩; clear H2)
      | (go_at_call 137; refine (H3.out _ hd).mono ?_; rintro e w3 ⟨rfl, hd⟩))
    go_ret
    exact ⟨ret_i64 (by rw [HK2.out]; rfl), hd⟩

theorem last_get {l : List ByteArray} {k : Nat} (h : l.length = k + 1) : l.getLast? = some (l[k]'(by omega)) := by
  have e : l.length - 1 = k := by omega
  rw [List.getLast?_eq_getElem?, show l[l.length - 1]? = l[k]? from congrArg (fun n => l[n]?) e, List.getElem?_eq_getElem (by omega)]
theorem set_last {l : List ByteArray} {k : Nat} (h : l.length = k + 1) (y : ByteArray) : l.set k y = l.dropLast ++ [y] := by
  have h2 : l = l.dropLast ++ [l[k]'(by omega)] := (JoinS.dl_last (last_get h)).symm
  have h3 : l.dropLast.length = k := by rw [List.length_dropLast, h]; rfl
  conv => lhs; rw [h2]
  rw [List.set_append_right _ _ (by omega), h3, Nat.sub_self]; rfl

set_option maxRecDepth 100000 in
set_option maxHeartbeats 1000000 in
theorem closed_c {w : World} {v : Value} {l : List ByteArray} (h : Tl w v l) (hl : l.length ≤ 10000000) (hz : ∀ s ∈ l, s.size ≤ 100000000) : Calls Tryz.prog 113 #[v] w fun e w' => ∃ v', e = .returned v' ∧ w'.ownsRow w.heap.size 9 1 v' (JoinS.closed l).length (lrow (JoinS.closed l)) ∧ Below w.heap.size w w' := by
  have HCL := Lib.hid (tclone_c h hl)
  clear h
  go_enter Tryz.func113, Tryz.ntmps113
  go_upto_region 2 with (go_at_call 128; refine HCL.out.mono ?_; rintro e w1 ⟨v1, rfl, ho, hb⟩)
  rcases hk : l.length with _ | k
  · have e0 : l = [] := List.eq_nil_of_length_eq_zero hk
    subst e0
    have HO := Lib.hid ho
    have HB := Lib.hid hb
    obtain ⟨a, c, rfl, -⟩ := Tl.of_own ho
    clear ho hb HCL hk
    go_wp2_with fail
    go_ret
    exact ⟨_, rfl, HO.out, HB.out⟩
  · rw [hk] at ho
    obtain ⟨g, c, rfl, hc, hbg, hgl, hs⟩ := own_some ho (own_ne ho (by omega))
    have hcell : w1.cell? ⟨g, k, none⟩ = some (.string (l[k]'(by omega))) := by
      rw [ho.cellAt k (by omega)]
      unfold lrow
      rw [List.getElem?_map, List.getElem?_eq_getElem (by omega)]; rfl
    have hfz := ho.frozenAt k
    have hsz := hz _ (List.getElem_mem (by omega : k < l.length))
    have HST := Lib.hid (ho.stored k (.string ((l[k]'(by omega)) ++ ⟨#[10]⟩)))
    have HCD : Hid (JoinS.closed l = if Lib.hasSuffix (l[k]'(by omega)).data.toList [10] then l else l.set k ((l[k]'(by omega)) ++ ⟨#[10]⟩)) := by
      show _ = _
      unfold JoinS.closed
      rw [last_get hk, set_last hk]; rfl
    have HO := Lib.hid ho
    have HB := Lib.hid hb
    clear ho hb hs HCL hc
    have HK := Lib.hid hk
    have hkb : k < 10000000 := by omega
    have hle : k + 1 ≤ 100000000 := by omega
    have d1 : decide ((k : Int) + 1 > 0) = true := decide_eq_true (by omega)
    have d2 : decide (0 < k + 1) = true := decide_eq_true (by omega)
    have d3 : IntKind.i64.wrap ((k : Int) + 1 - 1) = (k : Int) := by rw [show (k : Int) + 1 - 1 = (k : Int) by omega]; exact IntWalk.i64_in _ (by omega)
    have hk0 : (0 : Int) ≤ (k : Int) := by omega
    have hk1 : (k : Int) < (k : Int) + 1 := by omega
    generalize l[k]'(by omega) = x at *
    clear hk
    have HSF := Lib.hid (Tryz.strings_HasSuffix x ⟨#[10]⟩ w1 (by omega))
    obtain ⟨z, hz2⟩ : ∃ z, Lib.hasSuffix x.data.toList (⟨#[10]⟩ : ByteArray).data.toList = z := ⟨_, rfl⟩
    have HZ : Hid (Lib.hasSuffix x.data.toList [10] = z) := hz2
    rw [hz2] at HSF
    clear hz2
    cases z
    · go_wp2_with (go_at_call 129; refine HSF.out.mono ?_; rintro e w2 ⟨rfl, hw⟩; obtain rfl := hw.symm; clear hw)
      go_ret
      rw [HCD.out, HZ.out, if_neg (by simp)]
      refine ⟨_, rfl, ?_, HB.out.trans (below_of_grown HO.out HST.out.2 HB.out.size)⟩
      rw [List.length_set, HK.out]
      have : lrow (l.set k (x ++ ⟨#[10]⟩)) = (lrow l).set k (.string (x ++ ⟨#[10]⟩)) := by unfold lrow; rw [List.map_set]
      rw [this]
      exact HST.out.1
    · go_wp2_with (go_at_call 129; refine HSF.out.mono ?_; rintro e w2 ⟨rfl, hw⟩; obtain rfl := hw.symm; clear hw)
      go_ret
      rw [HCD.out, HZ.out, if_pos rfl, HK.out]
      exact ⟨_, rfl, HO.out, HB.out⟩
end Go.Proofs.YtpcipdkoncmdcaaGreatDoor
namespace Go.Proofs.YtpcipdkoncmdcaaGreatDoor
open Go Go.RowKit

theorem Tl.to {w : World} {a : Option Addr} {c n : Nat} {l : List ByteArray} (h : Tl w (.slice a l.length c) l) (hn : n ≤ l.length) : Tl w (.slice a n c) (l.take n) := by
  obtain ⟨a', c', e, h2, h3, h4, h5⟩ := h
  injection e with e1 _ e2
  subst e1 e2
  exact ⟨_, _, by rw [List.length_take, Nat.min_eq_left hn], by rw [List.length_take]; omega, h3, h4, by rw [lrow_take]; exact h5.take n⟩

set_option maxRecDepth 100000 in
set_option maxHeartbeats 1000000 in
theorem cut_c {w : World} {q i n : Nat} {v : Value} {l : List ByteArray} (hc : w.cell? ⟨q, i, none⟩ = some v) (hf : w.frozen? ⟨q, i, none⟩ = false) {F : Nat → Prop} (h : Tn w F v l) (hn : n ≤ l.length) (hl : l.length ≤ 10000000) :
    Calls Tryz.prog 126 #[.pointer (some ⟨q, i, none⟩), .int .i64 n] w fun e w' => ∃ v' v2 w1, e = .returned v' ∧ w1.ownsRow w.heap.size 9 1 v' n (lrow (l.take n)) ∧ Tn w F v2 (l.drop n) ∧ Below w.heap.size w w1 ∧ w' = w1.setCell ⟨q, i, none⟩ v2 := by
  have hqb : q < w.heap.size := World.block_lt_of_cell? w _ hc
  have hT := h.tl
  obtain ⟨a, c, rfl, h2, h3, h4, hF⟩ := h
  have h5 : Sl w a (lrow l) := hF.imp id fun ⟨b, o, g1, _, g3, g4⟩ => ⟨b, o, g1, g3, g4⟩
  have hto : ∀ W, (Instr.slice 82 (.slice a l.length c) none (some (.int .i64 n)) none).run Tryz.prog W = .ok (.slice a n c) W := fun W => sl_to strs_elem strs_one (by omega) h4 W
  obtain ⟨A, C, hC1, hC2, hC3, hAs, hfrom, hsame⟩ := sl_from2 strs_elem strs_one (c := c) h5 (by rw [lrow_len]; exact h2) h4 (k := n) (by rw [lrow_len]; exact hn)
  rw [lrow_len] at hC1 hfrom
  have HT2 : Hid (Tn w F (.slice A (l.length - n) C) (l.drop n)) := Lib.hid ⟨A, C, by rw [List.length_drop], by rw [List.length_drop]; exact hC1, by omega, hC3, by
    rw [lrow_drop]
    rcases hAs with h | ⟨b, o, g1, g3, g4⟩
    · exact .inl h
    · rcases hF with h | ⟨b', o', e1, e2, -, -⟩
      · exact .inl (by rw [h]; exact List.drop_nil)
      · obtain ⟨o2, sp2, e3⟩ := hsame b o g1
        rw [e1] at e3
        injection e3 with e3
        injection e3 with e3
        subst e3
        exact .inr ⟨b', o, g1, e2, g3, g4⟩⟩
  have HCL := tclone_c (hT.to hn) (by rw [List.length_take]; omega)
  rw [List.length_take, Nat.min_eq_left hn] at HCL
  have HCL := Lib.hid HCL
  have HC := Lib.hid hc
  have HF := Lib.hid hf
  clear h5 hT hAs hF hsame
  go_enter Tryz.func126, Tryz.ntmps126
  go_upto_region 2 with (go_at_call 128; refine HCL.out.mono ?_; rintro e w1 ⟨v1, rfl, ho, hb⟩)
  have hc1 := (hb.cell (p := ⟨q, i, none⟩) hqb).trans hc
  have hf1 : w1.frozen? ⟨q, i, none⟩ = false := by rw [← hf]; simp only [World.frozen?, hb.block q hqb]
  have HO := Lib.hid ho
  have HB := Lib.hid hb
  clear ho hb HCL hto hc hf
  go_wp2_with fail
  go_ret
  exact ⟨_, _, w1, rfl, HO.out, HT2.out, HB.out, rfl⟩
end Go.Proofs.YtpcipdkoncmdcaaGreatDoor
namespace Go.Proofs.YtpcipdkoncmdcaaGreatDoor
open Go Go.RowKit

section
variable {P : Program} {w w' : World}

/-- A function's result is a whole block. -/
theorem results_cell {fn : Func} {t : Tmp} {ty : TypeId} (h : fn.results = #[.cell t ty]) {tmps : Array Value} {b : Nat} (ht : tmps.getD t undef = .pointer (some ⟨b, 0, none⟩)) {cs : Array Value} {e : TypeId} {fr : Nat × Nat} (hb : w.heap[b]? = some (.cells cs e fr)) {d : TypeDesc}
    (hu : P.underlying ty = some d) (hd : d.isRow = true) (hi : (P.info? ty).map (·.size) = some cs.toList.length) : (results fn tmps).run P w = .ok (.agg cs) w := by
  have hl := run_loadVar_mid (P := P) w b 0 ty cs.toList d (fun j v hj => by
    rw [Nat.zero_add]; simp only [World.cell?, hb]; rw [← Array.getElem?_toList]; exact hj) hu hd hi
  have ht' : tmps[t]?.getD undef = .pointer (some ⟨b, 0, none⟩) := by rw [← ht]; simp [Array.getD_eq_getD_getElem?]
  simp [results, h, ht', asAddr]
  exact hl

/-- 'x[i]' of an array by value, of one-cell elements. -/
theorem run_index_agg {t e : TypeId} {n : Nat} (h : P.underlying t = some (.array n e)) (hs : (P.info? e).map (·.size) = some 1) (ha : ∀ w : World, (isAgg e).run P w = .ok false w) {cs : Array Value} {k : IntKind} {i : Nat} (hi : i < n) {v : Value} (hv : cs[i]? = some v) (w : World) : (Instr.index t (.agg cs) (.int k i)).run P w = .ok v w := by
  obtain ⟨info, hq, h1⟩ := Option.map_eq_some_iff.1 hs
  simp [Instr.index, run_underlying h, asIntOf, hi, part, sizeOf, typeInfo, hq, h1, hv, ha]

theorem set_blk {w : World} {p : Nat} {cs : Array Value} {e : TypeId} {fr : Nat × Nat} (h : w.heap[p]? = some (.cells cs e fr)) (j : Nat) (v : Value) :
    (w.setCell ⟨p, j, none⟩ v).heap[p]? = some (.cells (cs.setIfInBounds j v) e fr) ∧ w.grownBy (w.setCell ⟨p, j, none⟩ v) (some p) := by
  refine ⟨by simp [World.setCell, Array.getElem?_modify, h], rfl, rfl, rfl, by simp [World.setCell], fun k hk hne => ?_⟩
  simp only [World.setCell]
  rw [Array.getElem?_modify, if_neg (fun e1 => hne (by rw [e1]))]

/-- An array of numbers: the i-th one is f i. -/
structure ArrF (w : World) (b : Nat) (e : TypeId) (k : IntKind) (n : Nat) (cs : Array Value) (f : Nat → Nat) : Prop where
  h : w.heap[b]? = some (.cells cs e (0, 0))
  sz : cs.size = n
  at_ : ∀ i, i < n → cs[i]? = some (.int k (f i))

theorem ArrF.lt {b : Nat} {e : TypeId} {k : IntKind} {n : Nat} {cs : Array Value} {f : Nat → Nat} (h : ArrF w b e k n cs f) : b < w.heap.size := (Array.getElem?_eq_some_iff.1 h.h).1
theorem ArrF.c {b : Nat} {e : TypeId} {k : IntKind} {n : Nat} {cs : Array Value} {f : Nat → Nat} (h : ArrF w b e k n cs f) (i : Nat) (hi : i < n) : w.cell? ⟨b, i, none⟩ = some (.int k (f i)) := by
  simp only [World.cell?, h.h]; exact h.at_ i hi
theorem ArrF.fz {b : Nat} {e : TypeId} {k : IntKind} {n : Nat} {cs : Array Value} {f : Nat → Nat} (h : ArrF w b e k n cs f) (i : Nat) : w.frozen? ⟨b, i, none⟩ = false := by simp [World.frozen?, h.h]
theorem ArrF.one {b : Nat} {e : TypeId} {k : IntKind} {n : Nat} {cs : Array Value} {f : Nat → Nat} (h : ArrF w b e k n cs f) : cs.all (·.oneCell') = true := by
  rw [Array.all_eq_true]
  intro i hi
  have := h.at_ i (by rw [← h.sz]; exact hi)
  rw [Array.getElem?_eq_getElem hi] at this
  injection this with this
  rw [this]; rfl
theorem ArrF.block {b : Nat} {e : TypeId} {k : IntKind} {n : Nat} {cs : Array Value} {f : Nat → Nat} (h : ArrF w b e k n cs f) (hb : w'.heap[b]? = w.heap[b]?) : ArrF w' b e k n cs f := ⟨hb.trans h.h, h.sz, h.at_⟩
theorem ArrF.below {b : Nat} {e : TypeId} {k : IntKind} {n : Nat} {cs : Array Value} {f : Nat → Nat} (h : ArrF w b e k n cs f) (hb : Below w.heap.size w w') : ArrF w' b e k n cs f := h.block (hb.block b h.lt)
theorem ArrF.kept {b : Nat} {e : TypeId} {k : IntKind} {n : Nat} {cs : Array Value} {f : Nat → Nat} {row : Option Nat} (h : ArrF w b e k n cs f) (hg : w.grownBy w' row) (hne : some b ≠ row) : ArrF w' b e k n cs f := h.block (hg.block b h.lt hne)
theorem ArrF.congr {b : Nat} {e : TypeId} {k : IntKind} {n : Nat} {cs : Array Value} {f g : Nat → Nat} (h : ArrF w b e k n cs f) (hfg : ∀ i, i < n → f i = g i) : ArrF w b e k n cs g := ⟨h.h, h.sz, fun i hi => by rw [← hfg i hi]; exact h.at_ i hi⟩
theorem ArrF.set {b : Nat} {e : TypeId} {k : IntKind} {n : Nat} {cs : Array Value} {f : Nat → Nat} (h : ArrF w b e k n cs f) (j : Nat) (v : Nat) :
    ArrF (w.setCell ⟨b, j, none⟩ (.int k v)) b e k n (cs.setIfInBounds j (.int k v)) (fun i => if i = j then v else f i) ∧ w.grownBy (w.setCell ⟨b, j, none⟩ (.int k v)) (some b) := by
  obtain ⟨s, g⟩ := set_blk h.h j (.int k v)
  refine ⟨⟨s, by simp [h.sz], fun i hi => ?_⟩, g⟩
  rw [Array.getElem?_setIfInBounds]
  by_cases hij : j = i
  · subst hij
    rw [if_pos rfl, if_pos (by rw [h.sz]; exact hi)]
    simp only [if_pos]
  · rw [if_neg hij]
    simp only [if_neg (fun e => hij e.symm : ¬ i = j)]
    exact h.at_ i hi
end
end Go.Proofs.YtpcipdkoncmdcaaGreatDoor
