/- Texts of mine, joined: A region that draws its order, walked by a list of moves: an operation that yields in whatever world is taken first; a block of quiet ones in the order of the text; those that stand in one order, one behind the other. Of every program. | Walks over the document's answer: names made durable; Flush. | Walks over the document's answer: Read, Flush. | Walks of the reference's path functions, second part (for seats without Compare). -/
import Derived.RegionTactic
import Derived.BigQuiet
import Derived.Deep.QuietTactic
import Derived.Test.YtfoamcobpfflbaaDoorZ8
namespace Go.Proofs.YtfoamcobpfflbaaDoor
open Go

inductive Mv where
  | take (i : Nat)
  | blk (is : List Nat)
  | frc (is : List Nat)

section
variable {P : Program} {ops : Array Oper} {md : Region.Mode}

def opsAt (ops : Array Oper) (is : List Nat) : List Oper := is.filterMap fun i => ops[i]?
def setAll : List Nat → Array Bool → Array Bool
  | [], up => up
  | i :: is, up => setAll is (up.setIfInBounds i true)

/-- The block's operations may come up in the order of the text. -/
def lexOk (md : Region.Mode) (ops : Array Oper) : List Nat → Array Bool → Bool
  | [], _ => true
  | k :: ks, up => (Region.ready md ops up).contains k && Region.free md ops up k && lexOk md ops ks (up.setIfInBounds k true)
def restOf (ops : Array Oper) (is : List Nat) (up : Array Bool) : List Nat := (List.range ops.size).filter fun j => !up.getD j true && !is.contains j
/-- While one of the block has not come up none of the others can. -/
def sinkOk (md : Region.Mode) (ops : Array Oper) (is : List Nat) (up : Array Bool) : Bool :=
  match restOf ops is up with
  | [] => true
  | t0 :: ts => (is.all fun i => (List.range ops.size).any fun j => Region.waitsFor md ops j i && (j == t0 || (decide (i < j) && is.contains j))) &&
      ts.all fun t => (t0 :: ts).any fun t' => Region.waitsFor md ops t t'
def frcOk (md : Region.Mode) (ops : Array Oper) : List Nat → Array Bool → Bool
  | [], _ => true
  | k :: ks, up => decide (Region.ready md ops up = [k]) && frcOk md ops ks (up.setIfInBounds k true)
def closedOk (md : Region.Mode) (ops : Array Oper) (up : Array Bool) : Bool :=
  (List.range ops.size).all fun j => match ops[j]? with
    | some oj => !up.getD j false || oj.after.all fun e => !Region.binds md e || up.getD e.on false
    | none => true

def okB (md : Region.Mode) (ops : Array Oper) : List Mv → Array Bool → Bool
  | [], up => (Region.ready md ops up).isEmpty
  | .take i :: ss, up => (Region.ready md ops up).contains i && Region.free md ops up i && okB md ops ss (up.setIfInBounds i true)
  | .blk is :: ss, up => decide (up.size = ops.size) && closedOk md ops up && is.all (fun i => decide (i < ops.size) && !up.getD i true) && sinkOk md ops is up && lexOk md ops is up && (Region.ready md ops (setAll is up)).all (fun j => !is.contains j) && okB md ops ss (setAll is up)
  | .frc is :: ss, up => frcOk md ops is up && okB md ops ss (setAll is up)
def fuelOf : List Mv → Nat
  | [] => 0
  | .take _ :: ss => fuelOf ss + 1
  | .blk is :: ss => fuelOf ss + is.length
  | .frc is :: ss => fuelOf ss + is.length

def goS (P : Program) (ops : Array Oper) (Q : Exit → Act → World → Prop) (C : World → World → Prop) : List Mv → Act → World → Prop
  | [], a, w => Q .normal a w
  | .take i :: ss, a, w => ∃ o, ops[i]? = some o ∧ ∃ v, Yields P ops o v a ∧ goS P ops Q C ss (a.put o.dst v) w
  | .blk is :: ss, a, w => wpQuiet P ops (C w) (fun a' => ∀ w', C w w' → goS P ops Q C ss a' w') (opsAt ops is) a
  | .frc is :: ss, a, w => wpList P ops (Exit.then (fun a' w' => goS P ops Q C ss a' w') Q) (opsAt ops is) a w

/-- A block's operations come up in any order; then T holds. -/
def BlkAny (P : Program) (md : Region.Mode) (ops : Array Oper) (C : World → Prop) (is : List Nat) (T : Array Bool → Act → Prop) : Nat → Array Bool → Act → Prop
  | 0, up, a => T up a
  | f + 1, up, a => Region.ready md ops up ≠ [] ∧ ∀ i ∈ Region.ready md ops up, i ∈ is ∧ qOp P ops C i (BlkAny P md ops C is T f (up.setIfInBounds i true)) a

theorem blkAny_wp {C : World → Prop} {is : List Nat} {g : Nat} {T : Array Bool → Act → Prop} {Q' : Exit → Act → World → Prop} (hT : ∀ up a w, C w → T up a → wpAny P md ops Q' g up a w) :
    ∀ (f : Nat) (up : Array Bool) (a : Act) (w : World), C w → BlkAny P md ops C is T f up a → wpAny P md ops Q' (f + g) up a w
  | 0, up, a, w, hw, h => by rw [Nat.zero_add]; exact hT _ _ _ hw h
  | f + 1, up, a, w, hw, h => by
    rw [show f + 1 + g = (f + g) + 1 by omega]
    exact ⟨fun h0 => absurd h0 h.1, fun i hi => wpOp_of_qOp hw (fun a' w' hw' h' => blkAny_wp hT f _ a' w' hw' h') (h.2 i hi).2⟩

structure BInv (md : Region.Mode) (ops : Array Oper) (is : List Nat) (up0 up : Array Bool) : Prop where
  size : up.size = ops.size
  closed : ∀ j oj, ops[j]? = some oj → up.getD j false = true → ∀ e ∈ oj.after, Region.binds md e = true → up.getD e.on false = true
  rest : ∀ t ∈ restOf ops is up0, up.getD t true = false
  old : ∀ j, up0.getD j true = true → up.getD j true = true

theorem getD_set_true' {up : Array Bool} {i j : Nat} (h : up.getD j true = true) : (up.setIfInBounds i true).getD j true = true := by
  by_cases hij : i = j
  · subst hij
    simp only [Array.getD_eq_getD_getElem?, Array.getElem?_setIfInBounds_self] at h ⊢
    split
    · rfl
    · rename_i h'
      rw [Array.getElem?_eq_none (by omega)] at h
      exact h
  · rw [getD_set_ne true hij]; exact h

theorem BInv.set {is : List Nat} {up0 up : Array Bool} {i : Nat} (inv : BInv md ops is up0 up) (hi : i ∈ Region.ready md ops up) (hin : i ∈ is) : BInv md ops is up0 (up.setIfInBounds i true) := by
  obtain ⟨_, oi, hoi, hall⟩ := mem_ready.1 hi
  refine ⟨by simp [inv.size], fun j oj hj hl e he hb => ?_, fun t ht => ?_, fun j hj => getD_set_true' (inv.old j hj)⟩
  · by_cases hij : i = j
    · subst hij
      have : oj = oi := Option.some.inj (hj.symm.trans hoi)
      subst this
      exact getD_set_true (hall e he hb)
    · rw [getD_set_ne false hij] at hl
      exact getD_set_true (inv.closed j oj hj hl e he hb)
  · have hne : i ≠ t := fun e => by
      subst e
      have := (List.mem_filter.1 ht).2
      simp only [Bool.and_eq_true, Bool.not_eq_true', List.contains_iff_mem, ← Bool.not_eq_true] at this
      exact this.2 (by simpa using hin)
    rw [getD_set_ne true hne]; exact inv.rest t ht

theorem rest_waits {is : List Nat} {up0 up : Array Bool} (hs : sinkOk md ops is up0 = true) (inv : BInv md ops is up0 up) {i : Nat} (hin : i ∈ is) (hun : up.getD i true = false) : ∀ t ∈ restOf ops is up0, t ∉ Region.ready md ops up := by
  unfold sinkOk at hs
  cases hr : restOf ops is up0 with
  | nil => intro t ht; cases ht
  | cons t0 ts =>
    rw [hr] at hs
    simp only [Bool.and_eq_true] at hs
    obtain ⟨h1, h2⟩ := hs
    have head : ∀ (d i : Nat), ops.size - i = d → i ∈ is → up.getD i true = false → t0 ∉ Region.ready md ops up := by
      intro d
      induction d using Nat.strongRecOn with
      | _ d ih =>
        intro i hd hi hun hr0
        obtain ⟨_, ot, hot, hall⟩ := mem_ready.1 hr0
        obtain ⟨j, hj, hj2⟩ := List.any_eq_true.1 (List.all_eq_true.1 h1 i hi)
        simp only [Bool.and_eq_true, Bool.or_eq_true, decide_eq_true_eq, beq_iff_eq] at hj2
        obtain ⟨oj, hoj, e, he, hb, hon⟩ := Region.waitsFor_spec hj2.1
        rcases hj2.2 with rfl | ⟨hlt, hjs⟩
        · have : oj = ot := Option.some.inj (hoj.symm.trans hot)
          subst this
          have h3 := hall e he hb
          rw [hon, getD_both hun] at h3
          cases h3
        · have hjs : j ∈ is := by simpa using hjs
          have hjlt : j < ops.size := List.mem_range.1 hj
          cases hl : up.getD j false with
          | true =>
            have h3 := inv.closed j oj hoj hl e he hb
            rw [hon, getD_both hun] at h3
            cases h3
          | false => exact ih (ops.size - j) (by omega) j rfl hjs (getD_in (by rw [inv.size]; exact hjlt) hl) hr0
    intro t ht htr
    rcases List.mem_cons.1 ht with rfl | ht'
    · exact head _ i rfl hin hun htr
    · obtain ⟨t', ht1, ht2⟩ := List.any_eq_true.1 (List.all_eq_true.1 h2 t ht')
      obtain ⟨_, ot, hot, hall⟩ := mem_ready.1 htr
      obtain ⟨o', ho', e, he, hb, hon⟩ := Region.waitsFor_spec ht2
      have : o' = ot := Option.some.inj (ho'.symm.trans hot)
      subst this
      have h3 := hall e he hb
      rw [hon, getD_both (inv.rest t' (by rw [hr]; exact ht1))] at h3
      cases h3

theorem blk_ready {is : List Nat} {up0 up : Array Bool} (hs : sinkOk md ops is up0 = true) (inv : BInv md ops is up0 up) {i : Nat} (hin : i ∈ is) (hun : up.getD i true = false) : ∀ j ∈ Region.ready md ops up, j ∈ is := by
  intro j hj
  obtain ⟨hjun, oj, hoj, _⟩ := mem_ready.1 hj
  refine Decidable.byContradiction fun hn => rest_waits hs inv hin hun j (List.mem_filter.2 ⟨List.mem_range.2 (Array.getElem?_eq_some_iff.1 hoj).1, ?_⟩) hj
  simp only [Bool.and_eq_true, Bool.not_eq_true']
  refine ⟨?_, by simpa using hn⟩
  cases h0 : up0.getD j true with
  | false => rfl
  | true => rw [inv.old j h0] at hjun; cases hjun

theorem blkAny_first {C : World → Prop} {is : List Nat} {up0 : Array Bool} {i : Nat} {oi : Oper} {v : Value} {T : Array Bool → Act → Prop} (hi : ops[i]? = some oi) (hsel : ∀ (j : Nat) (o : Oper) cs b, ops[j]? = some o → o.op ≠ .select cs b)
    (hs : sinkOk md ops is up0 = true) (hin : i ∈ is) (hT : ∀ up a, T up a → ∀ j ∈ Region.ready md ops up, j ∉ is) (f : Nat) :
    ∀ (up : Array Bool) (a : Act), BInv md ops is up0 up →
      (∀ j oj, ops[j]? = some oj → j ≠ i → up.getD j true = false → (∀ e ∈ oj.after, Region.binds md e = true → e.on ≠ i) → oi.apart ops oj = true) →
      i ∈ Region.ready md ops up → YieldsIn P ops C oi v a →
      BlkAny P md ops C is T f (up.setIfInBounds i true) (a.put oi.dst v) → BlkAny P md ops C is T (f + 1) up a := by
  induction f with
  | zero =>
    intro up a inv _ hr hy H
    have hun := (mem_ready.1 hr).1
    refine ⟨fun h => (by rw [h] at hr; cases hr), fun j hj => ?_⟩
    have hjn : j ∈ is := blk_ready hs inv hin hun j hj
    refine ⟨hjn, ?_⟩
    by_cases hji : j = i
    · subst hji; exact hy.qOp hi H
    · exact absurd hjn (hT _ _ H j (ready_mono hj hji))
  | succ f ih =>
    intro up a inv hfree hr hy H
    have hun := (mem_ready.1 hr).1
    refine ⟨fun h => (by rw [h] at hr; cases hr), fun j hj => ?_⟩
    have hjn : j ∈ is := blk_ready hs inv hin hun j hj
    refine ⟨hjn, ?_⟩
    by_cases hji : j = i
    · subst hji; exact hy.qOp hi H
    · obtain ⟨hjun, oj, hoj, hall⟩ := mem_ready.1 hj
      have hnot : ∀ e ∈ oj.after, Region.binds md e = true → e.on ≠ i := by
        intro e he hb heq
        have h1 := hall e he hb
        rw [heq, getD_both hun] at h1
        cases h1
      have h2 := qOp_put hoj (hfree j oj hoj hji hjun hnot) (fun cs b => hsel i oi cs b hi) (fun cs b => hsel j oj cs b hoj) hy (H.2 j (ready_mono hj hji)).2
      refine qOp_mono (fun a' h3 => ?_) h2
      refine ih (up.setIfInBounds j true) a' (inv.set hj hjn) ?_ (ready_mono hr (Ne.symm hji)) h3.1 ?_
      · intro k ok hk hki hkun hno
        refine hfree k ok hk hki ?_ hno
        by_cases hjk : j = k
        · subst hjk; exact hjun
        · rwa [getD_set_ne true hjk] at hkun
      · rw [Array.setIfInBounds_comm _ _ hji]
        exact h3.2

theorem blkAny_lex {C : World → Prop} {is : List Nat} {up0 U : Array Bool} {K : Act → Prop} (hsel : Region.noSelect ops = true) (hs : sinkOk md ops is up0 = true) (hU : ∀ j ∈ Region.ready md ops U, j ∉ is) :
    ∀ (ks : List Nat) (up : Array Bool) (a : Act), (∀ k ∈ ks, k ∈ is) → (∀ k ∈ ks, k < ops.size) → setAll ks up = U → BInv md ops is up0 up →
    lexOk md ops ks up = true → wpQuiet P ops C K (opsAt ops ks) a → BlkAny P md ops C is (fun up' a' => up' = U ∧ K a') ks.length up a
  | [], up, a, _, _, hu, _, _, h => ⟨hu, h⟩
  | k :: ks, up, a, hk, hsz, hu, inv, hB, h => by
    have hlt : k < ops.size := hsz k (by simp)
    have h0 : ops[k]? = some ops[k] := Array.getElem?_eq_getElem hlt
    simp only [lexOk, Bool.and_eq_true] at hB
    obtain ⟨⟨hr, hf⟩, hB'⟩ := hB
    have hr' : k ∈ Region.ready md ops up := by simpa using hr
    have he : opsAt ops (k :: ks) = ops[k] :: opsAt ops ks := by unfold opsAt; rw [List.filterMap_cons, h0]
    rw [he] at h
    have hq : qOp P ops C k (wpQuiet P ops C K (opsAt ops ks)) a := by unfold qOp; simp only [h0]; exact h
    obtain ⟨v, hy, hK⟩ := yieldsIn_of_qOp h0 hq
    exact blkAny_first h0 (Region.noSelect_spec hsel) hs (hk k (by simp)) (fun up' a' hT => by rw [hT.1]; exact hU) ks.length up a inv (Region.free_spec h0 hf) hr' hy
      (blkAny_lex hsel hs hU ks _ _ (fun j hj => hk j (by simp [hj])) (fun j hj => hsz j (by simp [hj])) hu (inv.set hr' (hk k (by simp))) hB' hK)

theorem letsOut_then {N : Act → World → Prop} {Q : Exit → Act → World → Prop} (h : LetsOut (Exit.then N Q)) : LetsOut Q := h

theorem wpOp_then {N : Act → World → Prop} {Q : Exit → Act → World → Prop} {i : Nat} {K : Act → World → Prop} {a : Act} {w : World} (h : wpOp P ops (Exit.then N Q) i K a w) : wpOp P ops Q i K a w := by
  unfold wpOp at *
  split
  · rename_i ho; simp only [ho] at h; exact h
  · rename_i o ho
    simp only [ho] at h
    split
    · rename_i hw
      simp only [hw, if_true] at h
      rcases h with h | ⟨h1, h2⟩
      · refine .inl ?_
        unfold Oper.wp at *
        generalize (execOp a.eval o).run P w = r at *
        cases r with
        | ok n w' =>
          cases n <;> simp only [Oper.upon] at h ⊢ <;> first
            | exact h
            | exact h.mono fun e _ he => by cases e <;> exact he
        | halt x w' => cases x <;> simp only [Oper.upon] at h ⊢ <;> exact h
      · exact .inr ⟨h1, letsOut_then h2⟩
    · rename_i hw; simp only [hw] at h; exact h

theorem frc_wp {N : Act → World → Prop} {Q : Exit → Act → World → Prop} {g : Nat} {U : Array Bool} (hN : ∀ a w, N a w → wpAny P md ops Q g U a w) :
    ∀ (ks : List Nat) (up : Array Bool) (a : Act) (w : World), frcOk md ops ks up = true → setAll ks up = U → wpList P ops (Exit.then N Q) (opsAt ops ks) a w → wpAny P md ops Q (g + ks.length) up a w
  | [], up, a, w, _, hu, h => by subst hu; exact hN a w h
  | k :: ks, up, a, w, hB, hu, h => by
    simp only [frcOk, Bool.and_eq_true, decide_eq_true_eq] at hB
    rw [List.length_cons, ← Nat.add_assoc]
    refine ⟨fun h1 => (by rw [hB.1] at h1; cases h1), fun i hi => ?_⟩
    have hik : i = k := by rw [hB.1] at hi; simpa using hi
    subst hik
    obtain ⟨_, o, ho, _⟩ := mem_ready.1 hi
    have he : opsAt ops (i :: ks) = o :: opsAt ops ks := by unfold opsAt; rw [List.filterMap_cons, ho]
    rw [he] at h
    have hw : wpOp P ops (Exit.then N Q) i (wpList P ops (Exit.then N Q) (opsAt ops ks)) a w := by unfold wpOp; simp only [ho]; exact h
    exact wpOp_mono (fun a' w' h' => frc_wp hN ks _ a' w' hB.2 hu h') (wpOp_then hw)

theorem goS_wp {Q : Exit → Act → World → Prop} {C : World → World → Prop} (hsel : Region.noSelect ops = true) (hC : ∀ w, C w w) (hQ : ∀ (d : Tmp) (v : Value) c a w, Q (.panic c) (a.put (some d) v) w → Q (.panic c) a w) :
    ∀ (ss : List Mv) (up : Array Bool) (a : Act) (w : World), okB md ops ss up = true → goS P ops Q C ss a w → wpAny P md ops Q (fuelOf ss) up a w
  | [], up, a, w, hB, h => ⟨by simpa [okB] using hB, h⟩
  | .take i :: ss, up, a, w, hB, h => by
    simp only [okB, Bool.and_eq_true] at hB
    obtain ⟨⟨hr, hf⟩, hB'⟩ := hB
    obtain ⟨o, ho, v, hy, h⟩ := h
    exact wpAny_take ho hsel hf hr (fun c a w h => by cases hd : o.dst with | none => rw [hd] at h; exact h | some t => rw [hd] at h; exact hQ t v c a w h) hy (goS_wp hsel hC hQ ss _ _ _ hB' h)
  | .frc is :: ss, up, a, w, hB, h => by
    simp only [okB, Bool.and_eq_true] at hB
    exact frc_wp (fun a w => goS_wp hsel hC hQ ss _ a w hB.2) is up a w hB.1 rfl h
  | .blk is :: ss, up, a, w, hB, h => by
    simp only [okB, Bool.and_eq_true, decide_eq_true_eq] at hB
    obtain ⟨⟨⟨⟨⟨⟨hsz, hcl⟩, hall⟩, hs⟩, hl⟩, hU⟩, hB'⟩ := hB
    have hall' : ∀ k ∈ is, k < ops.size := fun k hk => by
      have := List.all_eq_true.1 hall k hk
      simp only [Bool.and_eq_true, decide_eq_true_eq] at this
      exact this.1
    have inv : BInv md ops is up up := by
      refine ⟨hsz, fun j oj hj hu e he hb => ?_, fun t ht => ?_, fun _ h => h⟩
      · have h1 := List.all_eq_true.1 hcl j (List.mem_range.2 (Array.getElem?_eq_some_iff.1 hj).1)
        simp only [hj, hu, Bool.not_true, Bool.false_or] at h1
        have h2 := Array.all_eq_true'.1 h1 e he
        simpa [hb] using h2
      · have := (List.mem_filter.1 ht).2
        simp only [Bool.and_eq_true, Bool.not_eq_true'] at this
        exact this.1
    have hU' : ∀ j ∈ Region.ready md ops (setAll is up), j ∉ is := fun j hj hm => by
      have := List.all_eq_true.1 hU j hj
      simp at this
      exact this hm
    have H := blkAny_lex (C := C w) hsel hs hU' is up a (fun _ h => h) hall' rfl inv hl h
    have := blkAny_wp (Q' := Q) (g := fuelOf ss) (fun up' a' w' hw' hT => by
      obtain ⟨e, hT⟩ := hT
      subst e
      exact goS_wp hsel hC hQ ss _ a' w' hB' (hT w' hw')) is.length up a w (hC w) H
    rw [show fuelOf (.blk is :: ss) = is.length + fuelOf ss by simp only [fuelOf]; omega]
    exact this

/-- A region that draws its order, by moves. -/
theorem wp_region_mv {id : Nat} {Q : Exit → Act → World → Prop} {a : Act} {w : World} {l : List Oper} (C : World → World → Prop) (ss : List Mv) (hm : P.follows .mixedOrders = true)
    (hB : (Region.noSelect l.toArray && okB .any l.toArray ss (Array.replicate l.toArray.size false) && decide (fuelOf ss = l.toArray.size)) = true) (hC : ∀ w, C w w)
    (hQ : ∀ (d : Tmp) (v : Value) c a w, Q (.panic c) (a.put (some d) v) w → Q (.panic c) a w) (h : goS P l.toArray Q C ss a { w with drawn := w.drawn + 1 }) : (Code.region id l.toArray true).wp P Q a w := by
  simp only [Bool.and_eq_true, decide_eq_true_eq] at hB
  refine wp_region_any hm ?_
  have := goS_wp (md := .any) hB.1.1 hC hQ ss _ a _ hB.1.2 h
  rwa [hB.2] at this

def DN (w w' : World) : Prop := ∃ q, w' = w.drewN q
theorem DN.refl (w : World) : DN w w := ⟨0, rfl⟩

theorem wp_region_dn {id : Nat} {Q : Exit → Act → World → Prop} {a : Act} {w : World} {l : List Oper} (ss : List Mv) (hm : P.follows .mixedOrders = true)
    (hB : (Region.noSelect l.toArray && okB .any l.toArray ss (Array.replicate l.toArray.size false) && decide (fuelOf ss = l.toArray.size)) = true)
    (hQ : ∀ (d : Tmp) (v : Value) c a w, Q (.panic c) (a.put (some d) v) w → Q (.panic c) a w) (h : goS P l.toArray Q DN ss a (w.drewN 1)) : (Code.region id l.toArray true).wp P Q a w :=
  wp_region_mv DN ss hm hB DN.refl hQ h

variable {Q : Exit → Act → World → Prop} {C : World → World → Prop} {ss : List Mv} {a : Act} {w : World}
theorem goS_take {i : Nat} {o : Oper} {v : Value} (ho : ops[i]? = some o) (hw : Region.wanted o (yielded ops a.tmps) = true) (hv : ∀ w, (execOp a.eval o).run P w = .ok (.value v) w) (h : goS P ops Q C ss (a.put o.dst v) w) : goS P ops Q C (.take i :: ss) a w :=
  ⟨o, ho, v, .inl ⟨hw, hv⟩, h⟩
theorem goS_blk {is : List Nat} (h : wpQuiet P ops (C w) (fun a' => ∀ w', C w w' → goS P ops Q C ss a' w') (opsAt ops is) a) : goS P ops Q C (.blk is :: ss) a w := h
theorem goS_dn {is : List Nat} (h : wpQuiet P ops (fun w' => ∃ q, w' = w.drewN q) (fun a' => ∀ w', (∃ q, w' = w.drewN q) → goS P ops Q DN ss a' w') (opsAt ops is) a) : goS P ops Q DN (.blk is :: ss) a w := h
theorem goS_frc {is : List Nat} (h : wpList P ops (Exit.then (fun a' w' => goS P ops Q C ss a' w') Q) (opsAt ops is) a w) : goS P ops Q C (.frc is :: ss) a w := h
theorem wpList_then {N : Act → World → Prop} (hN : ∀ a w, Q .normal a w → N a w) : ∀ (l : List Oper) (a : Act) (w : World), wpList P ops Q l a w → wpList P ops (Exit.then N Q) l a w
  | [], a, w, h => hN a w h
  | o :: l, a, w, h => by
    unfold wpList at h ⊢
    split at h
    · rename_i hw
      rw [if_pos hw]
      rcases h with h | ⟨h1, h2⟩
      · refine .inl ?_
        unfold Oper.wp at *
        generalize (execOp a.eval o).run P w = r at *
        cases r with
        | ok n w' =>
          cases n <;> simp only [Oper.upon] at h ⊢ <;> first
            | exact wpList_then hN l _ _ h
            | exact h.mono fun e _ he => by cases e <;> first | exact wpList_then hN l _ _ he | exact he
            | exact h.mono fun _ _ he => wpList_then hN l _ _ he
        | halt x w' => cases x <;> simp only [Oper.upon] at h ⊢ <;> exact h
      · exact .inr ⟨h1, h2⟩
    · rename_i hw
      rw [if_neg hw]
      exact wpList_then hN l _ _ h
/-- The last ones. -/
theorem goS_last {is : List Nat} (h : wpList P ops Q (opsAt ops is) a w) : goS P ops Q C [.frc is] a w := goS_frc (wpList_then (fun _ _ h => h) _ _ _ h)
end
end Go.Proofs.YtfoamcobpfflbaaDoor
namespace Go.Proofs.YtfoamcobpfflbaaDoor
open Go Go.RowKit
open VfsS (File Chg Nm St find doL)

theorem oneFS (S : St) (fa na sa aa : Option Addr) (fc nc sc ac : Nat) : (rcells S fa na sa aa fc nc sc ac).all (·.oneCell') = true := by simp [rcells, Value.oneCell']

/-- The names behind the first j changes. -/
def curS (S : St) (j : Nat) : Nm := (S.acts.take j).foldl doL S.sure
theorem curS_step (S : St) (j : Nat) (h : j < S.acts.length) : curS S (j + 1) = doL (curS S j) S.acts[j] := fold_take S.acts S.sure j h
theorem curS_len (S : St) : ∀ j, (curS S j).length ≤ S.sure.length + j
  | 0 => by unfold curS; rw [List.take_zero]; exact Nat.le_refl _
  | j + 1 => by
    by_cases h : j < S.acts.length
    · rw [curS_step S j h]
      have := doL_len (curS S j) S.acts[j]
      have := curS_len S j
      omega
    · have : curS S (j + 1) = curS S j := by unfold curS; rw [List.take_of_length_le (by omega), List.take_of_length_le (by omega)]
      rw [this]
      have := curS_len S j
      omega
/-- .. the state with those names. -/
def midS (S : St) (j : Nat) : St := { S with sure := curS S j }

section
variable {E E' : Nat → Prop} {w w' : World} {S : St} {N : Nat} {cs : Array Value}

set_option maxRecDepth 100000 in
set_option maxHeartbeats 1000000 in
theorem rflush_r (h : RR E w cs S N) (n : Nat) (hn : n ≤ S.acts.length) :
    Calls Tryd.prog 64 #[.agg cs, .int .i64 (n : Int)] w fun e w' => ∃ cs', e = .returned (.agg cs') ∧ RR (Ku E w.heap.size) w' cs' (VfsS.flushS S n) N ∧ Below w.heap.size w w' := by
  have h0 := h
  obtain ⟨fa, na, sa, aa, fc, nc, sc, ac, rfl, hx⟩ := h
  have hone := h0.one
  have hT : TB w ((w.alloc (.cells #[.slice fa S.files.length fc, .slice na S.now.length nc, .slice sa S.sure.length sc, .slice aa S.acts.length ac, .int .i64 S.room, .int .i64 S.steps, .int .i64 S.limit] 36)).alloc (.cells #[.slice none 0 0, .slice none 0 0, .slice none 0 0, .slice none 0 0, .int .i64 0, .int .i64 0, .int .i64 0] 36)) w.heap.size (w.heap.size + 1) (rcells S fa na sa aa fc nc sc ac) fs0 := TB.start w _ _
  show Calls _ _ #[.agg #[.slice fa S.files.length fc, .slice na S.now.length nc, .slice sa S.sure.length sc, .slice aa S.acts.length ac, .int .i64 S.room, .int .i64 S.steps, .int .i64 S.limit], .int .i64 (n : Int)] _ _
  go_enter Tryd.func64, Tryd.ntmps64
  go_upto_region 1 with fail
  generalize (w.alloc (.cells #[.slice fa S.files.length fc, .slice na S.now.length nc, .slice sa S.sure.length sc, .slice aa S.acts.length ac, .int .i64 S.room, .int .i64 S.steps, .int .i64 S.limit] 36)).alloc (.cells #[.slice none 0 0, .slice none 0 0, .slice none 0 0, .slice none 0 0, .int .i64 0, .int .i64 0, .int .i64 0] 36) = W at *
  have hs0 := hx.s.below hT.below
  have hal := hx.la
  have hbig := hx.big
  have hwf := hx.wf
  have HX := Lib.hid hx
  clear hx
  go_wp2_with fail
  go_loopw [5] (fun iv wx => ∃ (j : Nat) (ga : Option Addr) (gc : Nat), j ≤ n ∧ iv = .int .i64 j ∧ TB w wx w.heap.size (w.heap.size + 1) (rcells (midS S j) fa na ga aa fc nc gc ac) fs0 ∧
    OwnG wx 152 2 (.slice ga (curS S j).length gc) (curS S j).length (nrow (curS S j)) ∧ (∀ k, (Value.slice ga (curS S j).length gc).ownBlock = some k → E k ∨ w.heap.size ≤ k)) (fun iv _ => (n - intOf iv).toNat)
  case atStart => exact ⟨0, sa, sc, Nat.zero_le _, rfl, hT, hs0, fun k hk => .inl (HX.out.ks k hk)⟩
  case round =>
    clear hT hs0
    obtain ⟨j, ga, gc, hj, rfl, hT, ho, hk⟩ := hrel
    have hcl := curS_len S j
    by_cases hjn : j < n
    · have hd : decide ((j : Int) < (n : Int)) = true := decide_eq_true (by omega)
      have hjl : j < S.acts.length := by omega
      have HST := Lib.hid (curS_step S j hjl)
      obtain ⟨ab, ao, rfl, habl, hcel⟩ := (HX.out.a.below hT.below).sl.at (k := j * 3) (by rw [chrow_len]; omega)
      obtain ⟨r0, r1, r2⟩ := chrow_at S.acts j hjl
      have far : ∀ i u, (chrow S.acts)[i]? = some u → wr.cell? ⟨ab, ao + i, none⟩ = some u := fun i u hu => by
        obtain ⟨hi, rfl⟩ := List.getElem?_eq_some_iff.1 hu
        exact hcel i hi
      have q0 := far _ _ r0
      have q1 := far _ _ r1
      have q2 := far _ _ r2
      rw [← Nat.add_assoc] at q1 q2
      have hfj : ∀ i, S.acts[j].file = some i → i ≤ 100000000 := fun i hi => by
        have := hwf.idx i (.inr (.inr ⟨_, List.getElem_mem hjl, hi⟩))
        have := HX.out.lf; omega
      have k2 : wr.cell? ⟨w.heap.size, 2, none⟩ = some (.slice ga (curS S j).length gc) := hT.c 2 rfl
      have k3 : wr.cell? ⟨w.heap.size, 3, none⟩ = some (.slice (some ⟨ab, ao, none⟩) S.acts.length ac) := hT.c 3 rfl
      have b1 : (0 : Int) ≤ (j : Int) := by omega
      have b2 : (j : Int) < S.acts.length := by omega
      have hw : IntKind.i64.wrap ((j : Int) + 1) = (j : Int) + 1 := IntWalk.i64_in _ (by omega)
      generalize S.acts[j] = ch at *
      have HDO := Lib.hid (fun q => rdo_c (ho.drewN q) (by omega) ch hfj)
      clear r0 r1 r2 far hcel hfj
      go_wp2_with fail
      refine wp_region_dn [.blk [0, 1, 2, 3, 4, 5, 6], .frc [7, 8, 9]] (by kernel_rfl) (by kernel_rfl) (fun _ _ _ _ _ h => h) ?_
      refine goS_dn ?_
      simp only [opsAt, List.filterMap_cons, List.filterMap_nil, List.getElem?_toArray, List.getElem?_cons_zero, List.getElem?_cons_succ]
      iterate 7 quiet_step (fail)
      refine wpQuiet_nil ?_
      rintro _ ⟨nq, rfl⟩
      refine goS_last ?_
      simp only [opsAt, List.filterMap_cons, List.filterMap_nil, List.getElem?_toArray, List.getElem?_cons_zero, List.getElem?_cons_succ]
      have hTq := hT.drewN (1 + nq)
      have p2 := hTq.f 2
      go_wp2_with (first | (go_at_call 87; refine (HDO.out _).mono ?_; rintro e w' ⟨v1, rfl, ho1, hk1, hb1⟩; obtain ⟨ga1, gc1, rfl, hgc, hgm, hgs⟩ := ho1.form; have hT1 := hTq.to hb1; have p2 := hT1.f 2; have p3 : w'.cell? ⟨w.heap.size, 2, none⟩ = some (.slice ga (curS S j).length gc) := hT1.c 2 rfl))
      obtain ⟨hT2, hg2⟩ := hT1.set0 2 (.slice ga1 (doL (curS S j) ch).length gc1)
      have ho2 := ho1.kept hg2 (by
        cases hk : (Value.slice ga1 (doL (curS S j) ch).length gc1).ownBlock with
        | none => exact .inl rfl
        | some k =>
          right; intro e; injection e with e; subst e
          obtain ⟨cur, hc⟩ := ho1.tag hk
          rw [hT1.h0] at hc; injection hc with hc; injection hc with _ hc _; exact absurd hc (by decide))
      go_roundw
      case rel =>
        refine ⟨j + 1, ga1, gc1, by omega, by go_num, ?_, ?_, ?_⟩
        · rw [show midS S (j + 1) = { midS S j with sure := doL (curS S j) ch } by unfold midS; rw [HST.out]]
          exact hT2
        · rw [HST.out]; exact ho2
        · rw [HST.out]
          intro k h
          rcases hk1 k h with e | e
          · exact hk k e
          · right; have := hT.below.size; simp at e; omega
      case measure => simp [intOf]; omega
    · have hd : decide ((j : Int) < (n : Int)) = false := decide_eq_false (by omega)
      obtain rfl : j = n := by omega
      have hx2 := HX.out
      have hA0 := hx2.a.below hT.below
      obtain ⟨aa', ac', e1, hac, hacm, -⟩ := hA0.form
      cases e1
      have hnc : (j : Int) ≤ ac := by omega
      have hn0 : (0 : Int) ≤ j := by omega
      have hja : (j : Int) ≤ S.acts.length := by omega
      have k3 : wr.cell? ⟨w.heap.size, 3, none⟩ = some (.slice aa S.acts.length ac) := hT.c 3 rfl
      have z3 := hT.f 3
      have HA : OwnG wr 122 3 (.slice (if ac = j then aa else Option.map (fun x => x.add (j * 3)) aa) (S.acts.drop j).length (ac - j)) (S.acts.drop j).length (chrow (S.acts.drop j)) := by
        rw [List.length_drop]
        by_cases e : ac = j
        · rw [if_pos e, show ac - j = 0 by omega]
          have := hA0.rest1 j (by omega) e
          rwa [chrow_drop] at this
        · rw [if_neg e]
          have := hA0.rest2 j (by omega)
          rwa [chrow_drop] at this
      have HAK : ∀ k, (Value.slice (if ac = j then aa else Option.map (fun x => x.add (j * 3)) aa) (S.acts.drop j).length (ac - j)).ownBlock = some k → E k := fun k hk => by
        refine hx2.ka k ?_
        cases aa with
        | none => split at hk <;> cases hk
        | some ad =>
          obtain ⟨bb, oo, sp⟩ := ad
          split at hk
          · exact hk
          · simp [Value.ownBlock, Addr.add] at hk ⊢; split at hk <;> simp_all
      obtain ⟨hP, hgP⟩ := hT.set0 3 (.slice (if ac = j then aa else Option.map (fun x => x.add (j * 3)) aa) (S.acts.length - j : Nat) (ac - j))
      have e1 : (rcells (midS S j) fa na ga aa fc nc gc ac).setIfInBounds 3 (.slice (if ac = j then aa else Option.map (fun x => x.add (j * 3)) aa) (S.acts.length - j : Nat) (ac - j)) = rcells (VfsS.flushS S j) fa na ga (if ac = j then aa else Option.map (fun x => x.add (j * 3)) aa) fc nc gc (ac - j) := by unfold rcells VfsS.flushS; simp only [List.length_drop]; rfl
      rw [e1] at hP
      clear e1
      have hone1 := oneFS (VfsS.flushS S j) fa na ga (if ac = j then aa else Option.map (fun x => x.add (j * 3)) aa) fc nc gc (ac - j)
      have hrP : RR (Ku E w.heap.size) (wr.setCell ⟨w.heap.size, 3, none⟩ (.slice (if ac = j then aa else Option.map (fun x => x.add (j * 3)) aa) (S.acts.length - j : Nat) (ac - j))) (rcells (VfsS.flushS S j) fa na ga (if ac = j then aa else Option.map (fun x => x.add (j * 3)) aa) fc nc gc (ac - j)) (VfsS.flushS S j) N := by
        have hx3 := hx2.below hT.below
        have hln := hx2.ln
        have h0 : RR (Ku E w.heap.size) wr (rcells (VfsS.flushS S j) fa na ga (if ac = j then aa else Option.map (fun x => x.add (j * 3)) aa) fc nc gc (ac - j)) (VfsS.flushS S j) N :=
          ⟨fa, na, ga, (if ac = j then aa else Option.map (fun x => x.add (j * 3)) aa), fc, nc, gc, ac - j, rfl, { f := hx3.f, n := hx3.n, s := ho, a := HA, kf := fun k hk => .inl (hx2.kf k hk), kn := fun k hk => .inl (hx2.kn k hk), ks := hk, ka := fun k hk => .inl (HAK k hk), wf := hwf.flush j, lf := hx2.lf, ln := hx2.ln, la := by show (curS S j).length + (S.acts.drop j).length ≤ N; rw [List.length_drop]; omega, st := hx2.st, big := hx2.big, lim := hx2.lim }⟩
        exact h0.in0 hT hgP
      clear HA HAK hA0 hx2 hal hcl hk ho hone hgP
      go_wp2_with (first
        | (refine wp_load0 hP rfl _ rfl rfl rfl ?_)
        | (refine wp_store1 hP rfl _ _ rfl rfl rfl rfl rfl hone1 ?_; intro w4 hT4 hg4; have hr4 := hrP.in1 hP hg4))
      all_goals
        (try simp only [Exit.inBlock, Exit.then])
        refine bodyPost_ret (hT4.ret1 rfl rfl _ rfl) rfl ?_
        exact ⟨_, rfl, hr4, hT4.below⟩
end
end Go.Proofs.YtfoamcobpfflbaaDoor
namespace Go.Proofs.YtfoamcobpfflbaaDoor
open Go Go.RowKit
open VfsS (File Chg Nm St find doL)

section
variable {E E' : Nat → Prop} {w w' : World} {S : St} {N : Nat} {cs : Array Value}

/-- Read's bytes, and the error's number. -/
def rdT (o : Option ByteArray) : ByteArray := o.getD ByteArray.empty
def rdE (o : Option ByteArray) : Int := if o.isSome then 0 else 4

set_option maxRecDepth 100000 in
theorem rread_r (h : RR E w cs S N) (s : ByteArray) :
    Calls Tryd.prog 35 #[.agg cs, .string s] w fun e w' => e = .returned (.tuple #[.string (rdT (VfsS.readS S s)), .int .i64 (rdE (VfsS.readS S s))]) ∧ Below w.heap.size w w' := by
  have h0 := h
  obtain ⟨fa, na, sa, aa, fc, nc, sc, ac, rfl, hx⟩ := h
  have hb0 : Below w.heap.size w (w.alloc (.cells #[.slice fa S.files.length fc, .slice na S.now.length nc, .slice sa S.sure.length sc, .slice aa S.acts.length ac, .int .i64 S.room, .int .i64 S.steps, .int .i64 S.limit] 36)) := (Below.refl _ w).alloc (Nat.le_refl _) _
  have hB : (w.alloc (.cells #[.slice fa S.files.length fc, .slice na S.now.length nc, .slice sa S.sure.length sc, .slice aa S.acts.length ac, .int .i64 S.room, .int .i64 S.steps, .int .i64 S.limit] 36)).heap[w.heap.size]? = some (.cells #[.slice fa S.files.length fc, .slice na S.now.length nc, .slice sa S.sure.length sc, .slice aa S.acts.length ac, .int .i64 S.room, .int .i64 S.steps, .int .i64 S.limit] 36 (0, 0)) := Array.getElem?_push_size
  show Calls _ _ #[.agg #[.slice fa S.files.length fc, .slice na S.now.length nc, .slice sa S.sure.length sc, .slice aa S.acts.length ac, .int .i64 S.room, .int .i64 S.steps, .int .i64 S.limit], .string s] _ _
  have HFF := rfind_c (w := w.alloc (.cells #[.slice fa S.files.length fc, .slice na S.now.length nc, .slice sa S.sure.length sc, .slice aa S.acts.length ac, .int .i64 S.room, .int .i64 S.steps, .int .i64 S.limit] 36)) (hx.n.below hb0) (by have := hx.ln; have := hx.big; omega) s
  have hx1 := hx.below hb0
  have hwf := hx.wf
  go_enter Tryd.func35, Tryd.ntmps35
  go_upto_region 1 with fail
  generalize w.alloc (.cells #[.slice fa S.files.length fc, .slice na S.now.length nc, .slice sa S.sure.length sc, .slice aa S.acts.length ac, .int .i64 S.room, .int .i64 S.steps, .int .i64 S.limit] 36) = W at *
  have c0 : W.cell? ⟨w.heap.size, 0, none⟩ = some (.slice fa S.files.length fc) := by rw [cell_of hB]; rfl
  have c1 : W.cell? ⟨w.heap.size, 1, none⟩ = some (.slice na S.now.length nc) := by rw [cell_of hB]; rfl
  clear hx
  cases hf : find S.now s with
  | none =>
    have HS : Hid (VfsS.readS S s = none) := by show _ = _; unfold VfsS.readS; rw [hf]; rfl
    rw [hf] at HFF
    have HF : Calls Tryd.prog 59 #[.slice na S.now.length nc, .string s] W fun e w' => e = .returned (.int .i64 (-1)) ∧ w' = W := HFF
    clear hf HFF
    go_wp2_with (first | (go_at_call 59; refine HF.mono ?_; rintro e w' ⟨rfl, rfl⟩))
    go_ret2
    rw [HS.out]
    exact ⟨rfl, hb0⟩
  | some i =>
    have hil := find_lt hwf hf
    have HS : Hid (VfsS.readS S s = some (VfsS.fl S i).text) := by show _ = _; unfold VfsS.readS; rw [hf]; rfl
    rw [hf] at HFF
    have HF : Calls Tryd.prog 59 #[.slice na S.now.length nc, .string s] W fun e w' => e = .returned (.int .i64 (i : Int)) ∧ w' = W := HFF
    have hd : decide ((i : Int) < 0) = false := decide_eq_false (by omega)
    obtain ⟨fb, fo, rfl, q0, q1⟩ := hx1.file i hil
    generalize (VfsS.fl S i).text = tx at *
    have b1 : (0 : Int) ≤ (i : Int) := by omega
    have b2 : (i : Int) < S.files.length := by omega
    clear hf HFF q1
    go_wp2_with (first | (go_at_call 59; refine HF.mono ?_; rintro e w' ⟨rfl, rfl⟩))
    go_ret2
    rw [HS.out]
    exact ⟨rfl, hb0⟩

set_option maxRecDepth 100000 in
set_option maxHeartbeats 1000000 in
theorem rflushAll_r (h : RR E w cs S N) (hN : N + 1 ≤ 40000000) :
    Calls Tryd.prog 20 #[.agg cs] w fun e w' => ∃ cs', e = .returned (.tuple #[.agg cs', .int .i64 (VfsS.flushAllS S).2]) ∧ RR (Ku E w.heap.size) w' cs' (VfsS.flushAllS S).1 (N + 1) ∧ Below w.heap.size w w' := by
  have h0 := h
  obtain ⟨fa, na, sa, aa, fc, nc, sc, ac, rfl, hx⟩ := h
  have hone := h0.one
  have hT : TB w ((w.alloc (.cells #[.slice fa S.files.length fc, .slice na S.now.length nc, .slice sa S.sure.length sc, .slice aa S.acts.length ac, .int .i64 S.room, .int .i64 S.steps, .int .i64 S.limit] 36)).alloc (.cells #[.slice none 0 0, .slice none 0 0, .slice none 0 0, .slice none 0 0, .int .i64 0, .int .i64 0, .int .i64 0] 36)) w.heap.size (w.heap.size + 1) (rcells S fa na sa aa fc nc sc ac) fs0 := TB.start w _ _
  show Calls _ _ #[.agg #[.slice fa S.files.length fc, .slice na S.now.length nc, .slice sa S.sure.length sc, .slice aa S.acts.length ac, .int .i64 S.room, .int .i64 S.steps, .int .i64 S.limit]] _ _
  clear hx
  go_enter Tryd.func20, Tryd.ntmps20
  go_upto_region 1 with fail
  generalize (w.alloc (.cells #[.slice fa S.files.length fc, .slice na S.now.length nc, .slice sa S.sure.length sc, .slice aa S.acts.length ac, .int .i64 S.room, .int .i64 S.steps, .int .i64 S.limit] 36)).alloc (.cells #[.slice none 0 0, .slice none 0 0, .slice none 0 0, .slice none 0 0, .int .i64 0, .int .i64 0, .int .i64 0] 36) = W at *
  have hrW := h0.below hT.below
  have HSTEP := rstep_r hrW (by omega)
  by_cases hl : S.limit = 0
  · have HS : Hid (VfsS.flushAllS S = (S, 190)) := by show _ = _; unfold VfsS.flushAllS; rw [if_pos hl]
    have HT : Hid (VfsS.stepS S = S) := by show _ = _; unfold VfsS.stepS; rw [if_pos hl]
    rw [limB hl] at HSTEP
    clear hl
    go_wp2_with (first | (go_at_call 60; refine HSTEP.mono ?_; rintro e w1 ⟨cs1, rfl, hr1, hb1⟩; have hT1 := hT.to hb1; have hs1 := hr1.size; have ho1 := hr1.one) | (refine wp_store0 hT1 rfl _ _ rfl rfl rfl rfl hs1 ho1 ?_; intro w2 hT2 hg2; have hr2 := hr1.in0 hT1 hg2) | (refine wp_load0 hT2 rfl _ rfl rfl hs1 ?_) | (refine wp_load0 hT rfl _ rfl rfl rfl ?_) | (refine wp_store1 hT2 rfl _ _ rfl rfl rfl rfl hs1 ho1 ?_; intro w4 hT4 hg4; have hr4 := hr2.in1 hT2 hg4))
    (try simp only [Exit.inBlock, Exit.then])
    refine bodyPost_ret (hT4.ret2 hs1 rfl _ rfl) rfl ?_
    rw [HS.out]
    rw [HT.out] at hr4
    exact ⟨_, rfl, (hr4.up _), hT4.below⟩
  · have HS : Hid (VfsS.flushAllS S = (VfsS.flushS (VfsS.stepS S) (VfsS.stepS S).acts.length, 0)) := by show _ = _; unfold VfsS.flushAllS; rw [if_neg hl, VfsS.stepS_acts]
    rw [limA hl] at HSTEP
    clear hl
    go_upto_region 4 with (first | (go_at_call 60; refine HSTEP.mono ?_; rintro e w1 ⟨cs1, rfl, hr1, hb1⟩; have hT1 := hT.to hb1; have hs1 := hr1.size; have ho1 := hr1.one) | (refine wp_store0 hT1 rfl _ _ rfl rfl rfl rfl hs1 ho1 ?_; intro w2 hT2 hg2; have hr2 := hr1.in0 hT1 hg2) | (refine wp_load0 hT2 rfl _ rfl rfl hs1 ?_) | (refine wp_load0 hT rfl _ rfl rfl rfl ?_))
    generalize VfsS.stepS S = T at *
    have hr2' := hr2
    obtain ⟨fa1, na1, sa1, aa1, fc1, nc1, sc1, ac1, e1, hx1⟩ := hr2'
    subst e1
    have d3 : w2.cell? ⟨w.heap.size, 3, none⟩ = some (.slice aa1 T.acts.length ac1) := hT2.c 3 rfl
    clear hx1
    go_wp2_with (first | (refine wp_load0 hT2 rfl _ rfl rfl hs1 ?_) | (refine wp_load0 hT rfl _ rfl rfl rfl ?_) | (go_at_call 64; refine (rflush_r hr2 T.acts.length (Nat.le_refl _)).mono ?_; rintro e w3 ⟨cs3, rfl, hr3, hb3⟩; have hT3 := hT2.to hb3; have hs3 := hr3.size; have ho3 := hr3.one) | (refine wp_store1 hT3 rfl _ _ rfl rfl rfl rfl hs3 ho3 ?_; intro w4 hT4 hg4; have hr4 := hr3.in1 hT3 hg4))
    (try simp only [Exit.inBlock, Exit.then])
    refine bodyPost_ret (hT4.ret2 hs3 rfl _ rfl) rfl ?_
    rw [HS.out]
    exact ⟨_, rfl, hr4.sub (fun k hk _ => hk.elim .inl (fun h => .inr (by have := hT2.below.size; omega))), hT4.below⟩
end
end Go.Proofs.YtfoamcobpfflbaaDoor
namespace Go.Proofs.YtfoamcobpfflbaaDoor
open Go Go.RowKit

theorem okB_of {c : UInt8} (h : ((c.toNat : Int) < 32 ∨ ((c.toNat : Int) == 127) = true) ∨ ((c.toNat : Int) == 47) = true) : PathS.okB c = false := by
  unfold PathS.okB
  simp only [UInt8.lt_iff_toNat_lt]
  rcases h with (h | h) | h
  · have : c.toNat < 32 := by omega
    simp [this]
  · have : c = 127 := by rw [show (127 : Int) = ((127 : UInt8).toNat : Int) from rfl, byte_eq] at h; simpa using h
    subst this; decide
  · have : c = 47 := by rw [show (47 : Int) = ((47 : UInt8).toNat : Int) from rfl, byte_eq] at h; simpa using h
    subst this; decide
theorem okB_not {c : UInt8} (h1 : 32 ≤ (c.toNat : Int)) (h2 : ((c.toNat : Int) == 127) = false) (h3 : ((c.toNat : Int) == 47) = false) : PathS.okB c = true := by
  unfold PathS.okB
  simp only [UInt8.lt_iff_toNat_lt]
  have h4 : ¬ c.toNat < 32 := by omega
  rw [show (127 : Int) = ((127 : UInt8).toNat : Int) from rfl, byte_eq] at h2
  rw [show (47 : Int) = ((47 : UInt8).toNat : Int) from rfl, byte_eq] at h3
  simp at h2 h3
  simp [h2, h3]
  omega

theorem okB_cases (c : UInt8) : ((c.toNat : Int) < 32 ∧ Hid (PathS.okB c = false)) ∨ (32 ≤ (c.toNat : Int) ∧ ((c.toNat : Int) == 127) = true ∧ Hid (PathS.okB c = false)) ∨ (32 ≤ (c.toNat : Int) ∧ ((c.toNat : Int) == 127) = false ∧ ((c.toNat : Int) == 47) = true ∧ Hid (PathS.okB c = false)) ∨ (32 ≤ (c.toNat : Int) ∧ ((c.toNat : Int) == 127) = false ∧ ((c.toNat : Int) == 47) = false ∧ Hid (PathS.okB c = true)) := by
  by_cases h1 : (c.toNat : Int) < 32
  · exact .inl ⟨h1, okB_of (.inl (.inl h1))⟩
  · cases h2 : ((c.toNat : Int) == 127)
    · cases h3 : ((c.toNat : Int) == 47)
      · exact .inr (.inr (.inr ⟨by omega, rfl, rfl, okB_not (by omega) h2 h3⟩))
      · exact .inr (.inr (.inl ⟨by omega, rfl, rfl, okB_of (.inr h3)⟩))
    · exact .inr (.inl ⟨by omega, rfl, okB_of (.inl (.inr h2))⟩)

set_option maxRecDepth 100000 in
set_option maxHeartbeats 400000 in
theorem ref_name (s : ByteArray) (w : World) (hs : s.size ≤ 10000000) :
    Calls Tryd.prog 86 #[.string s] w fun e w' => e = .returned (.bool (PathS.name s)) ∧ w = w' := by
  have HN := Lib.hid (@PathS.name_no s)
  have HM := Lib.hid (@PathS.name_rest s)
  go_enter Tryd.func86, Tryd.ntmps86
  go_wp2_with fail
  all_goals simp only [Lib.toList_data] at *
  · go_ret; exact ⟨ret_bool (HN.out (.inl ‹_›)), rfl⟩
  · go_ret; exact ⟨ret_bool (HN.out (.inr (.inl ‹_›))), rfl⟩
  · go_ret; exact ⟨ret_bool (HN.out (.inr (.inr (.inl ‹_›)))), rfl⟩
  · have h5 : 64 < s.data.toList.length := by
      rw [← Lib.size_eq]
      rcases (by assumption : ((s.data.toList.isEmpty = true ∨ (s.data.toList == [46]) = true) ∨ (s.data.toList == [46, 46]) = true) ∨ 64 < (s.size : Int)) with ((h | h) | h) | h
      · exact absurd (List.isEmpty_iff.1 h) ‹_›
      · exact absurd (beq_iff_eq.1 h) ‹_›
      · exact absurd (beq_iff_eq.1 h) ‹_›
      · omega
    go_ret; exact ⟨ret_bool (HN.out (.inr (.inr (.inr h5)))), rfl⟩
  · have h6 := (by assumption : ((s.data.toList.isEmpty = false ∧ (s.data.toList == [46]) = false) ∧ (s.data.toList == [46, 46]) = false) ∧ (s.size : Int) ≤ 64).2
    have HR := Lib.hid (HM.out ‹_› ‹_› ‹_› (by rw [← Lib.size_eq]; omega))
    have hs : s.size ≤ 64 := by omega
    go_loop [3] (fun i => ∃ k : Nat, k ≤ s.size ∧ i = .int .i64 k ∧ Hid (PathS.name s = (s.data.toList.drop k).all PathS.okB)) (fun i => s.size - (intOf i).toNat)
    case atStart => exact ⟨0, by omega, rfl, HR⟩
    case round =>
      obtain ⟨k, hk, rfl, HP⟩ := hrel
      clear HN HM HR
      by_cases hlt : k < s.size
      · have HD := Lib.hid (PathS.drop_at s k hlt)
        rcases okB_cases s[k] with ⟨h1, HB⟩ | ⟨h1, h2, HB⟩ | ⟨h1, h2, h3, HB⟩ | ⟨h1, h2, h3, HB⟩
        · go_wp2_with fail
          go_ret; exact ⟨ret_bool (by rw [HP.out, HD.out, List.all_cons, HB.out]; rfl), rfl⟩
        · go_wp2_with fail
          go_ret; exact ⟨ret_bool (by rw [HP.out, HD.out, List.all_cons, HB.out]; rfl), rfl⟩
        · go_wp2_with fail
          go_ret; exact ⟨ret_bool (by rw [HP.out, HD.out, List.all_cons, HB.out]; rfl), rfl⟩
        · go_wp2_with fail
          go_round
          case rel => exact ⟨k + 1, by omega, by go_num, by show _ = _; rw [HP.out, HD.out, List.all_cons, HB.out]; rfl⟩
          case measure => simp [intOf]; omega
      · go_wp2_with fail
        go_ret
        refine ⟨ret_bool ?_, rfl⟩
        rw [HP.out, List.drop_eq_nil_of_le (by rw [← Lib.size_eq]; omega)]; rfl

theorem split_len (s : ByteArray) : (PathS.split s).length ≤ s.size + 1 := by
  unfold PathS.split; split
  · simp
  · exact PathS.splitTo_len s (s.size + 1)

set_option maxRecDepth 100000 in
set_option maxHeartbeats 400000 in
theorem ref_check (s : ByteArray) (w : World) (hs : s.size ≤ 10000000) :
    Calls Tryd.prog 58 #[.string s] w fun e w' => e = .returned (.int .i64 (PathS.check s)) ∧ Below w.heap.size w w' := by
  have hpl := split_len s
  have HC : Hid (PathS.check s = if 255 < s.size ∨ 16 < (PathS.split s).length then 2 else if (PathS.split s).all PathS.name then (if (PathS.split s).length = 0 then 50 else 0) else 50) := by show _ = _; rfl
  have hpz : ∀ x ∈ PathS.split s, x.size ≤ 10000000 := by
    intro x hx
    rw [PathS.split_spl] at hx
    have := PathS.spl_size s x hx
    omega
  go_enter Tryd.func58, Tryd.ntmps58
  go_wp2_with fail
  refine (ref_split s w hs).mono ?_
  rintro e w1 ⟨v, rfl, hb, hown⟩
  obtain ⟨a, c, rfl, -, -, hsl⟩ := own_sl hown
  clear hown
  generalize PathS.split s = l at *
  have HZ := Lib.hid hpz
  clear hpz
  by_cases h1 : 255 < s.size
  · have g1 : decide (255 < (s.size : Int)) = true := by simp; omega
    go_wp2_with fail
    go_ret
    exact ⟨ret_i64 (by rw [HC.out, if_pos (.inl h1)]), hb⟩
  · have g1 : decide (255 < (s.size : Int)) = false := by simp; omega
    by_cases h2 : 16 < l.length
    · have g2 : decide (16 < (l.length : Int)) = true := by simp; omega
      go_wp2_with fail
      go_ret
      exact ⟨ret_i64 (by rw [HC.out, if_pos (.inr h2)]), hb⟩
    · have g2 : decide (16 < (l.length : Int)) = false := by simp; omega
      go_wp2_with fail
      go_loop [4] (fun i => ∃ k : Nat, k ≤ l.length ∧ i = .int .i64 k ∧ Hid ((l.take k).all PathS.name = true)) (fun i => l.length - (intOf i).toNat)
      case atStart => exact ⟨0, by omega, rfl, by show _ = _; rfl⟩
      case round =>
        obtain ⟨k, hk, rfl, HP⟩ := hrel
        by_cases hlt : k < l.length
        · obtain ⟨b, o, rfl, hbl, hc⟩ := hsl.at (k := k) (by simpa using hlt)
          have hcell : w1.cell? ⟨b, o + k, none⟩ = some (.string l[k]) := by rw [hc k (by simpa using hlt), List.getElem_map]
          clear hc
          have hsz := HZ.out _ (List.getElem_mem hlt)
          have HT := Lib.hid (show l.take (k + 1) = l.take k ++ [l[k]] from List.take_succ_eq_append_getElem hlt)
          cases hn : PathS.name l[k]
          · have HN := Lib.hid hn; clear hn
            have HA : Hid (l.all PathS.name = false) := by
              show _ = _
              rw [Bool.eq_false_iff]; intro h; have := List.all_eq_true.1 h l[k] (List.getElem_mem hlt); rw [HN.out] at this; cases this
            go_wp2_with (go_at_call 86; refine (ref_name _ _ hsz).mono ?_; rw [HN.out]; rintro e w2 ⟨rfl, rfl⟩)
            go_ret
            exact ⟨ret_i64 (by rw [HC.out, if_neg (by omega), HA.out]; rfl), hb⟩
          · have HN := Lib.hid hn; clear hn
            go_wp2_with (go_at_call 86; refine (ref_name _ _ hsz).mono ?_; rw [HN.out]; rintro e w2 ⟨rfl, rfl⟩)
            go_round
            case rel => exact ⟨k + 1, by omega, by go_num, by show _ = _; rw [HT.out, List.all_append, HP.out]; simp [HN.out]⟩
            case measure => simp [intOf]; omega
        · have HA : Hid (l.all PathS.name = true) := by
            show _ = _; have := HP.out; rwa [List.take_of_length_le (by omega)] at this
          by_cases h0 : l.length = 0
          · have g0 : ((l.length : Int) == 0) = true := by rw [h0]; rfl
            go_wp2_with fail
            go_ret
            exact ⟨ret_i64 (by rw [HC.out, if_neg (by omega), HA.out, if_pos rfl, if_pos h0]), hb⟩
          · have g0 : ((l.length : Int) == 0) = false := beq_eq_false_iff_ne.2 (by omega)
            go_wp2_with fail
            go_ret
            exact ⟨ret_i64 (by rw [HC.out, if_neg (by omega), HA.out, if_pos rfl, if_neg h0]), hb⟩

end Go.Proofs.YtfoamcobpfflbaaDoor
