/- Texts of mine, joined: A drawn region whose callees lay blocks: the class of all worlds that have nothing old turned. Of every program. | A region that draws its order: a load may be taken first although the last store hits its cell: that store waits for it. Of every program. | A region that draws its order and makes one block ('s, ok := m[k]' with s a struct): the block may be made at any time, the others only read; then a forced tail. Of every program. | A region that draws its order: what only reads is taken first under S, S is shown behind every operation of a forced rest. Of every program. -/
import Derived.OrdersHeld
import Derived.Deep.MidRow
import Derived.Test.YtpcipdkoncmdcaaGreatDoorZ7
namespace Go.Proofs.YtpcipdkoncmdcaaGreatDoor
open Go Go.RowKit

/-- How far a world is from another one: the draws, the new blocks. -/
structure BW where
  d : Nat
  os : Array Obj
  deriving Inhabited

def bw (w : World) (p : BW) : World := { w with heap := w.heap ++ p.os, drawn := p.d }

theorem bw_below (w : World) (p : BW) : Below w.heap.size w (bw w p) :=
  ⟨rfl, rfl, rfl, by show w.heap.size ≤ (w.heap ++ p.os).size; rw [Array.size_append]; omega, fun k hk => by show (w.heap ++ p.os)[k]? = w.heap[k]?; rw [Array.getElem?_append_left hk]⟩

theorem bw_of {w w' : World} (hb : Below w.heap.size w w') : ∃ p : BW, w' = bw w p := by
  refine ⟨⟨w'.drawn, w'.heap.extract w.heap.size w'.heap.size⟩, ?_⟩
  have hh : w'.heap = w.heap ++ w'.heap.extract w.heap.size w'.heap.size := by
    apply Array.ext_getElem?
    intro i
    rw [Array.getElem?_append]
    split
    · rename_i hi; exact hb.block i hi
    · rename_i hi
      rw [Array.getElem?_extract]
      split
      · congr 1; omega
      · rename_i h2
        have := hb.size
        rw [Array.getElem?_eq_none (by omega)]
  cases w
  cases w'
  obtain ⟨h1, h2, h3, h4, h5⟩ := hb
  simp only at h1 h2 h3 hh
  subst h1 h2 h3
  simp only [bw]
  congr 1

theorem bw_cell {w : World} {a : Addr} {v : Value} (hb : a.block < w.heap.size) (h : w.cell? a = some v) (p : BW) : (bw w p).cell? a = some v := ((bw_below w p).cell hb).trans h

/-- A callee that turns nothing old, met in a world of the class. -/
theorem calls_bw {P : Program} {f : FuncId} {args : Array Value} {w : World} {p : BW} {v : Value}
    (h : Calls P f args (bw w p) fun e w' => e = .returned v ∧ Below (bw w p).heap.size (bw w p) w') : Calls P f args (bw w p) fun e w'' => e = .returned v ∧ ∃ q : BW, w'' = bw w q :=
  h.mono fun _ _ ⟨he, hb⟩ => ⟨he, bw_of ((bw_below w p).trans (hb.mono (bw_below w p).size))⟩

theorem wp_region_bw {P : Program} {id : Nat} {Q : Exit → Act → World → Prop} {a : Act} {w : World} {l : List Oper} (hm : P.follows .mixedOrders = true) (hB : Region.lexB .any l.toArray = true)
    (h : wpQuiet P l.toArray (fun w' => ∃ p : BW, w' = bw w p) (fun a' => ∀ w', (∃ p : BW, w' = bw w p) → Q .normal a' w') l a) : (Code.region id l.toArray true).wp P Q a w :=
  wp_region_quiet (C := fun w' => ∃ p : BW, w' = bw w p) hm hB ⟨⟨w.drawn + 1, #[]⟩, by simp [bw]⟩ (by simpa using h)

theorem wp_region_bw_tail {P : Program} {id : Nat} {Q : Exit → Act → World → Prop} {a : Act} {w : World} {l : List Oper} (n : Nat) (hm : P.follows .mixedOrders = true) (hB : Region.lexTailB .any l.toArray n = true)
    (h : wpQuiet P l.toArray (fun w' => ∃ p : BW, w' = bw w p) (fun a' => ∀ w', (∃ p : BW, w' = bw w p) → wpList P l.toArray Q (l.drop n) a' w') (l.take n) a) : (Code.region id l.toArray true).wp P Q a w :=
  wp_region_tail (C := fun w' => ∃ p : BW, w' = bw w p) n hm hB ⟨⟨w.drawn + 1, #[]⟩, by simp [bw]⟩ h

/-- The class, by moves. -/
def CB (w w' : World) : Prop := ∃ p : BW, w' = bw w p
theorem CB.refl (w : World) : CB w w := bw_of (Below.refl _ w)
theorem wp_region_cb {P : Program} {id : Nat} {Q : Exit → Act → World → Prop} {a : Act} {w : World} {l : List Oper} (ss : List Mv) (hm : P.follows .mixedOrders = true)
    (hB : (Region.noSelect l.toArray && okB .any l.toArray ss (Array.replicate l.toArray.size false) && decide (fuelOf ss = l.toArray.size)) = true)
    (hQ : ∀ (d : Tmp) (v : Value) c a w, Q (.panic c) (a.put (some d) v) w → Q (.panic c) a w) (h : goS P l.toArray Q CB ss a { w with drawn := w.drawn + 1 }) : (Code.region id l.toArray true).wp P Q a w :=
  wp_region_mv CB ss hm hB CB.refl hQ h
theorem goS_cb {P : Program} {ops : Array Oper} {Q : Exit → Act → World → Prop} {ss : List Mv} {a : Act} {w : World} {is : List Nat}
    (h : wpQuiet P ops (fun w' => ∃ p : BW, w' = bw w p) (fun a' => ∀ w', (∃ p : BW, w' = bw w p) → goS P ops Q CB ss a' w') (opsAt ops is) a) : goS P ops Q CB (.blk is :: ss) a { w with drawn := w.drawn + 1 } := h
end Go.Proofs.YtpcipdkoncmdcaaGreatDoor
namespace Go.Proofs.YtpcipdkoncmdcaaGreatDoor
open Go Go.RowKit

section
variable {P : Program} {ops : Array Oper} {md : Region.Mode} {Q : Exit → Act → World → Prop} {S : World → Prop}

/-- Whatever order is picked; S holds behind every operation, until one has come up that waits for i. -/
def wpAnyU (P : Program) (md : Region.Mode) (ops : Array Oper) (Q : Exit → Act → World → Prop) (S : World → Prop) (i : Nat) : Nat → Bool → Array Bool → Act → World → Prop
  | 0, _, listed, a, w => Region.ready md ops listed = [] ∧ Q .normal a w
  | fuel + 1, b, listed, a, w =>
    (Region.ready md ops listed = [] → Q .normal a w) ∧
    ∀ j ∈ Region.ready md ops listed, wpOp P ops Q j (fun a' w' => ((b && !Region.waitsFor md ops j i) = true → S w') ∧ wpAnyU P md ops Q S i fuel (b && !Region.waitsFor md ops j i) (listed.setIfInBounds j true) a' w') a w

theorem wpAny_of_U {i : Nat} : ∀ (fuel : Nat) (b : Bool) (listed : Array Bool) (a : Act) (w : World), wpAnyU P md ops Q S i fuel b listed a w → wpAny P md ops Q fuel listed a w
  | 0, _, _, _, _, h => h
  | fuel + 1, _, _, _, _, h => ⟨h.1, fun j hj => wpOp_mono (fun a' w' h' => wpAny_of_U fuel _ _ a' w' h'.2) (h.2 j hj)⟩

theorem waits_false {i j : Nat} {oj : Oper} (hj : ops[j]? = some oj) (h : ∀ e ∈ oj.after, Region.binds md e = true → e.on ≠ i) : Region.waitsFor md ops j i = false := by
  cases e : Region.waitsFor md ops j i with
  | false => rfl
  | true =>
    obtain ⟨o', h1, x, h2, h3, h4⟩ := Region.waitsFor_spec e
    rw [hj] at h1
    injection h1 with h1
    subst h1
    exact absurd h4 (h x h2 h3)

theorem wpAnyU_first {i : Nat} {oi : Oper} {v : Value} (hi : ops[i]? = some oi) (hsel : ∀ (j : Nat) (o : Oper) cs b, ops[j]? = some o → o.op ≠ .select cs b)
    (hQ : ∀ c a w, Q (.panic c) (a.put oi.dst v) w → Q (.panic c) a w) :
    ∀ (fuel : Nat) (listed : Array Bool) (a : Act) (w : World),
      (∀ j oj, ops[j]? = some oj → j ≠ i → listed.getD j true = false → (∀ e ∈ oj.after, Region.binds md e = true → e.on ≠ i) → oi.apart ops oj = true) →
      i ∈ Region.ready md ops listed → YieldsIf P ops S oi v a → S w →
      wpAnyU P md ops Q S i fuel true (listed.setIfInBounds i true) (a.put oi.dst v) w → wpAny P md ops Q (fuel + 1) listed a w := by
  intro fuel
  induction fuel with
  | zero =>
    intro listed a w _ hr hy hS H
    refine ⟨fun h => (by rw [h] at hr; cases hr), fun j hj => ?_⟩
    by_cases hji : j = i
    · subst hji; exact hy.wpOp hi hS H
    · have := ready_mono hj hji
      rw [H.1] at this
      cases this
  | succ fuel ih =>
    intro listed a w hfree hr hy hS H
    refine ⟨fun h => (by rw [h] at hr; cases hr), fun j hj => ?_⟩
    by_cases hji : j = i
    · subst hji; exact hy.wpOp hi hS (wpAny_of_U _ _ _ _ _ H)
    · have h1 := H.2 j (ready_mono hj hji)
      obtain ⟨hjun, oj, hoj, hall⟩ := mem_ready.1 hj
      have hnot : ∀ e ∈ oj.after, Region.binds md e = true → e.on ≠ i := fun e he hb heq => by
        have h1 := hall e he hb
        have h0 := (mem_ready.1 hr).1
        rw [heq] at h1
        rcases Nat.lt_or_ge i listed.size with h' | h'
        · simp [h'] at h0 h1; rw [h0] at h1; cases h1
        · simp [Array.getElem?_eq_none h'] at h1
      rw [waits_false hoj hnot] at h1
      have h2 := wpOp_putIf hoj (hfree j oj hoj hji hjun hnot) (fun cs b => hsel i oi cs b hi) (fun cs b => hsel j oj cs b hoj) hQ hy h1
      have hfree' : ∀ k ok, ops[k]? = some ok → k ≠ i → (listed.setIfInBounds j true).getD k true = false →
          (∀ e ∈ ok.after, Region.binds md e = true → e.on ≠ i) → oi.apart ops ok = true := fun k ok hk hki hun hno => by
        refine hfree k ok hk hki ?_ hno
        by_cases hjk : j = k
        · subst hjk; exact hjun
        · rw [getD_set_ne true hjk] at hun; exact hun
      refine wpOp_mono (fun a' w' h3 => ih (listed.setIfInBounds j true) a' w' hfree' (ready_mono hr (Ne.symm hji)) h3.1 (h3.2.1 rfl) ?_) h2
      rw [Array.setIfInBounds_comm _ _ hji]
      exact h3.2.2

/-- A forced rest, S shown until i is waited for. -/
def goU (P : Program) (md : Region.Mode) (ops : Array Oper) (Q : Exit → Act → World → Prop) (S : World → Prop) (i : Nat) : List Nat → Bool → Act → World → Prop
  | [], _, a, w => Q .normal a w
  | k :: ks, b, a, w => ∃ o, ops[k]? = some o ∧ wpList P ops (Exit.then (fun a' w' => ((b && !Region.waitsFor md ops k i) = true → S w') ∧ goU P md ops Q S i ks (b && !Region.waitsFor md ops k i) a' w') Q) [o] a w

theorem goU_wp {i : Nat} : ∀ (ks : List Nat) (b : Bool) (listed : Array Bool) (a : Act) (w : World), frcOk md ops ks listed = true → Region.ready md ops (setAll ks listed) = [] → goU P md ops Q S i ks b a w → wpAnyU P md ops Q S i ks.length b listed a w
  | [], _, listed, a, w, _, he, h => ⟨he, h⟩
  | k :: ks, b, listed, a, w, hB, he, h => by
    simp only [frcOk, Bool.and_eq_true, decide_eq_true_eq] at hB
    refine ⟨fun h1 => (by rw [hB.1] at h1; cases h1), fun j hj => ?_⟩
    have hik : j = k := by rw [hB.1] at hj; simpa using hj
    subst hik
    obtain ⟨o, ho, h⟩ := h
    have hw : wpOp P ops (Exit.then (fun a' w' => ((b && !Region.waitsFor md ops j i) = true → S w') ∧ goU P md ops Q S i ks (b && !Region.waitsFor md ops j i) a' w') Q) j (wpList P ops (Exit.then (fun a' w' => ((b && !Region.waitsFor md ops j i) = true → S w') ∧ goU P md ops Q S i ks (b && !Region.waitsFor md ops j i) a' w') Q) []) a w := by
      unfold wpOp; simp only [ho]; exact h
    exact wpOp_mono (fun a' w' h' => ⟨h'.1, goU_wp ks _ _ a' w' hB.2 he h'.2⟩) (wpOp_then hw)

/-- Operations that yield in whatever world, taken first, one behind the other. -/
def goT (P : Program) (ops : Array Oper) (N : Act → World → Prop) : List Nat → Act → World → Prop
  | [], a, w => N a w
  | k :: ks, a, w => ∃ o, ops[k]? = some o ∧ ∃ v, Yields P ops o v a ∧ goT P ops N ks (a.put o.dst v) w
def takeOk (md : Region.Mode) (ops : Array Oper) : List Nat → Array Bool → Bool
  | [], _ => true
  | k :: ks, up => (Region.ready md ops up).contains k && Region.free md ops up k && takeOk md ops ks (up.setIfInBounds k true)

theorem goT_wp {N : Act → World → Prop} {g : Nat} (hsel : Region.noSelect ops = true) (hQ : ∀ (d : Tmp) (v : Value) c a w, Q (.panic c) (a.put (some d) v) w → Q (.panic c) a w) {U : Array Bool} (hN : ∀ a w, N a w → wpAny P md ops Q g U a w) :
    ∀ (ts : List Nat) (up : Array Bool) (a : Act) (w : World), takeOk md ops ts up = true → setAll ts up = U → goT P ops N ts a w → wpAny P md ops Q (g + ts.length) up a w
  | [], up, a, w, _, hu, h => by subst hu; exact hN a w h
  | k :: ts, up, a, w, hB, hu, h => by
    simp only [takeOk, Bool.and_eq_true] at hB
    obtain ⟨⟨hr, hf⟩, hB'⟩ := hB
    obtain ⟨o, ho, v, hy, h⟩ := h
    exact wpAny_take ho hsel hf hr (fun c a w h => by cases hd : o.dst with | none => rw [hd] at h; exact h | some t => rw [hd] at h; exact hQ t v c a w h) hy (goT_wp hsel hQ hN ts _ _ _ hB' hu h)

/-- The region: pure operations first, then a load under S, then a forced rest. -/
theorem wp_region_tku {id : Nat} {a : Act} {w : World} {l : List Oper} (S : World → Prop) (ts : List Nat) (i : Nat) (ks : List Nat) (hm : P.follows .mixedOrders = true)
    (hB : (Region.noSelect l.toArray && takeOk .any l.toArray ts (Array.replicate l.toArray.size false) && Region.free .any l.toArray (setAll ts (Array.replicate l.toArray.size false)) i && (Region.ready .any l.toArray (setAll ts (Array.replicate l.toArray.size false))).contains i &&
      frcOk .any l.toArray ks ((setAll ts (Array.replicate l.toArray.size false)).setIfInBounds i true) && decide (Region.ready .any l.toArray (setAll ks ((setAll ts (Array.replicate l.toArray.size false)).setIfInBounds i true)) = []) && decide (ks.length + 1 + ts.length = l.toArray.size)) = true)
    (hQ : ∀ (d : Tmp) (v : Value) c a w, Q (.panic c) (a.put (some d) v) w → Q (.panic c) a w)
    (h : goT P l.toArray (fun a' w' => ∃ oi, l.toArray[i]? = some oi ∧ ∃ v, YieldsIf P l.toArray S oi v a' ∧ S w' ∧ goU P .any l.toArray Q S i ks true (a'.put oi.dst v) w') ts a (w.drewN 1)) : (Code.region id l.toArray true).wp P Q a w := by
  simp only [Bool.and_eq_true, decide_eq_true_eq] at hB
  obtain ⟨⟨⟨⟨⟨⟨h1, h2⟩, h3⟩, h4⟩, h5⟩, h6⟩, h7⟩ := hB
  refine wp_region_any hm ?_
  have := goT_wp (md := .any) (g := ks.length + 1) (U := setAll ts (Array.replicate l.toArray.size false)) h1 hQ (fun a' w' hN => by
    obtain ⟨oi, ho, v, hy, hS, hu⟩ := hN
    exact wpAnyU_first ho (Region.noSelect_spec h1) (fun c a w h => by cases hd : oi.dst with | none => rw [hd] at h; exact h | some t => rw [hd] at h; exact hQ t v c a w h) ks.length _ a' w' (Region.free_spec ho h3) (by simpa using h4) hy hS (goU_wp ks true _ _ w' h5 h6 hu)) ts _ a _ h2 rfl h
  rw [h7] at this
  exact this

/-- One operation of the forced rest. -/
theorem goU_step {i k : Nat} {ks : List Nat} {b b' : Bool} {o : Oper} {a : Act} {w : World} (ho : ops[k]? = some o) (hb : (b && !Region.waitsFor md ops k i) = b') (h : wpList P ops (Exit.then (fun a' w' => (b' = true → S w') ∧ goU P md ops Q S i ks b' a' w') Q) [o] a w) : goU P md ops Q S i (k :: ks) b a w := by
  subst hb
  exact ⟨o, ho, h⟩
end
end Go.Proofs.YtpcipdkoncmdcaaGreatDoor
namespace Go.Proofs.YtpcipdkoncmdcaaGreatDoor
open Go Go.RowKit

/-- Operations that call nothing. -/
def plainOp : Op → Bool
  | .move _ => true
  | .load _ _ => true
  | .fieldAddr _ _ _ => true
  | .lookup _ _ _ _ => true
  | .extract _ _ => true
  | .index _ _ _ => true
  | .indexAddr _ _ _ => true
  | .slice _ _ _ _ _ => true
  | .nilCheck _ => true
  | _ => false

theorem no_enter_v {P : Program} {w w' : World} {s : Sem Value} {f : FuncId} {args : Array Value} : ¬ (do pure (Next.value (← s)) : Sem Next).run P w = .ok (.enter f args) w' := by
  intro h
  simp only [Sem.run_bind, Sem.run_pure] at h
  cases hs : s.run P w with
  | ok v w1 => rw [hs] at h; simp [Result.andThen] at h
  | halt x w1 => rw [hs] at h; simp [Result.andThen] at h

theorem no_enter {P : Program} {ρ : Operand → Value} {o : Oper} {f : FuncId} {args : Array Value} {w w' : World} (hp : plainOp o.op = true) : ¬ (execOp ρ o).run P w = .ok (.enter f args) w' := by
  intro h
  unfold execOp at h
  cases ho : o.op <;> rw [ho] at hp h <;> simp only [plainOp] at hp <;> first | (cases hp; done) | (exact no_enter_v h) | skip
  · simp at h
  · simp only at h
    split at h
    all_goals first | (simp [runtimePanic] at h; done) | skip
    split at h
    · simp [runtimePanic] at h
    · rename_i t u _
      simp only [Sem.run_bind] at h
      cases h1 : (program : Sem Program).run P w with
      | halt x w1 => rw [h1] at h; simp [Result.andThen] at h
      | ok pr w1 =>
        rw [h1] at h
        simp only [Result.andThen] at h
        cases h2 : (nilAhead (pr.types.size + Made.depth) t u _).run P w1 with
        | halt x w2 => rw [h2] at h; simp at h
        | ok b w2 =>
          rw [h2] at h
          simp only at h
          split at h <;> simp [unsupported] at h
    · simp at h

theorem getD_set_same (up : Array Bool) (j : Nat) : (up.setIfInBounds j true).getD j true = true := by
  rw [Array.getD_eq_getD_getElem?, Array.getElem?_setIfInBounds_self]
  split <;> rfl
theorem getD_set_other (up : Array Bool) {i j : Nat} (h : j ≠ i) : (up.setIfInBounds j true).getD i true = up.getD i true := by
  rw [Array.getD_eq_getD_getElem?, Array.getD_eq_getD_getElem?, Array.getElem?_setIfInBounds_ne h]

section
variable {P : Program} {ops ops' : Array Oper} {md : Region.Mode} {i : Nat} {oi oi' : Oper} {ptr : Value} {w0 w1 : World} {C : World → Prop}

/-- The region whose making operation yields the known address. -/
structure Alike2 (ops ops' : Array Oper) (i : Nat) (oi oi' : Oper) : Prop where
  hi : ops[i]? = some oi
  hi' : ops'[i]? = some oi'
  oth : ∀ j, j ≠ i → ops'[j]? = ops[j]?
  size : ops'.size = ops.size
  aft : oi'.after = oi.after
  dst : oi'.dst = oi.dst
  g : oi.guard = none
  g' : oi'.guard = none

theorem Alike2.mk' {l : List Oper} (hi : l[i]? = some oi) (hg : oi.guard = none) (op : Op) : Alike2 l.toArray (l.toArray.setIfInBounds i { oi with op := op }) i oi { oi with op := op } := by
  have hlt := (List.getElem?_eq_some_iff.1 hi).1
  exact ⟨by simpa using hi, by simp [hlt], fun j hj => by rw [Array.getElem?_setIfInBounds_ne (fun e => hj e.symm)], by simp, rfl, rfl, hg, hg⟩

theorem Alike2.ready (A : Alike2 ops ops' i oi oi') (up : Array Bool) : Region.ready md ops' up = Region.ready md ops up := by
  unfold Region.ready
  rw [A.size]
  apply List.filter_congr
  intro j _
  congr 1
  by_cases e : j = i
  · subst e; rw [A.hi, A.hi']; simp only [Option.map_some, A.aft]
  · rw [A.oth j e]
theorem Alike2.yl (A : Alike2 ops ops' i oi oi') (t : Array Value) : yielded ops' t = yielded ops t := by
  funext j
  unfold yielded
  by_cases e : j = i
  · subst e; rw [A.hi, A.hi']; simp only [Option.bind_some, A.dst]
  · rw [A.oth j e]

def alcW (w0 w1 : World) (b : Bool) (q : Nat) : World := if b then w1.drewN q else w0.drewN q

theorem blkAlc_wp {is : List Nat} {g : Nat} {T : Array Bool → Act → Prop} {Q' : Exit → Act → World → Prop} (A : Alike2 ops ops' i oi oi') (hop : oi'.op = .move (.const ptr))
    (hal : ∀ (ρ : Operand → Value) (q : Nat), (execOp ρ oi).run P (w0.drewN q) = .ok (.value ptr) (w1.drewN q)) (hpl : ∀ j ∈ is, j ≠ i → ∀ o, ops[j]? = some o → plainOp o.op = true) (hC : ∀ b q, C (alcW w0 w1 b q))
    (hT : ∀ up a q, T up a → up.getD i true = true ∧ wpAny P md ops Q' g up a (w1.drewN q)) (hsz : i < ops.size) :
    ∀ (f : Nat) (up : Array Bool) (a : Act) (q : Nat), up.size = ops.size → BlkAny P md ops' C is T f up a → wpAny P md ops Q' (f + g) up a (alcW w0 w1 (up.getD i true) q)
  | 0, up, a, q, _, h => by
    obtain ⟨h1, h2⟩ := hT up a q h
    rw [Nat.zero_add, h1]
    exact h2
  | f + 1, up, a, q, hs, h => by
    rw [show f + 1 + g = (f + g) + 1 by omega]
    refine ⟨fun h0 => absurd (by rw [A.ready]; exact h0) h.1, fun j hj => ?_⟩
    obtain ⟨hin, hq⟩ := h.2 j (by rw [A.ready]; exact hj)
    have hup : up.getD j true = false := by
      unfold Region.ready at hj
      have := (List.mem_filter.1 hj).2
      simp only [Bool.and_eq_true, Bool.not_eq_true'] at this
      exact this.1
    have hs' : (up.setIfInBounds j true).size = ops.size := by simp [hs]
    by_cases e : j = i
    · rw [e] at hup hq hs' ⊢
      have hg1 : (up.setIfInBounds i true).getD i true = true := getD_set_same up i
      unfold qOp at hq
      rw [A.hi'] at hq
      simp only [Region.wanted, A.g', if_true] at hq
      obtain ⟨v, h1, h2⟩ := hq
      have h3 := h1 _ (hC false q)
      unfold Oper.quietAt at h3
      have hrun : (execOp a.eval oi').run P (alcW w0 w1 false q) = .ok (.value ptr) (alcW w0 w1 false q) := by
        unfold execOp; rw [hop]; rfl
      rw [hrun] at h3
      obtain ⟨-, h4⟩ := h3
      subst h4
      unfold wpOp
      rw [A.hi]
      simp only [Region.wanted, A.g, if_true]
      refine .inl ?_
      unfold Oper.wp
      rw [hup]
      show Oper.upon P oi a _ _ ((execOp a.eval oi).run P (w0.drewN q))
      rw [hal]
      show wpAny P md ops Q' (f + g) (up.setIfInBounds i true) (a.put oi.dst ptr) (w1.drewN q)
      have := blkAlc_wp A hop hal hpl hC hT hsz f (up.setIfInBounds i true) (a.put oi'.dst ptr) q hs' h2
      rw [hg1, A.dst] at this
      exact this
    · have hg1 : (up.setIfInBounds j true).getD i true = up.getD i true := getD_set_other up (fun h => e h)
      have step : ∀ a', BlkAny P md ops' C is T f (up.setIfInBounds j true) a' → wpAny P md ops Q' (f + g) (up.setIfInBounds j true) a' (alcW w0 w1 (up.getD i true) q) := fun a' h' => by
        have := blkAlc_wp A hop hal hpl hC hT hsz f (up.setIfInBounds j true) a' q hs' h'
        rwa [hg1] at this
      unfold qOp at hq
      rw [A.oth j e] at hq
      unfold wpOp
      cases ho : ops[j]? with
      | none =>
        rw [ho] at hq
        exact step _ hq
      | some o =>
        rw [ho] at hq
        simp only [A.yl] at hq ⊢
        split
        · rename_i hw
          rw [if_pos hw] at hq
          obtain ⟨v, h1, h2⟩ := hq
          have h3 := h1 _ (hC (up.getD i true) q)
          refine .inl ?_
          unfold Oper.quietAt at h3
          unfold Oper.wp
          have hne := fun f args w' => no_enter (P := P) (ρ := a.eval) (f := f) (args := args) (w := alcW w0 w1 (up.getD i true) q) (w' := w') (hpl j hin e o ho)
          generalize (execOp a.eval o).run P (alcW w0 w1 (up.getD i true) q) = r at *
          cases r with
          | ok n w' =>
            cases n <;> simp only [Oper.quietUpon] at h3 <;> simp only [Oper.upon]
            case value u =>
              obtain ⟨e1, e2⟩ := h3
              rw [e1, e2]
              exact step _ h2
            case skip =>
              obtain ⟨e1, e2⟩ := h3
              rw [e1, ← e2]
              exact step _ h2
            case enter f args => exact absurd rfl (hne f args w')
          | halt x w' => cases x <;> simp only [Oper.quietUpon] at h3
        · rename_i hw
          rw [if_neg hw] at hq
          exact step _ hq
/-- The operations with the address in the place of the making. -/
def constAt (l : List Oper) (i : Nat) (oi : Oper) (b : Nat) : Array Oper := l.toArray.setIfInBounds i { oi with op := .move (.const (.pointer (some ⟨b, 0, none⟩))) }

/-- Such a region, walked: the others read in a class of worlds; then a forced tail. -/
theorem wp_region_alc {id : Nat} {Q : Exit → Act → World → Prop} {a : Act} {w : World} {l : List Oper} (i : Nat) (is js : List Nat) {oi : Oper} (e : TypeId) (obj : Obj) (hi : l[i]? = some oi) (hop : oi.op = .alloc e) (hg : oi.guard = none)
    (hal : ∀ W : World, (Instr.alloc e true (.tuple #[])).run P W = .ok (.pointer (some ⟨W.heap.size, 0, none⟩)) (W.alloc obj)) (hm : P.follows .mixedOrders = true)
    (hpl : (is.all fun j => j == i || ((l.toArray[j]?).map fun o => plainOp o.op).getD true) = true)
    (hB : (Region.noSelect (constAt l i oi w.heap.size) && closedOk .any (constAt l i oi w.heap.size) (Array.replicate l.toArray.size false) && is.all (fun i' => decide (i' < l.toArray.size)) && sinkOk .any (constAt l i oi w.heap.size) is (Array.replicate l.toArray.size false) &&
        lexOk .any (constAt l i oi w.heap.size) is (Array.replicate l.toArray.size false) && (Region.ready .any (constAt l i oi w.heap.size) (setAll is (Array.replicate l.toArray.size false))).all (fun j => !is.contains j)) = true)
    (hF : (frcOk .any l.toArray js (setAll is (Array.replicate l.toArray.size false)) && decide (Region.ready .any l.toArray (setAll js (setAll is (Array.replicate l.toArray.size false))) = []) && (setAll is (Array.replicate l.toArray.size false)).getD i true && decide (is.length + js.length = l.toArray.size)) = true)
    (h : wpQuiet P (constAt l i oi w.heap.size) (fun w' => ∃ p : BW, w' = bw w p) (fun a' => ∀ q, wpList P l.toArray Q (opsAt l.toArray js) a' ((w.alloc obj).drewN q)) (opsAt (constAt l i oi w.heap.size) is) a) : (Code.region id l.toArray true).wp P Q a w := by
  simp only [Bool.and_eq_true, decide_eq_true_eq] at hB hF
  obtain ⟨⟨⟨⟨⟨hsel, hcl⟩, hall⟩, hs⟩, hl⟩, hU⟩ := hB
  obtain ⟨⟨⟨hfr, hend⟩, hUi⟩, hlen⟩ := hF
  have A : Alike2 l.toArray (constAt l i oi w.heap.size) i oi { oi with op := .move (.const (.pointer (some ⟨w.heap.size, 0, none⟩))) } := Alike2.mk' hi hg _
  have hall' : ∀ k ∈ is, k < (constAt l i oi w.heap.size).size := fun k hk => by
    rw [A.size]; simpa using List.all_eq_true.1 hall k hk
  have inv : BInv .any (constAt l i oi w.heap.size) is (Array.replicate l.toArray.size false) (Array.replicate l.toArray.size false) := by
    refine ⟨by rw [A.size]; simp, fun j oj hj hu e he hb => ?_, fun t ht => ?_, fun _ h => h⟩
    · have h1 := List.all_eq_true.1 hcl j (List.mem_range.2 (Array.getElem?_eq_some_iff.1 hj).1)
      simp only [hj, hu, Bool.not_true, Bool.false_or] at h1
      have h2 := Array.all_eq_true'.1 h1 e he
      simpa [hb] using h2
    · have := (List.mem_filter.1 ht).2
      simp only [Bool.and_eq_true, Bool.not_eq_true'] at this
      exact this.1
  have hU' : ∀ j ∈ Region.ready .any (constAt l i oi w.heap.size) (setAll is (Array.replicate l.toArray.size false)), j ∉ is := fun j hj hm => by
    have := List.all_eq_true.1 hU j hj
    simp at this
    exact this hm
  have H := blkAny_lex (C := fun w' => ∃ p : BW, w' = bw w p) hsel hs hU' is (Array.replicate l.toArray.size false) a (fun _ h => h) hall' rfl inv hl h
  refine wp_region_any hm ?_
  have hlt : i < l.toArray.size := by have := (List.getElem?_eq_some_iff.1 hi).1; simpa using this
  have := blkAlc_wp (md := .any) (w0 := w) (w1 := w.alloc obj) (Q' := Q) (g := js.length) A rfl (fun ρ q => by
    have h1 := hal (w.drewN q)
    unfold execOp
    rw [hop]
    simp only [Sem.run_bind, Sem.run_pure, h1, Result.andThen]
    rfl) (fun j hj hne o ho => by
      have := List.all_eq_true.1 hpl j hj
      rw [ho] at this
      simpa [hne] using this) (fun b q => by
      cases b
      · exact bw_of (below_dN (Below.refl _ w) q)
      · exact bw_of (below_dN ((Below.refl _ w).alloc (Nat.le_refl _) obj) q)) (fun up a' q hT => by
      obtain ⟨e, hT⟩ := hT
      subst e
      refine ⟨hUi, ?_⟩
      have := frc_wp (md := .any) (g := 0) (Q := Q) (N := fun a w => Q .normal a w) (fun a w hq => ⟨hend, hq⟩) js _ a' ((w.alloc obj).drewN q) hfr rfl (wpList_then (fun _ _ h => h) _ _ _ (hT q))
      rwa [Nat.zero_add] at this) hlt is.length (Array.replicate l.toArray.size false) a 1 (by simp) H
  rw [hlen] at this
  have hz : (Array.replicate l.toArray.size false).getD i true = false := by
    rw [Array.getD_eq_getD_getElem?, Array.getElem?_replicate, if_pos hlt]; rfl
  rw [hz] at this
  exact this

/-- A whole block loaded in a quiet walk. -/
theorem wpQuiet_loadB {Q : Act → Prop} {a : Act} {o : Oper} {rest : List Oper} (hgd : o.guard = none) (ty : TypeId) (x : Operand) (ho : o.op = .load ty x) (b : Nat) (hx : a.eval x = .pointer (some ⟨b, 0, none⟩)) {cs : Array Value} {e : TypeId} {fr : Nat × Nat}
    (hb : ∀ w, C w → w.heap[b]? = some (.cells cs e fr)) (d : TypeDesc) (hu : P.underlying ty = some d) (hd : d.isRow = true) (hi : (P.info? ty).map (·.size) = some cs.toList.length) (h : wpQuiet P ops C Q rest (a.put o.dst (.agg cs))) : wpQuiet P ops C Q (o :: rest) a := by
  unfold wpQuiet
  rw [if_pos (by simp [Region.wanted, hgd])]
  refine ⟨_, fun w hw => ?_, h⟩
  unfold Oper.quietAt
  have hl := run_loadVar_mid (P := P) w b 0 ty cs.toList d (fun j v hj => by
    rw [Nat.zero_add]; simp only [World.cell?, hb w hw]; rw [← Array.getElem?_toList]; exact hj) hu hd hi
  have : (execOp a.eval o).run P w = .ok (.value (.agg cs)) w := by
    unfold execOp
    simp only [ho, hx, Instr.loadAt, Instr.sureAddr, Sem.run_bind, Sem.run_pure, Result.andThen_ok, hl]
  rw [this]
  exact ⟨rfl, rfl⟩
/-- .. as steps of a region that draws its order. -/
theorem step_loadB {K : Act → World → Prop} {Q : Exit → Act → World → Prop} {E : Prop} {w : World} {a : Act} {o : Oper} (hgd : o.guard = none) (ty : TypeId) (x : Operand) (ho : o.op = .load ty x) (b : Nat) (hx : a.eval x = .pointer (some ⟨b, 0, none⟩)) {cs : Array Value} {e : TypeId} {fr : Nat × Nat}
    (hb : w.heap[b]? = some (.cells cs e fr)) (d : TypeDesc) (hu : P.underlying ty = some d) (hd : d.isRow = true) (hi : (P.info? ty).map (·.size) = some cs.toList.length) (h : K (a.put o.dst (.agg cs)) w) :
    if Region.wanted o (yielded ops a.tmps) = true then Oper.wp P o a w K Q else E := by
  rw [if_pos (by simp [Region.wanted, hgd])]
  have hl := run_loadVar_mid (P := P) w b 0 ty cs.toList d (fun j v hj => by
    rw [Nat.zero_add]; simp only [World.cell?, hb]; rw [← Array.getElem?_toList]; exact hj) hu hd hi
  have : (execOp a.eval o).run P w = .ok (.value (.agg cs)) w := by
    unfold execOp
    simp only [ho, hx, Instr.loadAt, Instr.sureAddr, Sem.run_bind, Sem.run_pure, Result.andThen_ok, hl]
  unfold Oper.wp
  rw [this]
  exact h
theorem step_lookup {K : Act → World → Prop} {Q : Exit → Act → World → Prop} {E : Prop} {w : World} {a : Act} {o : Oper} (hgd : o.guard = none) (t : TypeId) (m k : Operand) (ok : Bool) (ho : o.op = .lookup t m k ok) {mv kv v : Value} (hm : a.eval m = mv) (hk : a.eval k = kv)
    (hrun : (Instr.lookup t mv kv ok).run P w = .ok v w) (h : K (a.put o.dst v) w) : if Region.wanted o (yielded ops a.tmps) = true then Oper.wp P o a w K Q else E := by
  rw [if_pos (by simp [Region.wanted, hgd])]
  have : (execOp a.eval o).run P w = .ok (.value v) w := by
    unfold execOp
    simp only [ho, hm, hk, Sem.run_bind, Sem.run_pure, hrun, Result.andThen_ok]
  unfold Oper.wp
  rw [this]
  exact h
theorem wpQuiet_lookup {Q : Act → Prop} {a : Act} {o : Oper} {rest : List Oper} (hgd : o.guard = none) (t : TypeId) (m k : Operand) (ok : Bool) (ho : o.op = .lookup t m k ok) {mv kv v : Value} (hm : a.eval m = mv) (hk : a.eval k = kv)
    (hrun : ∀ w, C w → (Instr.lookup t mv kv ok).run P w = .ok v w) (h : wpQuiet P ops C Q rest (a.put o.dst v)) : wpQuiet P ops C Q (o :: rest) a := by
  unfold wpQuiet
  rw [if_pos (by simp [Region.wanted, hgd])]
  refine ⟨_, fun w hw => ?_, h⟩
  unfold Oper.quietAt
  have : (execOp a.eval o).run P w = .ok (.value v) w := by
    unfold execOp
    simp only [ho, hm, hk, Sem.run_bind, Sem.run_pure, hrun w hw, Result.andThen_ok]
  rw [this]
  exact ⟨rfl, rfl⟩
end
end Go.Proofs.YtpcipdkoncmdcaaGreatDoor
namespace Go.Proofs.YtpcipdkoncmdcaaGreatDoor
open Go Go.RowKit

section
variable {P : Program} {ops : Array Oper} {md : Region.Mode} {Q : Exit → Act → World → Prop} {S : World → Prop}

def goHF (P : Program) (ops : Array Oper) (Q : Exit → Act → World → Prop) (S : World → Prop) : List Nat → Act → World → Prop
  | [], a, w => Q .normal a w
  | k :: ks, a, w => ∃ o, ops[k]? = some o ∧ wpList P ops (Exit.then (fun a' w' => S w' ∧ goHF P ops Q S ks a' w') Q) [o] a w

theorem goHF_wp : ∀ (ks : List Nat) (listed : Array Bool) (a : Act) (w : World), frcOk md ops ks listed = true → Region.ready md ops (setAll ks listed) = [] → goHF P ops Q S ks a w → wpAnyH P md ops Q S ks.length listed a w
  | [], listed, a, w, _, he, h => ⟨he, h⟩
  | k :: ks, listed, a, w, hB, he, h => by
    simp only [frcOk, Bool.and_eq_true, decide_eq_true_eq] at hB
    refine ⟨fun h1 => (by rw [hB.1] at h1; cases h1), fun j hj => ?_⟩
    have hik : j = k := by rw [hB.1] at hj; simpa using hj
    subst hik
    obtain ⟨o, ho, h⟩ := h
    have hw : wpOp P ops (Exit.then (fun a' w' => S w' ∧ goHF P ops Q S ks a' w') Q) j (wpList P ops (Exit.then (fun a' w' => S w' ∧ goHF P ops Q S ks a' w') Q) []) a w := by
      unfold wpOp; simp only [ho]; exact h
    exact wpOp_mono (fun a' w' h' => ⟨h'.1, goHF_wp ks _ a' w' hB.2 he h'.2⟩) (wpOp_then hw)

def goHT (P : Program) (ops : Array Oper) (S : World → Prop) (N : Act → Prop) : List Nat → Act → Prop
  | [], a => N a
  | k :: ks, a => ∃ o, ops[k]? = some o ∧ ∃ v, YieldsIf P ops S o v a ∧ goHT P ops S N ks (a.put o.dst v)

theorem goHT_wp {N : Act → Prop} {g : Nat} {w : World} (hsel : Region.noSelect ops = true) (hQ : ∀ (d : Tmp) (v : Value) c a w, Q (.panic c) (a.put (some d) v) w → Q (.panic c) a w) {U : Array Bool} (hN : ∀ a, N a → wpAnyH P md ops Q S g U a w) (hS : S w) :
    ∀ (ts : List Nat) (up : Array Bool) (a : Act), takeOk md ops ts up = true → setAll ts up = U → goHT P ops S N ts a → wpAnyH P md ops Q S (g + ts.length) up a w
  | [], up, a, _, hu, h => by subst hu; exact hN a h
  | k :: ts, up, a, hB, hu, h => by
    simp only [takeOk, Bool.and_eq_true] at hB
    obtain ⟨⟨hr, hf⟩, hB'⟩ := hB
    obtain ⟨o, ho, v, hy, h⟩ := h
    exact wpAnyH_take ho hsel hf hr (fun c a w h => by cases hd : o.dst with | none => rw [hd] at h; exact h | some t => rw [hd] at h; exact hQ t v c a w h) hy hS (goHT_wp hsel hQ hN hS ts _ _ hB' hu h)

theorem wp_region_hld {id : Nat} {a : Act} {w : World} {l : List Oper} (S : World → Prop) (ts ks : List Nat) (hm : P.follows .mixedOrders = true)
    (hB : (Region.noSelect l.toArray && takeOk .any l.toArray ts (Array.replicate l.toArray.size false) && frcOk .any l.toArray ks (setAll ts (Array.replicate l.toArray.size false)) &&
      decide (Region.ready .any l.toArray (setAll ks (setAll ts (Array.replicate l.toArray.size false))) = []) && decide (ks.length + ts.length = l.toArray.size)) = true)
    (hQ : ∀ (d : Tmp) (v : Value) c a w, Q (.panic c) (a.put (some d) v) w → Q (.panic c) a w) (hS : S (w.drewN 1))
    (h : goHT P l.toArray S (fun a' => goHF P l.toArray Q S ks a' (w.drewN 1)) ts a) : (Code.region id l.toArray true).wp P Q a w := by
  simp only [Bool.and_eq_true, decide_eq_true_eq] at hB
  obtain ⟨⟨⟨⟨h1, h2⟩, h3⟩, h4⟩, h5⟩ := hB
  refine wp_region_held (S := S) hm ?_
  have := goHT_wp (md := .any) (w := w.drewN 1) (g := ks.length) (U := setAll ts (Array.replicate l.toArray.size false)) h1 hQ (fun a' hN => goHF_wp ks _ a' _ h3 h4 hN) hS ts _ a h2 rfl h
  rw [h5] at this
  exact this

/-- One operation of the forced rest. -/
theorem goHF_step {k : Nat} {ks : List Nat} {o : Oper} {a : Act} {w : World} (ho : ops[k]? = some o)
    (h : ∀ K' : Act → World → Prop, (∀ a' w', (S w' ∧ goHF P ops Q S ks a' w') → K' a' w') → wpList P ops (Exit.then K' Q) [o] a w) : goHF P ops Q S (k :: ks) a w :=
  ⟨o, ho, h _ fun _ _ h => h⟩

/-- One that only yields a value. -/
theorem goHF_val {k : Nat} {ks : List Nat} {o : Oper} {a : Act} {w : World} (ho : ops[k]? = some o) (hg : Region.wanted o (yielded ops a.tmps) = true) {v : Value} (hv : (execOp a.eval o).run P w = .ok (.value v) w) (hS : S w) (h : goHF P ops Q S ks (a.put o.dst v) w) : goHF P ops Q S (k :: ks) a w :=
  goHF_step ho fun K' hK' => wpList_step fun K hK => by
    rw [if_pos hg]
    unfold Oper.wp
    rw [hv]
    exact hK _ _ (hK' _ _ ⟨hS, h⟩)

/-- A whole block's load yields its cells. -/
theorem yields_loadB {o : Oper} {a : Act} (hgd : Region.wanted o (yielded ops a.tmps) = true) (ty : TypeId) (x : Operand) (ho : o.op = .load ty x) (b : Nat) (hx : a.eval x = .pointer (some ⟨b, 0, none⟩)) {cs : Array Value} {e : TypeId} {fr : Nat × Nat}
    (hb : ∀ w, S w → w.heap[b]? = some (.cells cs e fr)) (d : TypeDesc) (hu : P.underlying ty = some d) (hd : d.isRow = true) (hi : (P.info? ty).map (·.size) = some cs.toList.length) : YieldsIf P ops S o (.agg cs) a := by
  refine .inl ⟨hgd, fun w hw => ?_⟩
  have hl := run_loadVar_mid (P := P) w b 0 ty cs.toList d (fun j v hj => by
    rw [Nat.zero_add]; simp only [World.cell?, hb w hw]; rw [← Array.getElem?_toList]; exact hj) hu hd hi
  unfold execOp
  simp only [ho, hx, Instr.loadAt, Instr.sureAddr, Sem.run_bind, Sem.run_pure, Result.andThen_ok, hl]
end
end Go.Proofs.YtpcipdkoncmdcaaGreatDoor
