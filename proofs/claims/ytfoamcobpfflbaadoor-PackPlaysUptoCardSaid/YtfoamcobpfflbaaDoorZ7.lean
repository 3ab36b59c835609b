/- Texts of mine, joined: Walks: the tables of SHA-256. | A region that draws its order: its head reads and calls quietly (callees may draw), its tail stands in one order and may write: one walk serves. Of every program. -/
import Derived.StillTailTactics
import Derived.Deep.QuietTactic
import Derived.Test.YtfoamcobpfflbaaDoorZ6
namespace Go.Proofs.YtfoamcobpfflbaaDoor
open Go Go.RowKit

/-- Numbers as an array's values. -/
def nums (k : IntKind) (l : List Nat) : Array Value := (l.map fun x : Nat => Value.int k x).toArray

set_option maxRecDepth 100000 in
set_option maxHeartbeats 4000000 in
theorem rounds_c (w : World) : Calls Tryd.prog 92 #[] w fun e w' => e = .returned (.agg (nums .u32 Sha.KS)) ∧ Below w.heap.size w w' := by
  go_enter Tryd.func92, Tryd.ntmps92
  go_upto_region 1 with fail
  have hB : ∀ cs, (w.alloc (.cells cs 160)).heap[w.heap.size]? = some (.cells cs 160 (0, 0)) := fun cs => Array.getElem?_push_size
  go_wp2_with (first | (refine wp_storeB rfl 160 _ _ rfl w.heap.size (nums .u32 Sha.KS) rfl rfl (hB _) (by kernel_rfl) (by kernel_rfl) (by kernel_rfl) ?_; intro w2 h2 g2))
  refine bodyPost_ret (results_cell Tryd.results92 rfl h2 Tryd.underlying160 rfl (by kernel_rfl)) rfl ?_
  exact ⟨rfl, ((Below.refl w.heap.size w).alloc (Nat.le_refl _) _).grown g2 (by simp) (fun k e => by injection e with e; omega)⟩

theorem arr_nums {w : World} {b : Nat} {e : TypeId} {k : IntKind} (l : List Nat) (h : w.heap[b]? = some (.cells (nums k l) e (0, 0))) : ArrF w b e k l.length (nums k l) (fun i => l.getD i 0) :=
  ⟨h, by simp [nums], fun i hi => by
    unfold nums
    rw [List.getElem?_toArray, List.getElem?_map, List.getElem?_eq_getElem hi, List.getD_eq_getElem?_getD, List.getElem?_eq_getElem hi]; rfl⟩

set_option maxRecDepth 100000 in
set_option maxHeartbeats 4000000 in
theorem parts_c (w : World) : Calls Tryd.prog 72 #[] w fun e w' => e = .returned (.slice (some ⟨w.heap.size, 0, none⟩) 64 64) ∧ w'.heap[w.heap.size]? = some (.cells (nums .u64 Sha.KS) 137 (0, 0)) ∧ Below w.heap.size w w' := by
  have hE : (nums .u64 Sha.KS) = nums .u64 Sha.KS := rfl
  go_enter Tryd.func72, Tryd.ntmps72
  go_wp2_with fail
  go_ret
  exact ⟨rfl, Array.getElem?_push_size, (Below.refl w.heap.size w).alloc (Nat.le_refl _) _⟩

set_option maxRecDepth 100000 in
set_option maxHeartbeats 4000000 in
theorem start_c (w : World) : Calls Tryd.prog 73 #[] w fun e w' => e = .returned (.slice (some ⟨w.heap.size, 0, none⟩) 8 8) ∧ w'.heap[w.heap.size]? = some (.cells (nums .u64 Sha.HS) 137 (0, 0)) ∧ Below w.heap.size w w' := by
  go_enter Tryd.func73, Tryd.ntmps73
  go_wp2_with fail
  go_ret
  exact ⟨rfl, Array.getElem?_push_size, (Below.refl w.heap.size w).alloc (Nat.le_refl _) _⟩
end Go.Proofs.YtfoamcobpfflbaaDoor
namespace Go.Proofs.YtfoamcobpfflbaaDoor
open Go

section
variable {P : Program} {ops : Array Oper} {md : Region.Mode} {C : World → Prop}

/-- The head's operations come up in any order; then T holds of what has come up. -/
def HeadAny (P : Program) (md : Region.Mode) (ops : Array Oper) (C : World → Prop) (n : Nat) (T : Array Bool → Act → Prop) : Nat → Array Bool → Act → Prop
  | 0, up, a => T up a
  | f + 1, up, a => Region.ready md ops up ≠ [] ∧ ∀ i ∈ Region.ready md ops up, i < n ∧ qOp P ops C i (HeadAny P md ops C n T f (up.setIfInBounds i true)) a

theorem headAny_wp {n g : Nat} {T : Array Bool → Act → Prop} {Q' : Exit → Act → World → Prop} (hT : ∀ up a w, C w → T up a → wpAny P md ops Q' g up a w) :
    ∀ (f : Nat) (up : Array Bool) (a : Act) (w : World), C w → HeadAny P md ops C n T f up a → wpAny P md ops Q' (f + g) up a w
  | 0, up, a, w, hw, h => by rw [Nat.zero_add]; exact hT _ _ _ hw h
  | f + 1, up, a, w, hw, h => by
    rw [show f + 1 + g = (f + g) + 1 by omega]
    exact ⟨fun h0 => absurd h0 h.1, fun i hi => wpOp_of_qOp hw (fun a' w' hw' h' => headAny_wp hT f _ a' w' hw' h') (h.2 i hi).2⟩

theorem headAny_first {n i : Nat} {oi : Oper} {v : Value} {T : Array Bool → Act → Prop} (hi : ops[i]? = some oi) (hsel : ∀ (j : Nat) (o : Oper) cs b, ops[j]? = some o → o.op ≠ .select cs b)
    (hs : Region.sinkB md ops n = true) (hc : Region.chainB md ops n = true) (hn : n < ops.size) (hin : i < n)
    (hT : ∀ up a, T up a → ∀ j ∈ Region.ready md ops up, n ≤ j) (f : Nat) :
    ∀ (up : Array Bool) (a : Act), HeadInv md ops n up →
      (∀ j oj, ops[j]? = some oj → j ≠ i → up.getD j true = false → (∀ e ∈ oj.after, Region.binds md e = true → e.on ≠ i) → oi.apart ops oj = true) →
      i ∈ Region.ready md ops up → YieldsIn P ops C oi v a →
      HeadAny P md ops C n T f (up.setIfInBounds i true) (a.put oi.dst v) → HeadAny P md ops C n T (f + 1) up a := by
  induction f with
  | zero =>
    intro up a inv _ hr hy H
    have hun := (mem_ready.1 hr).1
    refine ⟨fun h => (by rw [h] at hr; cases hr), fun j hj => ?_⟩
    have hjn : j < n := Nat.lt_of_not_le fun h => tail_waits hs hc hn inv _ i rfl hin hun j h hj
    refine ⟨hjn, ?_⟩
    by_cases hji : j = i
    · subst hji; exact hy.qOp hi H
    · have := hT _ _ H j (ready_mono hj hji)
      omega
  | succ f ih =>
    intro up a inv hfree hr hy H
    have hun := (mem_ready.1 hr).1
    refine ⟨fun h => (by rw [h] at hr; cases hr), fun j hj => ?_⟩
    have hjn : j < n := Nat.lt_of_not_le fun h => tail_waits hs hc hn inv _ i rfl hin hun j h hj
    refine ⟨hjn, ?_⟩
    by_cases hji : j = i
    · subst hji; exact hy.qOp hi H
    · obtain ⟨hjun, oj, hoj, hall⟩ := mem_ready.1 hj
      have hnot : ∀ e ∈ oj.after, Region.binds md e = true → e.on ≠ i := by
        intro e he hb heq
        have h1 := hall e he hb
        rw [heq, getD_both hun] at h1
        cases h1
      have h2 := qOp_put hoj (hfree j oj hoj hji hjun hnot) (fun cs b => hsel i oi cs b hi) (fun cs b => hsel j oj cs b hoj) hy (H.2 j (ready_mono hj hji)).2
      refine qOp_mono (fun a' h3 => ?_) h2
      refine ih (up.setIfInBounds j true) a' (inv.set hj hjn) ?_ (ready_mono hr (Ne.symm hji)) h3.1 ?_
      · intro k ok hk hki hkun hno
        refine hfree k ok hk hki ?_ hno
        by_cases hjk : j = k
        · subst hjk; exact hjun
        · rwa [getD_set_ne true hjk] at hkun
      · rw [Array.setIfInBounds_comm _ _ hji]
        exact h3.2

theorem headAny_lex {n g : Nat} {K : Act → Prop} (hsel : Region.noSelect ops = true) (hs : Region.sinkB md ops n = true) (hc : Region.chainB md ops n = true) (hn : n < ops.size) :
    ∀ (l : List Oper) (k : Nat) (up : Array Bool) (a : Act), (∀ j, j < l.length → l[j]? = ops[k + j]?) → k + l.length = n → HeadInv md ops n up →
    Region.lexHead md ops g l.length k up = true → wpQuiet P ops C K l a → HeadAny P md ops C n (fun up' a' => Region.seqB md ops g n up' = true ∧ K a') l.length up a
  | [], k, up, a, _, hk, _, hB, h => by
    obtain rfl : k = n := by simpa using hk
    exact ⟨by simpa [Region.lexHead] using hB, h⟩
  | o :: l, k, up, a, hl, hk, inv, hB, h => by
    have h0 : ops[k]? = some o := by simpa using (hl 0 (by simp)).symm
    simp only [List.length_cons, Region.lexHead, Bool.and_eq_true] at hB hk
    obtain ⟨⟨hr, hf⟩, hB'⟩ := hB
    have hr' : k ∈ Region.ready md ops up := by simpa using hr
    have hq : qOp P ops C k (wpQuiet P ops C K l) a := by unfold qOp; simp only [h0]; exact h
    obtain ⟨v, hy, hK⟩ := yieldsIn_of_qOp h0 hq
    refine headAny_first h0 (Region.noSelect_spec hsel) hs hc hn (by omega) (fun up' a' hL => seqB_ready hL.1) l.length up a inv (Region.free_spec h0 hf) hr' hy ?_
    refine headAny_lex hsel hs hc hn l (k + 1) _ _ (fun j hj => ?_) (by omega) (inv.set hr' (by omega)) hB' hK
    have := hl (j + 1) (by simp; omega)
    simpa [Nat.add_assoc, Nat.add_comm 1 j] using this

/-- The first n operations quiet in a class of worlds, the others in one order. -/
theorem wp_region_tail {id : Nat} {Q : Exit → Act → World → Prop} {a : Act} {w : World} {l : List Oper} (n : Nat) (hm : P.follows .mixedOrders = true) (hB : Region.lexTailB .any l.toArray n = true) (hC : C { w with drawn := w.drawn + 1 })
    (h : wpQuiet P l.toArray C (fun a' => ∀ w', C w' → wpList P l.toArray Q (l.drop n) a' w') (l.take n) a) : (Code.region id l.toArray true).wp P Q a w := by
  simp only [Region.lexTailB, Bool.and_eq_true, decide_eq_true_eq] at hB
  obtain ⟨⟨⟨⟨hsel, hn⟩, hs⟩, hc⟩, hlex⟩ := hB
  have hn' : n < l.length := by simpa using hn
  have htl : (l.take n).length = n := by simp; omega
  have hdl : (l.drop n).length = l.toArray.size - n := by simp
  have inv0 : HeadInv .any l.toArray n (Array.replicate l.toArray.size false) :=
    ⟨by simp, fun j oj _ hl => (by rw [getD_replicate_false] at hl; cases hl), fun t _ ht => getD_in (by simpa using ht) (getD_replicate_false _ _)⟩
  have H := headAny_lex (md := .any) (g := l.toArray.size - n) hsel hs hc hn (l.take n) 0 _ a (fun j hj => by
    have hj' : j < n := by rw [htl] at hj; exact hj
    simp [hj']) (by simpa using htl) inv0 (by rw [htl]; exact hlex) h
  refine wp_region_any hm ?_
  have := headAny_wp (Q' := Q) (g := l.toArray.size - n) (fun up a' w' hw' hL => by
    have := wpAny_of_seq (md := .any) (Q' := Q) (l.drop n) n up a' w' (fun j => by simp [List.getElem?_drop]) (by rw [hdl]; exact hL.1) (hL.2 w' hw')
    rwa [hdl] at this) _ _ _ { w with drawn := w.drawn + 1 } hC H
  rw [htl, show n + (l.toArray.size - n) = l.toArray.size by omega] at this
  exact this

theorem wp_region_quiet_tail {id : Nat} {Q : Exit → Act → World → Prop} {a : Act} {w : World} {l : List Oper} (n : Nat) (hm : P.follows .mixedOrders = true) (hB : Region.lexTailB .any l.toArray n = true)
    (h : wpQuiet P l.toArray (fun w' => ∃ q, w' = w.drewN q) (fun a' => ∀ w', (∃ q, w' = w.drewN q) → wpList P l.toArray Q (l.drop n) a' w') (l.take n) a) : (Code.region id l.toArray true).wp P Q a w :=
  wp_region_tail (C := fun w' => ∃ q, w' = w.drewN q) n hm hB ⟨1, rfl⟩ h
end

end Go.Proofs.YtfoamcobpfflbaaDoor
