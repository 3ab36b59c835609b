/- Texts of mine, joined: Walks: what a pack tells. | A region that draws its order: a load may be taken first although the last store hits its cell: that store waits for it. Of every program. | '[]id{x}'. -/
import Derived.Deep.RegionHeld3
import Derived.OrdersHeld
import Derived.Great.BuildSlice
import Derived.Test.YtfoamcobpfflbaaDoorZ28
namespace Go.Proofs.YtfoamcobpfflbaaDoor
open Go Go.RowKit Go.Maps

set_option maxRecDepth 100000 in
theorem psize_c {w : World} {q p N : Nat} {P : PackS.Pk} {K : Nat → Prop} (h : PK w q p P K N) :
    Calls Tryd.prog 36 #[.pointer (some ⟨q, 0, none⟩)] w fun e w' => e = .returned (.int .i64 P.size) ∧ w' = w := by
  obtain ⟨bm, ov, h⟩ := h
  have c4 : w.cell? ⟨q, 4, none⟩ = some (.int .i64 P.size) := by rw [cell_of h.blk]; rfl
  clear h
  go_enter Tryd.func36, Tryd.ntmps36
  go_wp2_with fail
  go_ret
  exact ⟨rfl, rfl⟩

set_option maxRecDepth 100000 in
theorem pname_c {w : World} {q p N : Nat} {P : PackS.Pk} {K : Nat → Prop} (h : PK w q p P K N) :
    Calls Tryd.prog 57 #[.pointer (some ⟨q, 0, none⟩)] w fun e w' => e = .returned (.string P.name) ∧ w' = w := by
  obtain ⟨bm, ov, h⟩ := h
  have c1 : w.cell? ⟨q, 1, none⟩ = some (.string P.name) := by rw [cell_of h.blk]; rfl
  clear h
  go_enter Tryd.func57, Tryd.ntmps57
  go_wp2_with fail
  go_ret
  exact ⟨rfl, rfl⟩

set_option maxRecDepth 100000 in
set_option maxHeartbeats 2000000 in
theorem has_c {w : World} {q p N : Nat} {P : PackS.Pk} {K : Nat → Prop} (h : PK w q p P K N) {x : List Nat} (hx : OkId x) :
    Calls Tryd.prog 56 #[.pointer (some ⟨q, 0, none⟩), .agg (nums .u8 x)] w fun e w' => e = .returned (.bool (PackS.has P x)) ∧ Below w.heap.size w w' := by
  obtain ⟨bm, ov, h⟩ := h
  go_enter Tryd.func56, Tryd.ntmps56
  go_upto_region 1 with fail
  have hbA : Below w.heap.size w (w.alloc (.cells (nums .u8 x) 47)) := (Below.refl _ w).alloc (Nat.le_refl _) _
  have hI : (w.alloc (.cells (nums .u8 x) 47)).heap[w.heap.size]? = some (.cells (nums .u8 x) 47 (0, 0)) := Array.getElem?_push_size
  generalize hbi : w.heap.size = bi at *
  generalize w.alloc (.cells (nums .u8 x) 47) = wA at *
  have hP := h.below (w' := wA) (by rw [hbi]; exact hbA)
  obtain ⟨n, hn, hm⟩ := hP.map
  have hqlt := (Array.getElem?_eq_some_iff.1 hP.blk).1
  obtain ⟨fl, hfl⟩ : ∃ fl, (P.spots x).isSome = fl := ⟨_, rfl⟩
  have HFL : Hid (PackS.has P x = fl) := hfl
  obtain ⟨s1, hs1⟩ : ∃ s1, ((P.spots x).getD (0, 0)).1 = s1 := ⟨_, rfl⟩
  obtain ⟨s2, hs2⟩ : ∃ s2, ((P.spots x).getD (0, 0)).2 = s2 := ⟨_, rfl⟩
  have hS : ∀ W, Below wA.heap.size wA W → W.cell? ⟨q, 2, none⟩ = some (.map (some bm)) ∧ W.rangeAt bi 0 (nb x) ∧ (Instr.lookup 113 (.map (some bm)) (.agg (nb x).toArray) true).run Tryd.prog W = .ok (.tuple #[.agg #[.int .i64 s1, .int .i64 s2], .bool fl]) W := fun W hb => by
    refine ⟨(hb.cell (p := ⟨q, 2, none⟩) hqlt).trans (by rw [cell_of hP.blk]; rfl), fun i u hu => ?_, ?_⟩
    · rw [hb.cell (p := ⟨bi, 0 + i, none⟩) (Array.getElem?_eq_some_iff.1 hI).1]
      simp only [World.cell?, hI, Nat.zero_add]
      unfold nums
      rw [List.getElem?_toArray]
      exact hu
    · have := (hm.below hb).look_ok x hx
      rw [hfl] at this
      rw [← hs1, ← hs2]
      exact this
  have hu47 := id_under
  have hi47 : (Tryd.prog.info? 47).map (·.size) = some (nb x).length := by rw [nb_len, hx.1]; kernel_rfl
  have HS := Lib.hid hS
  clear hfl hm hP h hI hs1 hs2 hS
  have b1 : Below wA.heap.size wA wA.drew := below_dN (Below.refl _ wA) 1
  have HB1 := Lib.hid b1
  clear b1
  go_region_held3 (fun W => W.cell? ⟨q, 2, none⟩ = some (.map (some bm)) ∧ W.rangeAt bi 0 (nb x) ∧ (Instr.lookup 113 (.map (some bm)) (.agg (nb x).toArray) true).run Tryd.prog W = .ok (.tuple #[.agg #[.int .i64 s1, .int .i64 s2], .bool fl]) W)
    (first | exact HS.out _ HB1.out | exact HS.out _ (HB1.out.alloc HB1.out.size _) | exact HS.out _ ((HB1.out.alloc HB1.out.size _).grown (setCells_grown _ _ _ _) (HB1.out.alloc HB1.out.size _).size (fun k e => by injection e with e; have := HB1.out.size; omega)) | go_keep) (first | fail)
  all_goals
    go_wp2_with fail
    go_ret
    refine ⟨by rw [HFL.out]; rfl, ?_⟩
    have hb2 := HB1.out.alloc HB1.out.size (.cells #[.int .i64 s1, .int .i64 s2] 135)
    rw [hbi]
    exact hbA.trans (hb2.mono (by rw [← hbi]; exact hbA.size))

/-- The ids told are a row of the call's own. -/
def IdsP (w : World) (l : List (List Nat)) (e : Ending) (w' : World) : Prop :=
  ∃ a c, e = .returned (.slice a l.length c) ∧ OwnG w' 47 32 (.slice a l.length c) l.length (irow l) ∧ Below w.heap.size w w'

set_option maxRecDepth 100000 in
theorem ids_c {w : World} {q p N : Nat} {P : PackS.Pk} {K : Nat → Prop} (h : PK w q p P K N) :
    Calls Tryd.prog 41 #[.pointer (some ⟨q, 0, none⟩)] w (IdsP w P.order) := by
  obtain ⟨bm, ov, h⟩ := h
  have c3 : w.cell? ⟨q, 3, none⟩ = some ov := by rw [cell_of h.blk]; rfl
  have hqlt := (Array.getElem?_eq_some_iff.1 h.blk).1
  have hbA : Below w.heap.size w (w.alloc (.cells #[] 47)) := (Below.refl _ w).alloc (Nat.le_refl _) _
  have ho := h.ord.below hbA
  obtain ⟨a, c, rfl, -, -, hsl⟩ := ho.form
  have hsrc := src_ownG (P := Tryd.prog) (tx := 76) Tryd.underlying76 ho (irow_cells _)
  have hEm := OwnG.new0 w 47 32
  have hlen : P.order.length ≤ 100000000 := Nat.le_trans h.olen h.big
  have h63 : 0 + P.order.length ≤ maxLen := by simp [maxLen]; omega
  have h47 : (0 + P.order.length) * 32 ≤ 140737488355328 := by omega
  have HB := Lib.hid hbA
  clear h hsl ho hbA
  go_enter Tryd.func41, Tryd.ntmps41
  go_wp2_with (at_builtin; refine wp_appG rfl _ _ _ _ rfl idElem (by kernel_rfl) rfl hEm rfl hsrc h63 h47 ?_; intro v2 w2 ho2 hg2 hv2)
  simp only [Nat.zero_add, List.nil_append] at ho2
  obtain ⟨a2, c2, rfl, -, -, -⟩ := ho2.form
  have HB2 := Lib.hid (HB.out.grown hg2 HB.out.size (fun x e => by have e : some w.heap.size = some x := e; injection e with e; omega))
  clear hg2 hv2
  go_ret
  exact ⟨a2, c2, rfl, ho2, HB2.out⟩
end Go.Proofs.YtfoamcobpfflbaaDoor
namespace Go.Proofs.YtfoamcobpfflbaaDoor
open Go Go.RowKit

section
variable {P : Program} {ops : Array Oper} {md : Region.Mode} {Q : Exit → Act → World → Prop} {S : World → Prop}

/-- Whatever order is picked; S holds behind every operation, until one has come up that waits for i. -/
def wpAnyU (P : Program) (md : Region.Mode) (ops : Array Oper) (Q : Exit → Act → World → Prop) (S : World → Prop) (i : Nat) : Nat → Bool → Array Bool → Act → World → Prop
  | 0, _, listed, a, w => Region.ready md ops listed = [] ∧ Q .normal a w
  | fuel + 1, b, listed, a, w =>
    (Region.ready md ops listed = [] → Q .normal a w) ∧
    ∀ j ∈ Region.ready md ops listed, wpOp P ops Q j (fun a' w' => ((b && !Region.waitsFor md ops j i) = true → S w') ∧ wpAnyU P md ops Q S i fuel (b && !Region.waitsFor md ops j i) (listed.setIfInBounds j true) a' w') a w

theorem wpAny_of_U {i : Nat} : ∀ (fuel : Nat) (b : Bool) (listed : Array Bool) (a : Act) (w : World), wpAnyU P md ops Q S i fuel b listed a w → wpAny P md ops Q fuel listed a w
  | 0, _, _, _, _, h => h
  | fuel + 1, _, _, _, _, h => ⟨h.1, fun j hj => wpOp_mono (fun a' w' h' => wpAny_of_U fuel _ _ a' w' h'.2) (h.2 j hj)⟩

theorem waits_false {i j : Nat} {oj : Oper} (hj : ops[j]? = some oj) (h : ∀ e ∈ oj.after, Region.binds md e = true → e.on ≠ i) : Region.waitsFor md ops j i = false := by
  cases e : Region.waitsFor md ops j i with
  | false => rfl
  | true =>
    obtain ⟨o', h1, x, h2, h3, h4⟩ := Region.waitsFor_spec e
    rw [hj] at h1
    injection h1 with h1
    subst h1
    exact absurd h4 (h x h2 h3)

theorem wpAnyU_first {i : Nat} {oi : Oper} {v : Value} (hi : ops[i]? = some oi) (hsel : ∀ (j : Nat) (o : Oper) cs b, ops[j]? = some o → o.op ≠ .select cs b)
    (hQ : ∀ c a w, Q (.panic c) (a.put oi.dst v) w → Q (.panic c) a w) :
    ∀ (fuel : Nat) (listed : Array Bool) (a : Act) (w : World),
      (∀ j oj, ops[j]? = some oj → j ≠ i → listed.getD j true = false → (∀ e ∈ oj.after, Region.binds md e = true → e.on ≠ i) → oi.apart ops oj = true) →
      i ∈ Region.ready md ops listed → YieldsIf P ops S oi v a → S w →
      wpAnyU P md ops Q S i fuel true (listed.setIfInBounds i true) (a.put oi.dst v) w → wpAny P md ops Q (fuel + 1) listed a w := by
  intro fuel
  induction fuel with
  | zero =>
    intro listed a w _ hr hy hS H
    refine ⟨fun h => (by rw [h] at hr; cases hr), fun j hj => ?_⟩
    by_cases hji : j = i
    · subst hji; exact hy.wpOp hi hS H
    · have := ready_mono hj hji
      rw [H.1] at this
      cases this
  | succ fuel ih =>
    intro listed a w hfree hr hy hS H
    refine ⟨fun h => (by rw [h] at hr; cases hr), fun j hj => ?_⟩
    by_cases hji : j = i
    · subst hji; exact hy.wpOp hi hS (wpAny_of_U _ _ _ _ _ H)
    · have h1 := H.2 j (ready_mono hj hji)
      obtain ⟨hjun, oj, hoj, hall⟩ := mem_ready.1 hj
      have hnot : ∀ e ∈ oj.after, Region.binds md e = true → e.on ≠ i := fun e he hb heq => by
        have h1 := hall e he hb
        have h0 := (mem_ready.1 hr).1
        rw [heq] at h1
        rcases Nat.lt_or_ge i listed.size with h' | h'
        · simp [h'] at h0 h1; rw [h0] at h1; cases h1
        · simp [Array.getElem?_eq_none h'] at h1
      rw [waits_false hoj hnot] at h1
      have h2 := wpOp_putIf hoj (hfree j oj hoj hji hjun hnot) (fun cs b => hsel i oi cs b hi) (fun cs b => hsel j oj cs b hoj) hQ hy h1
      have hfree' : ∀ k ok, ops[k]? = some ok → k ≠ i → (listed.setIfInBounds j true).getD k true = false →
          (∀ e ∈ ok.after, Region.binds md e = true → e.on ≠ i) → oi.apart ops ok = true := fun k ok hk hki hun hno => by
        refine hfree k ok hk hki ?_ hno
        by_cases hjk : j = k
        · subst hjk; exact hjun
        · rw [getD_set_ne true hjk] at hun; exact hun
      refine wpOp_mono (fun a' w' h3 => ih (listed.setIfInBounds j true) a' w' hfree' (ready_mono hr (Ne.symm hji)) h3.1 (h3.2.1 rfl) ?_) h2
      rw [Array.setIfInBounds_comm _ _ hji]
      exact h3.2.2

/-- A forced rest, S shown until i is waited for. -/
def goU (P : Program) (md : Region.Mode) (ops : Array Oper) (Q : Exit → Act → World → Prop) (S : World → Prop) (i : Nat) : List Nat → Bool → Act → World → Prop
  | [], _, a, w => Q .normal a w
  | k :: ks, b, a, w => ∃ o, ops[k]? = some o ∧ wpList P ops (Exit.then (fun a' w' => ((b && !Region.waitsFor md ops k i) = true → S w') ∧ goU P md ops Q S i ks (b && !Region.waitsFor md ops k i) a' w') Q) [o] a w

theorem goU_wp {i : Nat} : ∀ (ks : List Nat) (b : Bool) (listed : Array Bool) (a : Act) (w : World), frcOk md ops ks listed = true → Region.ready md ops (setAll ks listed) = [] → goU P md ops Q S i ks b a w → wpAnyU P md ops Q S i ks.length b listed a w
  | [], _, listed, a, w, _, he, h => ⟨he, h⟩
  | k :: ks, b, listed, a, w, hB, he, h => by
    simp only [frcOk, Bool.and_eq_true, decide_eq_true_eq] at hB
    refine ⟨fun h1 => (by rw [hB.1] at h1; cases h1), fun j hj => ?_⟩
    have hik : j = k := by rw [hB.1] at hj; simpa using hj
    subst hik
    obtain ⟨o, ho, h⟩ := h
    have hw : wpOp P ops (Exit.then (fun a' w' => ((b && !Region.waitsFor md ops j i) = true → S w') ∧ goU P md ops Q S i ks (b && !Region.waitsFor md ops j i) a' w') Q) j (wpList P ops (Exit.then (fun a' w' => ((b && !Region.waitsFor md ops j i) = true → S w') ∧ goU P md ops Q S i ks (b && !Region.waitsFor md ops j i) a' w') Q) []) a w := by
      unfold wpOp; simp only [ho]; exact h
    exact wpOp_mono (fun a' w' h' => ⟨h'.1, goU_wp ks _ _ a' w' hB.2 he h'.2⟩) (wpOp_then hw)

/-- Operations that yield in whatever world, taken first, one behind the other. -/
def goT (P : Program) (ops : Array Oper) (N : Act → World → Prop) : List Nat → Act → World → Prop
  | [], a, w => N a w
  | k :: ks, a, w => ∃ o, ops[k]? = some o ∧ ∃ v, Yields P ops o v a ∧ goT P ops N ks (a.put o.dst v) w
def takeOk (md : Region.Mode) (ops : Array Oper) : List Nat → Array Bool → Bool
  | [], _ => true
  | k :: ks, up => (Region.ready md ops up).contains k && Region.free md ops up k && takeOk md ops ks (up.setIfInBounds k true)

theorem goT_wp {N : Act → World → Prop} {g : Nat} (hsel : Region.noSelect ops = true) (hQ : ∀ (d : Tmp) (v : Value) c a w, Q (.panic c) (a.put (some d) v) w → Q (.panic c) a w) {U : Array Bool} (hN : ∀ a w, N a w → wpAny P md ops Q g U a w) :
    ∀ (ts : List Nat) (up : Array Bool) (a : Act) (w : World), takeOk md ops ts up = true → setAll ts up = U → goT P ops N ts a w → wpAny P md ops Q (g + ts.length) up a w
  | [], up, a, w, _, hu, h => by subst hu; exact hN a w h
  | k :: ts, up, a, w, hB, hu, h => by
    simp only [takeOk, Bool.and_eq_true] at hB
    obtain ⟨⟨hr, hf⟩, hB'⟩ := hB
    obtain ⟨o, ho, v, hy, h⟩ := h
    exact wpAny_take ho hsel hf hr (fun c a w h => by cases hd : o.dst with | none => rw [hd] at h; exact h | some t => rw [hd] at h; exact hQ t v c a w h) hy (goT_wp hsel hQ hN ts _ _ _ hB' hu h)

/-- The region: pure operations first, then a load under S, then a forced rest. -/
theorem wp_region_tku {id : Nat} {a : Act} {w : World} {l : List Oper} (S : World → Prop) (ts : List Nat) (i : Nat) (ks : List Nat) (hm : P.follows .mixedOrders = true)
    (hB : (Region.noSelect l.toArray && takeOk .any l.toArray ts (Array.replicate l.toArray.size false) && Region.free .any l.toArray (setAll ts (Array.replicate l.toArray.size false)) i && (Region.ready .any l.toArray (setAll ts (Array.replicate l.toArray.size false))).contains i &&
      frcOk .any l.toArray ks ((setAll ts (Array.replicate l.toArray.size false)).setIfInBounds i true) && decide (Region.ready .any l.toArray (setAll ks ((setAll ts (Array.replicate l.toArray.size false)).setIfInBounds i true)) = []) && decide (ks.length + 1 + ts.length = l.toArray.size)) = true)
    (hQ : ∀ (d : Tmp) (v : Value) c a w, Q (.panic c) (a.put (some d) v) w → Q (.panic c) a w)
    (h : goT P l.toArray (fun a' w' => ∃ oi, l.toArray[i]? = some oi ∧ ∃ v, YieldsIf P l.toArray S oi v a' ∧ S w' ∧ goU P .any l.toArray Q S i ks true (a'.put oi.dst v) w') ts a (w.drewN 1)) : (Code.region id l.toArray true).wp P Q a w := by
  simp only [Bool.and_eq_true, decide_eq_true_eq] at hB
  obtain ⟨⟨⟨⟨⟨⟨h1, h2⟩, h3⟩, h4⟩, h5⟩, h6⟩, h7⟩ := hB
  refine wp_region_any hm ?_
  have := goT_wp (md := .any) (g := ks.length + 1) (U := setAll ts (Array.replicate l.toArray.size false)) h1 hQ (fun a' w' hN => by
    obtain ⟨oi, ho, v, hy, hS, hu⟩ := hN
    exact wpAnyU_first ho (Region.noSelect_spec h1) (fun c a w h => by cases hd : oi.dst with | none => rw [hd] at h; exact h | some t => rw [hd] at h; exact hQ t v c a w h) ks.length _ a' w' (Region.free_spec ho h3) (by simpa using h4) hy hS (goU_wp ks true _ _ w' h5 h6 hu)) ts _ a _ h2 rfl h
  rw [h7] at this
  exact this

/-- One operation of the forced rest. -/
theorem goU_step {i k : Nat} {ks : List Nat} {b b' : Bool} {o : Oper} {a : Act} {w : World} (ho : ops[k]? = some o) (hb : (b && !Region.waitsFor md ops k i) = b') (h : wpList P ops (Exit.then (fun a' w' => (b' = true → S w') ∧ goU P md ops Q S i ks b' a' w') Q) [o] a w) : goU P md ops Q S i (k :: ks) b a w := by
  subst hb
  exact ⟨o, ho, h⟩
end
end Go.Proofs.YtfoamcobpfflbaaDoor
namespace Go.Proofs.YtfoamcobpfflbaaDoor
open Go Go.RowKit
theorem fill_id {x : List Nat} (h : OkId x) (z : Array Value) : Instr.fill (fun i => some (i * 32, 32)) ((Array.range (1 * 32)).map (fun i => z[i % z.size]!)) [(0, .agg (nums .u8 x))] = some (nums .u8 x) := by
  have hn : (nums .u8 x).size = 32 := by simp [nums, h.1]
  refine (Go.Great.fill_whole (s := 32) (by decide) [.agg (nums .u8 x)] _ (fun v hv => ?_) (by simp)).trans ?_
  · obtain rfl := List.mem_singleton.1 hv
    exact hn
  · simp [Value.cells]
theorem run_ids1 {x : List Nat} (h : OkId x) (w : World) : (Instr.buildSlice 76 1 #[(0, .agg (nums .u8 x))]).run Tryd.prog w = .ok (.slice (some ⟨w.heap.size, 0, none⟩) 1 1) (w.alloc (.cells (nums .u8 x) 47)) := by
  have h1 : (Tryd.prog.info? 47).map (·.size) = some 32 := by kernel_rfl
  have h2 : ((Tryd.prog.info? 47).bind (·.zero)).isSome = true := by kernel_rfl
  revert h1 h2
  rcases hie : Tryd.prog.info? 47 with _ | ie
  · intro h1; cases h1
  · intro h1 h2
    have h1 : ie.size = 32 := Option.some.inj h1
    rcases hz : ie.zero with _ | z
    · rw [Option.bind_some, hz] at h2; cases h2
    · refine run_buildSlice w _ _ 1 _ _ ie z Tryd.underlying76 hie hz ?_ ?_ ?_
      · rw [h1]; decide
      · rw [h1]; decide
      · rw [h1]; exact fill_id h _
/-- The operation. -/
theorem wp_ids1 {o : Oper} {a : Act} {w : World} {K : Act → World → Prop} {Q : Exit → Act → World → Prop} {x : List Nat} (hx : OkId x) (parts : Array (Nat × Operand)) (ho : o.op = .buildSlice 76 1 parts) (hp : (parts.map fun (i, y) => (i, a.eval y)) = #[(0, .agg (nums .u8 x))])
    (h : K (a.put o.dst (.slice (some ⟨w.heap.size, 0, none⟩) 1 1)) (w.alloc (.cells (nums .u8 x) 47))) : o.wp Tryd.prog a w K Q := by
  unfold Oper.wp execOp
  simp only [ho, Sem.run_bind, hp, run_ids1 hx w, Result.andThen_ok]
  exact h
theorem wpList_ids1 {ops : Array Oper} {rest : List Oper} {o : Oper} {a : Act} {w : World} {Q : Exit → Act → World → Prop} {x : List Nat} (hgd : o.guard = none) (hx : OkId x) (parts : Array (Nat × Operand)) (ho : o.op = .buildSlice 76 1 parts) (hp : (parts.map fun (i, y) => (i, a.eval y)) = #[(0, .agg (nums .u8 x))])
    (h : wpList Tryd.prog ops Q rest (a.put o.dst (.slice (some ⟨w.heap.size, 0, none⟩) 1 1)) (w.alloc (.cells (nums .u8 x) 47))) : wpList Tryd.prog ops Q (o :: rest) a w :=
  wpList_plain hgd fun _ hK => wp_ids1 hx parts ho hp (hK _ _ h)
end Go.Proofs.YtfoamcobpfflbaaDoor
