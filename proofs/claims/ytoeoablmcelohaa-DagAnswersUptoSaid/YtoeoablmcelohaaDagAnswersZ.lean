/- The law DagAnswers answers true for all arguments of bulk at most 1048576: the row's statement and its card. Conditions: the row's own (laid tables as the card ties them; bulk). -/
import Derived.OrdersHeld
import Derived.Deep.MidRow
import Derived.BigCall
import Derived.Test.YtoeoablmcelohaaZ15
namespace Go.Proofs.Ytoeoablmcelohaa
open Go Go.RowKit Go.Maps Go.Sort
open Classical

set_option maxRecDepth 100000 in
set_option maxHeartbeats 1000000 in
theorem same_c {w : World} {a b : Option Addr} {c d : Nat} {l m : List ByteArray} (ha : Sl w a (trow l)) (hb : Sl w b (trow m)) (hl : l.length ≤ 10000000) :
    Calls Try.prog 14 #[.slice a l.length c, .slice b m.length d] w fun e w' => e = .returned (.bool (decide (l = m))) ∧ Below w.heap.size w w' := by
  have HA := Lib.hid ha
  have HB := Lib.hid hb
  clear ha hb
  go_enter Try.func14, Try.ntmps14
  by_cases hlen : l.length = m.length
  case neg =>
    have hd : ((l.length : Int) == (m.length : Int)) = false := by rw [beq_eq_false_iff_ne]; omega
    have hd2 : ¬ (l.length : Int) = (m.length : Int) := by omega
    go_wp2_with fail
    go_ret
    exact ⟨by rw [decide_eq_false (fun e => hlen (by rw [e]))]; rfl, Below.refl _ _⟩
  case pos =>
    have HLEN := Lib.hid hlen
    rw [← hlen]
    clear hlen
    go_wp2_with fail
    go_loopw [13] (fun iv wx => ∃ i : Nat, i ≤ l.length ∧ iv = .int .i64 i ∧ l.take i = m.take i ∧ Below w.heap.size w wx) (fun iv _ => (l.length - intOf iv).toNat)
    case atStart => exact ⟨0, Nat.zero_le _, rfl, rfl, Below.refl _ _⟩
    case round =>
      obtain ⟨i, hi, rfl, hno, hbw⟩ := hrel
      have HNO := Lib.hid hno
      have HBW := Lib.hid hbw
      by_cases hil : i < l.length
      · have him : i < m.length := by have := HLEN.out; omega
        have hd : decide ((i : Int) < (l.length : Int)) = true := decide_eq_true (by omega)
        obtain ⟨bl, ol, rfl, hbl, hcel⟩ := HA.out.at (k := i) (by rw [trow_len]; exact hil)
        have q0 := hcel i (by rw [trow_len]; exact hil)
        rw [trow_at] at q0
        have q1 := cell_blk q0 (hbw.block bl hbl)
        obtain ⟨bm, om, rfl, hbm, hcem⟩ := HB.out.at (k := i) (by rw [trow_len]; exact him)
        have r0 := hcem i (by rw [trow_len]; exact him)
        rw [trow_at] at r0
        have r1 := cell_blk r0 (hbw.block bm hbm)
        have HTL : Hid (l.take (i + 1) = l.take i ++ [l[i]]) := by show _ = _; rw [List.take_add_one, List.getElem?_eq_getElem hil]; rfl
        have HTM : Hid (m.take (i + 1) = m.take i ++ [m[i]]) := by show _ = _; rw [List.take_add_one, List.getElem?_eq_getElem him]; rfl
        have HEQ : Hid (l = m → l[i] = m[i]) := fun e => by subst e; rfl
        have hi0 : (0 : Int) ≤ i := by omega
        have hi1 : (i : Int) < l.length := by omega
        have hw1 : IntKind.i64.wrap ((i : Int) + 1) = ((i + 1 : Nat) : Int) := IntWalk.i64_in _ (by omega)
        clear q0 hcel r0 hcem hno hbw
        generalize l[i] = s at *
        generalize m[i] = t at *
        clear him
        by_cases hst : s = t
        · subst hst
          have hse : (s.toList == s.toList) = true := beq_self_eq_true _
          go_upto_region 6 with fail
          go_quiet (fail)
          have HB3 := Lib.hid (below_dN HBW.out nq)
          clear q1 r1
          generalize wr.drewN nq = w2 at *
          go_wp2_with fail
          go_roundw
          case rel => exact ⟨i + 1, by omega, by first | rfl | go_num, by rw [HTL.out, HTM.out, HNO.out], HB3.out⟩
          case measure => simp [intOf]; omega
        · have hse := str_eqb hst
          go_upto_region 6 with fail
          go_quiet (fail)
          have HB3 := Lib.hid (below_dN HBW.out nq)
          clear q1 r1
          generalize wr.drewN nq = w2 at *
          go_wp2_with fail
          go_ret
          exact ⟨by rw [decide_eq_false (fun e => hst (HEQ.out e))]; rfl, HB3.out⟩
      · obtain rfl : i = l.length := by omega
        have hd : decide ((l.length : Int) < (l.length : Int)) = false := decide_eq_false (by omega)
        clear hno hbw
        go_wp2_with fail
        go_ret
        have h := HNO.out
        rw [List.take_length, HLEN.out, List.take_length] at h
        exact ⟨by rw [decide_eq_true h]; rfl, HBW.out⟩
/-- .. of rows in blocks of their own. -/
theorem same_tv {w : World} {v u : Value} {l m : List ByteArray} (hv : TV w v l) (hu : TV w u m) (hl : l.length ≤ 10000000) :
    Calls Try.prog 14 #[v, u] w fun e w' => e = .returned (.bool (decide (l = m))) ∧ Below w.heap.size w w' := by
  obtain ⟨a, c, rfl, -, ha⟩ := hv.form
  obtain ⟨b, d, rfl, -, hb⟩ := hu.form
  exact same_c ha hb hl
end Go.Proofs.Ytoeoablmcelohaa
namespace Go.Proofs.Ytoeoablmcelohaa
open Go Go.RowKit Go.Maps Go.Sort
open DagS (Nd nm pars par ids Wf ancS ancL upto Srt)
open Classical

theorem found_len {g : List Nd} {l : List ByteArray} (hd : Srt l) (hf : ∀ x ∈ l, DagS.find g x ≠ none) : l.length ≤ g.length := by
  have hn : l.Nodup := hd.imp fun {a b} h e => by subst e; exact absurd h (List.lt_irrefl _)
  have := nodup_le hn (m := g.map Nd.name) fun x hx => mem_names.2 (by
    have := hf x hx
    cases e : DagS.find g x with
    | none => exact absurd e this
    | some i => rfl)
  rwa [List.length_map] at this
theorem tips_len (g : List Nd) (l : List ByteArray) : (DagS.tipsL g l).length ≤ g.length := found_len (DagS.tips_srt g l) fun _ hx => DagS.tips_there hx
theorem bases_len (g : List Nd) (a b : ByteArray) : (DagS.basesL g a b).length ≤ g.length := tips_len g _
theorem miss_len (g : List Nd) (l m : List ByteArray) : (DagS.missL g l m).length ≤ g.length := by unfold DagS.missL; rw [List.length_map]; exact upto_len _ _
theorem pars_len2 {g : List Nd} (hw : Wf g) (x : ByteArray) : (DagS.parsL g x).length ≤ g.length := by
  unfold DagS.parsL
  cases e : DagS.find g x with
  | none => exact Nat.zero_le _
  | some i =>
    refine found_len (hw.srt i) fun s hs => ?_
    obtain ⟨j, _, e⟩ := hw.back i s hs
    rw [e]; exact fun h => nomatch h

theorem GN.pars {w W : World} {p : Nat} {g : List Nd} (h : GN w W p g) {x : ByteArray} (hx : x.size ≤ 10000000) :
    Calls Try.prog 17 #[.pointer (some ⟨p, 0, none⟩), .string x] W fun e W' => ∃ v, e = .returned v ∧ TV W' v (DagS.parsL g x) ∧ Below W.heap.size W W' := by
  obtain ⟨K, h1, h2, h3⟩ := h
  exact gpars_c h1 hx
theorem same_tt {w : World} {v u : Value} {l : List ByteArray} (hv : TV w v l) (hu : TV w u l) (hl : l.length ≤ 10000000) :
    Calls Try.prog 14 #[v, u] w fun e w' => e = .returned (.bool true) ∧ Below w.heap.size w w' := by
  refine (same_tv hv hu hl).mono ?_
  rintro e w' ⟨rfl, hb⟩
  exact ⟨by rw [decide_eq_true rfl], hb⟩
theorem same_ts {w : World} {v : Value} {a : Option Addr} {c : Nat} {l : List ByteArray} (hv : TV w v l) (hu : Sl w a (trow l)) (hl : l.length ≤ 10000000) :
    Calls Try.prog 14 #[v, .slice a l.length c] w fun e w' => e = .returned (.bool true) ∧ Below w.heap.size w w' := by
  obtain ⟨b, d, rfl, -, hb⟩ := hv.form
  refine (same_c hb hu hl).mono ?_
  rintro e w' ⟨rfl, hb⟩
  exact ⟨by rw [decide_eq_true rfl], hb⟩

theorem same_tn {w : World} {v : Value} {l : List ByteArray} (hv : TV w v l) (hl : l = []) :
    Calls Try.prog 14 #[v, .slice none 0 0] w fun e w' => e = .returned (.bool true) ∧ Below w.heap.size w w' := by
  subst hl
  show Calls _ _ #[v, .slice none ([] : List ByteArray).length 0] _ _
  exact same_ts hv (.nil _ _) (Nat.zero_le _)

/-- An ask and the graphs, as they stay. -/
structure AS (w0 W : World) (p : Nat) (g : List Nd) (va sa ma : Option Addr) (sc mc b3 : Nat) (x y : ByteArray) (l m : List ByteArray) : Prop where
  gn : GN w0 W p g
  gr : GR W va g
  ss : Sl W sa (trow l)
  mm : Sl W ma (trow m)
  blk : W.heap[b3]? = some (.cells #[.string x, .string y, .slice sa l.length sc, .slice ma m.length mc] 48 (0, 0))
section
variable {w0 W W' : World} {p : Nat} {g : List Nd} {va sa ma : Option Addr} {sc mc b3 : Nat} {x y : ByteArray} {l m : List ByteArray}
theorem AS.below (h : AS w0 W p g va sa ma sc mc b3 x y l m) (hb : Below W.heap.size W W') : AS w0 W' p g va sa ma sc mc b3 x y l m :=
  ⟨h.gn.below hb, h.gr.below hb, h.ss.below hb, h.mm.below hb, (hb.block _ (Array.getElem?_eq_some_iff.1 h.blk).1).trans h.blk⟩
theorem AS.c0 (h : AS w0 W p g va sa ma sc mc b3 x y l m) : W.cell? ⟨b3, 0, none⟩ = some (.string x) := by simp only [World.cell?, h.blk]; rfl
theorem AS.c1 (h : AS w0 W p g va sa ma sc mc b3 x y l m) : W.cell? ⟨b3, 1, none⟩ = some (.string y) := by simp only [World.cell?, h.blk]; rfl
theorem AS.c2 (h : AS w0 W p g va sa ma sc mc b3 x y l m) : W.cell? ⟨b3, 2, none⟩ = some (.slice sa l.length sc) := by simp only [World.cell?, h.blk]; rfl
theorem AS.c3 (h : AS w0 W p g va sa ma sc mc b3 x y l m) : W.cell? ⟨b3, 3, none⟩ = some (.slice ma m.length mc) := by simp only [World.cell?, h.blk]; rfl
end

end Go.Proofs.Ytoeoablmcelohaa
namespace Go.Proofs.Ytoeoablmcelohaa
open Go Go.RowKit

section
variable {P : Program} {ops : Array Oper} {md : Region.Mode} {Q : Exit → Act → World → Prop} {S : World → Prop}

/-- Whatever order is picked; S holds behind every operation, until one has come up that waits for i. -/
def wpAnyU (P : Program) (md : Region.Mode) (ops : Array Oper) (Q : Exit → Act → World → Prop) (S : World → Prop) (i : Nat) : Nat → Bool → Array Bool → Act → World → Prop
  | 0, _, listed, a, w => Region.ready md ops listed = [] ∧ Q .normal a w
  | fuel + 1, b, listed, a, w =>
    (Region.ready md ops listed = [] → Q .normal a w) ∧
    ∀ j ∈ Region.ready md ops listed, wpOp P ops Q j (fun a' w' => ((b && !Region.waitsFor md ops j i) = true → S w') ∧ wpAnyU P md ops Q S i fuel (b && !Region.waitsFor md ops j i) (listed.setIfInBounds j true) a' w') a w

theorem wpAny_of_U {i : Nat} : ∀ (fuel : Nat) (b : Bool) (listed : Array Bool) (a : Act) (w : World), wpAnyU P md ops Q S i fuel b listed a w → wpAny P md ops Q fuel listed a w
  | 0, _, _, _, _, h => h
  | fuel + 1, _, _, _, _, h => ⟨h.1, fun j hj => wpOp_mono (fun a' w' h' => wpAny_of_U fuel _ _ a' w' h'.2) (h.2 j hj)⟩

theorem waits_false {i j : Nat} {oj : Oper} (hj : ops[j]? = some oj) (h : ∀ e ∈ oj.after, Region.binds md e = true → e.on ≠ i) : Region.waitsFor md ops j i = false := by
  cases e : Region.waitsFor md ops j i with
  | false => rfl
  | true =>
    obtain ⟨o', h1, x, h2, h3, h4⟩ := Region.waitsFor_spec e
    rw [hj] at h1
    injection h1 with h1
    subst h1
    exact absurd h4 (h x h2 h3)

theorem wpAnyU_first {i : Nat} {oi : Oper} {v : Value} (hi : ops[i]? = some oi) (hsel : ∀ (j : Nat) (o : Oper) cs b, ops[j]? = some o → o.op ≠ .select cs b)
    (hQ : ∀ c a w, Q (.panic c) (a.put oi.dst v) w → Q (.panic c) a w) :
    ∀ (fuel : Nat) (listed : Array Bool) (a : Act) (w : World),
      (∀ j oj, ops[j]? = some oj → j ≠ i → listed.getD j true = false → (∀ e ∈ oj.after, Region.binds md e = true → e.on ≠ i) → oi.apart ops oj = true) →
      i ∈ Region.ready md ops listed → YieldsIf P ops S oi v a → S w →
      wpAnyU P md ops Q S i fuel true (listed.setIfInBounds i true) (a.put oi.dst v) w → wpAny P md ops Q (fuel + 1) listed a w := by
  intro fuel
  induction fuel with
  | zero =>
    intro listed a w _ hr hy hS H
    refine ⟨fun h => (by rw [h] at hr; cases hr), fun j hj => ?_⟩
    by_cases hji : j = i
    · subst hji; exact hy.wpOp hi hS H
    · have := ready_mono hj hji
      rw [H.1] at this
      cases this
  | succ fuel ih =>
    intro listed a w hfree hr hy hS H
    refine ⟨fun h => (by rw [h] at hr; cases hr), fun j hj => ?_⟩
    by_cases hji : j = i
    · subst hji; exact hy.wpOp hi hS (wpAny_of_U _ _ _ _ _ H)
    · have h1 := H.2 j (ready_mono hj hji)
      obtain ⟨hjun, oj, hoj, hall⟩ := mem_ready.1 hj
      have hnot : ∀ e ∈ oj.after, Region.binds md e = true → e.on ≠ i := fun e he hb heq => by
        have h1 := hall e he hb
        have h0 := (mem_ready.1 hr).1
        rw [heq] at h1
        rcases Nat.lt_or_ge i listed.size with h' | h'
        · simp [h'] at h0 h1; rw [h0] at h1; cases h1
        · simp [Array.getElem?_eq_none h'] at h1
      rw [waits_false hoj hnot] at h1
      have h2 := wpOp_putIf hoj (hfree j oj hoj hji hjun hnot) (fun cs b => hsel i oi cs b hi) (fun cs b => hsel j oj cs b hoj) hQ hy h1
      have hfree' : ∀ k ok, ops[k]? = some ok → k ≠ i → (listed.setIfInBounds j true).getD k true = false →
          (∀ e ∈ ok.after, Region.binds md e = true → e.on ≠ i) → oi.apart ops ok = true := fun k ok hk hki hun hno => by
        refine hfree k ok hk hki ?_ hno
        by_cases hjk : j = k
        · subst hjk; exact hjun
        · rw [getD_set_ne true hjk] at hun; exact hun
      refine wpOp_mono (fun a' w' h3 => ih (listed.setIfInBounds j true) a' w' hfree' (ready_mono hr (Ne.symm hji)) h3.1 (h3.2.1 rfl) ?_) h2
      rw [Array.setIfInBounds_comm _ _ hji]
      exact h3.2.2

/-- A forced rest, S shown until i is waited for. -/
def goU (P : Program) (md : Region.Mode) (ops : Array Oper) (Q : Exit → Act → World → Prop) (S : World → Prop) (i : Nat) : List Nat → Bool → Act → World → Prop
  | [], _, a, w => Q .normal a w
  | k :: ks, b, a, w => ∃ o, ops[k]? = some o ∧ wpList P ops (Exit.then (fun a' w' => ((b && !Region.waitsFor md ops k i) = true → S w') ∧ goU P md ops Q S i ks (b && !Region.waitsFor md ops k i) a' w') Q) [o] a w

theorem goU_wp {i : Nat} : ∀ (ks : List Nat) (b : Bool) (listed : Array Bool) (a : Act) (w : World), frcOk md ops ks listed = true → Region.ready md ops (setAll ks listed) = [] → goU P md ops Q S i ks b a w → wpAnyU P md ops Q S i ks.length b listed a w
  | [], _, listed, a, w, _, he, h => ⟨he, h⟩
  | k :: ks, b, listed, a, w, hB, he, h => by
    simp only [frcOk, Bool.and_eq_true, decide_eq_true_eq] at hB
    refine ⟨fun h1 => (by rw [hB.1] at h1; cases h1), fun j hj => ?_⟩
    have hik : j = k := by rw [hB.1] at hj; simpa using hj
    subst hik
    obtain ⟨o, ho, h⟩ := h
    have hw : wpOp P ops (Exit.then (fun a' w' => ((b && !Region.waitsFor md ops j i) = true → S w') ∧ goU P md ops Q S i ks (b && !Region.waitsFor md ops j i) a' w') Q) j (wpList P ops (Exit.then (fun a' w' => ((b && !Region.waitsFor md ops j i) = true → S w') ∧ goU P md ops Q S i ks (b && !Region.waitsFor md ops j i) a' w') Q) []) a w := by
      unfold wpOp; simp only [ho]; exact h
    exact wpOp_mono (fun a' w' h' => ⟨h'.1, goU_wp ks _ _ a' w' hB.2 he h'.2⟩) (wpOp_then hw)

/-- Operations that yield in whatever world, taken first, one behind the other. -/
def goT (P : Program) (ops : Array Oper) (N : Act → World → Prop) : List Nat → Act → World → Prop
  | [], a, w => N a w
  | k :: ks, a, w => ∃ o, ops[k]? = some o ∧ ∃ v, Yields P ops o v a ∧ goT P ops N ks (a.put o.dst v) w
def takeOk (md : Region.Mode) (ops : Array Oper) : List Nat → Array Bool → Bool
  | [], _ => true
  | k :: ks, up => (Region.ready md ops up).contains k && Region.free md ops up k && takeOk md ops ks (up.setIfInBounds k true)

theorem goT_wp {N : Act → World → Prop} {g : Nat} (hsel : Region.noSelect ops = true) (hQ : ∀ (d : Tmp) (v : Value) c a w, Q (.panic c) (a.put (some d) v) w → Q (.panic c) a w) {U : Array Bool} (hN : ∀ a w, N a w → wpAny P md ops Q g U a w) :
    ∀ (ts : List Nat) (up : Array Bool) (a : Act) (w : World), takeOk md ops ts up = true → setAll ts up = U → goT P ops N ts a w → wpAny P md ops Q (g + ts.length) up a w
  | [], up, a, w, _, hu, h => by subst hu; exact hN a w h
  | k :: ts, up, a, w, hB, hu, h => by
    simp only [takeOk, Bool.and_eq_true] at hB
    obtain ⟨⟨hr, hf⟩, hB'⟩ := hB
    obtain ⟨o, ho, v, hy, h⟩ := h
    exact wpAny_take ho hsel hf hr (fun c a w h => by cases hd : o.dst with | none => rw [hd] at h; exact h | some t => rw [hd] at h; exact hQ t v c a w h) hy (goT_wp hsel hQ hN ts _ _ _ hB' hu h)

/-- The region: pure operations first, then a load under S, then a forced rest. -/
theorem wp_region_tku {id : Nat} {a : Act} {w : World} {l : List Oper} (S : World → Prop) (ts : List Nat) (i : Nat) (ks : List Nat) (hm : P.follows .mixedOrders = true)
    (hB : (Region.noSelect l.toArray && takeOk .any l.toArray ts (Array.replicate l.toArray.size false) && Region.free .any l.toArray (setAll ts (Array.replicate l.toArray.size false)) i && (Region.ready .any l.toArray (setAll ts (Array.replicate l.toArray.size false))).contains i &&
      frcOk .any l.toArray ks ((setAll ts (Array.replicate l.toArray.size false)).setIfInBounds i true) && decide (Region.ready .any l.toArray (setAll ks ((setAll ts (Array.replicate l.toArray.size false)).setIfInBounds i true)) = []) && decide (ks.length + 1 + ts.length = l.toArray.size)) = true)
    (hQ : ∀ (d : Tmp) (v : Value) c a w, Q (.panic c) (a.put (some d) v) w → Q (.panic c) a w)
    (h : goT P l.toArray (fun a' w' => ∃ oi, l.toArray[i]? = some oi ∧ ∃ v, YieldsIf P l.toArray S oi v a' ∧ S w' ∧ goU P .any l.toArray Q S i ks true (a'.put oi.dst v) w') ts a (w.drewN 1)) : (Code.region id l.toArray true).wp P Q a w := by
  simp only [Bool.and_eq_true, decide_eq_true_eq] at hB
  obtain ⟨⟨⟨⟨⟨⟨h1, h2⟩, h3⟩, h4⟩, h5⟩, h6⟩, h7⟩ := hB
  refine wp_region_any hm ?_
  have := goT_wp (md := .any) (g := ks.length + 1) (U := setAll ts (Array.replicate l.toArray.size false)) h1 hQ (fun a' w' hN => by
    obtain ⟨oi, ho, v, hy, hS, hu⟩ := hN
    exact wpAnyU_first ho (Region.noSelect_spec h1) (fun c a w h => by cases hd : oi.dst with | none => rw [hd] at h; exact h | some t => rw [hd] at h; exact hQ t v c a w h) ks.length _ a' w' (Region.free_spec ho h3) (by simpa using h4) hy hS (goU_wp ks true _ _ w' h5 h6 hu)) ts _ a _ h2 rfl h
  rw [h7] at this
  exact this

/-- One operation of the forced rest. -/
theorem goU_step {i k : Nat} {ks : List Nat} {b b' : Bool} {o : Oper} {a : Act} {w : World} (ho : ops[k]? = some o) (hb : (b && !Region.waitsFor md ops k i) = b') (h : wpList P ops (Exit.then (fun a' w' => (b' = true → S w') ∧ goU P md ops Q S i ks b' a' w') Q) [o] a w) : goU P md ops Q S i (k :: ks) b a w := by
  subst hb
  exact ⟨o, ho, h⟩
end
end Go.Proofs.Ytoeoablmcelohaa
namespace Go.Proofs.Ytoeoablmcelohaa
open Go Go.RowKit

/-- Operations that call nothing. -/
def plainOp : Op → Bool
  | .move _ => true
  | .load _ _ => true
  | .fieldAddr _ _ _ => true
  | .lookup _ _ _ _ => true
  | .extract _ _ => true
  | .index _ _ _ => true
  | .indexAddr _ _ _ => true
  | .slice _ _ _ _ _ => true
  | .nilCheck _ => true
  | _ => false

theorem no_enter_v {P : Program} {w w' : World} {s : Sem Value} {f : FuncId} {args : Array Value} : ¬ (do pure (Next.value (← s)) : Sem Next).run P w = .ok (.enter f args) w' := by
  intro h
  simp only [Sem.run_bind, Sem.run_pure] at h
  cases hs : s.run P w with
  | ok v w1 => rw [hs] at h; simp [Result.andThen] at h
  | halt x w1 => rw [hs] at h; simp [Result.andThen] at h

theorem no_enter {P : Program} {ρ : Operand → Value} {o : Oper} {f : FuncId} {args : Array Value} {w w' : World} (hp : plainOp o.op = true) : ¬ (execOp ρ o).run P w = .ok (.enter f args) w' := by
  intro h
  unfold execOp at h
  cases ho : o.op <;> rw [ho] at hp h <;> simp only [plainOp] at hp <;> first | (cases hp; done) | (exact no_enter_v h) | skip
  · simp at h
  · simp only at h
    split at h
    all_goals first | (simp [runtimePanic] at h; done) | skip
    split at h
    · simp [runtimePanic] at h
    · rename_i t u _
      simp only [Sem.run_bind] at h
      cases h1 : (program : Sem Program).run P w with
      | halt x w1 => rw [h1] at h; simp [Result.andThen] at h
      | ok pr w1 =>
        rw [h1] at h
        simp only [Result.andThen] at h
        cases h2 : (nilAhead (pr.types.size + Made.depth) t u _).run P w1 with
        | halt x w2 => rw [h2] at h; simp at h
        | ok b w2 =>
          rw [h2] at h
          simp only at h
          split at h <;> simp [unsupported] at h
    · simp at h

theorem getD_set_same (up : Array Bool) (j : Nat) : (up.setIfInBounds j true).getD j true = true := by
  rw [Array.getD_eq_getD_getElem?, Array.getElem?_setIfInBounds_self]
  split <;> rfl
theorem getD_set_other (up : Array Bool) {i j : Nat} (h : j ≠ i) : (up.setIfInBounds j true).getD i true = up.getD i true := by
  rw [Array.getD_eq_getD_getElem?, Array.getD_eq_getD_getElem?, Array.getElem?_setIfInBounds_ne h]

section
variable {P : Program} {ops ops' : Array Oper} {md : Region.Mode} {i : Nat} {oi oi' : Oper} {ptr : Value} {w0 w1 : World} {C : World → Prop}

/-- The region whose making operation yields the known address. -/
structure Alike2 (ops ops' : Array Oper) (i : Nat) (oi oi' : Oper) : Prop where
  hi : ops[i]? = some oi
  hi' : ops'[i]? = some oi'
  oth : ∀ j, j ≠ i → ops'[j]? = ops[j]?
  size : ops'.size = ops.size
  aft : oi'.after = oi.after
  dst : oi'.dst = oi.dst
  g : oi.guard = none
  g' : oi'.guard = none

theorem Alike2.mk' {l : List Oper} (hi : l[i]? = some oi) (hg : oi.guard = none) (op : Op) : Alike2 l.toArray (l.toArray.setIfInBounds i { oi with op := op }) i oi { oi with op := op } := by
  have hlt := (List.getElem?_eq_some_iff.1 hi).1
  exact ⟨by simpa using hi, by simp [hlt], fun j hj => by rw [Array.getElem?_setIfInBounds_ne (fun e => hj e.symm)], by simp, rfl, rfl, hg, hg⟩

theorem Alike2.ready (A : Alike2 ops ops' i oi oi') (up : Array Bool) : Region.ready md ops' up = Region.ready md ops up := by
  unfold Region.ready
  rw [A.size]
  apply List.filter_congr
  intro j _
  congr 1
  by_cases e : j = i
  · subst e; rw [A.hi, A.hi']; simp only [Option.map_some, A.aft]
  · rw [A.oth j e]
theorem Alike2.yl (A : Alike2 ops ops' i oi oi') (t : Array Value) : yielded ops' t = yielded ops t := by
  funext j
  unfold yielded
  by_cases e : j = i
  · subst e; rw [A.hi, A.hi']; simp only [Option.bind_some, A.dst]
  · rw [A.oth j e]

def alcW (w0 w1 : World) (b : Bool) (q : Nat) : World := if b then w1.drewN q else w0.drewN q

theorem blkAlc_wp {is : List Nat} {g : Nat} {T : Array Bool → Act → Prop} {Q' : Exit → Act → World → Prop} (A : Alike2 ops ops' i oi oi') (hop : oi'.op = .move (.const ptr))
    (hal : ∀ (ρ : Operand → Value) (q : Nat), (execOp ρ oi).run P (w0.drewN q) = .ok (.value ptr) (w1.drewN q)) (hpl : ∀ j ∈ is, j ≠ i → ∀ o, ops[j]? = some o → plainOp o.op = true) (hC : ∀ b q, C (alcW w0 w1 b q))
    (hT : ∀ up a q, T up a → up.getD i true = true ∧ wpAny P md ops Q' g up a (w1.drewN q)) (hsz : i < ops.size) :
    ∀ (f : Nat) (up : Array Bool) (a : Act) (q : Nat), up.size = ops.size → BlkAny P md ops' C is T f up a → wpAny P md ops Q' (f + g) up a (alcW w0 w1 (up.getD i true) q)
  | 0, up, a, q, _, h => by
    obtain ⟨h1, h2⟩ := hT up a q h
    rw [Nat.zero_add, h1]
    exact h2
  | f + 1, up, a, q, hs, h => by
    rw [show f + 1 + g = (f + g) + 1 by omega]
    refine ⟨fun h0 => absurd (by rw [A.ready]; exact h0) h.1, fun j hj => ?_⟩
    obtain ⟨hin, hq⟩ := h.2 j (by rw [A.ready]; exact hj)
    have hup : up.getD j true = false := by
      unfold Region.ready at hj
      have := (List.mem_filter.1 hj).2
      simp only [Bool.and_eq_true, Bool.not_eq_true'] at this
      exact this.1
    have hs' : (up.setIfInBounds j true).size = ops.size := by simp [hs]
    by_cases e : j = i
    · rw [e] at hup hq hs' ⊢
      have hg1 : (up.setIfInBounds i true).getD i true = true := getD_set_same up i
      unfold qOp at hq
      rw [A.hi'] at hq
      simp only [Region.wanted, A.g', if_true] at hq
      obtain ⟨v, h1, h2⟩ := hq
      have h3 := h1 _ (hC false q)
      unfold Oper.quietAt at h3
      have hrun : (execOp a.eval oi').run P (alcW w0 w1 false q) = .ok (.value ptr) (alcW w0 w1 false q) := by
        unfold execOp; rw [hop]; rfl
      rw [hrun] at h3
      obtain ⟨-, h4⟩ := h3
      subst h4
      unfold wpOp
      rw [A.hi]
      simp only [Region.wanted, A.g, if_true]
      refine .inl ?_
      unfold Oper.wp
      rw [hup]
      show Oper.upon P oi a _ _ ((execOp a.eval oi).run P (w0.drewN q))
      rw [hal]
      show wpAny P md ops Q' (f + g) (up.setIfInBounds i true) (a.put oi.dst ptr) (w1.drewN q)
      have := blkAlc_wp A hop hal hpl hC hT hsz f (up.setIfInBounds i true) (a.put oi'.dst ptr) q hs' h2
      rw [hg1, A.dst] at this
      exact this
    · have hg1 : (up.setIfInBounds j true).getD i true = up.getD i true := getD_set_other up (fun h => e h)
      have step : ∀ a', BlkAny P md ops' C is T f (up.setIfInBounds j true) a' → wpAny P md ops Q' (f + g) (up.setIfInBounds j true) a' (alcW w0 w1 (up.getD i true) q) := fun a' h' => by
        have := blkAlc_wp A hop hal hpl hC hT hsz f (up.setIfInBounds j true) a' q hs' h'
        rwa [hg1] at this
      unfold qOp at hq
      rw [A.oth j e] at hq
      unfold wpOp
      cases ho : ops[j]? with
      | none =>
        rw [ho] at hq
        exact step _ hq
      | some o =>
        rw [ho] at hq
        simp only [A.yl] at hq ⊢
        split
        · rename_i hw
          rw [if_pos hw] at hq
          obtain ⟨v, h1, h2⟩ := hq
          have h3 := h1 _ (hC (up.getD i true) q)
          refine .inl ?_
          unfold Oper.quietAt at h3
          unfold Oper.wp
          have hne := fun f args w' => no_enter (P := P) (ρ := a.eval) (f := f) (args := args) (w := alcW w0 w1 (up.getD i true) q) (w' := w') (hpl j hin e o ho)
          generalize (execOp a.eval o).run P (alcW w0 w1 (up.getD i true) q) = r at *
          cases r with
          | ok n w' =>
            cases n <;> simp only [Oper.quietUpon] at h3 <;> simp only [Oper.upon]
            case value u =>
              obtain ⟨e1, e2⟩ := h3
              rw [e1, e2]
              exact step _ h2
            case skip =>
              obtain ⟨e1, e2⟩ := h3
              rw [e1, ← e2]
              exact step _ h2
            case enter f args => exact absurd rfl (hne f args w')
          | halt x w' => cases x <;> simp only [Oper.quietUpon] at h3
        · rename_i hw
          rw [if_neg hw] at hq
          exact step _ hq
/-- The operations with the address in the place of the making. -/
def constAt (l : List Oper) (i : Nat) (oi : Oper) (b : Nat) : Array Oper := l.toArray.setIfInBounds i { oi with op := .move (.const (.pointer (some ⟨b, 0, none⟩))) }

/-- Such a region, walked: the others read in a class of worlds; then a forced tail. -/
theorem wp_region_alc {id : Nat} {Q : Exit → Act → World → Prop} {a : Act} {w : World} {l : List Oper} (i : Nat) (is js : List Nat) {oi : Oper} (e : TypeId) (obj : Obj) (hi : l[i]? = some oi) (hop : oi.op = .alloc e) (hg : oi.guard = none)
    (hal : ∀ W : World, (Instr.alloc e true (.tuple #[])).run P W = .ok (.pointer (some ⟨W.heap.size, 0, none⟩)) (W.alloc obj)) (hm : P.follows .mixedOrders = true)
    (hpl : (is.all fun j => j == i || ((l.toArray[j]?).map fun o => plainOp o.op).getD true) = true)
    (hB : (Region.noSelect (constAt l i oi w.heap.size) && closedOk .any (constAt l i oi w.heap.size) (Array.replicate l.toArray.size false) && is.all (fun i' => decide (i' < l.toArray.size)) && sinkOk .any (constAt l i oi w.heap.size) is (Array.replicate l.toArray.size false) &&
        lexOk .any (constAt l i oi w.heap.size) is (Array.replicate l.toArray.size false) && (Region.ready .any (constAt l i oi w.heap.size) (setAll is (Array.replicate l.toArray.size false))).all (fun j => !is.contains j)) = true)
    (hF : (frcOk .any l.toArray js (setAll is (Array.replicate l.toArray.size false)) && decide (Region.ready .any l.toArray (setAll js (setAll is (Array.replicate l.toArray.size false))) = []) && (setAll is (Array.replicate l.toArray.size false)).getD i true && decide (is.length + js.length = l.toArray.size)) = true)
    (h : wpQuiet P (constAt l i oi w.heap.size) (fun w' => ∃ p : BW, w' = bw w p) (fun a' => ∀ q, wpList P l.toArray Q (opsAt l.toArray js) a' ((w.alloc obj).drewN q)) (opsAt (constAt l i oi w.heap.size) is) a) : (Code.region id l.toArray true).wp P Q a w := by
  simp only [Bool.and_eq_true, decide_eq_true_eq] at hB hF
  obtain ⟨⟨⟨⟨⟨hsel, hcl⟩, hall⟩, hs⟩, hl⟩, hU⟩ := hB
  obtain ⟨⟨⟨hfr, hend⟩, hUi⟩, hlen⟩ := hF
  have A : Alike2 l.toArray (constAt l i oi w.heap.size) i oi { oi with op := .move (.const (.pointer (some ⟨w.heap.size, 0, none⟩))) } := Alike2.mk' hi hg _
  have hall' : ∀ k ∈ is, k < (constAt l i oi w.heap.size).size := fun k hk => by
    rw [A.size]; simpa using List.all_eq_true.1 hall k hk
  have inv : BInv .any (constAt l i oi w.heap.size) is (Array.replicate l.toArray.size false) (Array.replicate l.toArray.size false) := by
    refine ⟨by rw [A.size]; simp, fun j oj hj hu e he hb => ?_, fun t ht => ?_, fun _ h => h⟩
    · have h1 := List.all_eq_true.1 hcl j (List.mem_range.2 (Array.getElem?_eq_some_iff.1 hj).1)
      simp only [hj, hu, Bool.not_true, Bool.false_or] at h1
      have h2 := Array.all_eq_true'.1 h1 e he
      simpa [hb] using h2
    · have := (List.mem_filter.1 ht).2
      simp only [Bool.and_eq_true, Bool.not_eq_true'] at this
      exact this.1
  have hU' : ∀ j ∈ Region.ready .any (constAt l i oi w.heap.size) (setAll is (Array.replicate l.toArray.size false)), j ∉ is := fun j hj hm => by
    have := List.all_eq_true.1 hU j hj
    simp at this
    exact this hm
  have H := blkAny_lex (C := fun w' => ∃ p : BW, w' = bw w p) hsel hs hU' is (Array.replicate l.toArray.size false) a (fun _ h => h) hall' rfl inv hl h
  refine wp_region_any hm ?_
  have hlt : i < l.toArray.size := by have := (List.getElem?_eq_some_iff.1 hi).1; simpa using this
  have := blkAlc_wp (md := .any) (w0 := w) (w1 := w.alloc obj) (Q' := Q) (g := js.length) A rfl (fun ρ q => by
    have h1 := hal (w.drewN q)
    unfold execOp
    rw [hop]
    simp only [Sem.run_bind, Sem.run_pure, h1, Result.andThen]
    rfl) (fun j hj hne o ho => by
      have := List.all_eq_true.1 hpl j hj
      rw [ho] at this
      simpa [hne] using this) (fun b q => by
      cases b
      · exact bw_of (below_dN (Below.refl _ w) q)
      · exact bw_of (below_dN ((Below.refl _ w).alloc (Nat.le_refl _) obj) q)) (fun up a' q hT => by
      obtain ⟨e, hT⟩ := hT
      subst e
      refine ⟨hUi, ?_⟩
      have := frc_wp (md := .any) (g := 0) (Q := Q) (N := fun a w => Q .normal a w) (fun a w hq => ⟨hend, hq⟩) js _ a' ((w.alloc obj).drewN q) hfr rfl (wpList_then (fun _ _ h => h) _ _ _ (hT q))
      rwa [Nat.zero_add] at this) hlt is.length (Array.replicate l.toArray.size false) a 1 (by simp) H
  rw [hlen] at this
  have hz : (Array.replicate l.toArray.size false).getD i true = false := by
    rw [Array.getD_eq_getD_getElem?, Array.getElem?_replicate, if_pos hlt]; rfl
  rw [hz] at this
  exact this

/-- A whole block loaded in a quiet walk. -/
theorem wpQuiet_loadB {Q : Act → Prop} {a : Act} {o : Oper} {rest : List Oper} (hgd : o.guard = none) (ty : TypeId) (x : Operand) (ho : o.op = .load ty x) (b : Nat) (hx : a.eval x = .pointer (some ⟨b, 0, none⟩)) {cs : Array Value} {e : TypeId} {fr : Nat × Nat}
    (hb : ∀ w, C w → w.heap[b]? = some (.cells cs e fr)) (d : TypeDesc) (hu : P.underlying ty = some d) (hd : d.isRow = true) (hi : (P.info? ty).map (·.size) = some cs.toList.length) (h : wpQuiet P ops C Q rest (a.put o.dst (.agg cs))) : wpQuiet P ops C Q (o :: rest) a := by
  unfold wpQuiet
  rw [if_pos (by simp [Region.wanted, hgd])]
  refine ⟨_, fun w hw => ?_, h⟩
  unfold Oper.quietAt
  have hl := run_loadVar_mid (P := P) w b 0 ty cs.toList d (fun j v hj => by
    rw [Nat.zero_add]; simp only [World.cell?, hb w hw]; rw [← Array.getElem?_toList]; exact hj) hu hd hi
  have : (execOp a.eval o).run P w = .ok (.value (.agg cs)) w := by
    unfold execOp
    simp only [ho, hx, Instr.loadAt, Instr.sureAddr, Sem.run_bind, Sem.run_pure, Result.andThen_ok, hl]
  rw [this]
  exact ⟨rfl, rfl⟩
/-- .. as steps of a region that draws its order. -/
theorem step_loadB {K : Act → World → Prop} {Q : Exit → Act → World → Prop} {E : Prop} {w : World} {a : Act} {o : Oper} (hgd : o.guard = none) (ty : TypeId) (x : Operand) (ho : o.op = .load ty x) (b : Nat) (hx : a.eval x = .pointer (some ⟨b, 0, none⟩)) {cs : Array Value} {e : TypeId} {fr : Nat × Nat}
    (hb : w.heap[b]? = some (.cells cs e fr)) (d : TypeDesc) (hu : P.underlying ty = some d) (hd : d.isRow = true) (hi : (P.info? ty).map (·.size) = some cs.toList.length) (h : K (a.put o.dst (.agg cs)) w) :
    if Region.wanted o (yielded ops a.tmps) = true then Oper.wp P o a w K Q else E := by
  rw [if_pos (by simp [Region.wanted, hgd])]
  have hl := run_loadVar_mid (P := P) w b 0 ty cs.toList d (fun j v hj => by
    rw [Nat.zero_add]; simp only [World.cell?, hb]; rw [← Array.getElem?_toList]; exact hj) hu hd hi
  have : (execOp a.eval o).run P w = .ok (.value (.agg cs)) w := by
    unfold execOp
    simp only [ho, hx, Instr.loadAt, Instr.sureAddr, Sem.run_bind, Sem.run_pure, Result.andThen_ok, hl]
  unfold Oper.wp
  rw [this]
  exact h
theorem step_lookup {K : Act → World → Prop} {Q : Exit → Act → World → Prop} {E : Prop} {w : World} {a : Act} {o : Oper} (hgd : o.guard = none) (t : TypeId) (m k : Operand) (ok : Bool) (ho : o.op = .lookup t m k ok) {mv kv v : Value} (hm : a.eval m = mv) (hk : a.eval k = kv)
    (hrun : (Instr.lookup t mv kv ok).run P w = .ok v w) (h : K (a.put o.dst v) w) : if Region.wanted o (yielded ops a.tmps) = true then Oper.wp P o a w K Q else E := by
  rw [if_pos (by simp [Region.wanted, hgd])]
  have : (execOp a.eval o).run P w = .ok (.value v) w := by
    unfold execOp
    simp only [ho, hm, hk, Sem.run_bind, Sem.run_pure, hrun, Result.andThen_ok]
  unfold Oper.wp
  rw [this]
  exact h
theorem wpQuiet_lookup {Q : Act → Prop} {a : Act} {o : Oper} {rest : List Oper} (hgd : o.guard = none) (t : TypeId) (m k : Operand) (ok : Bool) (ho : o.op = .lookup t m k ok) {mv kv v : Value} (hm : a.eval m = mv) (hk : a.eval k = kv)
    (hrun : ∀ w, C w → (Instr.lookup t mv kv ok).run P w = .ok v w) (h : wpQuiet P ops C Q rest (a.put o.dst v)) : wpQuiet P ops C Q (o :: rest) a := by
  unfold wpQuiet
  rw [if_pos (by simp [Region.wanted, hgd])]
  refine ⟨_, fun w hw => ?_, h⟩
  unfold Oper.quietAt
  have : (execOp a.eval o).run P w = .ok (.value v) w := by
    unfold execOp
    simp only [ho, hm, hk, Sem.run_bind, Sem.run_pure, hrun w hw, Result.andThen_ok]
  rw [this]
  exact ⟨rfl, rfl⟩
end
end Go.Proofs.Ytoeoablmcelohaa
namespace Go.Proofs.Ytoeoablmcelohaa
open Go Go.RowKit

section
variable {P : Program} {ops : Array Oper} {md : Region.Mode} {Q : Exit → Act → World → Prop} {S : World → Prop}

def goHF (P : Program) (ops : Array Oper) (Q : Exit → Act → World → Prop) (S : World → Prop) : List Nat → Act → World → Prop
  | [], a, w => Q .normal a w
  | k :: ks, a, w => ∃ o, ops[k]? = some o ∧ wpList P ops (Exit.then (fun a' w' => S w' ∧ goHF P ops Q S ks a' w') Q) [o] a w

theorem goHF_wp : ∀ (ks : List Nat) (listed : Array Bool) (a : Act) (w : World), frcOk md ops ks listed = true → Region.ready md ops (setAll ks listed) = [] → goHF P ops Q S ks a w → wpAnyH P md ops Q S ks.length listed a w
  | [], listed, a, w, _, he, h => ⟨he, h⟩
  | k :: ks, listed, a, w, hB, he, h => by
    simp only [frcOk, Bool.and_eq_true, decide_eq_true_eq] at hB
    refine ⟨fun h1 => (by rw [hB.1] at h1; cases h1), fun j hj => ?_⟩
    have hik : j = k := by rw [hB.1] at hj; simpa using hj
    subst hik
    obtain ⟨o, ho, h⟩ := h
    have hw : wpOp P ops (Exit.then (fun a' w' => S w' ∧ goHF P ops Q S ks a' w') Q) j (wpList P ops (Exit.then (fun a' w' => S w' ∧ goHF P ops Q S ks a' w') Q) []) a w := by
      unfold wpOp; simp only [ho]; exact h
    exact wpOp_mono (fun a' w' h' => ⟨h'.1, goHF_wp ks _ a' w' hB.2 he h'.2⟩) (wpOp_then hw)

def goHT (P : Program) (ops : Array Oper) (S : World → Prop) (N : Act → Prop) : List Nat → Act → Prop
  | [], a => N a
  | k :: ks, a => ∃ o, ops[k]? = some o ∧ ∃ v, YieldsIf P ops S o v a ∧ goHT P ops S N ks (a.put o.dst v)

theorem goHT_wp {N : Act → Prop} {g : Nat} {w : World} (hsel : Region.noSelect ops = true) (hQ : ∀ (d : Tmp) (v : Value) c a w, Q (.panic c) (a.put (some d) v) w → Q (.panic c) a w) {U : Array Bool} (hN : ∀ a, N a → wpAnyH P md ops Q S g U a w) (hS : S w) :
    ∀ (ts : List Nat) (up : Array Bool) (a : Act), takeOk md ops ts up = true → setAll ts up = U → goHT P ops S N ts a → wpAnyH P md ops Q S (g + ts.length) up a w
  | [], up, a, _, hu, h => by subst hu; exact hN a h
  | k :: ts, up, a, hB, hu, h => by
    simp only [takeOk, Bool.and_eq_true] at hB
    obtain ⟨⟨hr, hf⟩, hB'⟩ := hB
    obtain ⟨o, ho, v, hy, h⟩ := h
    exact wpAnyH_take ho hsel hf hr (fun c a w h => by cases hd : o.dst with | none => rw [hd] at h; exact h | some t => rw [hd] at h; exact hQ t v c a w h) hy hS (goHT_wp hsel hQ hN hS ts _ _ hB' hu h)

theorem wp_region_hld {id : Nat} {a : Act} {w : World} {l : List Oper} (S : World → Prop) (ts ks : List Nat) (hm : P.follows .mixedOrders = true)
    (hB : (Region.noSelect l.toArray && takeOk .any l.toArray ts (Array.replicate l.toArray.size false) && frcOk .any l.toArray ks (setAll ts (Array.replicate l.toArray.size false)) &&
      decide (Region.ready .any l.toArray (setAll ks (setAll ts (Array.replicate l.toArray.size false))) = []) && decide (ks.length + ts.length = l.toArray.size)) = true)
    (hQ : ∀ (d : Tmp) (v : Value) c a w, Q (.panic c) (a.put (some d) v) w → Q (.panic c) a w) (hS : S (w.drewN 1))
    (h : goHT P l.toArray S (fun a' => goHF P l.toArray Q S ks a' (w.drewN 1)) ts a) : (Code.region id l.toArray true).wp P Q a w := by
  simp only [Bool.and_eq_true, decide_eq_true_eq] at hB
  obtain ⟨⟨⟨⟨h1, h2⟩, h3⟩, h4⟩, h5⟩ := hB
  refine wp_region_held (S := S) hm ?_
  have := goHT_wp (md := .any) (w := w.drewN 1) (g := ks.length) (U := setAll ts (Array.replicate l.toArray.size false)) h1 hQ (fun a' hN => goHF_wp ks _ a' _ h3 h4 hN) hS ts _ a h2 rfl h
  rw [h5] at this
  exact this

/-- One operation of the forced rest. -/
theorem goHF_step {k : Nat} {ks : List Nat} {o : Oper} {a : Act} {w : World} (ho : ops[k]? = some o)
    (h : ∀ K' : Act → World → Prop, (∀ a' w', (S w' ∧ goHF P ops Q S ks a' w') → K' a' w') → wpList P ops (Exit.then K' Q) [o] a w) : goHF P ops Q S (k :: ks) a w :=
  ⟨o, ho, h _ fun _ _ h => h⟩

/-- One that only yields a value. -/
theorem goHF_val {k : Nat} {ks : List Nat} {o : Oper} {a : Act} {w : World} (ho : ops[k]? = some o) (hg : Region.wanted o (yielded ops a.tmps) = true) {v : Value} (hv : (execOp a.eval o).run P w = .ok (.value v) w) (hS : S w) (h : goHF P ops Q S ks (a.put o.dst v) w) : goHF P ops Q S (k :: ks) a w :=
  goHF_step ho fun K' hK' => wpList_step fun K hK => by
    rw [if_pos hg]
    unfold Oper.wp
    rw [hv]
    exact hK _ _ (hK' _ _ ⟨hS, h⟩)

/-- A whole block's load yields its cells. -/
theorem yields_loadB {o : Oper} {a : Act} (hgd : Region.wanted o (yielded ops a.tmps) = true) (ty : TypeId) (x : Operand) (ho : o.op = .load ty x) (b : Nat) (hx : a.eval x = .pointer (some ⟨b, 0, none⟩)) {cs : Array Value} {e : TypeId} {fr : Nat × Nat}
    (hb : ∀ w, S w → w.heap[b]? = some (.cells cs e fr)) (d : TypeDesc) (hu : P.underlying ty = some d) (hd : d.isRow = true) (hi : (P.info? ty).map (·.size) = some cs.toList.length) : YieldsIf P ops S o (.agg cs) a := by
  refine .inl ⟨hgd, fun w hw => ?_⟩
  have hl := run_loadVar_mid (P := P) w b 0 ty cs.toList d (fun j v hj => by
    rw [Nat.zero_add]; simp only [World.cell?, hb w hw]; rw [← Array.getElem?_toList]; exact hj) hu hd hi
  unfold execOp
  simp only [ho, hx, Instr.loadAt, Instr.sureAddr, Sem.run_bind, Sem.run_pure, Result.andThen_ok, hl]
end
end Go.Proofs.Ytoeoablmcelohaa
namespace Go.Proofs.Ytoeoablmcelohaa
open Go Go.RowKit

/-- tk: taken under S; fc: the one that is ready. -/
inductive HM where
  | tk (i : Nat)
  | fc (i : Nat)

section
variable {P : Program} {ops : Array Oper} {md : Region.Mode} {Q : Exit → Act → World → Prop} {S : World → Prop}

def goM (P : Program) (ops : Array Oper) (Q : Exit → Act → World → Prop) (S : World → Prop) : List HM → Act → World → Prop
  | [], a, w => Q .normal a w
  | .tk k :: ms, a, w => ∃ o, ops[k]? = some o ∧ ∃ v, YieldsIf P ops S o v a ∧ goM P ops Q S ms (a.put o.dst v) w
  | .fc k :: ms, a, w => ∃ o, ops[k]? = some o ∧ wpList P ops (Exit.then (fun a' w' => S w' ∧ goM P ops Q S ms a' w') Q) [o] a w

def okM (md : Region.Mode) (ops : Array Oper) : List HM → Array Bool → Bool
  | [], up => decide (Region.ready md ops up = [])
  | .tk k :: ms, up => (Region.ready md ops up).contains k && Region.free md ops up k && okM md ops ms (up.setIfInBounds k true)
  | .fc k :: ms, up => decide (Region.ready md ops up = [k]) && okM md ops ms (up.setIfInBounds k true)

theorem goM_wp (hsel : Region.noSelect ops = true) (hQ : ∀ (d : Tmp) (v : Value) c a w, Q (.panic c) (a.put (some d) v) w → Q (.panic c) a w) :
    ∀ (ms : List HM) (up : Array Bool) (a : Act) (w : World), okM md ops ms up = true → S w → goM P ops Q S ms a w → wpAnyH P md ops Q S ms.length up a w
  | [], up, a, w, hB, _, h => ⟨of_decide_eq_true hB, h⟩
  | .tk k :: ms, up, a, w, hB, hS, h => by
    simp only [okM, Bool.and_eq_true] at hB
    obtain ⟨⟨hr, hf⟩, hB'⟩ := hB
    obtain ⟨o, ho, v, hy, h⟩ := h
    exact wpAnyH_take ho hsel hf hr (fun c a w h => by cases hd : o.dst with | none => rw [hd] at h; exact h | some t => rw [hd] at h; exact hQ t v c a w h) hy hS (goM_wp hsel hQ ms _ _ _ hB' hS h)
  | .fc k :: ms, up, a, w, hB, hS, h => by
    simp only [okM, Bool.and_eq_true, decide_eq_true_eq] at hB
    refine ⟨fun h1 => (by rw [hB.1] at h1; cases h1), fun j hj => ?_⟩
    have hik : j = k := by rw [hB.1] at hj; simpa using hj
    subst hik
    obtain ⟨o, ho, h⟩ := h
    have hw : wpOp P ops (Exit.then (fun a' w' => S w' ∧ goM P ops Q S ms a' w') Q) j (wpList P ops (Exit.then (fun a' w' => S w' ∧ goM P ops Q S ms a' w') Q) []) a w := by
      unfold wpOp; simp only [ho]; exact h
    exact wpOp_mono (fun a' w' h' => ⟨h'.1, goM_wp hsel hQ ms _ a' w' hB.2 h'.1 h'.2⟩) (wpOp_then hw)

theorem wp_region_hm {id : Nat} {a : Act} {w : World} {l : List Oper} (S : World → Prop) (ms : List HM) (hm : P.follows .mixedOrders = true)
    (hB : (Region.noSelect l.toArray && okM .any l.toArray ms (Array.replicate l.toArray.size false) && decide (ms.length = l.toArray.size)) = true)
    (hQ : ∀ (d : Tmp) (v : Value) c a w, Q (.panic c) (a.put (some d) v) w → Q (.panic c) a w) (hS : S (w.drewN 1))
    (h : goM P l.toArray Q S ms a (w.drewN 1)) : (Code.region id l.toArray true).wp P Q a w := by
  simp only [Bool.and_eq_true, decide_eq_true_eq] at hB
  obtain ⟨⟨h1, h2⟩, h3⟩ := hB
  refine wp_region_held (S := S) hm ?_
  have := goM_wp (md := .any) h1 hQ ms _ a _ h2 hS h
  rw [h3] at this
  exact this

/-- A taken one that is wanted. -/
theorem goM_tk {k : Nat} {ms : List HM} {o : Oper} {a : Act} {w : World} (ho : ops[k]? = some o) (hg : Region.wanted o (yielded ops a.tmps) = true) (v : Value) (hv : ∀ w, S w → (execOp a.eval o).run P w = .ok (.value v) w) (h : goM P ops Q S ms (a.put o.dst v) w) : goM P ops Q S (.tk k :: ms) a w :=
  ⟨o, ho, v, .inl ⟨hg, hv⟩, h⟩
/-- One that is not wanted. -/
theorem goM_no {k : Nat} {ms : List HM} {o : Oper} {a : Act} {w : World} (ho : ops[k]? = some o) (hg : Region.wanted o (yielded ops a.tmps) = false) (h : goM P ops Q S ms (a.put o.dst undef) w) : goM P ops Q S (.tk k :: ms) a w :=
  ⟨o, ho, undef, .inr ⟨hg, rfl⟩, h⟩
/-- A load of one cell. -/
theorem goM_ld {k : Nat} {ms : List HM} {o : Oper} {a : Act} {w : World} (ho : ops[k]? = some o) (hg : Region.wanted o (yielded ops a.tmps) = true) (ty : TypeId) (x : Operand) (hop : o.op = .load ty x) (ad : Addr) (v : Value) (hx : a.eval x = .pointer (some ad))
    (hc : ∀ w, S w → w.cell? ad = some v) (hrun : ∀ w, w.cell? ad = some v → (Instr.loadAt ty (.pointer (some ad))).run P w = .ok v w) (h : goM P ops Q S ms (a.put o.dst v) w) : goM P ops Q S (.tk k :: ms) a w :=
  goM_tk ho hg v (fun w hS => by unfold execOp; simp only [hop, hx, Sem.run_bind, hrun w (hc w hS), Result.andThen_ok, Sem.run_pure]) h
/-- A call of a function that returns. -/
theorem goM_enter {k : Nat} {ms : List HM} {o : Oper} {a : Act} {w : World} (ho : ops[k]? = some o) (hg : Region.wanted o (yielded ops a.tmps) = true) (f : FuncId) (args : Array Value) (hrun : (execOp a.eval o).run P w = .ok (.enter f args) w)
    (h : Calls P f args w fun e w' => ∃ u, e = .returned u ∧ S w' ∧ goM P ops Q S ms (a.put o.dst u) w') : goM P ops Q S (.fc k :: ms) a w :=
  ⟨o, ho, wpList_step fun K hK => by
    rw [if_pos hg]
    unfold Oper.wp
    rw [hrun]
    exact h.mono fun e w' ⟨u, he, hs⟩ => by subst he; exact hK _ _ hs⟩
/-- Another one. -/
theorem goM_fc {k : Nat} {ms : List HM} {o : Oper} {a : Act} {w : World} (ho : ops[k]? = some o)
    (h : ∀ K' : Act → World → Prop, (∀ a' w', (S w' ∧ goM P ops Q S ms a' w') → K' a' w') → wpList P ops (Exit.then K' Q) [o] a w) : goM P ops Q S (.fc k :: ms) a w :=
  ⟨o, ho, h _ fun _ _ h => h⟩
theorem goM_end {a : Act} {w : World} (h : Q .normal a w) : goM P ops Q S [] a w := h
/-- The same, the frame written out. -/
theorem goM_tkd {k : Nat} {ms : List HM} {o : Oper} {T : Array Value} {D : List Deferred} {w : World} (ho : ops[k]? = some o) (hg : Region.wanted o (yielded ops T) = true) (d : Nat) (hd : o.dst = some d) (v : Value) (hv : ∀ w, S w → (execOp (Act.eval ⟨T, D⟩) o).run P w = .ok (.value v) w) (h : goM P ops Q S ms ⟨T.setIfInBounds d v, D⟩ w) : goM P ops Q S (.tk k :: ms) ⟨T, D⟩ w :=
  goM_tk ho hg v hv (by rw [hd]; exact h)
theorem goM_ldd {k : Nat} {ms : List HM} {o : Oper} {T : Array Value} {D : List Deferred} {w : World} (ho : ops[k]? = some o) (hg : Region.wanted o (yielded ops T) = true) (d : Nat) (hd : o.dst = some d) (ty : TypeId) (x : Operand) (hop : o.op = .load ty x) (ad : Addr) (v : Value) (hx : Act.eval ⟨T, D⟩ x = .pointer (some ad))
    (hc : ∀ w, S w → w.cell? ad = some v) (hrun : ∀ w, w.cell? ad = some v → (Instr.loadAt ty (.pointer (some ad))).run P w = .ok v w) (h : goM P ops Q S ms ⟨T.setIfInBounds d v, D⟩ w) : goM P ops Q S (.tk k :: ms) ⟨T, D⟩ w :=
  goM_ld ho hg ty x hop ad v hx hc hrun (by rw [hd]; exact h)
theorem goM_nod {k : Nat} {ms : List HM} {o : Oper} {T : Array Value} {D : List Deferred} {w : World} (ho : ops[k]? = some o) (hg : Region.wanted o (yielded ops T) = false) (d : Nat) (hd : o.dst = some d) (h : goM P ops Q S ms ⟨T.setIfInBounds d undef, D⟩ w) : goM P ops Q S (.tk k :: ms) ⟨T, D⟩ w :=
  goM_no ho hg (by rw [hd]; exact h)
theorem goM_call {k : Nat} {ms : List HM} {o : Oper} {T : Array Value} {D : List Deferred} {w : World} (ho : ops[k]? = some o) (hg : Region.wanted o (yielded ops T) = true) (d : Nat) (hd : o.dst = some d) (f : FuncId) (l : List Operand) {ats : Array TypeId} (hop : o.op = .call { callee := .value (.func f), args := l.toArray, argTypes := ats })
    (vs : List Value) (hl : l.map (Act.eval ⟨T, D⟩) = vs) (hen : ∀ args w, (callFunc f args).run P w = .ok (.enter f args) w)
    (h : Calls P f vs.toArray w fun e w' => ∃ u, e = .returned u ∧ S w' ∧ goM P ops Q S ms ⟨T.setIfInBounds d u, D⟩ w') : goM P ops Q S (.fc k :: ms) ⟨T, D⟩ w := by
  refine goM_enter ho hg f vs.toArray ?_ (h.mono fun _ _ ⟨u, h1, h2, h3⟩ => ⟨u, h1, h2, by rw [hd]; exact h3⟩)
  obtain ⟨d', op, ty, pos, af, gd⟩ := o
  simp only at hop
  subst hop
  rw [execOp_call_go]
  have e : (#[] ++ l.toArray.map (Act.eval ⟨T, D⟩) ++ #[] : Array Value) = vs.toArray := by rw [← hl]; simp
  rw [e]
  exact hen _ _
end
end Go.Proofs.Ytoeoablmcelohaa
namespace Go.Proofs.Ytoeoablmcelohaa
open Go Go.RowKit Go.Maps Go.Sort
open DagS (Nd nm pars par ids Wf ancS ancL upto Srt)
open Classical

theorem ld_str (ad : Addr) (v : Value) (W : World) (h : W.cell? ad = some v) : (Instr.loadAt 9 (.pointer (some ad))).run Try.prog W = .ok v W := by go_simp
theorem ld_row (ad : Addr) (v : Value) (W : World) (h : W.cell? ad = some v) : (Instr.loadAt 32 (.pointer (some ad))).run Try.prog W = .ok v W := by go_simp

set_option maxRecDepth 100000 in
set_option maxHeartbeats 4000000 in
theorem answers_c {w : World} {na : Option Addr} {nc : Nat} {ns : List Nd} (hn : GR w na ns) (hl : ns.length ≤ 1048576) (hok : ∀ n ∈ ns, NdOk n) {x y : ByteArray} (hx : x.size ≤ 10000000) (hy : y.size ≤ 10000000)
    {sa ma : Option Addr} {sc mc : Nat} {l m : List ByteArray} (hs : Sl w sa (trow l)) (hsl : l.length ≤ 9000000) (hsz : ∀ s ∈ l, s.size ≤ 10000000) (hm : Sl w ma (trow m)) (hml : m.length ≤ 9000000) (hmz : ∀ s ∈ m, s.size ≤ 10000000) :
    Calls Try.prog 8 #[.slice na ns.length nc, .agg #[.string x, .string y, .slice sa l.length sc, .slice ma m.length mc]] w fun e w' => e = .returned (.bool true) ∧ Below w.heap.size w w' := by
  have hb0 : Below w.heap.size w (w.alloc (.cells #[.string x, .string y, .slice sa l.length sc, .slice ma m.length mc] 48)) := (Below.refl _ w).alloc (Nat.le_refl _) _
  have f0 : (w.alloc (.cells #[.string x, .string y, .slice sa l.length sc, .slice ma m.length mc] 48)).heap[w.heap.size]? = some (.cells #[.string x, .string y, .slice sa l.length sc, .slice ma m.length mc] 48 (0, 0)) := Array.getElem?_push_size
  have HB0 := Lib.hid hb0
  have HN := Lib.hid (hn.below hb0)
  have HS := Lib.hid (hs.below hb0)
  have HM := Lib.hid (hm.below hb0)
  have HOK := Lib.hid hok
  have HSZ := Lib.hid hsz
  have HMZ := Lib.hid hmz
  have F0 := Lib.hid f0
  clear hb0 hn hok f0 hs hm hsz hmz
  go_enter Try.func8, Try.ntmps8
  go_upto_region 1 with fail
  generalize w.alloc (.cells #[.string x, .string y, .slice sa l.length sc, .slice ma m.length mc] 48) = W0 at *
  have HAW := Lib.hid (awake_c W0)
  go_upto_region 3 with (go_at_call 9; refine HAW.out.mono ?_; rintro e w1 ⟨rfl, hb1⟩)
  have hl0 := (Array.getElem?_eq_some_iff.1 F0.out).1
  have f1 := (hb1.block _ hl0).trans F0.out
  have q2 : w1.cell? ⟨w.heap.size, 2, none⟩ = some (.slice sa l.length sc) := by simp only [World.cell?, f1]; rfl
  have q3 : w1.cell? ⟨w.heap.size, 3, none⟩ = some (.slice ma m.length mc) := by simp only [World.cell?, f1]; rfl
  have HB1 := Lib.hid hb1
  have F1 := Lib.hid f1
  clear f1 hb1 HAW hl0
  have hcase : 60 < ns.length ∨ (ns.length ≤ 60 ∧ 20 < l.length) ∨ (ns.length ≤ 60 ∧ l.length ≤ 20 ∧ 20 < m.length) ∨ (ns.length ≤ 60 ∧ l.length ≤ 20 ∧ m.length ≤ 20) := by omega
  rcases hcase with h1 | ⟨h1, h2⟩ | ⟨h1, h2, h3⟩ | ⟨h1, h2, h3⟩
  · have d1 : decide ((ns.length : Int) > 60) = true := decide_eq_true (by omega)
    go_wp2_with fail
    go_ret
    exact ⟨rfl, HB0.out.trans (HB1.out.mono HB0.out.size)⟩
  · have d1 : decide ((ns.length : Int) > 60) = false := decide_eq_false (by omega)
    have d2 : decide ((l.length : Int) > 20) = true := decide_eq_true (by omega)
    go_wp2_with fail
    go_ret
    exact ⟨rfl, HB0.out.trans (HB1.out.mono HB0.out.size)⟩
  · have d1 : decide ((ns.length : Int) > 60) = false := decide_eq_false (by omega)
    have d2 : decide ((l.length : Int) > 20) = false := decide_eq_false (by omega)
    have d3 : decide ((m.length : Int) > 20) = true := decide_eq_true (by omega)
    go_wp2_with fail
    go_ret
    exact ⟨rfl, HB0.out.trans (HB1.out.mono HB0.out.size)⟩
  · have d1 : decide ((ns.length : Int) > 60) = false := decide_eq_false (by omega)
    have d2 : decide ((l.length : Int) > 20) = false := decide_eq_false (by omega)
    have d3 : decide ((m.length : Int) > 20) = false := decide_eq_false (by omega)
    have HBU := Lib.hid (built_c (c := nc) (HN.out.below HB1.out) h1 HOK.out)
    go_upto_region 8 with (go_at_call 10; refine HBU.out.mono ?_; rintro e w3 ⟨p, v, rfl, hg, hv⟩)
    have hg60 := bld_len ns ns.length (Nat.le_refl _)
    rw [List.take_length] at hg60
    obtain ⟨va, vc, rfl, hr⟩ := hv.form
    have hbb := hg.b
    have HA : Hid (AS w1 w3 p (bld ns) va sa ma sc mc w.heap.size x y l m) := ⟨hg, hr, (HS.out.below HB1.out).below hbb, (HM.out.below HB1.out).below hbb, (hbb.block _ (Array.getElem?_eq_some_iff.1 F1.out).1).trans F1.out⟩
    have HWF := Lib.hid hg.wf
    have c0 := HA.out.c0
    have HFI := Lib.hid (find_c (c := vc) hr (by omega) x)
    clear hg hv hr HBU hbb q2 q3 d1 d2 d3 F1 HS HM
    generalize bld ns = g at *
    have hgl : g.length ≤ 1000 := by omega
    have hlp : (DagS.parsL g x).length ≤ 10000000 := by have := pars_len2 HWF.out x; omega
    have hla : (ancL g l).length ≤ 10000000 := by have := anc_len g l; omega
    have hlb : (DagS.basesL g x y).length ≤ 10000000 := by have := bases_len g x y; omega
    have hlt : (DagS.tipsL g l).length ≤ 10000000 := by have := tips_len g l; omega
    have hlm : (DagS.missL g l m).length ≤ 10000000 := by have := miss_len g l m; omega
    have HSZ' := HSZ.out
    have HMZ' := HMZ.out
    have hwf := HWF.out
    have hpar : ∃ pp pc, Sl w3 pp (trow (DagS.parsL g x)) ∧ (DagS.find g x = none ∧ DagS.parsL g x = [] ∧ pp = none ∧ pc = 0 ∨ ∃ (i : Nat) (b o : Nat), DagS.find g x = some i ∧ i < g.length ∧ va = some ⟨b, o, none⟩ ∧ w3.cell? ⟨b, o + i * 2 + 1, none⟩ = some (.slice pp (DagS.parsL g x).length pc)) := by
      cases hf : DagS.find g x with
      | none =>
        have e : DagS.parsL g x = [] := by unfold DagS.parsL; rw [hf]; rfl
        exact ⟨none, 0, by rw [e]; exact .nil _ _, .inl ⟨rfl, e, rfl, rfl⟩⟩
      | some i =>
        have hi := DagS.find_lt hf
        have e : DagS.parsL g x = g[i].pars := by unfold DagS.parsL; rw [hf]; show pars g i = _; unfold pars; rw [List.getElem?_eq_getElem hi]; rfl
        obtain ⟨b, o, pa, pc, e1, _, _, q, hsp⟩ := HA.out.gr.at hi
        exact ⟨pa, pc, by rw [e]; exact hsp, .inr ⟨i, b, o, rfl, hi, e1, by rw [e]; exact q⟩⟩
    obtain ⟨pp, pc, hps, hpc⟩ := hpar
    have HPS := Lib.hid hps
    clear hps
    rcases hpc with ⟨hf, he, rfl, rfl⟩ | ⟨i, b, o, hf, hi, rfl, qp⟩
    · have h1' : decide (nix (DagS.find g x) ≥ 0) = false := by rw [hf]; rfl
      have HSM : Hid (∀ v W, TV W v (DagS.parsL g x) → Below w3.heap.size w3 W → Calls Try.prog 14 #[v, .slice none 0 0] W fun e w' => e = .returned (.bool true) ∧ Below W.heap.size W w') := Lib.hid (fun v W hv hb => same_tn hv he)
      clear he HPS
      generalize nix (DagS.find g x) = z at *
      go_upto_region 12 with (go_at_call 11; refine HFI.out.mono ?_; rintro e w4 ⟨rfl, hw4⟩; obtain rfl := hw4.symm)
      refine wp_region_hm (fun W' => W'.cell? ⟨w.heap.size, 0, none⟩ = some (.string x) ∧ W'.cell? ⟨w.heap.size, 1, none⟩ = some (.string y) ∧ W'.cell? ⟨w.heap.size, 2, none⟩ = some (.slice sa l.length sc) ∧ W'.cell? ⟨w.heap.size, 3, none⟩ = some (.slice ma m.length mc)) [.tk 0, .tk 1, .tk 2, .tk 4, .fc 3, .fc 5, .tk 6, .tk 7, .tk 8, .tk 9, .tk 11, .tk 12, .tk 13, .fc 10, .fc 14, .fc 15, .tk 16, .tk 17, .tk 18, .tk 19, .tk 20, .tk 21, .tk 22, .tk 24, .tk 25, .tk 26, .tk 27, .tk 28, .fc 23, .fc 29, .tk 30, .tk 31, .tk 32, .tk 33, .tk 34, .tk 35, .tk 36, .tk 37, .tk 39, .tk 40, .tk 41, .tk 42, .tk 43, .fc 38, .fc 44, .fc 45, .tk 46, .tk 47, .tk 48, .tk 49, .tk 50, .tk 52, .tk 53, .tk 54, .fc 51, .fc 55, .fc 56, .tk 57, .tk 58, .tk 59, .tk 60, .tk 61, .tk 62, .tk 63, .tk 65, .tk 66, .tk 67, .tk 68, .tk 69, .fc 64, .fc 70, .fc 71, .tk 72, .tk 73] (by kernel_rfl) (by kernel_rfl) (fun _ _ _ _ _ h => h) ⟨HA.out.c0, HA.out.c1, HA.out.c2, HA.out.c3⟩ ?_
      have HA := Lib.hid (HA.out.below (below_dN (Below.refl _ w3) 1))
      refine goM_tkd rfl rfl 46 rfl (.pointer (some ⟨p, 0, none⟩)) (fun _ _ => rfl) ?_
      simp only [List.setIfInBounds_toArray, List.set_cons_zero, List.set_cons_succ]
      refine goM_tkd rfl rfl 47 rfl (.pointer (some ⟨w.heap.size, 0, none⟩)) (fun _ _ => rfl) ?_
      simp only [List.setIfInBounds_toArray, List.set_cons_zero, List.set_cons_succ]
      refine goM_ldd rfl rfl 48 rfl 9 _ rfl ⟨w.heap.size, 0, none⟩ (.string x) rfl (fun _ h => h.1) (ld_str _ _) ?_
      simp only [List.setIfInBounds_toArray, List.set_cons_zero, List.set_cons_succ]
      refine goM_tkd rfl rfl 50 rfl (.slice none 0 0) (fun _ _ => rfl) ?_
      simp only [List.setIfInBounds_toArray, List.set_cons_zero, List.set_cons_succ]
      refine goM_call rfl rfl 49 rfl 17 _ rfl [(.pointer (some ⟨p, 0, none⟩)), (.string x)] rfl (enters_of Try.func17 (by kernel_rfl) rfl) ((HA.out.gn.pars hx).mono ?_)
      rintro e W ⟨v1, rfl, hv, hb⟩
      have HA := Lib.hid (HA.out.below hb)
      have HSM := Lib.hid (HSM.out _ _ hv ((below_dN (Below.refl _ w3) 1).trans hb))
      clear hv hb
      refine ⟨_, rfl, ⟨HA.out.c0, HA.out.c1, HA.out.c2, HA.out.c3⟩, ?_⟩
      simp only [List.setIfInBounds_toArray, List.set_cons_zero, List.set_cons_succ]
      refine goM_call rfl rfl 51 rfl 14 _ rfl [v1, (.slice none 0 0) ] rfl (enters_of Try.func14 (by kernel_rfl) rfl) ((HSM.out).mono ?_)
      rintro e W ⟨rfl, hb⟩
      have HA := Lib.hid (HA.out.below hb)
      clear HSM hb
      refine ⟨_, rfl, ⟨HA.out.c0, HA.out.c1, HA.out.c2, HA.out.c3⟩, ?_⟩
      simp only [List.setIfInBounds_toArray, List.set_cons_zero, List.set_cons_succ]
      refine goM_tkd rfl rfl 52 rfl (.bool true) (fun _ _ => rfl) ?_
      simp only [List.setIfInBounds_toArray, List.set_cons_zero, List.set_cons_succ]
      refine goM_tkd rfl rfl 53 rfl (.pointer (some ⟨p, 0, none⟩)) (fun _ _ => rfl) ?_
      simp only [List.setIfInBounds_toArray, List.set_cons_zero, List.set_cons_succ]
      refine goM_tkd rfl rfl 54 rfl (.pointer (some ⟨w.heap.size, 2, none⟩)) (fun _ _ => rfl) ?_
      simp only [List.setIfInBounds_toArray, List.set_cons_zero, List.set_cons_succ]
      refine goM_ldd rfl rfl 55 rfl 32 _ rfl ⟨w.heap.size, 2, none⟩ (.slice sa l.length sc) rfl (fun _ h => h.2.2.1) (ld_row _ _) ?_
      simp only [List.setIfInBounds_toArray, List.set_cons_zero, List.set_cons_succ]
      refine goM_tkd rfl rfl 57 rfl (.slice va g.length vc) (fun _ _ => rfl) ?_
      simp only [List.setIfInBounds_toArray, List.set_cons_zero, List.set_cons_succ]
      refine goM_tkd rfl rfl 58 rfl (.pointer (some ⟨w.heap.size, 2, none⟩)) (fun _ _ => rfl) ?_
      simp only [List.setIfInBounds_toArray, List.set_cons_zero, List.set_cons_succ]
      refine goM_ldd rfl rfl 59 rfl 32 _ rfl ⟨w.heap.size, 2, none⟩ (.slice sa l.length sc) rfl (fun _ h => h.2.2.1) (ld_row _ _) ?_
      simp only [List.setIfInBounds_toArray, List.set_cons_zero, List.set_cons_succ]
      refine goM_call rfl rfl 56 rfl 15 _ rfl [(.pointer (some ⟨p, 0, none⟩)), (.slice sa l.length sc)] rfl (enters_of Try.func15 (by kernel_rfl) rfl) ((HA.out.gn.anc HA.out.ss hsl HSZ.out).mono ?_)
      rintro e W ⟨v2, rfl, hv, hb⟩
      have HA := Lib.hid (HA.out.below hb)
      have HV := Lib.hid hv
      clear hv hb
      refine ⟨_, rfl, ⟨HA.out.c0, HA.out.c1, HA.out.c2, HA.out.c3⟩, ?_⟩
      simp only [List.setIfInBounds_toArray, List.set_cons_zero, List.set_cons_succ]
      refine goM_call rfl rfl 60 rfl 20 _ rfl [ (.slice va g.length vc) , (.slice sa l.length sc)] rfl (enters_of Try.func20 (by kernel_rfl) rfl) ((ranc_c HA.out.gr hgl HWF.out HA.out.ss hsl).mono ?_)
      rintro e W ⟨v3, rfl, hv, -, hb⟩
      have HA := Lib.hid (HA.out.below hb)
      have HV := Lib.hid (HV.out.below hb)
      have HU := Lib.hid hv
      clear hv hb
      refine ⟨_, rfl, ⟨HA.out.c0, HA.out.c1, HA.out.c2, HA.out.c3⟩, ?_⟩
      simp only [List.setIfInBounds_toArray, List.set_cons_zero, List.set_cons_succ]
      refine goM_call rfl rfl 61 rfl 14 _ rfl [v2, v3] rfl (enters_of Try.func14 (by kernel_rfl) rfl) ((same_tt HV.out HU.out hla).mono ?_)
      rintro e W ⟨rfl, hb⟩
      have HA := Lib.hid (HA.out.below hb)
      clear HV HU hb
      refine ⟨_, rfl, ⟨HA.out.c0, HA.out.c1, HA.out.c2, HA.out.c3⟩, ?_⟩
      simp only [List.setIfInBounds_toArray, List.set_cons_zero, List.set_cons_succ]
      refine goM_tkd rfl rfl 62 rfl (.bool true) (fun _ _ => rfl) ?_
      simp only [List.setIfInBounds_toArray, List.set_cons_zero, List.set_cons_succ]
      refine goM_tkd rfl rfl 63 rfl (.bool true) (fun _ _ => rfl) ?_
      simp only [List.setIfInBounds_toArray, List.set_cons_zero, List.set_cons_succ]
      refine goM_tkd rfl rfl 64 rfl (.pointer (some ⟨p, 0, none⟩)) (fun _ _ => rfl) ?_
      simp only [List.setIfInBounds_toArray, List.set_cons_zero, List.set_cons_succ]
      refine goM_tkd rfl rfl 65 rfl (.pointer (some ⟨w.heap.size, 0, none⟩)) (fun _ _ => rfl) ?_
      simp only [List.setIfInBounds_toArray, List.set_cons_zero, List.set_cons_succ]
      refine goM_ldd rfl rfl 66 rfl 9 _ rfl ⟨w.heap.size, 0, none⟩ (.string x) rfl (fun _ h => h.1) (ld_str _ _) ?_
      simp only [List.setIfInBounds_toArray, List.set_cons_zero, List.set_cons_succ]
      refine goM_tkd rfl rfl 67 rfl (.pointer (some ⟨w.heap.size, 1, none⟩)) (fun _ _ => rfl) ?_
      simp only [List.setIfInBounds_toArray, List.set_cons_zero, List.set_cons_succ]
      refine goM_ldd rfl rfl 68 rfl 9 _ rfl ⟨w.heap.size, 1, none⟩ (.string y) rfl (fun _ h => h.2.1) (ld_str _ _) ?_
      simp only [List.setIfInBounds_toArray, List.set_cons_zero, List.set_cons_succ]
      refine goM_tkd rfl rfl 70 rfl (.slice va g.length vc) (fun _ _ => rfl) ?_
      simp only [List.setIfInBounds_toArray, List.set_cons_zero, List.set_cons_succ]
      refine goM_tkd rfl rfl 71 rfl (.pointer (some ⟨w.heap.size, 0, none⟩)) (fun _ _ => rfl) ?_
      simp only [List.setIfInBounds_toArray, List.set_cons_zero, List.set_cons_succ]
      refine goM_ldd rfl rfl 72 rfl 9 _ rfl ⟨w.heap.size, 0, none⟩ (.string x) rfl (fun _ h => h.1) (ld_str _ _) ?_
      simp only [List.setIfInBounds_toArray, List.set_cons_zero, List.set_cons_succ]
      refine goM_tkd rfl rfl 73 rfl (.pointer (some ⟨w.heap.size, 1, none⟩)) (fun _ _ => rfl) ?_
      simp only [List.setIfInBounds_toArray, List.set_cons_zero, List.set_cons_succ]
      refine goM_ldd rfl rfl 74 rfl 9 _ rfl ⟨w.heap.size, 1, none⟩ (.string y) rfl (fun _ h => h.2.1) (ld_str _ _) ?_
      simp only [List.setIfInBounds_toArray, List.set_cons_zero, List.set_cons_succ]
      refine goM_call rfl rfl 69 rfl 12 _ rfl [(.pointer (some ⟨p, 0, none⟩)), (.string x), (.string y)] rfl (enters_of Try.func12 (by kernel_rfl) rfl) ((HA.out.gn.comes hx hy).mono ?_)
      rintro e W ⟨rfl, hb⟩
      have HA := Lib.hid (HA.out.below hb)
      clear hb
      refine ⟨_, rfl, ⟨HA.out.c0, HA.out.c1, HA.out.c2, HA.out.c3⟩, ?_⟩
      simp only [List.setIfInBounds_toArray, List.set_cons_zero, List.set_cons_succ]
      refine goM_call rfl rfl 75 rfl 21 _ rfl [ (.slice va g.length vc) , (.string x), (.string y)] rfl (enters_of Try.func21 (by kernel_rfl) rfl) ((rcomes_c HA.out.gr hgl HWF.out x y).mono ?_)
      rintro e W ⟨rfl, hb⟩
      have HA := Lib.hid (HA.out.below hb)
      clear hb
      refine ⟨_, rfl, ⟨HA.out.c0, HA.out.c1, HA.out.c2, HA.out.c3⟩, ?_⟩
      simp only [List.setIfInBounds_toArray, List.set_cons_zero, List.set_cons_succ]
      refine goM_tkd rfl rfl 76 rfl (.bool true) (fun _ _ => by cases decide (DagS.Comes g x y) <;> rfl) ?_
      simp only [List.setIfInBounds_toArray, List.set_cons_zero, List.set_cons_succ]
      refine goM_tkd rfl rfl 77 rfl (.bool true) (fun _ _ => rfl) ?_
      simp only [List.setIfInBounds_toArray, List.set_cons_zero, List.set_cons_succ]
      refine goM_tkd rfl rfl 78 rfl (.bool true) (fun _ _ => rfl) ?_
      simp only [List.setIfInBounds_toArray, List.set_cons_zero, List.set_cons_succ]
      refine goM_tkd rfl rfl 79 rfl (.pointer (some ⟨p, 0, none⟩)) (fun _ _ => rfl) ?_
      simp only [List.setIfInBounds_toArray, List.set_cons_zero, List.set_cons_succ]
      refine goM_tkd rfl rfl 80 rfl (.pointer (some ⟨w.heap.size, 0, none⟩)) (fun _ _ => rfl) ?_
      simp only [List.setIfInBounds_toArray, List.set_cons_zero, List.set_cons_succ]
      refine goM_ldd rfl rfl 81 rfl 9 _ rfl ⟨w.heap.size, 0, none⟩ (.string x) rfl (fun _ h => h.1) (ld_str _ _) ?_
      simp only [List.setIfInBounds_toArray, List.set_cons_zero, List.set_cons_succ]
      refine goM_tkd rfl rfl 82 rfl (.pointer (some ⟨w.heap.size, 1, none⟩)) (fun _ _ => rfl) ?_
      simp only [List.setIfInBounds_toArray, List.set_cons_zero, List.set_cons_succ]
      refine goM_ldd rfl rfl 83 rfl 9 _ rfl ⟨w.heap.size, 1, none⟩ (.string y) rfl (fun _ h => h.2.1) (ld_str _ _) ?_
      simp only [List.setIfInBounds_toArray, List.set_cons_zero, List.set_cons_succ]
      refine goM_tkd rfl rfl 85 rfl (.slice va g.length vc) (fun _ _ => rfl) ?_
      simp only [List.setIfInBounds_toArray, List.set_cons_zero, List.set_cons_succ]
      refine goM_tkd rfl rfl 86 rfl (.pointer (some ⟨w.heap.size, 0, none⟩)) (fun _ _ => rfl) ?_
      simp only [List.setIfInBounds_toArray, List.set_cons_zero, List.set_cons_succ]
      refine goM_ldd rfl rfl 87 rfl 9 _ rfl ⟨w.heap.size, 0, none⟩ (.string x) rfl (fun _ h => h.1) (ld_str _ _) ?_
      simp only [List.setIfInBounds_toArray, List.set_cons_zero, List.set_cons_succ]
      refine goM_tkd rfl rfl 88 rfl (.pointer (some ⟨w.heap.size, 1, none⟩)) (fun _ _ => rfl) ?_
      simp only [List.setIfInBounds_toArray, List.set_cons_zero, List.set_cons_succ]
      refine goM_ldd rfl rfl 89 rfl 9 _ rfl ⟨w.heap.size, 1, none⟩ (.string y) rfl (fun _ h => h.2.1) (ld_str _ _) ?_
      simp only [List.setIfInBounds_toArray, List.set_cons_zero, List.set_cons_succ]
      refine goM_call rfl rfl 84 rfl 13 _ rfl [(.pointer (some ⟨p, 0, none⟩)), (.string x), (.string y)] rfl (enters_of Try.func13 (by kernel_rfl) rfl) ((HA.out.gn.bases hx hy).mono ?_)
      rintro e W ⟨v4, rfl, hv, hb⟩
      have HA := Lib.hid (HA.out.below hb)
      have HV := Lib.hid hv
      clear hv hb
      refine ⟨_, rfl, ⟨HA.out.c0, HA.out.c1, HA.out.c2, HA.out.c3⟩, ?_⟩
      simp only [List.setIfInBounds_toArray, List.set_cons_zero, List.set_cons_succ]
      refine goM_call rfl rfl 90 rfl 22 _ rfl [ (.slice va g.length vc) , (.string x), (.string y)] rfl (enters_of Try.func22 (by kernel_rfl) rfl) ((rbases_c HA.out.gr hgl HWF.out x y).mono ?_)
      rintro e W ⟨v5, rfl, hv, hb⟩
      have HA := Lib.hid (HA.out.below hb)
      have HV := Lib.hid (HV.out.below hb)
      have HU := Lib.hid hv
      clear hv hb
      refine ⟨_, rfl, ⟨HA.out.c0, HA.out.c1, HA.out.c2, HA.out.c3⟩, ?_⟩
      simp only [List.setIfInBounds_toArray, List.set_cons_zero, List.set_cons_succ]
      refine goM_call rfl rfl 91 rfl 14 _ rfl [v4, v5] rfl (enters_of Try.func14 (by kernel_rfl) rfl) ((same_tt HV.out HU.out hlb).mono ?_)
      rintro e W ⟨rfl, hb⟩
      have HA := Lib.hid (HA.out.below hb)
      clear HV HU hb
      refine ⟨_, rfl, ⟨HA.out.c0, HA.out.c1, HA.out.c2, HA.out.c3⟩, ?_⟩
      simp only [List.setIfInBounds_toArray, List.set_cons_zero, List.set_cons_succ]
      refine goM_tkd rfl rfl 92 rfl (.bool true) (fun _ _ => rfl) ?_
      simp only [List.setIfInBounds_toArray, List.set_cons_zero, List.set_cons_succ]
      refine goM_tkd rfl rfl 93 rfl (.bool true) (fun _ _ => rfl) ?_
      simp only [List.setIfInBounds_toArray, List.set_cons_zero, List.set_cons_succ]
      refine goM_tkd rfl rfl 94 rfl (.pointer (some ⟨p, 0, none⟩)) (fun _ _ => rfl) ?_
      simp only [List.setIfInBounds_toArray, List.set_cons_zero, List.set_cons_succ]
      refine goM_tkd rfl rfl 95 rfl (.pointer (some ⟨w.heap.size, 2, none⟩)) (fun _ _ => rfl) ?_
      simp only [List.setIfInBounds_toArray, List.set_cons_zero, List.set_cons_succ]
      refine goM_ldd rfl rfl 96 rfl 32 _ rfl ⟨w.heap.size, 2, none⟩ (.slice sa l.length sc) rfl (fun _ h => h.2.2.1) (ld_row _ _) ?_
      simp only [List.setIfInBounds_toArray, List.set_cons_zero, List.set_cons_succ]
      refine goM_tkd rfl rfl 98 rfl (.slice va g.length vc) (fun _ _ => rfl) ?_
      simp only [List.setIfInBounds_toArray, List.set_cons_zero, List.set_cons_succ]
      refine goM_tkd rfl rfl 99 rfl (.pointer (some ⟨w.heap.size, 2, none⟩)) (fun _ _ => rfl) ?_
      simp only [List.setIfInBounds_toArray, List.set_cons_zero, List.set_cons_succ]
      refine goM_ldd rfl rfl 100 rfl 32 _ rfl ⟨w.heap.size, 2, none⟩ (.slice sa l.length sc) rfl (fun _ h => h.2.2.1) (ld_row _ _) ?_
      simp only [List.setIfInBounds_toArray, List.set_cons_zero, List.set_cons_succ]
      refine goM_call rfl rfl 97 rfl 18 _ rfl [(.pointer (some ⟨p, 0, none⟩)), (.slice sa l.length sc)] rfl (enters_of Try.func18 (by kernel_rfl) rfl) ((HA.out.gn.tips HA.out.ss hsl HSZ.out).mono ?_)
      rintro e W ⟨v6, rfl, hv, hb⟩
      have HA := Lib.hid (HA.out.below hb)
      have HV := Lib.hid hv
      clear hv hb
      refine ⟨_, rfl, ⟨HA.out.c0, HA.out.c1, HA.out.c2, HA.out.c3⟩, ?_⟩
      simp only [List.setIfInBounds_toArray, List.set_cons_zero, List.set_cons_succ]
      refine goM_call rfl rfl 101 rfl 23 _ rfl [ (.slice va g.length vc) , (.slice sa l.length sc)] rfl (enters_of Try.func23 (by kernel_rfl) rfl) ((rtips_c HA.out.gr hgl HWF.out HA.out.ss hsl).mono ?_)
      rintro e W ⟨v7, rfl, hv, hb⟩
      have HA := Lib.hid (HA.out.below hb)
      have HV := Lib.hid (HV.out.below hb)
      have HU := Lib.hid hv
      clear hv hb
      refine ⟨_, rfl, ⟨HA.out.c0, HA.out.c1, HA.out.c2, HA.out.c3⟩, ?_⟩
      simp only [List.setIfInBounds_toArray, List.set_cons_zero, List.set_cons_succ]
      refine goM_call rfl rfl 102 rfl 14 _ rfl [v6, v7] rfl (enters_of Try.func14 (by kernel_rfl) rfl) ((same_tt HV.out HU.out hlt).mono ?_)
      rintro e W ⟨rfl, hb⟩
      have HA := Lib.hid (HA.out.below hb)
      clear HV HU hb
      refine ⟨_, rfl, ⟨HA.out.c0, HA.out.c1, HA.out.c2, HA.out.c3⟩, ?_⟩
      simp only [List.setIfInBounds_toArray, List.set_cons_zero, List.set_cons_succ]
      refine goM_tkd rfl rfl 103 rfl (.bool true) (fun _ _ => rfl) ?_
      simp only [List.setIfInBounds_toArray, List.set_cons_zero, List.set_cons_succ]
      refine goM_tkd rfl rfl 104 rfl (.bool true) (fun _ _ => rfl) ?_
      simp only [List.setIfInBounds_toArray, List.set_cons_zero, List.set_cons_succ]
      refine goM_tkd rfl rfl 105 rfl (.pointer (some ⟨p, 0, none⟩)) (fun _ _ => rfl) ?_
      simp only [List.setIfInBounds_toArray, List.set_cons_zero, List.set_cons_succ]
      refine goM_tkd rfl rfl 106 rfl (.pointer (some ⟨w.heap.size, 2, none⟩)) (fun _ _ => rfl) ?_
      simp only [List.setIfInBounds_toArray, List.set_cons_zero, List.set_cons_succ]
      refine goM_ldd rfl rfl 107 rfl 32 _ rfl ⟨w.heap.size, 2, none⟩ (.slice sa l.length sc) rfl (fun _ h => h.2.2.1) (ld_row _ _) ?_
      simp only [List.setIfInBounds_toArray, List.set_cons_zero, List.set_cons_succ]
      refine goM_tkd rfl rfl 108 rfl (.pointer (some ⟨w.heap.size, 3, none⟩)) (fun _ _ => rfl) ?_
      simp only [List.setIfInBounds_toArray, List.set_cons_zero, List.set_cons_succ]
      refine goM_ldd rfl rfl 109 rfl 32 _ rfl ⟨w.heap.size, 3, none⟩ (.slice ma m.length mc) rfl (fun _ h => h.2.2.2) (ld_row _ _) ?_
      simp only [List.setIfInBounds_toArray, List.set_cons_zero, List.set_cons_succ]
      refine goM_tkd rfl rfl 111 rfl (.slice va g.length vc) (fun _ _ => rfl) ?_
      simp only [List.setIfInBounds_toArray, List.set_cons_zero, List.set_cons_succ]
      refine goM_tkd rfl rfl 112 rfl (.pointer (some ⟨w.heap.size, 2, none⟩)) (fun _ _ => rfl) ?_
      simp only [List.setIfInBounds_toArray, List.set_cons_zero, List.set_cons_succ]
      refine goM_ldd rfl rfl 113 rfl 32 _ rfl ⟨w.heap.size, 2, none⟩ (.slice sa l.length sc) rfl (fun _ h => h.2.2.1) (ld_row _ _) ?_
      simp only [List.setIfInBounds_toArray, List.set_cons_zero, List.set_cons_succ]
      refine goM_tkd rfl rfl 114 rfl (.pointer (some ⟨w.heap.size, 3, none⟩)) (fun _ _ => rfl) ?_
      simp only [List.setIfInBounds_toArray, List.set_cons_zero, List.set_cons_succ]
      refine goM_ldd rfl rfl 115 rfl 32 _ rfl ⟨w.heap.size, 3, none⟩ (.slice ma m.length mc) rfl (fun _ h => h.2.2.2) (ld_row _ _) ?_
      simp only [List.setIfInBounds_toArray, List.set_cons_zero, List.set_cons_succ]
      refine goM_call rfl rfl 110 rfl 16 _ rfl [(.pointer (some ⟨p, 0, none⟩)), (.slice sa l.length sc), (.slice ma m.length mc)] rfl (enters_of Try.func16 (by kernel_rfl) rfl) ((HA.out.gn.miss HA.out.ss hsl HSZ.out HA.out.mm hml HMZ.out).mono ?_)
      rintro e W ⟨v8, rfl, hv, hb⟩
      have HA := Lib.hid (HA.out.below hb)
      have HV := Lib.hid hv
      clear hv hb
      refine ⟨_, rfl, ⟨HA.out.c0, HA.out.c1, HA.out.c2, HA.out.c3⟩, ?_⟩
      simp only [List.setIfInBounds_toArray, List.set_cons_zero, List.set_cons_succ]
      refine goM_call rfl rfl 116 rfl 24 _ rfl [ (.slice va g.length vc) , (.slice sa l.length sc), (.slice ma m.length mc)] rfl (enters_of Try.func24 (by kernel_rfl) rfl) ((rmiss_c HA.out.gr hgl HWF.out HA.out.ss hsl HA.out.mm hml).mono ?_)
      rintro e W ⟨v9, rfl, hv, hb⟩
      have HA := Lib.hid (HA.out.below hb)
      have HV := Lib.hid (HV.out.below hb)
      have HU := Lib.hid hv
      clear hv hb
      refine ⟨_, rfl, ⟨HA.out.c0, HA.out.c1, HA.out.c2, HA.out.c3⟩, ?_⟩
      simp only [List.setIfInBounds_toArray, List.set_cons_zero, List.set_cons_succ]
      refine goM_call rfl rfl 117 rfl 14 _ rfl [v8, v9] rfl (enters_of Try.func14 (by kernel_rfl) rfl) ((same_tt HV.out HU.out hlm).mono ?_)
      rintro e W ⟨rfl, hb⟩
      have HA := Lib.hid (HA.out.below hb)
      clear HV HU hb
      refine ⟨_, rfl, ⟨HA.out.c0, HA.out.c1, HA.out.c2, HA.out.c3⟩, ?_⟩
      simp only [List.setIfInBounds_toArray, List.set_cons_zero, List.set_cons_succ]
      refine goM_tkd rfl rfl 118 rfl (.bool true) (fun _ _ => rfl) ?_
      simp only [List.setIfInBounds_toArray, List.set_cons_zero, List.set_cons_succ]
      refine goM_tkd rfl rfl 4 rfl (.bool true) (fun _ _ => rfl) ?_
      simp only [List.setIfInBounds_toArray, List.set_cons_zero, List.set_cons_succ]
      refine goM_end ?_
      go_wp2_with fail
      go_ret
      exact ⟨rfl, HB0.out.trans ((HB1.out.trans (HA.out.gn.b.mono HB1.out.size)).mono HB0.out.size)⟩
    · have h1' : decide (nix (DagS.find g x) ≥ 0) = true := by rw [hf]; exact decide_eq_true (Int.natCast_nonneg i)
      have hix : nix (DagS.find g x) = (i : Int) := by rw [hf]; rfl
      have hi0 : (0 : Int) ≤ (i : Int) := Int.natCast_nonneg i
      have hi1 : (i : Int) < (g.length : Int) := by omega
      rw [hix] at HFI h1'
      have HSM : Hid (∀ v W, TV W v (DagS.parsL g x) → Below w3.heap.size w3 W → Calls Try.prog 14 #[v, .slice pp (DagS.parsL g x).length pc] W fun e w' => e = .returned (.bool true) ∧ Below W.heap.size W w') := Lib.hid (fun v W hv hb => same_ts hv (HPS.out.below hb) hlp)
      clear hix hf HPS
      go_upto_region 12 with (go_at_call 11; refine HFI.out.mono ?_; rintro e w4 ⟨rfl, hw4⟩; obtain rfl := hw4.symm)
      refine wp_region_hm (fun W' => W'.cell? ⟨w.heap.size, 0, none⟩ = some (.string x) ∧ W'.cell? ⟨w.heap.size, 1, none⟩ = some (.string y) ∧ W'.cell? ⟨w.heap.size, 2, none⟩ = some (.slice sa l.length sc) ∧ W'.cell? ⟨w.heap.size, 3, none⟩ = some (.slice ma m.length mc)) [.tk 0, .tk 1, .tk 2, .tk 4, .fc 3, .fc 5, .tk 6, .tk 7, .tk 8, .tk 9, .tk 11, .tk 12, .tk 13, .fc 10, .fc 14, .fc 15, .tk 16, .tk 17, .tk 18, .tk 19, .tk 20, .tk 21, .tk 22, .tk 24, .tk 25, .tk 26, .tk 27, .tk 28, .fc 23, .fc 29, .tk 30, .tk 31, .tk 32, .tk 33, .tk 34, .tk 35, .tk 36, .tk 37, .tk 39, .tk 40, .tk 41, .tk 42, .tk 43, .fc 38, .fc 44, .fc 45, .tk 46, .tk 47, .tk 48, .tk 49, .tk 50, .tk 52, .tk 53, .tk 54, .fc 51, .fc 55, .fc 56, .tk 57, .tk 58, .tk 59, .tk 60, .tk 61, .tk 62, .tk 63, .tk 65, .tk 66, .tk 67, .tk 68, .tk 69, .fc 64, .fc 70, .fc 71, .tk 72, .tk 73] (by kernel_rfl) (by kernel_rfl) (fun _ _ _ _ _ h => h) ⟨HA.out.c0, HA.out.c1, HA.out.c2, HA.out.c3⟩ ?_
      have HA := Lib.hid (HA.out.below (below_dN (Below.refl _ w3) 1))
      refine goM_tkd rfl rfl 46 rfl (.pointer (some ⟨p, 0, none⟩)) (fun _ _ => rfl) ?_
      simp only [List.setIfInBounds_toArray, List.set_cons_zero, List.set_cons_succ]
      refine goM_tkd rfl rfl 47 rfl (.pointer (some ⟨w.heap.size, 0, none⟩)) (fun _ _ => rfl) ?_
      simp only [List.setIfInBounds_toArray, List.set_cons_zero, List.set_cons_succ]
      refine goM_ldd rfl rfl 48 rfl 9 _ rfl ⟨w.heap.size, 0, none⟩ (.string x) rfl (fun _ h => h.1) (ld_str _ _) ?_
      simp only [List.setIfInBounds_toArray, List.set_cons_zero, List.set_cons_succ]
      refine goM_tkd rfl rfl 50 rfl (.slice pp (DagS.parsL g x).length pc) (fun _ _ => rfl) ?_
      simp only [List.setIfInBounds_toArray, List.set_cons_zero, List.set_cons_succ]
      refine goM_call rfl rfl 49 rfl 17 _ rfl [(.pointer (some ⟨p, 0, none⟩)), (.string x)] rfl (enters_of Try.func17 (by kernel_rfl) rfl) ((HA.out.gn.pars hx).mono ?_)
      rintro e W ⟨v1, rfl, hv, hb⟩
      have HA := Lib.hid (HA.out.below hb)
      have HSM := Lib.hid (HSM.out _ _ hv ((below_dN (Below.refl _ w3) 1).trans hb))
      clear hv hb
      refine ⟨_, rfl, ⟨HA.out.c0, HA.out.c1, HA.out.c2, HA.out.c3⟩, ?_⟩
      simp only [List.setIfInBounds_toArray, List.set_cons_zero, List.set_cons_succ]
      refine goM_call rfl rfl 51 rfl 14 _ rfl [v1, (.slice pp (DagS.parsL g x).length pc) ] rfl (enters_of Try.func14 (by kernel_rfl) rfl) ((HSM.out).mono ?_)
      rintro e W ⟨rfl, hb⟩
      have HA := Lib.hid (HA.out.below hb)
      clear HSM hb
      refine ⟨_, rfl, ⟨HA.out.c0, HA.out.c1, HA.out.c2, HA.out.c3⟩, ?_⟩
      simp only [List.setIfInBounds_toArray, List.set_cons_zero, List.set_cons_succ]
      refine goM_tkd rfl rfl 52 rfl (.bool true) (fun _ _ => rfl) ?_
      simp only [List.setIfInBounds_toArray, List.set_cons_zero, List.set_cons_succ]
      refine goM_tkd rfl rfl 53 rfl (.pointer (some ⟨p, 0, none⟩)) (fun _ _ => rfl) ?_
      simp only [List.setIfInBounds_toArray, List.set_cons_zero, List.set_cons_succ]
      refine goM_tkd rfl rfl 54 rfl (.pointer (some ⟨w.heap.size, 2, none⟩)) (fun _ _ => rfl) ?_
      simp only [List.setIfInBounds_toArray, List.set_cons_zero, List.set_cons_succ]
      refine goM_ldd rfl rfl 55 rfl 32 _ rfl ⟨w.heap.size, 2, none⟩ (.slice sa l.length sc) rfl (fun _ h => h.2.2.1) (ld_row _ _) ?_
      simp only [List.setIfInBounds_toArray, List.set_cons_zero, List.set_cons_succ]
      refine goM_tkd rfl rfl 57 rfl (.slice (some ⟨b, o, none⟩) g.length vc) (fun _ _ => rfl) ?_
      simp only [List.setIfInBounds_toArray, List.set_cons_zero, List.set_cons_succ]
      refine goM_tkd rfl rfl 58 rfl (.pointer (some ⟨w.heap.size, 2, none⟩)) (fun _ _ => rfl) ?_
      simp only [List.setIfInBounds_toArray, List.set_cons_zero, List.set_cons_succ]
      refine goM_ldd rfl rfl 59 rfl 32 _ rfl ⟨w.heap.size, 2, none⟩ (.slice sa l.length sc) rfl (fun _ h => h.2.2.1) (ld_row _ _) ?_
      simp only [List.setIfInBounds_toArray, List.set_cons_zero, List.set_cons_succ]
      refine goM_call rfl rfl 56 rfl 15 _ rfl [(.pointer (some ⟨p, 0, none⟩)), (.slice sa l.length sc)] rfl (enters_of Try.func15 (by kernel_rfl) rfl) ((HA.out.gn.anc HA.out.ss hsl HSZ.out).mono ?_)
      rintro e W ⟨v2, rfl, hv, hb⟩
      have HA := Lib.hid (HA.out.below hb)
      have HV := Lib.hid hv
      clear hv hb
      refine ⟨_, rfl, ⟨HA.out.c0, HA.out.c1, HA.out.c2, HA.out.c3⟩, ?_⟩
      simp only [List.setIfInBounds_toArray, List.set_cons_zero, List.set_cons_succ]
      refine goM_call rfl rfl 60 rfl 20 _ rfl [ (.slice (some ⟨b, o, none⟩) g.length vc) , (.slice sa l.length sc)] rfl (enters_of Try.func20 (by kernel_rfl) rfl) ((ranc_c HA.out.gr hgl HWF.out HA.out.ss hsl).mono ?_)
      rintro e W ⟨v3, rfl, hv, -, hb⟩
      have HA := Lib.hid (HA.out.below hb)
      have HV := Lib.hid (HV.out.below hb)
      have HU := Lib.hid hv
      clear hv hb
      refine ⟨_, rfl, ⟨HA.out.c0, HA.out.c1, HA.out.c2, HA.out.c3⟩, ?_⟩
      simp only [List.setIfInBounds_toArray, List.set_cons_zero, List.set_cons_succ]
      refine goM_call rfl rfl 61 rfl 14 _ rfl [v2, v3] rfl (enters_of Try.func14 (by kernel_rfl) rfl) ((same_tt HV.out HU.out hla).mono ?_)
      rintro e W ⟨rfl, hb⟩
      have HA := Lib.hid (HA.out.below hb)
      clear HV HU hb
      refine ⟨_, rfl, ⟨HA.out.c0, HA.out.c1, HA.out.c2, HA.out.c3⟩, ?_⟩
      simp only [List.setIfInBounds_toArray, List.set_cons_zero, List.set_cons_succ]
      refine goM_tkd rfl rfl 62 rfl (.bool true) (fun _ _ => rfl) ?_
      simp only [List.setIfInBounds_toArray, List.set_cons_zero, List.set_cons_succ]
      refine goM_tkd rfl rfl 63 rfl (.bool true) (fun _ _ => rfl) ?_
      simp only [List.setIfInBounds_toArray, List.set_cons_zero, List.set_cons_succ]
      refine goM_tkd rfl rfl 64 rfl (.pointer (some ⟨p, 0, none⟩)) (fun _ _ => rfl) ?_
      simp only [List.setIfInBounds_toArray, List.set_cons_zero, List.set_cons_succ]
      refine goM_tkd rfl rfl 65 rfl (.pointer (some ⟨w.heap.size, 0, none⟩)) (fun _ _ => rfl) ?_
      simp only [List.setIfInBounds_toArray, List.set_cons_zero, List.set_cons_succ]
      refine goM_ldd rfl rfl 66 rfl 9 _ rfl ⟨w.heap.size, 0, none⟩ (.string x) rfl (fun _ h => h.1) (ld_str _ _) ?_
      simp only [List.setIfInBounds_toArray, List.set_cons_zero, List.set_cons_succ]
      refine goM_tkd rfl rfl 67 rfl (.pointer (some ⟨w.heap.size, 1, none⟩)) (fun _ _ => rfl) ?_
      simp only [List.setIfInBounds_toArray, List.set_cons_zero, List.set_cons_succ]
      refine goM_ldd rfl rfl 68 rfl 9 _ rfl ⟨w.heap.size, 1, none⟩ (.string y) rfl (fun _ h => h.2.1) (ld_str _ _) ?_
      simp only [List.setIfInBounds_toArray, List.set_cons_zero, List.set_cons_succ]
      refine goM_tkd rfl rfl 70 rfl (.slice (some ⟨b, o, none⟩) g.length vc) (fun _ _ => rfl) ?_
      simp only [List.setIfInBounds_toArray, List.set_cons_zero, List.set_cons_succ]
      refine goM_tkd rfl rfl 71 rfl (.pointer (some ⟨w.heap.size, 0, none⟩)) (fun _ _ => rfl) ?_
      simp only [List.setIfInBounds_toArray, List.set_cons_zero, List.set_cons_succ]
      refine goM_ldd rfl rfl 72 rfl 9 _ rfl ⟨w.heap.size, 0, none⟩ (.string x) rfl (fun _ h => h.1) (ld_str _ _) ?_
      simp only [List.setIfInBounds_toArray, List.set_cons_zero, List.set_cons_succ]
      refine goM_tkd rfl rfl 73 rfl (.pointer (some ⟨w.heap.size, 1, none⟩)) (fun _ _ => rfl) ?_
      simp only [List.setIfInBounds_toArray, List.set_cons_zero, List.set_cons_succ]
      refine goM_ldd rfl rfl 74 rfl 9 _ rfl ⟨w.heap.size, 1, none⟩ (.string y) rfl (fun _ h => h.2.1) (ld_str _ _) ?_
      simp only [List.setIfInBounds_toArray, List.set_cons_zero, List.set_cons_succ]
      refine goM_call rfl rfl 69 rfl 12 _ rfl [(.pointer (some ⟨p, 0, none⟩)), (.string x), (.string y)] rfl (enters_of Try.func12 (by kernel_rfl) rfl) ((HA.out.gn.comes hx hy).mono ?_)
      rintro e W ⟨rfl, hb⟩
      have HA := Lib.hid (HA.out.below hb)
      clear hb
      refine ⟨_, rfl, ⟨HA.out.c0, HA.out.c1, HA.out.c2, HA.out.c3⟩, ?_⟩
      simp only [List.setIfInBounds_toArray, List.set_cons_zero, List.set_cons_succ]
      refine goM_call rfl rfl 75 rfl 21 _ rfl [ (.slice (some ⟨b, o, none⟩) g.length vc) , (.string x), (.string y)] rfl (enters_of Try.func21 (by kernel_rfl) rfl) ((rcomes_c HA.out.gr hgl HWF.out x y).mono ?_)
      rintro e W ⟨rfl, hb⟩
      have HA := Lib.hid (HA.out.below hb)
      clear hb
      refine ⟨_, rfl, ⟨HA.out.c0, HA.out.c1, HA.out.c2, HA.out.c3⟩, ?_⟩
      simp only [List.setIfInBounds_toArray, List.set_cons_zero, List.set_cons_succ]
      refine goM_tkd rfl rfl 76 rfl (.bool true) (fun _ _ => by cases decide (DagS.Comes g x y) <;> rfl) ?_
      simp only [List.setIfInBounds_toArray, List.set_cons_zero, List.set_cons_succ]
      refine goM_tkd rfl rfl 77 rfl (.bool true) (fun _ _ => rfl) ?_
      simp only [List.setIfInBounds_toArray, List.set_cons_zero, List.set_cons_succ]
      refine goM_tkd rfl rfl 78 rfl (.bool true) (fun _ _ => rfl) ?_
      simp only [List.setIfInBounds_toArray, List.set_cons_zero, List.set_cons_succ]
      refine goM_tkd rfl rfl 79 rfl (.pointer (some ⟨p, 0, none⟩)) (fun _ _ => rfl) ?_
      simp only [List.setIfInBounds_toArray, List.set_cons_zero, List.set_cons_succ]
      refine goM_tkd rfl rfl 80 rfl (.pointer (some ⟨w.heap.size, 0, none⟩)) (fun _ _ => rfl) ?_
      simp only [List.setIfInBounds_toArray, List.set_cons_zero, List.set_cons_succ]
      refine goM_ldd rfl rfl 81 rfl 9 _ rfl ⟨w.heap.size, 0, none⟩ (.string x) rfl (fun _ h => h.1) (ld_str _ _) ?_
      simp only [List.setIfInBounds_toArray, List.set_cons_zero, List.set_cons_succ]
      refine goM_tkd rfl rfl 82 rfl (.pointer (some ⟨w.heap.size, 1, none⟩)) (fun _ _ => rfl) ?_
      simp only [List.setIfInBounds_toArray, List.set_cons_zero, List.set_cons_succ]
      refine goM_ldd rfl rfl 83 rfl 9 _ rfl ⟨w.heap.size, 1, none⟩ (.string y) rfl (fun _ h => h.2.1) (ld_str _ _) ?_
      simp only [List.setIfInBounds_toArray, List.set_cons_zero, List.set_cons_succ]
      refine goM_tkd rfl rfl 85 rfl (.slice (some ⟨b, o, none⟩) g.length vc) (fun _ _ => rfl) ?_
      simp only [List.setIfInBounds_toArray, List.set_cons_zero, List.set_cons_succ]
      refine goM_tkd rfl rfl 86 rfl (.pointer (some ⟨w.heap.size, 0, none⟩)) (fun _ _ => rfl) ?_
      simp only [List.setIfInBounds_toArray, List.set_cons_zero, List.set_cons_succ]
      refine goM_ldd rfl rfl 87 rfl 9 _ rfl ⟨w.heap.size, 0, none⟩ (.string x) rfl (fun _ h => h.1) (ld_str _ _) ?_
      simp only [List.setIfInBounds_toArray, List.set_cons_zero, List.set_cons_succ]
      refine goM_tkd rfl rfl 88 rfl (.pointer (some ⟨w.heap.size, 1, none⟩)) (fun _ _ => rfl) ?_
      simp only [List.setIfInBounds_toArray, List.set_cons_zero, List.set_cons_succ]
      refine goM_ldd rfl rfl 89 rfl 9 _ rfl ⟨w.heap.size, 1, none⟩ (.string y) rfl (fun _ h => h.2.1) (ld_str _ _) ?_
      simp only [List.setIfInBounds_toArray, List.set_cons_zero, List.set_cons_succ]
      refine goM_call rfl rfl 84 rfl 13 _ rfl [(.pointer (some ⟨p, 0, none⟩)), (.string x), (.string y)] rfl (enters_of Try.func13 (by kernel_rfl) rfl) ((HA.out.gn.bases hx hy).mono ?_)
      rintro e W ⟨v4, rfl, hv, hb⟩
      have HA := Lib.hid (HA.out.below hb)
      have HV := Lib.hid hv
      clear hv hb
      refine ⟨_, rfl, ⟨HA.out.c0, HA.out.c1, HA.out.c2, HA.out.c3⟩, ?_⟩
      simp only [List.setIfInBounds_toArray, List.set_cons_zero, List.set_cons_succ]
      refine goM_call rfl rfl 90 rfl 22 _ rfl [ (.slice (some ⟨b, o, none⟩) g.length vc) , (.string x), (.string y)] rfl (enters_of Try.func22 (by kernel_rfl) rfl) ((rbases_c HA.out.gr hgl HWF.out x y).mono ?_)
      rintro e W ⟨v5, rfl, hv, hb⟩
      have HA := Lib.hid (HA.out.below hb)
      have HV := Lib.hid (HV.out.below hb)
      have HU := Lib.hid hv
      clear hv hb
      refine ⟨_, rfl, ⟨HA.out.c0, HA.out.c1, HA.out.c2, HA.out.c3⟩, ?_⟩
      simp only [List.setIfInBounds_toArray, List.set_cons_zero, List.set_cons_succ]
      refine goM_call rfl rfl 91 rfl 14 _ rfl [v4, v5] rfl (enters_of Try.func14 (by kernel_rfl) rfl) ((same_tt HV.out HU.out hlb).mono ?_)
      rintro e W ⟨rfl, hb⟩
      have HA := Lib.hid (HA.out.below hb)
      clear HV HU hb
      refine ⟨_, rfl, ⟨HA.out.c0, HA.out.c1, HA.out.c2, HA.out.c3⟩, ?_⟩
      simp only [List.setIfInBounds_toArray, List.set_cons_zero, List.set_cons_succ]
      refine goM_tkd rfl rfl 92 rfl (.bool true) (fun _ _ => rfl) ?_
      simp only [List.setIfInBounds_toArray, List.set_cons_zero, List.set_cons_succ]
      refine goM_tkd rfl rfl 93 rfl (.bool true) (fun _ _ => rfl) ?_
      simp only [List.setIfInBounds_toArray, List.set_cons_zero, List.set_cons_succ]
      refine goM_tkd rfl rfl 94 rfl (.pointer (some ⟨p, 0, none⟩)) (fun _ _ => rfl) ?_
      simp only [List.setIfInBounds_toArray, List.set_cons_zero, List.set_cons_succ]
      refine goM_tkd rfl rfl 95 rfl (.pointer (some ⟨w.heap.size, 2, none⟩)) (fun _ _ => rfl) ?_
      simp only [List.setIfInBounds_toArray, List.set_cons_zero, List.set_cons_succ]
      refine goM_ldd rfl rfl 96 rfl 32 _ rfl ⟨w.heap.size, 2, none⟩ (.slice sa l.length sc) rfl (fun _ h => h.2.2.1) (ld_row _ _) ?_
      simp only [List.setIfInBounds_toArray, List.set_cons_zero, List.set_cons_succ]
      refine goM_tkd rfl rfl 98 rfl (.slice (some ⟨b, o, none⟩) g.length vc) (fun _ _ => rfl) ?_
      simp only [List.setIfInBounds_toArray, List.set_cons_zero, List.set_cons_succ]
      refine goM_tkd rfl rfl 99 rfl (.pointer (some ⟨w.heap.size, 2, none⟩)) (fun _ _ => rfl) ?_
      simp only [List.setIfInBounds_toArray, List.set_cons_zero, List.set_cons_succ]
      refine goM_ldd rfl rfl 100 rfl 32 _ rfl ⟨w.heap.size, 2, none⟩ (.slice sa l.length sc) rfl (fun _ h => h.2.2.1) (ld_row _ _) ?_
      simp only [List.setIfInBounds_toArray, List.set_cons_zero, List.set_cons_succ]
      refine goM_call rfl rfl 97 rfl 18 _ rfl [(.pointer (some ⟨p, 0, none⟩)), (.slice sa l.length sc)] rfl (enters_of Try.func18 (by kernel_rfl) rfl) ((HA.out.gn.tips HA.out.ss hsl HSZ.out).mono ?_)
      rintro e W ⟨v6, rfl, hv, hb⟩
      have HA := Lib.hid (HA.out.below hb)
      have HV := Lib.hid hv
      clear hv hb
      refine ⟨_, rfl, ⟨HA.out.c0, HA.out.c1, HA.out.c2, HA.out.c3⟩, ?_⟩
      simp only [List.setIfInBounds_toArray, List.set_cons_zero, List.set_cons_succ]
      refine goM_call rfl rfl 101 rfl 23 _ rfl [ (.slice (some ⟨b, o, none⟩) g.length vc) , (.slice sa l.length sc)] rfl (enters_of Try.func23 (by kernel_rfl) rfl) ((rtips_c HA.out.gr hgl HWF.out HA.out.ss hsl).mono ?_)
      rintro e W ⟨v7, rfl, hv, hb⟩
      have HA := Lib.hid (HA.out.below hb)
      have HV := Lib.hid (HV.out.below hb)
      have HU := Lib.hid hv
      clear hv hb
      refine ⟨_, rfl, ⟨HA.out.c0, HA.out.c1, HA.out.c2, HA.out.c3⟩, ?_⟩
      simp only [List.setIfInBounds_toArray, List.set_cons_zero, List.set_cons_succ]
      refine goM_call rfl rfl 102 rfl 14 _ rfl [v6, v7] rfl (enters_of Try.func14 (by kernel_rfl) rfl) ((same_tt HV.out HU.out hlt).mono ?_)
      rintro e W ⟨rfl, hb⟩
      have HA := Lib.hid (HA.out.below hb)
      clear HV HU hb
      refine ⟨_, rfl, ⟨HA.out.c0, HA.out.c1, HA.out.c2, HA.out.c3⟩, ?_⟩
      simp only [List.setIfInBounds_toArray, List.set_cons_zero, List.set_cons_succ]
      refine goM_tkd rfl rfl 103 rfl (.bool true) (fun _ _ => rfl) ?_
      simp only [List.setIfInBounds_toArray, List.set_cons_zero, List.set_cons_succ]
      refine goM_tkd rfl rfl 104 rfl (.bool true) (fun _ _ => rfl) ?_
      simp only [List.setIfInBounds_toArray, List.set_cons_zero, List.set_cons_succ]
      refine goM_tkd rfl rfl 105 rfl (.pointer (some ⟨p, 0, none⟩)) (fun _ _ => rfl) ?_
      simp only [List.setIfInBounds_toArray, List.set_cons_zero, List.set_cons_succ]
      refine goM_tkd rfl rfl 106 rfl (.pointer (some ⟨w.heap.size, 2, none⟩)) (fun _ _ => rfl) ?_
      simp only [List.setIfInBounds_toArray, List.set_cons_zero, List.set_cons_succ]
      refine goM_ldd rfl rfl 107 rfl 32 _ rfl ⟨w.heap.size, 2, none⟩ (.slice sa l.length sc) rfl (fun _ h => h.2.2.1) (ld_row _ _) ?_
      simp only [List.setIfInBounds_toArray, List.set_cons_zero, List.set_cons_succ]
      refine goM_tkd rfl rfl 108 rfl (.pointer (some ⟨w.heap.size, 3, none⟩)) (fun _ _ => rfl) ?_
      simp only [List.setIfInBounds_toArray, List.set_cons_zero, List.set_cons_succ]
      refine goM_ldd rfl rfl 109 rfl 32 _ rfl ⟨w.heap.size, 3, none⟩ (.slice ma m.length mc) rfl (fun _ h => h.2.2.2) (ld_row _ _) ?_
      simp only [List.setIfInBounds_toArray, List.set_cons_zero, List.set_cons_succ]
      refine goM_tkd rfl rfl 111 rfl (.slice (some ⟨b, o, none⟩) g.length vc) (fun _ _ => rfl) ?_
      simp only [List.setIfInBounds_toArray, List.set_cons_zero, List.set_cons_succ]
      refine goM_tkd rfl rfl 112 rfl (.pointer (some ⟨w.heap.size, 2, none⟩)) (fun _ _ => rfl) ?_
      simp only [List.setIfInBounds_toArray, List.set_cons_zero, List.set_cons_succ]
      refine goM_ldd rfl rfl 113 rfl 32 _ rfl ⟨w.heap.size, 2, none⟩ (.slice sa l.length sc) rfl (fun _ h => h.2.2.1) (ld_row _ _) ?_
      simp only [List.setIfInBounds_toArray, List.set_cons_zero, List.set_cons_succ]
      refine goM_tkd rfl rfl 114 rfl (.pointer (some ⟨w.heap.size, 3, none⟩)) (fun _ _ => rfl) ?_
      simp only [List.setIfInBounds_toArray, List.set_cons_zero, List.set_cons_succ]
      refine goM_ldd rfl rfl 115 rfl 32 _ rfl ⟨w.heap.size, 3, none⟩ (.slice ma m.length mc) rfl (fun _ h => h.2.2.2) (ld_row _ _) ?_
      simp only [List.setIfInBounds_toArray, List.set_cons_zero, List.set_cons_succ]
      refine goM_call rfl rfl 110 rfl 16 _ rfl [(.pointer (some ⟨p, 0, none⟩)), (.slice sa l.length sc), (.slice ma m.length mc)] rfl (enters_of Try.func16 (by kernel_rfl) rfl) ((HA.out.gn.miss HA.out.ss hsl HSZ.out HA.out.mm hml HMZ.out).mono ?_)
      rintro e W ⟨v8, rfl, hv, hb⟩
      have HA := Lib.hid (HA.out.below hb)
      have HV := Lib.hid hv
      clear hv hb
      refine ⟨_, rfl, ⟨HA.out.c0, HA.out.c1, HA.out.c2, HA.out.c3⟩, ?_⟩
      simp only [List.setIfInBounds_toArray, List.set_cons_zero, List.set_cons_succ]
      refine goM_call rfl rfl 116 rfl 24 _ rfl [ (.slice (some ⟨b, o, none⟩) g.length vc) , (.slice sa l.length sc), (.slice ma m.length mc)] rfl (enters_of Try.func24 (by kernel_rfl) rfl) ((rmiss_c HA.out.gr hgl HWF.out HA.out.ss hsl HA.out.mm hml).mono ?_)
      rintro e W ⟨v9, rfl, hv, hb⟩
      have HA := Lib.hid (HA.out.below hb)
      have HV := Lib.hid (HV.out.below hb)
      have HU := Lib.hid hv
      clear hv hb
      refine ⟨_, rfl, ⟨HA.out.c0, HA.out.c1, HA.out.c2, HA.out.c3⟩, ?_⟩
      simp only [List.setIfInBounds_toArray, List.set_cons_zero, List.set_cons_succ]
      refine goM_call rfl rfl 117 rfl 14 _ rfl [v8, v9] rfl (enters_of Try.func14 (by kernel_rfl) rfl) ((same_tt HV.out HU.out hlm).mono ?_)
      rintro e W ⟨rfl, hb⟩
      have HA := Lib.hid (HA.out.below hb)
      clear HV HU hb
      refine ⟨_, rfl, ⟨HA.out.c0, HA.out.c1, HA.out.c2, HA.out.c3⟩, ?_⟩
      simp only [List.setIfInBounds_toArray, List.set_cons_zero, List.set_cons_succ]
      refine goM_tkd rfl rfl 118 rfl (.bool true) (fun _ _ => rfl) ?_
      simp only [List.setIfInBounds_toArray, List.set_cons_zero, List.set_cons_succ]
      refine goM_tkd rfl rfl 4 rfl (.bool true) (fun _ _ => rfl) ?_
      simp only [List.setIfInBounds_toArray, List.set_cons_zero, List.set_cons_succ]
      refine goM_end ?_
      go_wp2_with fail
      go_ret
      exact ⟨rfl, HB0.out.trans ((HB1.out.trans (HA.out.gn.b.mono HB1.out.size)).mono HB0.out.size)⟩
end Go.Proofs.Ytoeoablmcelohaa
namespace Go.Proofs.Ytoeoablmcelohaa
open Go Go.ChangeShapes Go.WideShapes Go.ChangeAt Go.RowKit
open DagS (Nd nm pars)

/-- An ask. -/
structure AskQ where
  x : ByteArray
  y : ByteArray
  sa : Option Addr
  sc : Nat
  l : List ByteArray
  ma : Option Addr
  mc : Nat
  m : List ByteArray
def askCells (o : AskQ) : List Value := [.string o.x, .string o.y, .slice o.sa o.l.length o.sc, .slice o.ma o.m.length o.mc]
structure AskR (W : World) (o : AskQ) (b : Nat) : Prop where
  sl : Sl W o.sa (trow o.l)
  ml : Sl W o.ma (trow o.m)
  xz : o.x.size < b
  yz : o.y.size < b
  ln : o.l.length < b
  mn : o.m.length < b
  lz : ∀ s ∈ o.l, s.size < b
  mz : ∀ s ∈ o.m, s.size < b
theorem len4 {α : Type} {l : List α} (h : l.length = 4) : ∃ a b c d, l = [a, b, c, d] := by
  match l, h with
  | [a, b, c, d], _ => exact ⟨a, b, c, d, rfl⟩

set_option maxRecDepth 100000 in
theorem open_ask {H : Type} {enc : TypeId × Value → H} {W : World} {base : Nat} {v : Value} {d : DataW H} {p : List MemPlace} (hv : Value.okWide Try.prog W .any base 48 v)
    (h : DataW.Trod enc Try.prog W 0 (fun _ => true) true 48 v d p) (hk : Rows.uptoBulk d ≤ 1048576) : ∃ o : AskQ, v = .agg #[.string o.x, .string o.y, .slice o.sa o.l.length o.sc, .slice o.ma o.m.length o.mc] ∧ AskR W o 1048576 := by
  have ht := Try.underlying48
  simp only [Value.okWide, ht] at hv
  obtain ⟨cs, rfl, _⟩ := hv
  obtain ⟨n, h⟩ := h
  obtain ⟨xs, m, -, hx, hl, hxl, hf⟩ := DataW.trod_struct ht h
  obtain ⟨x0, x1, x2, x3, rfl⟩ := len4 hxl
  have hl : cs.toList.length = 4 := hl.trans (by kernel_rfl)
  obtain ⟨a0, a1, a2, a3, e⟩ := len4 hl
  change (Value.cells (.agg cs)).toList = _ at e
  rw [e] at hf
  obtain ⟨k0, e0, b0⟩ := opn_str (W := W) Try.underlying9 m _ x0 (hf 0 _ rfl)
  obtain ⟨k1, e1, b1⟩ := opn_str (W := W) Try.underlying9 m _ x1 (hf 1 _ rfl)
  obtain ⟨⟨sa, sc, l⟩, e2, s1, s2, s3⟩ := opn_strs (W := W) m _ x2 (hf 2 _ rfl)
  obtain ⟨⟨ma, mc, l2⟩, e3, m1, m2, m3⟩ := opn_strs (W := W) m _ x3 (hf 3 _ rfl)
  obtain rfl := (List.cons.inj e0).1
  obtain rfl := (List.cons.inj e1).1
  obtain rfl := (List.cons.inj e2).1
  obtain rfl := (List.cons.inj e3).1
  have hb : Rows.uptoBulk d = Rows.uptoBulk x0.1 + (Rows.uptoBulk x1.1 + (Rows.uptoBulk x2.1 + (Rows.uptoBulk x3.1 + 0))) + 1 := by
    have := congrArg Prod.fst hx
    simp only at this
    rw [this]; simp only [Rows.uptoBulk, Rows.uptoBulkAll, List.map_cons, List.map_nil]
  simp only at s2 m2
  refine ⟨⟨k0, k1, sa, sc, l, ma, mc, l2⟩, ?_, s1, m1, ?_, ?_, ?_, ?_, fun s hs => ?_, fun s hs => ?_⟩
  · congr 1
    exact Array.toList_inj.1 e
  · show k0.size < _; omega
  · show k1.size < _; omega
  · show l.length < _; omega
  · show l2.length < _; omega
  · have := s3 s hs; omega
  · have := m3 s hs; omega

theorem answers_q {w : World} {na : Option Addr} {nc : Nat} {ns : List Nd} (hn : GR w na ns) (hl : ns.length ≤ 1048576) (hok : ∀ n ∈ ns, NdOk n) (o : AskQ) (h : AskR w o 1048576) :
    Calls Try.prog 8 #[.slice na ns.length nc, .agg #[.string o.x, .string o.y, .slice o.sa o.l.length o.sc, .slice o.ma o.m.length o.mc]] w fun e w' => e = .returned (.bool true) ∧ Below w.heap.size w w' :=
  answers_c hn hl hok (by have := h.xz; omega) (by have := h.yz; omega) h.sl (by have := h.ln; omega) (fun s hs => by have := h.lz s hs; omega) h.ml (by have := h.mn; omega) (fun s hs => by have := h.mz s hs; omega)
end Go.Proofs.Ytoeoablmcelohaa
namespace Go.Proofs.Ytoeoablmcelohaa.dagAnswers
open Go.ChangeShapes Go.WideShapes Go.ChangeAt Go.RowKit
open Go.WideMaps Go.WideElems
open Go.ChangeMaps (open_string shut_string)

theorem reads (os : Os) {H : Type} (enc : TypeId × Value → H) : ∃ places, DataW.whole enc Try.prog ((laidWorld os).forCall (fun _ _ => 0) ⟨#[], #[Value.slice none 0 0, .agg #[.string ByteArray.empty, .string ByteArray.empty, .slice none 0 0, .slice none 0 0]], []⟩).memory Try.f8.params.toList Rows.dagAnswersSpec.vars false (#[Value.slice none 0 0, .agg #[.string ByteArray.empty, .string ByteArray.empty, .slice none 0 0, .slice none 0 0]] : Array Value).toList 8 = some ([.nil, .agg [.lit (.string []), .lit (.string []), .nil, .nil]], [], places) :=
  ⟨[], by kernel_rfl⟩

set_option maxRecDepth 100000 in
theorem contract (H : Type) (enc : TypeId × Value → H) (W : World) (base : Nat) (args : Array Value) (ds : List (DataW H)) (p : List MemPlace)
    (hval : ∀ (j : Nat) t v, Try.f8.params[j]? = some t → args[j]? = some v → Value.okWide Try.prog W .any base t v)
    (hA : DataW.TrodAll enc Try.prog W 0 (fun _ => true) true Try.f8.params.toList args.toList ds p) (hk : Rows.uptoSmall H ds = true) (_hL : laidMetH Try.prog Rows.dagAnswersUptoRow.laid W) (_hshape : W.ShapedOpen Try.prog) :
    Calls Try.prog 8 args W fun e W' => e = .returned (.bool true) ∧ Below W.heap.size W W' := by
  rw [Try.params8] at hA hval
  obtain ⟨v0, vs0, d0, ds0, p0, q0, hargs0, rfl, rfl, h0, r0⟩ := trodAll_cons hA
  obtain ⟨v1, vs1, d1, ds1, p1, q1, hargs1, rfl, rfl, h1, r1⟩ := trodAll_cons r0
  obtain ⟨rfl, rfl, rfl⟩ := trodAll_nil r1
  rw [hargs1] at hargs0
  obtain rfl : args = #[v0, v1] := by cases args; simp_all
  have k0 := bulk_mem hk (d := d0) (by simp)
  obtain ⟨a0, c0, x0, rfl, g0, l0, z0⟩ := open_nds (hval 0 22 v0 rfl rfl) h0 k0
  have k1 := bulk_mem hk (d := d1) (by simp)
  obtain ⟨x1, rfl, z1⟩ := open_ask (hval 1 48 v1 rfl rfl) h1 k1
  exact answers_q g0 l0 z0 x1 z1

set_option maxRecDepth 100000 in
theorem lifted (os : Os) (started : os.Started) (H : Type) (enc : TypeId × Value → H) (F : Stop.Interp) :
    ReturnsInHanded {} Try.checked os 8 .any ((Rows.OpenSpec.upto Rows.dagAnswersSpec).preRow enc Try.prog Try.f8 Rows.dagAnswersUptoRow.domain false Rows.dagAnswersUptoRow.laid) (((Rows.OpenSpec.upto Rows.dagAnswersSpec).at F).post enc Try.prog Try.f8 false true false false) := by
  obtain ⟨places, hx⟩ := reads os enc
  refine law_lifted (laid := Rows.dagAnswersUptoRow.laid) started Try.func8 (by kernel_rfl) rfl rfl ?_ (by kernel_rfl) ?_ ?_ ?_
  · intro ds h
    match ds, h with
    | [_, _], _ => rfl
  · rw [Try.params8]
    intro t ht
    have ht : t ∈ [22, 48] := ht
    simp only [List.mem_cons, List.mem_nil_iff, or_false] at ht
    rcases ht with rfl | rfl <;> exact ⟨by kernel_rfl, of_decide_eq_true (by kernel_rfl)⟩
  · exact witness_row_at (enc := enc) (C := Try.checked) false (laidWorld os) #[Value.slice none 0 0, .agg #[.string ByteArray.empty, .string ByteArray.empty, .slice none 0 0, .slice none 0 0]] rfl (by kernel_rfl) (by kernel_rfl) (by kernel_rfl)
      (OpenSpec.preRow_of_cond 8 hx (by kernel_rfl) (fun k hk => by cases hk; kernel_rfl) (by kernel_rfl) (laid_met os _))
  · exact contract H enc

theorem saidUpto : Rows.DagAnswersUptoSaid :=
  OpenClaim.holds_of_cond 8 Try.f8 rfl rfl rfl rfl rfl rfl rfl ⟨rfl, rfl, rfl, rfl, rfl⟩ rfl rfl rfl rfl rfl (by kernel_rfl) Try.func8 (by kernel_rfl)
    (of_decide_eq_true (by kernel_rfl)) (by unfold Func.isWrapper; rw [if_neg (by decide +kernel)]; exact ⟨rfl, rfl⟩)
    (fun os started H enc _ F => by rw [OpenClaim.pre_eq_preRow]; exact lifted os started H enc F)

end Go.Proofs.Ytoeoablmcelohaa.dagAnswers
