/- Texts of mine, joined: slices.Sorted(slices.Values(x)) over texts: what it hands back. | Texts sorted and compacted: slices.Sort, Compact, Sorted over rows of one's own. | A region that draws its order: its head reads and calls quietly (callees may draw), its tail stands in one order and may write: one walk serves. Of every program. -/
import Derived.RangeFuncBox
import Derived.RangeFuncLeaves
import Derived.Shelf.Abstract
import Derived.WalkKit
import Derived.OwnWalkIn
import Derived.TacticsInMore
import Derived.LoopNIn
import Derived.LoopIn
import Derived.Maps.AppendAt
import Derived.Test.YtoeoablmcelohaaShelf
import Derived.Lib.SlicesCompact
import Derived.StillTailTactics
import Derived.Deep.QuietTactic
import Derived.Test.YtoeoablmcelohaaZ7
namespace Go.Proofs
open Go.RowKit Go.Shelf

attribute [local go_sem] Oper.semAt_some

namespace Ytoeoablmcelohaa
/-- What has come when k rounds are over. -/
def upTo {α : Type} (f : Nat → α) (k : Nat) : List α := (List.range k).map f
theorem upTo_succ {α : Type} (f : Nat → α) (k : Nat) : upTo f (k + 1) = upTo f k ++ [f k] := by simp [upTo, List.range_succ]
theorem upTo_length {α : Type} (f : Nat → α) (k : Nat) : (upTo f k).length = k := by simp [upTo]
theorem upTo_take (zs : List ByteArray) {k : Nat} (hk : k ≤ zs.length) : upTo (fun j => zs[j]?.getD ByteArray.empty) k = zs.take k := by
  apply List.ext_getElem
  · simp [upTo, hk]
  · intro i h1 h2
    have : i < zs.length := by simp [upTo] at h1; omega
    simp [upTo, this]

set_option maxRecDepth 100000 in
set_option maxHeartbeats 2000000 in
/-- slices.Values's closure, for every loop body that keeps what lay below n0. -/
theorem values1_in (F : Fence) (n : Nat) (h7 : F.fn 52) (hro : F.round = none) (hn : 1 ≤ n) (l Bs n0 b off len cap : Nat) (zs : List ByteArray) (hreach : len * 16 ≤ 140737488351232) (hb : b < n0) (J Jx : List ByteArray → World → Prop)
    (hY : ∀ pre x W, J pre W → pre.length < len → YieldAt F (n - 1) Try.prog l #[.string x] W fun e W' =>
      (e = .returned (.bool true) ∧ J (pre ++ [x]) W' ∧ Below n0 W W') ∨ (e = .returned (.bool false) ∧ Jx (pre ++ [x]) W'))
    (W : World) (hBs : W.cell? ⟨Bs, 0, none⟩ = some (.slice (some ⟨b, off, none⟩) len cap)) (hc : ∀ j, j < len → W.cell? ⟨b, off + j, none⟩ = some (.string (zs[j]?.getD ByteArray.empty))) (h0 : J [] W) :
    CallsIn F n Try.prog 52 #[.func (.yield l) #[] #[], .pointer (some ⟨Bs, 0, none⟩)] W fun e W' => (∃ v, e = .returned v) ∧
      ((∃ ys, ys = upTo (fun j => zs[j]?.getD ByteArray.empty) len ∧ J ys W') ∨ (∃ pre, (∃ k, k ≤ len ∧ pre = upTo (fun j => zs[j]?.getD ByteArray.empty) k) ∧ Jx pre W')) := by
  refine callsIn_of_wp Try.func52 rfl h7 ?_ hro
  simp only [Try.ntmps52, List.size_toArray, List.length_cons, List.length_nil, Nat.reduceAdd, Nat.reduceSub, Array.replicate_succ, Array.replicate_zero, List.push_toArray, List.append_toArray, List.nil_append, List.cons_append]
  gi_wp2
  gi_loopw [7] (fun i wr => ∃ k : Nat, k ≤ len ∧ i = .int .i64 k ∧ J (upTo (fun j => zs[j]?.getD ByteArray.empty) k) wr ∧ Below n0 W wr)
    (fun i _ => len - (intOf i).toNat)
  case atStart => exact ⟨0, Nat.zero_le _, rfl, h0, Below.refl _ _⟩
  case round =>
    obtain ⟨k, hk, rfl, hJs, hnx⟩ := hrel
    have hcx : k < len → wr.cell? ⟨b, off + k, none⟩ = some (.string (zs[k]?.getD ByteArray.empty)) := fun h => (hnx.cell (p := ⟨b, off + k, none⟩) hb).trans (hc k h)
    by_cases hlt : k < len
    · obtain ⟨fn, tmps, assign, body, hy, hR⟩ := hY _ (zs[k]?.getD ByteArray.empty) wr hJs (by rw [upTo_length]; exact hlt)
      have hcx' := hcx hlt
      gi_wp2
      refine hR.mono ?_
      rintro e W3 (⟨rfl, hJ3, hk3⟩ | ⟨rfl, hJx3⟩)
      · gi_wp2
        go_roundw
        case rel => exact ⟨k + 1, by omega, by simp, by rw [upTo_succ]; exact hJ3, hnx.trans hk3⟩
        case measure => simp [intOf]; omega
      · gi_wp2
        refine bodyPost_ret (results_none rfl _ _ _) rfl ?_
        exact ⟨⟨_, rfl⟩, .inr ⟨_, ⟨k + 1, by omega, (upTo_succ _ _).symm⟩, hJx3⟩⟩
    · obtain rfl : k = len := by omega
      gi_wp2
      go_end0
      exact ⟨⟨_, rfl⟩, .inl ⟨_, rfl, hJs⟩⟩

/-- The slice value holds the texts zs, in a block below n0; or there are none and it is nil. -/
def Texts (n0 : Nat) (W : World) (sv : Value) (zs : List ByteArray) : Prop :=
  (∃ a cap, sv = .slice a 0 cap ∧ zs = []) ∨ ∃ b off cap, sv = .slice (some ⟨b, off, none⟩) zs.length cap ∧ b < n0 ∧ ∀ j, j < zs.length → W.cell? ⟨b, off + j, none⟩ = some (.string (zs[j]?.getD ByteArray.empty))
theorem Texts.below {n0 : Nat} {A B : World} (h : Below n0 A B) {sv : Value} {zs : List ByteArray} : Texts n0 A sv zs → Texts n0 B sv zs
  | .inl e => .inl e
  | .inr ⟨b, off, cap, e, hb, hc⟩ => .inr ⟨b, off, cap, e, hb, fun j hj => (h.cell (p := ⟨b, off + j, none⟩) hb).trans (hc j hj)⟩

set_option maxRecDepth 100000 in
set_option maxHeartbeats 1000000 in
/-- .. at the nil slice: no round. -/
theorem values1_nil_in (F : Fence) (n : Nat) (h7 : F.fn 52) (hro : F.round = none) (l Bs cap : Nat) (a : Option Addr) (J : List ByteArray → World → Prop) (W : World) (hBs : W.cell? ⟨Bs, 0, none⟩ = some (.slice a 0 cap)) (h0 : J [] W) :
    CallsIn F n Try.prog 52 #[.func (.yield l) #[] #[], .pointer (some ⟨Bs, 0, none⟩)] W fun e W' => (∃ v, e = .returned v) ∧ J [] W' := by
  refine callsIn_of_wp Try.func52 rfl h7 ?_ hro
  simp only [Try.ntmps52, List.size_toArray, List.length_cons, List.length_nil, Nat.reduceAdd, Nat.reduceSub, Array.replicate_succ, Array.replicate_zero, List.push_toArray, List.append_toArray, List.nil_append, List.cons_append]
  gi_wp2
  gi_loopw [7] (fun i wr => i = .int .i64 0 ∧ J [] wr) (fun _ _ => 0)
  case atStart => exact ⟨rfl, h0⟩
  case round =>
    obtain ⟨rfl, hJs⟩ := hrel
    gi_wp2
    go_end0
    exact ⟨⟨_, rfl⟩, hJs⟩

set_option maxHeartbeats 1000000 in
/-- slices.Values(s): the slice value is boxed; the function value captures the box. -/
theorem values_in (F : Fence) (n : Nat) (h5 : F.fn 42) (hro : F.round = none) (a : Option Addr) (len cap : Nat) (w : World) :
    CallsIn F n Try.prog 42 #[.slice a len cap] w fun e w' => e = .returned (.func (.func 52) #[] #[.pointer (some ⟨w.heap.size, 0, none⟩)]) ∧ w' = w.alloc (.cells #[.slice a len cap] 32) := by
  refine callsIn_of_wp Try.func42 rfl h5 ?_ hro
  simp only [Try.ntmps42, List.size_toArray, List.length_cons, List.length_nil, Nat.reduceAdd, Nat.reduceSub, Array.replicate_succ, Array.replicate_zero, List.push_toArray, List.append_toArray, List.nil_append, List.cons_append]
  gi_wp2
  go_ret
  exact ⟨rfl, rfl⟩

theorem values_stops (F : Fence) (n : Nat) (h7 : F.fn 52) (hro : F.round = none) (hn : 1 ≤ n) (Bs n0 : Nat) (sv : Value) (zs : List ByteArray) (hreach : zs.length * 16 ≤ 140737488351232) (w : World) (hBs : Bs < w.heap.size) (hn0 : n0 ≤ w.heap.size)
    (hc : w.cell? ⟨Bs, 0, none⟩ = some sv) (hI : Texts n0 w sv zs) :
    SeqStopsK F n Try.prog 52 #[.pointer (some ⟨Bs, 0, none⟩)] (fun x : ByteArray => #[Value.string x]) (Below n0) (fun ys => ys = zs) (fun pre => pre <+: zs) zs.length w := fun l J Jx W hW _ _ hY h0 => by
  have hc' := (hW.cell (p := ⟨Bs, 0, none⟩) hBs).trans hc
  rcases hI.below (hW.mono hn0) with ⟨a, cap, rfl, rfl⟩ | ⟨b, off, cap, rfl, hb, hcs⟩
  · exact (values1_nil_in F n h7 hro l Bs cap a J W hc' h0).mono fun e W' ⟨he, hj⟩ => ⟨he, .inl ⟨_, rfl, hj⟩⟩
  · refine (values1_in F n h7 hro hn l Bs n0 b off zs.length cap zs hreach hb J Jx hY W hc' hcs h0).mono ?_
    rintro e W' ⟨he, ⟨ys, rfl, hj⟩ | ⟨pre, ⟨k, hk, rfl⟩, hj⟩⟩
    · exact ⟨he, .inl ⟨_, by rw [upTo_take zs (Nat.le_refl _), List.take_length], hj⟩⟩
    · exact ⟨he, .inr ⟨_, by rw [upTo_take zs hk]; exact List.take_prefix _ _, hj⟩⟩

theorem infoStr : (Try.prog.info? 9).map (fun i => (i.zero, i.size, i.bytes)) = some (some (.string ByteArray.empty), 1, 16) := by kernel_rfl

set_option maxRecDepth 100000 in
set_option maxHeartbeats 2000000 in
/-- slices.AppendSeq(nil, slices.Values(zs)): a slice that owns zs. -/
theorem appendSeq_v (F : Fence) (n : Nat) (h3 : F.fn 65) (h5 : F.fn 52) (hro : F.round = none) (hn : 3 ≤ n) (Bs n0 : Nat) (sv : Value) (zs : List ByteArray) (hlen : zs.length ≤ 10000000) (w : World) (hBs : Bs < w.heap.size) (hn0 : n0 ≤ w.heap.size)
    (hc : w.cell? ⟨Bs, 0, none⟩ = some sv) (hI : Texts n0 w sv zs) :
    CallsIn F n Try.prog 65 #[.slice none 0 0, .func (.func 52) #[] #[.pointer (some ⟨Bs, 0, none⟩)]] w fun e W' => ∃ v, e = .returned v ∧ W'.ownsRow w.heap.size 9 1 v zs.length (zs.map Value.string) ∧ (v = .slice none 0 0 ↔ zs = []) ∧ Below w.heap.size w W' := by
  have h1 : 1 ≤ n := by omega
  have hml : zs.length ≤ maxLen := Nat.le_trans hlen (by decide)
  have hmb : zs.length * 16 ≤ 140737488355328 := by omega
  obtain ⟨i0, hi, hz0, hz1, hz2⟩ := info_parts infoStr
  refine callsIn_of_wp_marks Try.func65 rfl h3 ?_ hro
  simp only [Try.ntmps65, List.size_toArray, List.length_cons, List.length_nil, Nat.reduceAdd, Nat.reduceSub, Array.replicate_succ, Array.replicate_zero, List.push_toArray, List.append_toArray, List.nil_append, List.cons_append]
  gi_wp2
  have bO := Boxed.new w 32 (.slice none 0 0)
  have hB0 : Below w.heap.size w (w.alloc (.cells #[.slice none 0 0] 32)) := (Below.refl _ w).alloc (Nat.le_refl _) _
  refine wpIn_rangeFunc_ownG hro h1 (gf := 52) (lb := #[.pointer (some ⟨Bs, 0, none⟩)]) rfl h5 (enters_of Try.func52 (by kernel_rfl) rfl)
    (values_stops F (n - 1) h5 hro (by omega) Bs n0 sv zs (by omega) _ (by simp; omega) (by simp; omega) ((hB0.cell (p := ⟨Bs, 0, none⟩) hBs).trans hc) (hI.below (hB0.mono hn0))) belowK_t (belowK_b (by simp; omega)) (Below.refl _ _) (fun _ => rfl)
    (fun pre W => (∃ v, Boxed W w.heap.size 32 v ∧ W.ownsRow w.heap.size 9 1 v pre.length (pre.map Value.string) ∧ (v = .slice none 0 0 ↔ pre = [])) ∧ Below w.heap.size w W)
    (fun _ _ _ => False)
    (OwnFrom.and (Own.from (holdsRow_own w.heap.size w.heap.size 32 9 1 (fun pre => pre.length) (fun pre => pre.map Value.string) (fun pre v => v = .slice none 0 0 ↔ pre = [])) _) (ownFrom_below (Nat.le_refl _) (by simp)))
    (fun _ _ _ _ _ hs _ _ => hs)
    ⟨⟨_, bO, World.ownsRow_nil _ _ _ _, by simp⟩, hB0⟩
    (fun x => { tmps := #[.slice none 0 0, .func (.func 52) #[] #[.pointer (some ⟨Bs, 0, none⟩)], .pointer (some ⟨w.heap.size, 0, none⟩), undef, .slice none 0 0, .string x, .func (.func 52) #[] #[.pointer (some ⟨Bs, 0, none⟩)], .string x, undef, undef, undef, undef, undef], defers := [] }) ?assign ?body ?done ?stop
  case assign =>
    intro l x W K hK
    gi_wp2
    exact hK
  case body =>
    rintro l pre x W ⟨⟨v, hv, hrow, hnil⟩, hB⟩ hlt
    have hc := hv.cell
    gi_wp2_with (gi_at_builtin; refine wpListIn_append_own _ rfl _ _ 32 rfl w.heap.size 9 i0 (.string ByteArray.empty) 1 16 Try.underlying32 hi hz0 hz1 hz2 rfl (by decide) _ _ _ rfl (hrow.alloc _) ⟨W.heap.size, 0, none⟩ 1 1 [.string x] rfl rfl (cell_one_new _ _ _) (by simp [Value.oneCell']) (by omega) (by omega) (by have := hB.size; simp; omega) ?_; intro v' w1 hown' hgrow _; obtain ⟨g', cap', rfl⟩ := ownsRow_succ hown'; obtain ⟨hv1, hv2, hr2, hk2, hb2⟩ := hv.appended (by decide) hrow hB.size (Nat.le_refl _) hown' hgrow; have hc1 := hv1.cell; have hf1 := hv1.frozen)
    exact ⟨hk2.from _, hb2.mono hn0, ⟨_, hv2, by simpa using hr2, by simp⟩, hB.trans hb2⟩
  case done =>
    rintro D ys W hD rfl ⟨⟨v, hv, hrow, hnil⟩, hB⟩ hK
    have hc := hv.cell
    gi_wp2
    refine ⟨by simp, .inl ⟨_, _, rfl, run_takeDeferred hK, ?_⟩⟩
    exact ⟨_, results_tmp rfl _ _ _, v, rfl, ownsRow_putObj hrow _ hK rfl, hnil, hB.trans (belowK_b (w := w) (Nat.le_refl _) W D _ _ (by simp at hD; omega) hK rfl rfl)⟩
  case stop =>
    rintro D c pre W _ _ h _
    exact h.elim

set_option maxHeartbeats 1000000 in
theorem collect_v (F : Fence) (n : Nat) (h0 : F.fn 51) (h3 : F.fn 65) (h5 : F.fn 52) (hro : F.round = none) (hn : 4 ≤ n) (Bs n0 : Nat) (sv : Value) (zs : List ByteArray) (hlen : zs.length ≤ 10000000) (w : World) (hBs : Bs < w.heap.size) (hn0 : n0 ≤ w.heap.size)
    (hc : w.cell? ⟨Bs, 0, none⟩ = some sv) (hI : Texts n0 w sv zs) :
    CallsIn F n Try.prog 51 #[.func (.func 52) #[] #[.pointer (some ⟨Bs, 0, none⟩)]] w fun e W' => ∃ v, e = .returned v ∧ W'.ownsRow w.heap.size 9 1 v zs.length (zs.map Value.string) ∧ (v = .slice none 0 0 ↔ zs = []) ∧ Below w.heap.size w W' := by
  have h1 : 1 ≤ n := by omega
  refine callsIn_of_wp Try.func51 rfl h0 ?_ hro
  simp only [Try.ntmps51, List.size_toArray, List.length_cons, List.length_nil, Nat.reduceAdd, Nat.reduceSub, Array.replicate_succ, Array.replicate_zero, List.push_toArray, List.append_toArray, List.nil_append, List.cons_append]
  gi_wp2_with (gi_at_call 65; refine (appendSeq_v F (n - 1) h3 h5 hro (by omega) Bs n0 sv zs hlen _ hBs hn0 hc hI).mono ?_; rintro e w' ⟨v, rfl, hrow, hnil, hb⟩)
  go_ret
  exact ⟨v, rfl, hrow, hnil, hb⟩
end Ytoeoablmcelohaa
end Go.Proofs
namespace Go.Proofs.Ytoeoablmcelohaa
open Go Go.RowKit Go.Maps Go.Sort
open DagS (Nd nm pars par ids Wf Srt less)

/-- Texts in order, maybe more than once. -/
def Ord (s : List ByteArray) : Prop := s.Pairwise fun a b => a.data.toList ≤ b.data.toList
def toBA (u : List UInt8) : ByteArray := ⟨u.toArray⟩
theorem toBA_data (u : List UInt8) : (toBA u).data.toList = u := by simp [toBA]
theorem toBA_of (s : ByteArray) : toBA s.data.toList = s := DagS.ba_eq (toBA_data _)
theorem map_toBA (l : List ByteArray) : (l.map (·.data.toList)).map toBA = l := by
  rw [List.map_map]
  exact (List.map_congr_left fun s _ => toBA_of s).trans (List.map_id l)
theorem enc_toBA (u : List (List UInt8)) : u.map encStr = trow (u.map toBA) := by
  have this := Lib.map_encStr (u.map toBA)
  have h : u.map ((fun s => s.data.toList) ∘ toBA) = u := (List.map_congr_left fun x _ => toBA_data x).trans (List.map_id u)
  rw [show (u.map toBA).map (·.data.toList) = u from by rw [List.map_map]; exact h] at this
  exact this

theorem le_tot (a b : List UInt8) : a ≤ b ∨ b ≤ a := by
  by_cases h : b < a
  · exact .inr (List.le_of_lt h)
  · exact .inl (List.not_lt.1 h)

/-- What compacting leaves of texts in order. -/
theorem compact_srt {zs : List (List UInt8)} (hs : zs.Pairwise (· ≤ ·)) : (Lib.compact zs).Pairwise (· < ·) ∧ ∀ x, x ∈ Lib.compact zs ↔ x ∈ zs := by
  have key : ∀ m, m ≤ zs.length → (Lib.compactUpTo zs.toArray m).Pairwise (· < ·) ∧ ∀ x, x ∈ Lib.compactUpTo zs.toArray m ↔ x ∈ zs.take m := by
    intro m
    induction m with
    | zero => exact fun _ => ⟨by simp [Lib.compactUpTo], fun x => by simp [Lib.compactUpTo]⟩
    | succ m ih =>
      intro hm
      obtain ⟨h1, h2⟩ := ih (by omega)
      have hget : zs.toArray[m]! = zs[m] := by simp [getElem!_pos, show m < zs.length by omega]
      have htk : zs.take (m + 1) = zs.take m ++ [zs[m]] := by rw [List.take_add_one, List.getElem?_eq_getElem (by omega)]; rfl
      rw [Lib.compactUpTo_succ, hget, htk]
      have hpw := List.pairwise_iff_getElem.1 hs
      by_cases hk : Lib.keeps zs.toArray m = true
      · rw [if_pos hk]
        refine ⟨List.pairwise_append.2 ⟨h1, List.pairwise_singleton _ _, fun a ha b hb => ?_⟩, fun x => ?_⟩
        · rw [List.mem_singleton] at hb
          subst hb
          have ha := (h2 a).1 ha
          obtain ⟨j, hj, rfl⟩ := List.getElem_of_mem ha
          rw [List.length_take] at hj
          rw [List.getElem_take]
          cases m with
          | zero => omega
          | succ m =>
            have hne : zs[m] ≠ zs[m + 1] := by
              intro e
              have : Lib.keeps zs.toArray (m + 1) = false := by
                simp [Lib.keeps, getElem!_pos, show m < zs.length by omega, show m + 1 < zs.length by omega, e]
              rw [this] at hk
              cases hk
            have hlt : zs[m] < zs[m + 1] := by
              rcases List.le_iff_lt_or_eq.1 (hpw m (m + 1) (by omega) (by omega) (by omega)) with h | h
              · exact h
              · exact absurd h hne
            by_cases e : j = m
            · subst e; exact hlt
            · exact List.lt_of_le_of_lt (hpw j m (by omega) (by omega) (by omega)) hlt
        · rw [List.mem_append, List.mem_append, h2 x]
      · rw [if_neg hk, List.append_nil]
        refine ⟨h1, fun x => ?_⟩
        rw [h2 x, List.mem_append, List.mem_singleton]
        constructor
        · exact .inl
        · rintro (h | rfl)
          · exact h
          · cases m with
            | zero => exact absurd (by simp [Lib.keeps]) hk
            | succ m =>
              have e : zs[m] = zs[m + 1] := by
                refine Classical.byContradiction fun hne => hk ?_
                simp [Lib.keeps, getElem!_pos, show m < zs.length by omega, show m + 1 < zs.length by omega]
                exact fun e => hne e.symm
              rw [← e]
              exact List.mem_iff_getElem.2 ⟨m, by rw [List.length_take]; omega, by rw [List.getElem_take]⟩
  have := key zs.length (Nat.le_refl _)
  rw [List.take_length] at this
  exact this

theorem own_nil0 {base : Nat} {w : World} {l : List ByteArray} (h : w.ownsRow base 9 1 (.slice none 0 0) l.length (trow l)) : l = [] := by
  rcases h.2 with ⟨_, h1⟩ | ⟨g, cap, cur, e, _⟩
  · exact List.eq_nil_of_length_eq_zero h1
  · cases e
theorem grown_put {w : World} {gb n : Nat} (d : Array (List UInt8)) (os : Array Obj) : w.grownBy (grow (putRow encStr (Sort.ahead w n) gb 0 d) os) (some gb) := by
  refine ⟨rfl, rfl, rfl, by simp [grow, putRow, mapBlock, Sort.ahead], fun k hk hne => ?_⟩
  show ((Array.modify w.heap gb _) ++ os)[k]? = w.heap[k]?
  rw [Array.getElem?_append, if_pos (by simp; omega), Array.getElem?_modify, if_neg (fun e => hne (by rw [e]))]

/-- slices.Sort of a row of one's own. -/
theorem gsort_c {base : Nat} {w : World} {v : Value} {l : List ByteArray} (h : w.ownsRow base 9 1 v l.length (trow l)) (hl : l.length ≤ 20000000) :
    Calls Try.prog 32 #[v] w fun e w' => e = .returned (.tuple #[]) ∧ ∃ s : List ByteArray, s.Perm l ∧ Ord s ∧ w'.ownsRow base 9 1 v l.length (trow s) ∧ w.grownBy w' v.ownBlock := by
  by_cases h0 : v = .slice none 0 0
  · subst h0
    obtain rfl := own_nil0 h
    refine (Try.slices_Sort_string_none none 0 w).mono ?_
    rintro e w' ⟨rfl, rfl⟩
    exact ⟨rfl, [], .nil, .nil, h, World.grownBy.refl _ _⟩
  · have h2 : w.ownsRow base 9 1 v l.length ((l.map (·.data.toList)).map encStr) := by rw [Lib.map_encStr]; exact h
    obtain ⟨gb, cap, rfl, hb, hlt, hn, hm, hz, hH⟩ := Lib.holds_of_ownsRow h2 h0
    have := Try.slices_Sort_string gb 0 cap (l.map (·.data.toList)) w hH hlt (by rw [List.length_map]; omega)
    rw [List.length_map] at this
    refine this.mono ?_
    rintro e w' ⟨rfl, n, os, rfl⟩
    have hp : ((l.map (·.data.toList)).mergeSort fun x y => decide (x ≤ y)).Perm (l.map (·.data.toList)) := List.mergeSort_perm _ _
    refine ⟨rfl, ((l.map (·.data.toList)).mergeSort fun x y => decide (x ≤ y)).map toBA, ?_, ?_, ?_, grown_put _ os⟩
    · have := hp.map toBA
      rwa [map_toBA] at this
    · unfold Ord
      rw [List.pairwise_map]
      refine List.Pairwise.imp ?_ (List.pairwise_mergeSort (le := fun x y => decide (x ≤ y)) ?_ ?_ (l.map (·.data.toList)))
      · intro a b hab
        rw [toBA_data, toBA_data]
        exact of_decide_eq_true hab
      · intro a b c h1 h2
        exact decide_eq_true (List.le_trans (of_decide_eq_true h1) (of_decide_eq_true h2))
      · intro a b
        rcases le_tot a b with h | h
        · simp [h]
        · simp [h]
    · have h3 := Lib.ownsRow_putRow (q := n) (k := l.length) h2 (ys := (l.map (·.data.toList)).mergeSort fun x y => decide (x ≤ y)) (by rw [hp.length_eq, List.length_map]) (Nat.le_refl _)
      rw [List.take_of_length_le (by rw [hp.length_eq, List.length_map]; omega), enc_toBA] at h3
      exact own_grow h3 os

/-- slices.Compact of a row of one's own, in order. -/
theorem gcomp_c {base : Nat} {w : World} {v : Value} {l : List ByteArray} (h : w.ownsRow base 9 1 v l.length (trow l)) (ho : Ord l) (hl : l.length ≤ 20000000) :
    Calls Try.prog 40 #[v] w fun e w' => ∃ (v' : Value) (s : List ByteArray), e = .returned v' ∧ Srt s ∧ (∀ x, x ∈ s ↔ x ∈ l) ∧ w'.ownsRow base 9 1 v' s.length (trow s) ∧ v'.ownBlock = v.ownBlock ∧ (∃ a c, v' = .slice a s.length c ∧ (a = none → c = 0) ∧ ∀ x, a = some x → x.spot = none ∧ v'.ownBlock = some x.block) ∧ w.grownBy w' v.ownBlock := by
  by_cases h0 : v = .slice none 0 0
  · subst h0
    obtain rfl := own_nil0 h
    refine (Try.slices_Compact_string_empty none 0 w).mono ?_
    rintro e w' ⟨rfl, rfl⟩
    exact ⟨_, [], rfl, .nil, fun x => Iff.rfl, h, rfl, ⟨none, 0, rfl, fun _ => rfl, fun x e => by cases e⟩, World.grownBy.refl _ _⟩
  · have h2 : w.ownsRow base 9 1 v l.length ((l.map (·.data.toList)).map encStr) := by rw [Lib.map_encStr]; exact h
    obtain ⟨gb, cap, rfl, hb, hlt, hn, hm, hz, hH⟩ := Lib.holds_of_ownsRow h2 h0
    have := Try.slices_Compact_string gb 0 cap (l.map (·.data.toList)) w hH (by rw [List.length_map]; omega) (by rw [List.length_map]; exact hn)
    rw [List.length_map] at this
    refine this.mono ?_
    rintro e w' ⟨rfl, n, rfl⟩
    have hpw : (l.map (·.data.toList)).Pairwise (· ≤ ·) := by rw [List.pairwise_map]; exact ho
    obtain ⟨q1, q2⟩ := compact_srt hpw
    have hle := Lib.compact_length_le (l.map (·.data.toList))
    rw [List.length_map] at hle
    generalize Lib.compact (l.map (·.data.toList)) = c at *
    refine ⟨.slice (some ⟨gb, 0, none⟩) c.length cap, c.map toBA, rfl, ?_, fun x => ?_, ?_, rfl, ⟨some ⟨gb, 0, none⟩, cap, by rw [List.length_map], (fun e => by cases e), fun x e => by injection e with e; subst e; exact ⟨rfl, rfl⟩⟩, ?_⟩
    · unfold Srt
      rw [List.pairwise_map]
      refine q1.imp fun {a b} hab => ?_
      unfold less
      rw [toBA_data, toBA_data]
      exact hab
    · rw [List.mem_map]
      constructor
      · rintro ⟨u, hu, rfl⟩
        obtain ⟨y, hy, e⟩ := List.mem_map.1 ((q2 u).1 hu)
        rw [← e, toBA_of]; exact hy
      · intro hx
        exact ⟨x.data.toList, (q2 _).2 (List.mem_map.2 ⟨x, hx, rfl⟩), toBA_of x⟩
    · have h3 := Lib.ownsRow_putRow (q := n) (k := c.length) h2 (ys := c ++ List.replicate (l.length - c.length) []) (by simp; omega) hle
      rw [List.take_left' rfl, enc_toBA] at h3
      rw [List.length_map]
      exact h3
    · refine ⟨rfl, rfl, rfl, by simp [putRow, mapBlock, Sort.ahead], fun k hk hne => ?_⟩
      simp [putRow, mapBlock, Sort.ahead, Array.getElem?_modify, show gb ≠ k from fun e => hne (by rw [← e]; rfl)]

/-- slices.Sorted(slices.Values(x)). -/
theorem gsorted_c {w : World} {sv : Value} {l : List ByteArray} (hs : Texts w.heap.size w sv l) (hl : l.length ≤ 10000000) {bs : Nat} (hb : bs < w.heap.size) (hc : w.cell? ⟨bs, 0, none⟩ = some sv) :
    Calls Try.prog 41 #[.func (.func 52) #[] #[.pointer (some ⟨bs, 0, none⟩)]] w fun e w' => ∃ (v : Value) (s : List ByteArray), e = .returned v ∧ s.Perm l ∧ Ord s ∧ w'.ownsRow w.heap.size 9 1 v s.length (trow s) ∧ Below w.heap.size w w' := by
  have HC := Lib.hid (callsIn_wide.1 (collect_v Fence.wide 5 trivial trivial trivial rfl (by omega) bs w.heap.size sv l hl w hb (Nat.le_refl _) hc hs))
  clear hs hc
  go_enter Try.func41, Try.ntmps41
  go_upto_region 2 with (go_at_call 51; refine HC.out.mono ?_; rintro e w1 ⟨v, rfl, hr, -, hb1⟩)
  have HS := Lib.hid (gsort_c hr (by omega))
  have HR := Lib.hid hr
  have HB := Lib.hid hb1
  clear hr hb1 HC
  go_wp2_with (go_at_call 32; refine HS.out.mono ?_; rintro e w2 ⟨rfl, s, hp, ho, hr2, hg⟩)
  go_ret
  refine ⟨v, s, rfl, hp, ho, ?_, HB.out.grown hg HB.out.size fun k e => (HR.out.lt k e).1⟩
  rw [hp.length_eq]
  exact hr2
end Go.Proofs.Ytoeoablmcelohaa
namespace Go.Proofs.Ytoeoablmcelohaa
open Go

section
variable {P : Program} {ops : Array Oper} {md : Region.Mode} {C : World → Prop}

/-- The head's operations come up in any order; then T holds of what has come up. -/
def HeadAny (P : Program) (md : Region.Mode) (ops : Array Oper) (C : World → Prop) (n : Nat) (T : Array Bool → Act → Prop) : Nat → Array Bool → Act → Prop
  | 0, up, a => T up a
  | f + 1, up, a => Region.ready md ops up ≠ [] ∧ ∀ i ∈ Region.ready md ops up, i < n ∧ qOp P ops C i (HeadAny P md ops C n T f (up.setIfInBounds i true)) a

theorem headAny_wp {n g : Nat} {T : Array Bool → Act → Prop} {Q' : Exit → Act → World → Prop} (hT : ∀ up a w, C w → T up a → wpAny P md ops Q' g up a w) :
    ∀ (f : Nat) (up : Array Bool) (a : Act) (w : World), C w → HeadAny P md ops C n T f up a → wpAny P md ops Q' (f + g) up a w
  | 0, up, a, w, hw, h => by rw [Nat.zero_add]; exact hT _ _ _ hw h
  | f + 1, up, a, w, hw, h => by
    rw [show f + 1 + g = (f + g) + 1 by omega]
    exact ⟨fun h0 => absurd h0 h.1, fun i hi => wpOp_of_qOp hw (fun a' w' hw' h' => headAny_wp hT f _ a' w' hw' h') (h.2 i hi).2⟩

theorem headAny_first {n i : Nat} {oi : Oper} {v : Value} {T : Array Bool → Act → Prop} (hi : ops[i]? = some oi) (hsel : ∀ (j : Nat) (o : Oper) cs b, ops[j]? = some o → o.op ≠ .select cs b)
    (hs : Region.sinkB md ops n = true) (hc : Region.chainB md ops n = true) (hn : n < ops.size) (hin : i < n)
    (hT : ∀ up a, T up a → ∀ j ∈ Region.ready md ops up, n ≤ j) (f : Nat) :
    ∀ (up : Array Bool) (a : Act), HeadInv md ops n up →
      (∀ j oj, ops[j]? = some oj → j ≠ i → up.getD j true = false → (∀ e ∈ oj.after, Region.binds md e = true → e.on ≠ i) → oi.apart ops oj = true) →
      i ∈ Region.ready md ops up → YieldsIn P ops C oi v a →
      HeadAny P md ops C n T f (up.setIfInBounds i true) (a.put oi.dst v) → HeadAny P md ops C n T (f + 1) up a := by
  induction f with
  | zero =>
    intro up a inv _ hr hy H
    have hun := (mem_ready.1 hr).1
    refine ⟨fun h => (by rw [h] at hr; cases hr), fun j hj => ?_⟩
    have hjn : j < n := Nat.lt_of_not_le fun h => tail_waits hs hc hn inv _ i rfl hin hun j h hj
    refine ⟨hjn, ?_⟩
    by_cases hji : j = i
    · subst hji; exact hy.qOp hi H
    · have := hT _ _ H j (ready_mono hj hji)
      omega
  | succ f ih =>
    intro up a inv hfree hr hy H
    have hun := (mem_ready.1 hr).1
    refine ⟨fun h => (by rw [h] at hr; cases hr), fun j hj => ?_⟩
    have hjn : j < n := Nat.lt_of_not_le fun h => tail_waits hs hc hn inv _ i rfl hin hun j h hj
    refine ⟨hjn, ?_⟩
    by_cases hji : j = i
    · subst hji; exact hy.qOp hi H
    · obtain ⟨hjun, oj, hoj, hall⟩ := mem_ready.1 hj
      have hnot : ∀ e ∈ oj.after, Region.binds md e = true → e.on ≠ i := by
        intro e he hb heq
        have h1 := hall e he hb
        rw [heq, getD_both hun] at h1
        cases h1
      have h2 := qOp_put hoj (hfree j oj hoj hji hjun hnot) (fun cs b => hsel i oi cs b hi) (fun cs b => hsel j oj cs b hoj) hy (H.2 j (ready_mono hj hji)).2
      refine qOp_mono (fun a' h3 => ?_) h2
      refine ih (up.setIfInBounds j true) a' (inv.set hj hjn) ?_ (ready_mono hr (Ne.symm hji)) h3.1 ?_
      · intro k ok hk hki hkun hno
        refine hfree k ok hk hki ?_ hno
        by_cases hjk : j = k
        · subst hjk; exact hjun
        · rwa [getD_set_ne true hjk] at hkun
      · rw [Array.setIfInBounds_comm _ _ hji]
        exact h3.2

theorem headAny_lex {n g : Nat} {K : Act → Prop} (hsel : Region.noSelect ops = true) (hs : Region.sinkB md ops n = true) (hc : Region.chainB md ops n = true) (hn : n < ops.size) :
    ∀ (l : List Oper) (k : Nat) (up : Array Bool) (a : Act), (∀ j, j < l.length → l[j]? = ops[k + j]?) → k + l.length = n → HeadInv md ops n up →
    Region.lexHead md ops g l.length k up = true → wpQuiet P ops C K l a → HeadAny P md ops C n (fun up' a' => Region.seqB md ops g n up' = true ∧ K a') l.length up a
  | [], k, up, a, _, hk, _, hB, h => by
    obtain rfl : k = n := by simpa using hk
    exact ⟨by simpa [Region.lexHead] using hB, h⟩
  | o :: l, k, up, a, hl, hk, inv, hB, h => by
    have h0 : ops[k]? = some o := by simpa using (hl 0 (by simp)).symm
    simp only [List.length_cons, Region.lexHead, Bool.and_eq_true] at hB hk
    obtain ⟨⟨hr, hf⟩, hB'⟩ := hB
    have hr' : k ∈ Region.ready md ops up := by simpa using hr
    have hq : qOp P ops C k (wpQuiet P ops C K l) a := by unfold qOp; simp only [h0]; exact h
    obtain ⟨v, hy, hK⟩ := yieldsIn_of_qOp h0 hq
    refine headAny_first h0 (Region.noSelect_spec hsel) hs hc hn (by omega) (fun up' a' hL => seqB_ready hL.1) l.length up a inv (Region.free_spec h0 hf) hr' hy ?_
    refine headAny_lex hsel hs hc hn l (k + 1) _ _ (fun j hj => ?_) (by omega) (inv.set hr' (by omega)) hB' hK
    have := hl (j + 1) (by simp; omega)
    simpa [Nat.add_assoc, Nat.add_comm 1 j] using this

/-- The first n operations quiet in a class of worlds, the others in one order. -/
theorem wp_region_tail {id : Nat} {Q : Exit → Act → World → Prop} {a : Act} {w : World} {l : List Oper} (n : Nat) (hm : P.follows .mixedOrders = true) (hB : Region.lexTailB .any l.toArray n = true) (hC : C { w with drawn := w.drawn + 1 })
    (h : wpQuiet P l.toArray C (fun a' => ∀ w', C w' → wpList P l.toArray Q (l.drop n) a' w') (l.take n) a) : (Code.region id l.toArray true).wp P Q a w := by
  simp only [Region.lexTailB, Bool.and_eq_true, decide_eq_true_eq] at hB
  obtain ⟨⟨⟨⟨hsel, hn⟩, hs⟩, hc⟩, hlex⟩ := hB
  have hn' : n < l.length := by simpa using hn
  have htl : (l.take n).length = n := by simp; omega
  have hdl : (l.drop n).length = l.toArray.size - n := by simp
  have inv0 : HeadInv .any l.toArray n (Array.replicate l.toArray.size false) :=
    ⟨by simp, fun j oj _ hl => (by rw [getD_replicate_false] at hl; cases hl), fun t _ ht => getD_in (by simpa using ht) (getD_replicate_false _ _)⟩
  have H := headAny_lex (md := .any) (g := l.toArray.size - n) hsel hs hc hn (l.take n) 0 _ a (fun j hj => by
    have hj' : j < n := by rw [htl] at hj; exact hj
    simp [hj']) (by simpa using htl) inv0 (by rw [htl]; exact hlex) h
  refine wp_region_any hm ?_
  have := headAny_wp (Q' := Q) (g := l.toArray.size - n) (fun up a' w' hw' hL => by
    have := wpAny_of_seq (md := .any) (Q' := Q) (l.drop n) n up a' w' (fun j => by simp [List.getElem?_drop]) (by rw [hdl]; exact hL.1) (hL.2 w' hw')
    rwa [hdl] at this) _ _ _ { w with drawn := w.drawn + 1 } hC H
  rw [htl, show n + (l.toArray.size - n) = l.toArray.size by omega] at this
  exact this

theorem wp_region_quiet_tail {id : Nat} {Q : Exit → Act → World → Prop} {a : Act} {w : World} {l : List Oper} (n : Nat) (hm : P.follows .mixedOrders = true) (hB : Region.lexTailB .any l.toArray n = true)
    (h : wpQuiet P l.toArray (fun w' => ∃ q, w' = w.drewN q) (fun a' => ∀ w', (∃ q, w' = w.drewN q) → wpList P l.toArray Q (l.drop n) a' w') (l.take n) a) : (Code.region id l.toArray true).wp P Q a w :=
  wp_region_tail (C := fun w' => ∃ q, w' = w.drewN q) n hm hB ⟨1, rfl⟩ h
end

end Go.Proofs.Ytoeoablmcelohaa
