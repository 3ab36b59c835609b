/- The law DagMissing answers true for all arguments of bulk at most 1048576: the row's statement and its card. Conditions: the row's own (laid tables as the card ties them; bulk). -/
import Derived.Test.YtoeoablmcelohaaZ15
namespace Go.Proofs.Ytoeoablmcelohaa
open Go Go.RowKit Go.Maps Go.Sort
open Classical

set_option maxRecDepth 100000 in
set_option maxHeartbeats 1000000 in
theorem same_c {w : World} {a b : Option Addr} {c d : Nat} {l m : List ByteArray} (ha : Sl w a (trow l)) (hb : Sl w b (trow m)) (hl : l.length ≤ 10000000) :
    Calls Try.prog 14 #[.slice a l.length c, .slice b m.length d] w fun e w' => e = .returned (.bool (decide (l = m))) ∧ Below w.heap.size w w' := by
  have HA := Lib.hid ha
  have HB := Lib.hid hb
  clear ha hb
  go_enter Try.func14, Try.ntmps14
  by_cases hlen : l.length = m.length
  case neg =>
    have hd : ((l.length : Int) == (m.length : Int)) = false := by rw [beq_eq_false_iff_ne]; omega
    have hd2 : ¬ (l.length : Int) = (m.length : Int) := by omega
    go_wp2_with fail
    go_ret
    exact ⟨by rw [decide_eq_false (fun e => hlen (by rw [e]))]; rfl, Below.refl _ _⟩
  case pos =>
    have HLEN := Lib.hid hlen
    rw [← hlen]
    clear hlen
    go_wp2_with fail
    go_loopw [13] (fun iv wx => ∃ i : Nat, i ≤ l.length ∧ iv = .int .i64 i ∧ l.take i = m.take i ∧ Below w.heap.size w wx) (fun iv _ => (l.length - intOf iv).toNat)
    case atStart => exact ⟨0, Nat.zero_le _, rfl, rfl, Below.refl _ _⟩
    case round =>
      obtain ⟨i, hi, rfl, hno, hbw⟩ := hrel
      have HNO := Lib.hid hno
      have HBW := Lib.hid hbw
      by_cases hil : i < l.length
      · have him : i < m.length := by have := HLEN.out; omega
        have hd : decide ((i : Int) < (l.length : Int)) = true := decide_eq_true (by omega)
        obtain ⟨bl, ol, rfl, hbl, hcel⟩ := HA.out.at (k := i) (by rw [trow_len]; exact hil)
        have q0 := hcel i (by rw [trow_len]; exact hil)
        rw [trow_at] at q0
        have q1 := cell_blk q0 (hbw.block bl hbl)
        obtain ⟨bm, om, rfl, hbm, hcem⟩ := HB.out.at (k := i) (by rw [trow_len]; exact him)
        have r0 := hcem i (by rw [trow_len]; exact him)
        rw [trow_at] at r0
        have r1 := cell_blk r0 (hbw.block bm hbm)
        have HTL : Hid (l.take (i + 1) = l.take i ++ [l[i]]) := by show _ = _; rw [List.take_add_one, List.getElem?_eq_getElem hil]; rfl
        have HTM : Hid (m.take (i + 1) = m.take i ++ [m[i]]) := by show _ = _; rw [List.take_add_one, List.getElem?_eq_getElem him]; rfl
        have HEQ : Hid (l = m → l[i] = m[i]) := fun e => by subst e; rfl
        have hi0 : (0 : Int) ≤ i := by omega
        have hi1 : (i : Int) < l.length := by omega
        have hw1 : IntKind.i64.wrap ((i : Int) + 1) = ((i + 1 : Nat) : Int) := IntWalk.i64_in _ (by omega)
        clear q0 hcel r0 hcem hno hbw
        generalize l[i] = s at *
        generalize m[i] = t at *
        clear him
        by_cases hst : s = t
        · subst hst
          have hse : (s.toList == s.toList) = true := beq_self_eq_true _
          go_upto_region 6 with fail
          go_quiet (fail)
          have HB3 := Lib.hid (below_dN HBW.out nq)
          clear q1 r1
          generalize wr.drewN nq = w2 at *
          go_wp2_with fail
          go_roundw
          case rel => exact ⟨i + 1, by omega, by first | rfl | go_num, by rw [HTL.out, HTM.out, HNO.out], HB3.out⟩
          case measure => simp [intOf]; omega
        · have hse := str_eqb hst
          go_upto_region 6 with fail
          go_quiet (fail)
          have HB3 := Lib.hid (below_dN HBW.out nq)
          clear q1 r1
          generalize wr.drewN nq = w2 at *
          go_wp2_with fail
          go_ret
          exact ⟨by rw [decide_eq_false (fun e => hst (HEQ.out e))]; rfl, HB3.out⟩
      · obtain rfl : i = l.length := by omega
        have hd : decide ((l.length : Int) < (l.length : Int)) = false := decide_eq_false (by omega)
        clear hno hbw
        go_wp2_with fail
        go_ret
        have h := HNO.out
        rw [List.take_length, HLEN.out, List.take_length] at h
        exact ⟨by rw [decide_eq_true h]; rfl, HBW.out⟩
/-- .. of rows in blocks of their own. -/
theorem same_tv {w : World} {v u : Value} {l m : List ByteArray} (hv : TV w v l) (hu : TV w u m) (hl : l.length ≤ 10000000) :
    Calls Try.prog 14 #[v, u] w fun e w' => e = .returned (.bool (decide (l = m))) ∧ Below w.heap.size w w' := by
  obtain ⟨a, c, rfl, -, ha⟩ := hv.form
  obtain ⟨b, d, rfl, -, hb⟩ := hu.form
  exact same_c ha hb hl
end Go.Proofs.Ytoeoablmcelohaa
namespace Go.Proofs.Ytoeoablmcelohaa
open Go Go.RowKit Go.Maps Go.Sort
open DagS (Nd nm pars par ids Wf ancS ancL upto Srt)
open Classical

theorem found_len {g : List Nd} {l : List ByteArray} (hd : Srt l) (hf : ∀ x ∈ l, DagS.find g x ≠ none) : l.length ≤ g.length := by
  have hn : l.Nodup := hd.imp fun {a b} h e => by subst e; exact absurd h (List.lt_irrefl _)
  have := nodup_le hn (m := g.map Nd.name) fun x hx => mem_names.2 (by
    have := hf x hx
    cases e : DagS.find g x with
    | none => exact absurd e this
    | some i => rfl)
  rwa [List.length_map] at this
theorem tips_len (g : List Nd) (l : List ByteArray) : (DagS.tipsL g l).length ≤ g.length := found_len (DagS.tips_srt g l) fun _ hx => DagS.tips_there hx
theorem bases_len (g : List Nd) (a b : ByteArray) : (DagS.basesL g a b).length ≤ g.length := tips_len g _
theorem miss_len (g : List Nd) (l m : List ByteArray) : (DagS.missL g l m).length ≤ g.length := by unfold DagS.missL; rw [List.length_map]; exact upto_len _ _
theorem pars_len2 {g : List Nd} (hw : Wf g) (x : ByteArray) : (DagS.parsL g x).length ≤ g.length := by
  unfold DagS.parsL
  cases e : DagS.find g x with
  | none => exact Nat.zero_le _
  | some i =>
    refine found_len (hw.srt i) fun s hs => ?_
    obtain ⟨j, _, e⟩ := hw.back i s hs
    rw [e]; exact fun h => nomatch h

theorem GN.pars {w W : World} {p : Nat} {g : List Nd} (h : GN w W p g) {x : ByteArray} (hx : x.size ≤ 10000000) :
    Calls Try.prog 17 #[.pointer (some ⟨p, 0, none⟩), .string x] W fun e W' => ∃ v, e = .returned v ∧ TV W' v (DagS.parsL g x) ∧ Below W.heap.size W W' := by
  obtain ⟨K, h1, h2, h3⟩ := h
  exact gpars_c h1 hx
theorem same_tt {w : World} {v u : Value} {l : List ByteArray} (hv : TV w v l) (hu : TV w u l) (hl : l.length ≤ 10000000) :
    Calls Try.prog 14 #[v, u] w fun e w' => e = .returned (.bool true) ∧ Below w.heap.size w w' := by
  refine (same_tv hv hu hl).mono ?_
  rintro e w' ⟨rfl, hb⟩
  exact ⟨by rw [decide_eq_true rfl], hb⟩
theorem same_ts {w : World} {v : Value} {a : Option Addr} {c : Nat} {l : List ByteArray} (hv : TV w v l) (hu : Sl w a (trow l)) (hl : l.length ≤ 10000000) :
    Calls Try.prog 14 #[v, .slice a l.length c] w fun e w' => e = .returned (.bool true) ∧ Below w.heap.size w w' := by
  obtain ⟨b, d, rfl, -, hb⟩ := hv.form
  refine (same_c hb hu hl).mono ?_
  rintro e w' ⟨rfl, hb⟩
  exact ⟨by rw [decide_eq_true rfl], hb⟩

theorem same_tn {w : World} {v : Value} {l : List ByteArray} (hv : TV w v l) (hl : l = []) :
    Calls Try.prog 14 #[v, .slice none 0 0] w fun e w' => e = .returned (.bool true) ∧ Below w.heap.size w w' := by
  subst hl
  show Calls _ _ #[v, .slice none ([] : List ByteArray).length 0] _ _
  exact same_ts hv (.nil _ _) (Nat.zero_le _)

/-- An ask and the graphs, as they stay. -/
structure AS (w0 W : World) (p : Nat) (g : List Nd) (va sa ma : Option Addr) (sc mc b3 : Nat) (x y : ByteArray) (l m : List ByteArray) : Prop where
  gn : GN w0 W p g
  gr : GR W va g
  ss : Sl W sa (trow l)
  mm : Sl W ma (trow m)
  blk : W.heap[b3]? = some (.cells #[.string x, .string y, .slice sa l.length sc, .slice ma m.length mc] 48 (0, 0))
section
variable {w0 W W' : World} {p : Nat} {g : List Nd} {va sa ma : Option Addr} {sc mc b3 : Nat} {x y : ByteArray} {l m : List ByteArray}
theorem AS.below (h : AS w0 W p g va sa ma sc mc b3 x y l m) (hb : Below W.heap.size W W') : AS w0 W' p g va sa ma sc mc b3 x y l m :=
  ⟨h.gn.below hb, h.gr.below hb, h.ss.below hb, h.mm.below hb, (hb.block _ (Array.getElem?_eq_some_iff.1 h.blk).1).trans h.blk⟩
theorem AS.c0 (h : AS w0 W p g va sa ma sc mc b3 x y l m) : W.cell? ⟨b3, 0, none⟩ = some (.string x) := by simp only [World.cell?, h.blk]; rfl
theorem AS.c1 (h : AS w0 W p g va sa ma sc mc b3 x y l m) : W.cell? ⟨b3, 1, none⟩ = some (.string y) := by simp only [World.cell?, h.blk]; rfl
theorem AS.c2 (h : AS w0 W p g va sa ma sc mc b3 x y l m) : W.cell? ⟨b3, 2, none⟩ = some (.slice sa l.length sc) := by simp only [World.cell?, h.blk]; rfl
theorem AS.c3 (h : AS w0 W p g va sa ma sc mc b3 x y l m) : W.cell? ⟨b3, 3, none⟩ = some (.slice ma m.length mc) := by simp only [World.cell?, h.blk]; rfl
end

end Go.Proofs.Ytoeoablmcelohaa
namespace Go.Proofs.Ytoeoablmcelohaa
open Go Go.RowKit Go.Maps Go.Sort
open DagS (Nd nm pars par ids Wf ancS ancL upto)
open Classical

def boolR (v : Value) : Option (DataW Unit × List MemPlace) := match v with
  | .bool z => some (.lit (.bool z), [])
  | _ => none
/-- Maps from names to truths. -/
def BC : MC Try.prog 38 9 4 ByteArray Bool where
  mkK := Value.string
  lit s := .string s.data.toList
  okK s := s.size ≤ maxLen
  mkE := Value.bool
  dt z := .lit (.bool z)
  ok _ := True
  z0 := false
  R := boolR
  keyed := string_keyed Try.underlying9
  under := Try.underlying38
  key x hx := WideMaps.keyOf_string_mk Try.underlying9 hx
  keyInv v l h := by
    obtain ⟨s, h1, h2, h3⟩ := WideMaps.string_of_keyOf Try.underlying9 h
    exact ⟨s, h1, h2, h3⟩
  litInj _ _ _ _ h := ba_lit_inj h
  el a _ := rfl
  elInv v y h := by
    unfold boolR at h
    split at h
    · rename_i z; injection h with h; exact ⟨z, rfl, h.symm, trivial⟩
    · cases h
  dtInj a b _ _ h := by injection h with h; injection h
  zero w := Try.zeroValue4 w
  okz := trivial

/-- The map holds the names of S, by at most N entries. -/
def MB (W : World) (m N : Nat) (S : ByteArray → Prop) : Prop := ∃ F n, MapG BC W m n F ∧ n ≤ N ∧ ∀ s, (F s).getD false = decide (S s)
section
variable {W W' : World} {m N : Nat} {S : ByteArray → Prop}
theorem MB.lt (h : MB W m N S) : m < W.heap.size := by obtain ⟨F, n, h1, _⟩ := h; exact h1.lt
theorem MB.block (h : MB W m N S) (hb : W'.heap[m]? = W.heap[m]?) : MB W' m N S := by obtain ⟨F, n, h1, h2, h3⟩ := h; exact ⟨F, n, h1.block hb, h2, h3⟩
theorem MB.look (h : MB W m N S) {x : ByteArray} (hx : x.size ≤ 10000000) : (Instr.lookup 38 (.map (some m)) (.string x) false).run Try.prog W = .ok (.bool (decide (S x))) W := by
  obtain ⟨F, n, h1, h2, h3⟩ := h
  have := h1.look x (name_max hx)
  rw [show (F x).getD BC.z0 = decide (S x) from h3 x] at this
  exact this
theorem MB.yes (h : MB W m N S) {x : ByteArray} (hx : x.size ≤ 10000000) (hS : S x) : (Instr.lookup 38 (.map (some m)) (.string x) false).run Try.prog W = .ok (.bool true) W := by
  have := h.look hx
  rwa [decide_eq_true hS] at this
theorem MB.no (h : MB W m N S) {x : ByteArray} (hx : x.size ≤ 10000000) (hS : ¬ S x) : (Instr.lookup 38 (.map (some m)) (.string x) false).run Try.prog W = .ok (.bool false) W := by
  have := h.look hx
  rwa [decide_eq_false hS] at this
theorem MB.isMap (h : MB W m N S) : ∃ es clock, W.heap[m]? = some (.map es clock) := by obtain ⟨F, n, h1, _⟩ := h; exact h1.isMap
theorem MB.put (h : MB W m N S) (hN : N ≤ 100000000) {x : ByteArray} (hx : x.size ≤ 10000000) :
    ∃ w', (Instr.mapUpdate 38 (.map (some m)) (.string x) (.bool true)).run Try.prog W = .ok () w' ∧ MB w' m (N + 1) (fun s => S s ∨ s = x) ∧ W.grownBy w' (some m) := by
  obtain ⟨F, n, h1, h2, h3⟩ := h
  obtain ⟨w', r1, r2, r3⟩ := h1.put x (name_max hx) true trivial (by rw [show maxLen = 9223372036854775807 from rfl]; omega)
  refine ⟨w', r1, ⟨_, _, r2, by omega, fun s => ?_⟩, r3⟩
  by_cases e : s = x
  · simp only [if_pos e]
    simp [e]
  · simp only [if_neg e]
    rw [h3 s]
    by_cases hS : S s
    · simp [hS]
    · simp [hS, e]
theorem MB.congr {S' : ByteArray → Prop} {N' : Nat} (h : MB W m N S) (hN : N ≤ N') (hv : ∀ s, S s ↔ S' s) : MB W m N' S' := by
  obtain ⟨F, n, h1, h2, h3⟩ := h
  exact ⟨F, n, h1, by omega, fun s => (h3 s).trans (decide_eq_decide.2 (hv s))⟩
theorem MB.made (w : World) : MB (w.alloc (.map #[] 0)) w.heap.size 0 (fun _ => False) := ⟨_, 0, MapG.made BC w, Nat.le_refl _, fun _ => by simp⟩
end
/-- 'm[k] = true' at the operation. -/
theorem wp_putB {ops : Array Oper} {rest : List Oper} {o : Oper} {a : Act} {Q : Exit → Act → World → Prop} {w : World} (hg : o.guard = none) (m x v : Operand) (hop : o.op = Op.mapUpdate 38 m x v) {b N : Nat} {S : ByteArray → Prop} (hm : a.eval m = .map (some b)) (h : MB w b N S) (hN : N ≤ 100000000) (y : ByteArray) (hx : a.eval x = .string y) (hv : a.eval v = .bool true) (hy : y.size ≤ 10000000)
    (hK : ∀ w', MB w' b (N + 1) (fun s => S s ∨ s = y) → w.grownBy w' (some b) → wpList Try.prog ops Q rest (a.put o.dst undef) w') : wpList Try.prog ops Q (o :: rest) a w := by
  refine wpList_plain hg fun K' hK' => ?_
  obtain ⟨w', hrun, r1, r2⟩ := h.put hN hy
  unfold Oper.wp
  simp [execOp, hop, hm, hx, hv, hrun, Result.andThen]
  exact hK' _ _ (hK w' r1 r2)

/-- The graph at rest in w3, the map, two lists. -/
structure MS (w3 W : World) (m N : Nat) (S : ByteArray → Prop) (la : Option Addr) (L : List ByteArray) (ra : Option Addr) (R : List ByteArray) : Prop where
  b : Below w3.heap.size w3 W
  mb : MB W m N S
  sl : Sl W la (trow L)
  sr : Sl W ra (trow R)
  ml : w3.heap.size ≤ m
section
variable {w3 W W' : World} {m N : Nat} {S : ByteArray → Prop} {la ra : Option Addr} {L R : List ByteArray}
theorem MS.below (h : MS w3 W m N S la L ra R) (hb : Below W.heap.size W W') : MS w3 W' m N S la L ra R :=
  ⟨h.b.trans (hb.mono h.b.size), h.mb.block (hb.block _ h.mb.lt), h.sl.below hb, h.sr.below hb, h.ml⟩
theorem MS.put {N' : Nat} {S' : ByteArray → Prop} (h : MS w3 W m N S la L ra R) (hm : MB W' m N' S') (hg : W.grownBy W' (some m)) : MS w3 W' m N' S' la L ra R := by
  have ho : OnlyM W W' := Only.of_grown hg fun k e => by injection e with e; rw [← e]; exact h.mb.isMap
  exact ⟨⟨hg.os.trans h.b.os, hg.tape.trans h.b.tape, hg.output.trans h.b.output, Nat.le_trans h.b.size hg.size, fun k hk => (hg.block k (Nat.lt_of_lt_of_le hk h.b.size) (fun e => by injection e with e; have := h.ml; omega)).trans (h.b.block k hk)⟩, hm, sl_m h.sl ho, sl_m h.sr ho, h.ml⟩
theorem MS.set {S' : ByteArray → Prop} {N' : Nat} (h : MS w3 W m N S la L ra R) (hN : N ≤ N') (hv : ∀ s, S s ↔ S' s) : MS w3 W m N' S' la L ra R := ⟨h.b, h.mb.congr hN hv, h.sl, h.sr, h.ml⟩
theorem MS.at (h : MS w3 W m N S la L ra R) {i : Nat} (hi : i < L.length) : ∃ b o, la = some ⟨b, o, none⟩ ∧ W.cell? ⟨b, o + i, none⟩ = some (.string L[i]) := by
  obtain ⟨bl, ol, e, hbl, hcel⟩ := h.sl.at (k := i) (by rw [trow_len]; exact hi)
  have q0 := hcel i (by rw [trow_len]; exact hi)
  rw [trow_at] at q0
  exact ⟨bl, ol, e, q0⟩
theorem MS.at2 (h : MS w3 W m N S la L ra R) {i : Nat} (hi : i < R.length) : ∃ b o, ra = some ⟨b, o, none⟩ ∧ W.cell? ⟨b, o + i, none⟩ = some (.string R[i]) := by
  obtain ⟨bl, ol, e, hbl, hcel⟩ := h.sr.at (k := i) (by rw [trow_len]; exact hi)
  have q0 := hcel i (by rw [trow_len]; exact hi)
  rw [trow_at] at q0
  exact ⟨bl, ol, e, q0⟩
end
theorem src_sl {w : World} {a : Option Addr} {c : Nat} {l : List ByteArray} (h : Sl w a (trow l)) : Src Try.prog 1 32 (.slice a l.length c) l.length (trow l) w := by
  cases l with
  | nil =>
    cases a with
    | none => exact Src.ofNil w Try.underlying32 c
    | some a => exact Src.ofSlice w Try.underlying32 a 0 c [] rfl (fun j u hu => by cases hu) (fun u hu => by cases hu)
  | cons x l =>
    obtain ⟨b, o, rfl, hb, hc⟩ := h.at (k := 0) (by simp [trow])
    refine Src.ofSlice w Try.underlying32 _ _ c _ (by rw [trow_len, Nat.mul_one]) (fun j u hu => ?_) (trow_one _)
    obtain ⟨hlt, e⟩ := List.getElem?_eq_some_iff.1 hu
    rw [Addr.add_lit, hc j hlt, e]
end Go.Proofs.Ytoeoablmcelohaa
namespace Go.Proofs.Ytoeoablmcelohaa
open Go Go.RowKit Go.Maps Go.Sort
open DagS (Nd nm pars par ids Wf ancS ancL upto)
open Classical

theorem mem_take_succ {L : List ByteArray} {i : Nat} (hi : i < L.length) (s : ByteArray) : s ∈ L.take (i + 1) ↔ s ∈ L.take i ∨ s = L[i] := by
  rw [List.take_add_one, List.getElem?_eq_getElem hi, List.mem_append]
  simp

theorem app1_b {W w5 : World} {o : Obj} (hg : (W.alloc o).grownBy w5 (Value.slice (some ⟨W.heap.size, 0, none⟩) 0 0).ownBlock) : Below W.heap.size W w5 := by
  have hbA : Below W.heap.size W (W.alloc o) := (Below.refl _ W).alloc (Nat.le_refl _) _
  refine hbA.grown hg hbA.size fun k e => ?_
  have e : some W.heap.size = some k := e
  injection e with e
  omega
theorem app2_b {W w5 w6 : World} {o : Obj} {v3 : Value} (hb : Below W.heap.size W w5) (hv : ∀ k, v3.ownBlock = some k → (Value.slice (some ⟨W.heap.size, 0, none⟩) 0 0).ownBlock = some k ∨ (W.alloc o).heap.size ≤ k) (hg : w5.grownBy w6 v3.ownBlock) : Below W.heap.size W w6 := by
  refine hb.grown hg hb.size fun k e => ?_
  rcases hv k e with e | e
  · have e : some W.heap.size = some k := e
    injection e with e
    omega
  · rw [World.size_alloc] at e
    omega
theorem app_tv {w : World} {v : Value} {h k : List ByteArray} (ho : OwnG w 9 1 v (0 + h.length + k.length) ([] ++ trow h ++ trow k)) : TV w v (h ++ k) := by
  unfold TV
  rw [List.length_append, trow_append]
  rw [Nat.zero_add, List.nil_append] at ho
  exact ho

set_option maxRecDepth 100000 in
set_option maxHeartbeats 4000000 in
theorem lawmiss_c {w : World} {na : Option Addr} {nc : Nat} {ns : List Nd} (hn : GR w na ns) (hl : ns.length ≤ 1048576) (hok : ∀ n ∈ ns, NdOk n) {ka : Option Addr} {kc : Nat} {k : List ByteArray} (hk : Sl w ka (trow k)) (hkl : k.length ≤ 9000000) (hkz : ∀ s ∈ k, s.size ≤ 10000000)
    {ha : Option Addr} {hc : Nat} {h : List ByteArray} (hh : Sl w ha (trow h)) (hhl : h.length ≤ 9000000) (hhz : ∀ s ∈ h, s.size ≤ 10000000) :
    Calls Try.prog 5 #[.slice na ns.length nc, .slice ka k.length kc, .slice ha h.length hc] w fun e w' => e = .returned (.bool true) ∧ Below w.heap.size w w' := by
  have hmm := fun (t : TypeId) (w : World) => run_makeMap (P := Try.prog) t w
  have HAW := Lib.hid (awake_c w)
  have HN := Lib.hid hn
  have HOK := Lib.hid hok
  have HK := Lib.hid hk
  have HH := Lib.hid hh
  have HKZ := Lib.hid hkz
  have HHZ := Lib.hid hhz
  clear hn hok hk hh hkz hhz
  go_enter Try.func5, Try.ntmps5
  go_upto_region 3 with (go_at_call 9; refine HAW.out.mono ?_; rintro e w1 ⟨rfl, hb1⟩)
  have HB1 := Lib.hid hb1
  clear hb1 HAW
  have hcase : 60 < ns.length ∨ (ns.length ≤ 60 ∧ 20 < k.length) ∨ (ns.length ≤ 60 ∧ k.length ≤ 20 ∧ 20 < h.length) ∨ (ns.length ≤ 60 ∧ k.length ≤ 20 ∧ h.length ≤ 20) := by omega
  rcases hcase with h1 | ⟨h1, h2⟩ | ⟨h1, h2, h3⟩ | ⟨h1, h2, h3⟩
  · have d1 : decide ((ns.length : Int) > 60) = true := decide_eq_true (by omega)
    go_wp2_with fail
    go_ret
    exact ⟨rfl, HB1.out⟩
  · have d1 : decide ((ns.length : Int) > 60) = false := decide_eq_false (by omega)
    have d2 : decide ((k.length : Int) > 20) = true := decide_eq_true (by omega)
    go_wp2_with fail
    go_ret
    exact ⟨rfl, HB1.out⟩
  · have d1 : decide ((ns.length : Int) > 60) = false := decide_eq_false (by omega)
    have d2 : decide ((k.length : Int) > 20) = false := decide_eq_false (by omega)
    have d3 : decide ((h.length : Int) > 20) = true := decide_eq_true (by omega)
    go_wp2_with fail
    go_ret
    exact ⟨rfl, HB1.out⟩
  · have d1 : decide ((ns.length : Int) > 60) = false := decide_eq_false (by omega)
    have d2 : decide ((k.length : Int) > 20) = false := decide_eq_false (by omega)
    have d3 : decide ((h.length : Int) > 20) = false := decide_eq_false (by omega)
    have HBU := Lib.hid (built_c (c := nc) (HN.out.below HB1.out) h1 HOK.out)
    go_upto_region 8 with (go_at_call 10; refine HBU.out.mono ?_; rintro e w3 ⟨p, v, rfl, hg, hv⟩)
    have hg60 := bld_len ns ns.length (Nat.le_refl _)
    rw [List.take_length] at hg60
    have HK3 := Lib.hid ((HK.out.below HB1.out).below hg.b)
    have HH3 := Lib.hid ((HH.out.below HB1.out).below hg.b)
    have HG := Lib.hid hg
    have HWF := Lib.hid hg.wf
    have HB3 := Lib.hid (HB1.out.trans (hg.b.mono HB1.out.size))
    clear hg hv HBU d1 d2 d3 HN HOK HK HH HB1
    generalize bld ns = g at *
    have HKZ' := HKZ.out
    have HHZ' := HHZ.out
    have hb0 : Below w3.heap.size w3 (w3.alloc (.map #[] 0)) := (Below.refl _ w3).alloc (Nat.le_refl _) _
    have HB0 := Lib.hid hb0
    clear hb0
    go_upto_region 9 with fail
    have HAC := Lib.hid ((HG.out.below HB0.out).anc (fc := hc) (HH3.out.below HB0.out) hhl HHZ')
    have HMD := Lib.hid (MB.made w3)
    generalize w3.alloc (.map #[] 0) = W0 at *
    go_wp2_with (go_at_call 15; refine HAC.out.mono ?_; rintro e w4 ⟨v4, rfl, hv4, hb4⟩; obtain ⟨la, lc, rfl, -, hs4⟩ := hv4.form)
    have HAL := Lib.hid (anc_len g h)
    have HAZ : Hid (∀ s ∈ ancL g h, s.size ≤ 10000000) := fun s hs => by
      obtain ⟨_, _, hcz⟩ := HWF.out.mem_anc.1 hs
      obtain ⟨_, j, _, e, _⟩ := hcz
      rw [← DagS.find_nm e]
      exact HG.out.sz (DagS.find_lt e)
    have hal := HAL.out
    have HA : Hid (MS w3 w4 w3.heap.size 0 (fun _ => False) la (ancL g h) none []) := ⟨HB0.out.trans (hb4.mono HB0.out.size), HMD.out.block (hb4.block _ HMD.out.lt), hs4, .nil _ _, Nat.le_refl _⟩
    have HPA : Hid (∀ n A B, DagS.missL g k h = A ++ n :: B → (∀ q ∈ DagS.parsL g n, q ∈ ancL g h ∨ q ∈ A) ∧ ¬ (n ∈ ancL g h ∨ n ∈ A)) := fun n A B e => ⟨fun q hq => HWF.out.miss_pars e hq, fun hh => hh.elim (HWF.out.miss_new e).1 (HWF.out.miss_new e).2⟩
    have HWH : Hid (∀ x ∈ ancL g k, x ∈ ancL g h ∨ x ∈ DagS.missL g k h) := fun x hx => HWF.out.miss_whole hx
    clear hv4 hb4 hs4 HMD HAC HB0 HAL
    generalize ancL g h = A at *
    go_loopw [47] (fun iv wx => ∃ i : Nat, i ≤ A.length ∧ iv = .int .i64 i ∧ MS w3 wx w3.heap.size i (fun s => s ∈ A.take i) la A none []) (fun iv _ => (A.length - intOf iv).toNat)
    case atStart => exact ⟨0, Nat.zero_le _, rfl, HA.out.set (Nat.le_refl _) fun s => by rw [List.take_zero]; exact ⟨fun h => h.elim, fun h => (nomatch h)⟩⟩
    case round =>
      clear HA
      obtain ⟨i, hi, rfl, ha1⟩ := hrel
      have HA := Lib.hid ha1
      clear ha1
      by_cases hil : i < A.length
      · have hd : decide ((i : Int) < (A.length : Int)) = true := decide_eq_true (by omega)
        obtain ⟨bl, ol, rfl, q1⟩ := HA.out.at hil
        have hxs := HAZ.out _ (List.getElem_mem hil)
        have HTK := Lib.hid (mem_take_succ hil)
        have hi0 : (0 : Int) ≤ i := by omega
        have hi1 : (i : Int) < A.length := by omega
        have hw1 : IntKind.i64.wrap ((i : Int) + 1) = ((i + 1 : Nat) : Int) := IntWalk.i64_in _ (by omega)
        generalize A[i] = x at *
        have hNN : i ≤ 100000000 := by omega
        go_wp2_with (at_mapUpdate; refine wp_putB rfl _ _ _ rfl rfl HA.out.mb hNN x rfl rfl hxs ?_; intro w5 hm5 hg5)
        go_roundw
        case rel => exact ⟨i + 1, by omega, by first | rfl | go_num, (HA.out.put hm5 hg5).set (Nat.le_refl _) fun s => (HTK.out s).symm⟩
        case measure => simp [intOf]; omega
      · obtain rfl : i = A.length := by omega
        have hd : decide ((A.length : Int) < (A.length : Int)) = false := decide_eq_false (by omega)
        go_upto_region 14 with fail
        go_wp2_with (go_at_call 16; refine ((HG.out.below HA.out.b).miss (HK3.out.below HA.out.b) hkl HKZ' (HH3.out.below HA.out.b) hhl HHZ').mono ?_; rintro e w6 ⟨v6, rfl, hv6, hb6⟩; obtain ⟨ma, mc, rfl, -, hs6⟩ := hv6.form)
        have HLZ : Hid (∀ s ∈ DagS.missL g k h, s.size ≤ 10000000) := fun s hs => by
          obtain ⟨⟨_, _, hcz⟩, _⟩ := HWF.out.mem_miss.1 hs
          obtain ⟨_, j, _, e, _⟩ := hcz
          rw [← DagS.find_nm e]
          exact HG.out.sz (DagS.find_lt e)
        have hml := miss_len g k h
        have HA2 := HA.out.below hb6
        have HB : Hid (MS w3 w6 w3.heap.size A.length (fun s => s ∈ A) ma (DagS.missL g k h) none []) := ⟨HA2.b, HA2.mb.congr (Nat.le_refl _) fun s => by rw [List.take_length], hs6, .nil _ _, HA2.ml⟩
        clear hv6 hb6 hs6 HA HA2 hd hil hi
        generalize DagS.missL g k h = L at *
        go_loopw [59] (fun iv wx => ∃ i : Nat, i ≤ L.length ∧ iv = .int .i64 i ∧ MS w3 wx w3.heap.size (A.length + i) (fun s => s ∈ A ∨ s ∈ L.take i) ma L none []) (fun iv _ => (L.length - intOf iv).toNat)
        case atStart => exact ⟨0, Nat.zero_le _, rfl, HB.out.set (Nat.le_refl _) fun s => by rw [List.take_zero]; exact ⟨.inl, fun h => h.resolve_right fun h => (nomatch h)⟩⟩
        case round =>
          clear HB
          obtain ⟨i, hi, rfl, ha1⟩ := hrel
          have HA := Lib.hid ha1
          clear ha1
          by_cases hil : i < L.length
          · have hd : decide ((i : Int) < (L.length : Int)) = true := decide_eq_true (by omega)
            obtain ⟨bl, ol, rfl, q1⟩ := HA.out.at hil
            have hxs := HLZ.out _ (List.getElem_mem hil)
            have HTK := Lib.hid (mem_take_succ hil)
            have HPN := Lib.hid (HPA.out L[i] (L.take i) (L.drop (i + 1)) (by rw [← List.drop_eq_getElem_cons hil, List.take_append_drop]))
            have hi0 : (0 : Int) ≤ i := by omega
            have hi1 : (i : Int) < L.length := by omega
            have hw1 : IntKind.i64.wrap ((i : Int) + 1) = ((i + 1 : Nat) : Int) := IntWalk.i64_in _ (by omega)
            generalize L[i] = n at *
            go_wp2_with (go_at_call 17; refine ((HG.out.below HA.out.b).pars hxs).mono ?_; rintro e w7 ⟨v7, rfl, hv7, hb7⟩; obtain ⟨ra, rc, rfl, -, hs7⟩ := hv7.form)
            have HA3 := HA.out.below hb7
            have hpl := pars_len2 HWF.out n
            have HRZ : Hid (∀ s ∈ DagS.parsL g n, s.size ≤ 10000000 ∧ (s ∈ A ∨ s ∈ L.take i)) := fun s hs => ⟨(HPN.out.1 s hs).elim (HAZ.out s) fun h => HLZ.out s (List.mem_of_mem_take h), HPN.out.1 s hs⟩
            have HC : Hid (MS w3 w7 w3.heap.size (A.length + i) (fun s => s ∈ A ∨ s ∈ L.take i) (some ⟨bl, ol, none⟩) L ra (DagS.parsL g n)) := ⟨HA3.b, HA3.mb, HA3.sl, hs7, HA3.ml⟩
            clear hv7 hb7 hs7 HA HA3 q1
            generalize DagS.parsL g n = R at *
            go_loopw [67] (fun jv wx => ∃ j : Nat, j ≤ R.length ∧ jv = .int .i64 j ∧ MS w3 wx w3.heap.size (A.length + i) (fun s => s ∈ A ∨ s ∈ L.take i) (some ⟨bl, ol, none⟩) L ra R) (fun jv _ => (R.length - intOf jv).toNat)
            case atStart => exact ⟨0, Nat.zero_le _, rfl, HC.out⟩
            case round =>
              clear HC
              obtain ⟨j, hj, rfl, ha2⟩ := hrel
              have HA := Lib.hid ha2
              clear ha2
              by_cases hjl : j < R.length
              · have hdj : decide ((j : Int) < (R.length : Int)) = true := decide_eq_true (by omega)
                obtain ⟨bl2, ol2, rfl, q2⟩ := HA.out.at2 hjl
                have hRj := HRZ.out _ (List.getElem_mem hjl)
                have hj0 : (0 : Int) ≤ j := by omega
                have hj1 : (j : Int) < R.length := by omega
                have hw2 : IntKind.i64.wrap ((j : Int) + 1) = ((j + 1 : Nat) : Int) := IntWalk.i64_in _ (by omega)
                generalize R[j] = y at *
                have hlk := HA.out.mb.yes hRj.1 hRj.2
                clear hRj
                go_wp2_with fail
                go_roundw
                case rel => exact ⟨j + 1, by omega, by first | rfl | go_num, HA.out⟩
                case measure => simp [intOf]; omega
              · obtain rfl : j = R.length := by omega
                have hdj : decide ((R.length : Int) < (R.length : Int)) = false := decide_eq_false (by omega)
                have hlk := HA.out.mb.no hxs HPN.out.2
                have hNN : A.length + i ≤ 100000000 := by omega
                go_wp2_with (at_mapUpdate; refine wp_putB rfl _ _ _ rfl rfl HA.out.mb hNN n rfl rfl hxs ?_; intro w8 hm8 hg8)
                go_roundw
                case rel =>
                  have hf := (HA.out.put hm8 hg8).set (N' := A.length + (i + 1)) (S' := fun s => s ∈ A ∨ s ∈ L.take (i + 1)) (by omega) fun s => by rw [HTK.out s, or_assoc]
                  exact ⟨i + 1, by omega, by first | rfl | go_num, ⟨hf.b, hf.mb, hf.sl, .nil _ _, hf.ml⟩⟩
                case measure => simp [intOf]; omega
          · obtain rfl : i = L.length := by omega
            have hd : decide ((L.length : Int) < (L.length : Int)) = false := decide_eq_false (by omega)
            go_wp2_with (go_at_call 15; refine ((HG.out.below HA.out.b).anc (HK3.out.below HA.out.b) hkl HKZ').mono ?_; rintro e w9 ⟨v9, rfl, hv9, hb9⟩; obtain ⟨ba, bc, rfl, -, hs9⟩ := hv9.form)
            have HA4 := HA.out.below hb9
            have hbl := anc_len g k
            have HBZ : Hid (∀ s ∈ ancL g k, s.size ≤ 10000000 ∧ (s ∈ A ∨ s ∈ L)) := fun s hs => ⟨(HWH.out s hs).elim (HAZ.out s) (HLZ.out s), HWH.out s hs⟩
            have HD : Hid (MS w3 w9 w3.heap.size (A.length + L.length) (fun s => s ∈ A ∨ s ∈ L) ba (ancL g k) none []) := ⟨HA4.b, HA4.mb.congr (Nat.le_refl _) fun s => by rw [List.take_length], hs9, .nil _ _, HA4.ml⟩
            clear hv9 hb9 hs9 HA HA4 hd hil hi HWH
            generalize ancL g k = B at *
            go_loopw [86] (fun iv wx => ∃ i : Nat, i ≤ B.length ∧ iv = .int .i64 i ∧ MS w3 wx w3.heap.size (A.length + L.length) (fun s => s ∈ A ∨ s ∈ L) ba B none []) (fun iv _ => (B.length - intOf iv).toNat)
            case atStart => exact ⟨0, Nat.zero_le _, rfl, HD.out⟩
            case round =>
              clear HD
              obtain ⟨i, hi, rfl, ha1⟩ := hrel
              have HA := Lib.hid ha1
              clear ha1
              by_cases hil : i < B.length
              · have hd : decide ((i : Int) < (B.length : Int)) = true := decide_eq_true (by omega)
                obtain ⟨bl, ol, rfl, q1⟩ := HA.out.at hil
                have hBi := HBZ.out _ (List.getElem_mem hil)
                have hi0 : (0 : Int) ≤ i := by omega
                have hi1 : (i : Int) < B.length := by omega
                have hw1 : IntKind.i64.wrap ((i : Int) + 1) = ((i + 1 : Nat) : Int) := IntWalk.i64_in _ (by omega)
                generalize B[i] = y at *
                have hlk := HA.out.mb.yes hBi.1 hBi.2
                clear hBi
                go_wp2_with fail
                go_roundw
                case rel => exact ⟨i + 1, by omega, by first | rfl | go_num, HA.out⟩
                case measure => simp [intOf]; omega
              · obtain rfl : i = B.length := by omega
                have hd : decide ((B.length : Int) < (B.length : Int)) = false := decide_eq_false (by omega)
                have HS1 := Lib.hid (src_sl (c := hc) ((HH3.out.below HA.out.b).below ((Below.refl _ wr).alloc (Nat.le_refl _) (.cells #[] 9))))
                have hs1 := HS1.out
                clear HS1
                have hgl1 : 0 + h.length ≤ maxLen := by rw [show maxLen = 9223372036854775807 from rfl]; omega
                have hgb1 : (0 + h.length) * 16 ≤ 140737488355328 := by omega
                have hgl2 : 0 + h.length + k.length ≤ maxLen := by rw [show maxLen = 9223372036854775807 from rfl]; omega
                have hgb2 : (0 + h.length + k.length) * 16 ≤ 140737488355328 := by omega
                have HKW := Lib.hid (HK3.out.below HA.out.b)
                have HGW := Lib.hid (HG.out.below HA.out.b)
                have hhk : (h ++ k).length ≤ 9000000 := by rw [List.length_append]; omega
                have hhkz : ∀ s ∈ h ++ k, s.size ≤ 10000000 := fun s hs => (List.mem_append.1 hs).elim (HHZ' s) (HKZ' s)
                have HMN : Hid (DagS.missL g k (h ++ k) = []) := HWF.out.miss_none fun s hs => List.mem_append.2 (.inr hs)
                obtain ⟨U, hU⟩ : ∃ U, h ++ k = U := ⟨_, rfl⟩
                rw [hU] at hhk hhkz HMN
                have HU := Lib.hid hU
                clear hU
                go_wp2_with (first
                  | (at_builtin; refine wp_appG rfl _ _ _ _ rfl textElem rfl rfl ho3 rfl hs2 hgl2 hgb2 ?_; intro v4 w6 ho4 hg4 hv4; have hb6 := app2_b hb5 hv3 hg4; have htv := app_tv ho4; rw [HU.out] at htv; obtain ⟨qa, qc, rfl, -, hq⟩ := htv.form; clear ho3 ho4 hs2 hg3 hg4 hv3 hv4)
                  | (at_builtin; refine wp_appG rfl _ _ _ _ rfl textElem rfl rfl (OwnG.empty _ _ _) rfl hs1 hgl1 hgb1 ?_; intro v3 w5 ho3 hg3 hv3; have hb5 := app1_b hg3; have hs2 := src_sl (c := kc) (HKW.out.below hb5); clear hs1)
                  | (go_at_call 16; refine ((HGW.out.below hb6).miss (HKW.out.below hb6) hkl HKZ' hq hhk hhkz).mono ?_; rintro e w7 ⟨v7, rfl, hv7, hb7⟩; rw [HMN.out] at hv7; obtain ⟨za, zc, rfl, -, -⟩ := hv7.form))
                go_ret
                exact ⟨rfl, HB3.out.trans ((HA.out.b.trans ((hb6.trans (hb7.mono hb6.size)).mono HA.out.b.size)).mono HB3.out.size)⟩
end Go.Proofs.Ytoeoablmcelohaa
namespace Go.Proofs.Ytoeoablmcelohaa.dagMissing
open Go.ChangeShapes Go.WideShapes Go.ChangeAt Go.RowKit
open Go.WideMaps Go.WideElems
open Go.ChangeMaps (open_string shut_string)

theorem reads (os : Os) {H : Type} (enc : TypeId × Value → H) : ∃ places, DataW.whole enc Try.prog ((laidWorld os).forCall (fun _ _ => 0) ⟨#[], #[Value.slice none 0 0, .slice none 0 0, .slice none 0 0], []⟩).memory Try.f5.params.toList Rows.dagMissingSpec.vars false (#[Value.slice none 0 0, .slice none 0 0, .slice none 0 0] : Array Value).toList 8 = some ([.nil, .nil, .nil], [], places) :=
  ⟨[], by kernel_rfl⟩

set_option maxRecDepth 100000 in
theorem contract (H : Type) (enc : TypeId × Value → H) (W : World) (base : Nat) (args : Array Value) (ds : List (DataW H)) (p : List MemPlace)
    (hval : ∀ (j : Nat) t v, Try.f5.params[j]? = some t → args[j]? = some v → Value.okWide Try.prog W .any base t v)
    (hA : DataW.TrodAll enc Try.prog W 0 (fun _ => true) true Try.f5.params.toList args.toList ds p) (hk : Rows.uptoSmall H ds = true) (_hL : laidMetH Try.prog Rows.dagMissingUptoRow.laid W) (_hshape : W.ShapedOpen Try.prog) :
    Calls Try.prog 5 args W fun e W' => e = .returned (.bool true) ∧ Below W.heap.size W W' := by
  rw [Try.params5] at hA hval
  obtain ⟨v0, vs0, d0, ds0, p0, q0, hargs0, rfl, rfl, h0, r0⟩ := trodAll_cons hA
  obtain ⟨v1, vs1, d1, ds1, p1, q1, hargs1, rfl, rfl, h1, r1⟩ := trodAll_cons r0
  obtain ⟨v2, vs2, d2, ds2, p2, q2, hargs2, rfl, rfl, h2, r2⟩ := trodAll_cons r1
  obtain ⟨rfl, rfl, rfl⟩ := trodAll_nil r2
  rw [hargs2] at hargs1
  rw [hargs1] at hargs0
  obtain rfl : args = #[v0, v1, v2] := by cases args; simp_all
  have k0 := bulk_mem hk (d := d0) (by simp)
  obtain ⟨a0, c0, x0, rfl, g0, l0, z0⟩ := open_nds (hval 0 22 v0 rfl rfl) h0 k0
  have k1 := bulk_mem hk (d := d1) (by simp)
  obtain ⟨a1, c1, x1, rfl, lc1, l1, z1, sl1⟩ := open_strs (hval 1 32 v1 rfl rfl) h1 k1
  have k2 := bulk_mem hk (d := d2) (by simp)
  obtain ⟨a2, c2, x2, rfl, lc2, l2, z2, sl2⟩ := open_strs (hval 2 32 v2 rfl rfl) h2 k2
  exact lawmiss_c g0 l0 z0 sl1 (by omega) (fun s hs => Nat.le_trans (z1 s hs) (by decide)) sl2 (by omega) (fun s hs => Nat.le_trans (z2 s hs) (by decide))

set_option maxRecDepth 100000 in
theorem lifted (os : Os) (started : os.Started) (H : Type) (enc : TypeId × Value → H) (F : Stop.Interp) :
    ReturnsInHanded {} Try.checked os 5 .any ((Rows.OpenSpec.upto Rows.dagMissingSpec).preRow enc Try.prog Try.f5 Rows.dagMissingUptoRow.domain false Rows.dagMissingUptoRow.laid) (((Rows.OpenSpec.upto Rows.dagMissingSpec).at F).post enc Try.prog Try.f5 false true false false) := by
  obtain ⟨places, hx⟩ := reads os enc
  refine law_lifted (laid := Rows.dagMissingUptoRow.laid) started Try.func5 (by kernel_rfl) rfl rfl ?_ (by kernel_rfl) ?_ ?_ ?_
  · intro ds h
    match ds, h with
    | [_, _, _], _ => rfl
  · rw [Try.params5]
    intro t ht
    have ht : t ∈ [22, 32, 32] := ht
    simp only [List.mem_cons, List.mem_nil_iff, or_false] at ht
    rcases ht with rfl | rfl | rfl <;> exact ⟨by kernel_rfl, of_decide_eq_true (by kernel_rfl)⟩
  · exact witness_row_at (enc := enc) (C := Try.checked) false (laidWorld os) #[Value.slice none 0 0, .slice none 0 0, .slice none 0 0] rfl (by kernel_rfl) (by kernel_rfl) (by kernel_rfl)
      (OpenSpec.preRow_of_cond 8 hx (by kernel_rfl) (fun k hk => by cases hk; kernel_rfl) (by kernel_rfl) (laid_met os _))
  · exact contract H enc

theorem saidUpto : Rows.DagMissingUptoSaid :=
  OpenClaim.holds_of_cond 5 Try.f5 rfl rfl rfl rfl rfl rfl rfl ⟨rfl, rfl, rfl, rfl, rfl⟩ rfl rfl rfl rfl rfl (by kernel_rfl) Try.func5 (by kernel_rfl)
    (of_decide_eq_true (by kernel_rfl)) (by unfold Func.isWrapper; rw [if_neg (by decide +kernel)]; exact ⟨rfl, rfl⟩)
    (fun os started H enc _ F => by rw [OpenClaim.pre_eq_preRow]; exact lifted os started H enc F)

end Go.Proofs.Ytoeoablmcelohaa.dagMissing
