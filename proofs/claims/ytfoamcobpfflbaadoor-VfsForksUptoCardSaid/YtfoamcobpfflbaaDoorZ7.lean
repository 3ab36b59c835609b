/- Texts of mine, joined: Walks over the document's answer: its small functions. | Walks over the document's answer: how many bytes there are. | A struct that fills a block: loaded and stored whole. Of every program. | Walks over the document's answer: a file put. | Walks over the document's answer: a change of names. -/
import Derived.Handy
import Derived.Deep.MidRow
import Derived.Test.YtfoamcobpfflbaaDoorZ6
namespace Go.Proofs.YtfoamcobpfflbaaDoor
open Go Go.RowKit
open VfsS (File Chg Nm St find doL)

/-- A file system as the document holds it: four slices, three numbers. -/
def RV (fa : Option Addr) (fn fc : Nat) (na : Option Addr) (nn nc : Nat) (sa : Option Addr) (sn sc : Nat) (aa : Option Addr) (an ac : Nat) (room steps limit : Int) : Value :=
  .agg #[.slice fa fn fc, .slice na nn nc, .slice sa sn sc, .slice aa an ac, .int .i64 room, .int .i64 steps, .int .i64 limit]

theorem rclamp_c (n : Int) (m : Nat) (w : World) : Calls Tryd.prog 69 #[.int .i64 n, .int .i64 (m : Int)] w fun e w' => e = .returned (.int .i64 (VfsS.clampN n m : Nat)) ∧ w' = w := by
  go_enter Tryd.func69, Tryd.ntmps69
  by_cases h0 : n < 0
  · have hd : decide (n < 0) = true := decide_eq_true h0
    have HC : Hid ((VfsS.clampN n m : Nat) = (0 : Int)) := by show _ = _; unfold VfsS.clampN; omega
    go_wp2_with fail
    go_ret
    exact ⟨ret_i64 HC.out, rfl⟩
  · have hd : decide (n < 0) = false := decide_eq_false h0
    by_cases h1 : n > m
    · have hd1 : decide (n > (m : Int)) = true := decide_eq_true h1
      have HC : Hid ((VfsS.clampN n m : Nat) = (m : Int)) := by show _ = _; unfold VfsS.clampN; omega
      go_wp2_with fail
      go_ret
      exact ⟨ret_i64 HC.out, rfl⟩
    · have hd1 : decide (n > (m : Int)) = false := decide_eq_false h1
      have HC : Hid ((VfsS.clampN n m : Nat) = (n : Int)) := by show _ = _; unfold VfsS.clampN; omega
      go_wp2_with fail
      go_ret
      exact ⟨ret_i64 HC.out, rfl⟩

theorem rwrong_c (n : Int) (w : World) : Calls Tryd.prog 15 #[.int .i64 n] w fun e w' => e = .returned (.int .i64 (if n < 0 ∨ 4194304 < n then 1 else 0)) ∧ w' = w := by
  go_enter Tryd.func15, Tryd.ntmps15
  by_cases h0 : n < 0
  · have hd : decide (n < 0) = true := decide_eq_true h0
    have HC : Hid ((if n < 0 ∨ 4194304 < n then (1 : Int) else 0) = 1) := if_pos (.inl h0)
    go_wp2_with fail
    go_ret
    exact ⟨by first | rfl | exact ret_i64 HC.out, rfl⟩
  · have hd : decide (n < 0) = false := decide_eq_false h0
    by_cases h1 : n > 4194304
    · have hd1 : decide (n > 4194304) = true := decide_eq_true h1
      have HC : Hid ((if n < 0 ∨ 4194304 < n then (1 : Int) else 0) = 1) := if_pos (.inr h1)
      go_wp2_with fail
      go_ret
      exact ⟨by first | rfl | exact ret_i64 HC.out, rfl⟩
    · have hd1 : decide (n > 4194304) = false := decide_eq_false h1
      have HC : Hid ((if n < 0 ∨ 4194304 < n then (1 : Int) else 0) = 0) := if_neg (fun e => e.elim h0 h1)
      go_wp2_with fail
      go_ret
      exact ⟨by first | rfl | exact ret_i64 HC.out, rfl⟩

set_option maxRecDepth 100000 in
theorem rnew_c (n : Int) (w : World) : Calls Tryd.prog 18 #[.int .i64 n] w fun e w' => e = .returned (RV none 0 0 none 0 0 none 0 0 none 0 0 n 0 (-1)) ∧ Below w.heap.size w w' := by
  go_enter Tryd.func18, Tryd.ntmps18
  go_wp2_with fail
  go_returns
  exact ⟨rfl, (Below.refl _ w).alloc (Nat.le_refl _) _⟩

set_option maxRecDepth 100000 in
theorem rstep_c (fa : Option Addr) (fn fc : Nat) (na : Option Addr) (nn nc : Nat) (sa : Option Addr) (sn sc : Nat) (aa : Option Addr) (an ac : Nat) (room steps limit : Int) (hs : 0 ≤ steps ∧ steps ≤ 100000000) (hl : -1 ≤ limit ∧ limit ≤ 9223372036854775807) (w : World) :
    Calls Tryd.prog 60 #[RV fa fn fc na nn nc sa sn sc aa an ac room steps limit] w fun e w' =>
      e = .returned (.tuple #[RV fa fn fc na nn nc sa sn sc aa an ac room (if limit = 0 then steps else steps + 1) (if 0 < limit then limit - 1 else limit), .int .i64 (if limit = 0 then 190 else 0)]) ∧ Below w.heap.size w w' := by
  unfold RV
  have hw1 : IntKind.i64.wrap (steps + 1) = steps + 1 := IntWalk.i64_in _ (by omega)
  have hw2 : IntKind.i64.wrap (limit - 1) = limit - 1 := IntWalk.i64_in _ (by omega)
  by_cases h0 : limit = 0
  · subst h0
    rw [if_pos rfl, if_pos rfl, if_neg (by decide)]
    go_enter Tryd.func60, Tryd.ntmps60
    go_wp2_with fail
    go_returns
    exact ⟨rfl, ((Below.refl _ w).alloc (Nat.le_refl _) _).alloc (by simp) _⟩
  · have hd : (limit == 0) = false := by rw [beq_eq_false_iff_ne]; exact h0
    rw [if_neg h0, if_neg h0]
    by_cases h1 : 0 < limit
    · rw [if_pos h1]
      have hd1 : decide (limit > 0) = true := decide_eq_true h1
      have hd2 : decide (0 < limit) = true := decide_eq_true h1
      clear h0
      go_enter Tryd.func60, Tryd.ntmps60
      go_wp2_with fail
      go_returns
      exact ⟨rfl, ((Below.refl _ w).alloc (Nat.le_refl _) _).alloc (by simp) _⟩
    · rw [if_neg h1]
      have hd1 : decide (limit > 0) = false := decide_eq_false h1
      have hd2 : decide (0 < limit) = false := decide_eq_false h1
      clear h0
      go_enter Tryd.func60, Tryd.ntmps60
      go_wp2_with fail
      go_returns
      exact ⟨rfl, ((Below.refl _ w).alloc (Nat.le_refl _) _).alloc (by simp) _⟩
end Go.Proofs.YtfoamcobpfflbaaDoor
namespace Go.Proofs.YtfoamcobpfflbaaDoor
open Go Go.RowKit
open VfsS (File Chg Nm St find doL)

/-- Files as cells. -/
def flrow (l : List File) : List Value := l.flatMap fun f => [.string f.text, .int .i64 (f.dur : Int)]

theorem flrow_len (l : List File) : (flrow l).length = l.length * 2 := by
  induction l with
  | nil => rfl
  | cons a l ih => rw [flrow, List.flatMap_cons, List.length_append, show (l.flatMap _).length = l.length * 2 from ih]; simp; omega

theorem flrow_append (l m : List File) : flrow (l ++ m) = flrow l ++ flrow m := by unfold flrow; rw [List.flatMap_append]

theorem flrow_at (l : List File) (j : Nat) (hj : j < l.length) : (flrow l)[j * 2]? = some (.string l[j].text) ∧ (flrow l)[j * 2 + 1]? = some (.int .i64 (l[j].dur : Int)) := by
  have h : flrow l = flrow (l.take j) ++ ([.string l[j].text, .int .i64 (l[j].dur : Int)] ++ flrow (l.drop (j + 1))) := by
    conv => lhs; rw [← List.take_append_drop j l, List.drop_eq_getElem_cons hj]
    rw [flrow_append]; rfl
  have hl : (flrow (l.take j)).length = j * 2 := by rw [flrow_len, List.length_take]; congr 1; omega
  rw [h]
  constructor
  · rw [List.getElem?_append_right (by omega), hl, Nat.sub_self]; rfl
  · rw [List.getElem?_append_right (by omega), hl, show j * 2 + 1 - j * 2 = 1 by omega]; rfl

theorem one_files (l : List File) : ∀ u ∈ flrow l, u.oneCell' = true := fun u hu => by
  obtain ⟨p, _, hp⟩ := List.mem_flatMap.1 hu
  simp at hp
  rcases hp with rfl | rfl <;> rfl

/-- How many bytes the names from the j-th on have. -/
def sumD (S : St) (j : Nat) : Nat := ((S.now.drop j).map fun p => (VfsS.fl S p.2).text.size).sum
theorem sumD_step (S : St) (j : Nat) (h : j < S.now.length) : sumD S j = (VfsS.fl S S.now[j].2).text.size + sumD S (j + 1) := by
  unfold sumD; rw [List.drop_eq_getElem_cons h, List.map_cons, List.sum_cons]

set_option maxRecDepth 100000 in
set_option maxHeartbeats 1000000 in
theorem rused_c {w : World} {S : St} {fa na sa aa : Option Addr} {fc nc sn sc an ac : Nat} (hf : OwnG w 119 2 (.slice fa S.files.length fc) S.files.length (flrow S.files)) (hn : OwnG w 152 2 (.slice na S.now.length nc) S.now.length (nrow S.now))
    (hwf : VfsS.Wf S) (hnl : S.now.length ≤ 100000000) (room steps limit : Int) :
    Calls Tryd.prog 70 #[RV fa S.files.length fc na S.now.length nc sa sn sc aa an ac room steps limit] w fun e w' => e = .returned (.int .i64 (VfsS.used S : Nat)) ∧ Below w.heap.size w w' := by
  have HUL := Lib.hid (used_le hwf hnl)
  have HU : Hid (sumD S 0 = VfsS.used S) := by show _ = _; unfold sumD VfsS.used; rw [List.drop_zero]
  have hidx : ∀ j (h : j < S.now.length), S.now[j].2 < S.files.length := fun j h => hwf.idx _ (.inl ⟨S.now[j].1, List.getElem_mem h⟩)
  have HIX := Lib.hid hidx
  unfold RV
  generalize hov : Value.slice sa sn sc = v3
  generalize hoa : Value.slice aa an ac = v4
  obtain ⟨fa', fc', e1, hc1, -, hs1⟩ := hf.form
  obtain ⟨na', nc', e2, hc2, -, hs2⟩ := hn.form
  cases e1; cases e2
  have hb0 : Below w.heap.size w (w.alloc (.cells #[.slice fa S.files.length fc, .slice na S.now.length nc, v3, v4, .int .i64 room, .int .i64 steps, .int .i64 limit] 36)) := (Below.refl _ w).alloc (Nat.le_refl _) _
  have hb : (w.alloc (.cells #[.slice fa S.files.length fc, .slice na S.now.length nc, v3, v4, .int .i64 room, .int .i64 steps, .int .i64 limit] 36)).heap[w.heap.size]? = some (.cells #[.slice fa S.files.length fc, .slice na S.now.length nc, v3, v4, .int .i64 room, .int .i64 steps, .int .i64 limit] 36 (0, 0)) := Array.getElem?_push_size
  have t1 := hs1.below hb0
  have t2 := hs2.below hb0
  subst hov hoa
  go_enter Tryd.func70, Tryd.ntmps70
  go_wp2_with fail
  generalize hW : w.alloc (.cells #[.slice fa S.files.length fc, .slice na S.now.length nc, .slice sa sn sc, .slice aa an ac, .int .i64 room, .int .i64 steps, .int .i64 limit] 36) = W at *
  have c0 : W.cell? ⟨w.heap.size, 0, none⟩ = some (.slice fa S.files.length fc) := by rw [cell_of hb]; rfl
  have c1 : W.cell? ⟨w.heap.size, 1, none⟩ = some (.slice na S.now.length nc) := by rw [cell_of hb]; rfl
  clear hW hb hf hn hs1 hs2 hidx
  go_loopw [3, 4] (fun av iv wx => ∃ j acc q : Nat, j ≤ S.now.length ∧ iv = .int .i64 j ∧ av = .int .i64 acc ∧ Hid (acc + sumD S j = VfsS.used S) ∧ wx = W.drewN q) (fun _ iv _ => (S.now.length - intOf iv).toNat)
  case atStart => exact ⟨0, 0, 0, Nat.zero_le _, rfl, rfl, by show _ = _; rw [HU.out, Nat.zero_add], rfl⟩
  case round =>
    obtain ⟨j, acc, q, hj, rfl, rfl, HA, rfl⟩ := hrel
    by_cases hjl : j < S.now.length
    · have hd : decide ((j : Int) < (S.now.length : Int)) = true := decide_eq_true (by omega)
      have hfi := HIX.out j hjl
      have HS := Lib.hid (sumD_step S j hjl)
      obtain ⟨nb, no, rfl, -, nce⟩ := t2.at (k := j * 2) (by rw [nrow_len]; omega)
      obtain ⟨fb, fo, rfl, -, fce⟩ := t1.at (k := S.now[j].2 * 2) (by rw [flrow_len]; omega)
      obtain ⟨r0, r1⟩ := nrow_at S.now j hjl
      obtain ⟨u0, u1⟩ := flrow_at S.files S.now[j].2 hfi
      have q1 : W.cell? ⟨nb, no + j * 2 + 1, none⟩ = some (.int .i64 (S.now[j].2 : Int)) := by
        obtain ⟨hi, e⟩ := List.getElem?_eq_some_iff.1 r1
        rw [Nat.add_assoc, nce _ hi, e]
      have q2 : W.cell? ⟨fb, fo + S.now[j].2 * 2, none⟩ = some (.string S.files[S.now[j].2].text) := by
        obtain ⟨hi, e⟩ := List.getElem?_eq_some_iff.1 u0
        rw [fce _ hi, e]
      have efl : (VfsS.fl S S.now[j].2).text.size = S.files[S.now[j].2].text.size := by
        unfold VfsS.fl; rw [List.getD_eq_getElem?_getD, List.getElem?_eq_getElem hfi]; rfl
      rw [efl] at HS
      clear r0 r1 u0 u1 nce fce efl
      generalize S.files[S.now[j].2].text = tx at *
      generalize S.now[j].2 = fi at *
      have HN : Hid ((acc + tx.size) + sumD S (j + 1) = VfsS.used S) := by show _ = _; rw [← HA.out, HS.out]; omega
      have hle : acc + tx.size ≤ 100000000 * 4194304 := by have := HN.out; have := HUL.out; omega
      have hw1 : IntKind.i64.wrap ((acc : Int) + (tx.size : Int)) = (acc : Int) + (tx.size : Int) := IntWalk.i64_in _ (by omega)
      have hw2 : IntKind.i64.wrap ((j : Int) + 1) = (j : Int) + 1 := IntWalk.i64_in _ (by omega)
      have b1 : (0 : Int) ≤ (fi : Int) := by omega
      have b2 : (fi : Int) < S.files.length := by omega
      have b3 : (0 : Int) ≤ (j : Int) := by omega
      have b4 : (j : Int) < S.now.length := by omega
      clear HS HA
      go_wp2_with fail
      go_quiet (fail)
      go_wp2_with fail
      go_roundw
      case rel => exact ⟨j + 1, acc + tx.size, _, by omega, by first | rfl | go_num, by first | rfl | go_num, HN, rfl⟩
      case measure => simp [intOf]; omega
    · have hd : decide ((j : Int) < (S.now.length : Int)) = false := decide_eq_false (by omega)
      have HE : Hid (acc = VfsS.used S) := by show _ = _; rw [← HA.out]; unfold sumD; rw [List.drop_eq_nil_of_le (by omega)]; rfl
      go_wp2_with fail
      go_ret
      exact ⟨ret_i64 (by rw [HE.out]), below_dN hb0 q⟩
end Go.Proofs.YtfoamcobpfflbaaDoor
namespace Go.Proofs.YtfoamcobpfflbaaDoor
open Go Go.RowKit

section
variable {P : Program} {ops : Array Oper} {rest : List Oper} {op : Oper} {a : Act} {w : World} {Q : Exit → Act → World → Prop}

/-- The whole block is loaded. -/
theorem wp_loadB (hgd : op.guard = none) (ty : TypeId) (x : Operand) (ho : op.op = .load ty x) (b : Nat) (hx : a.eval x = .pointer (some ⟨b, 0, none⟩)) {cs : Array Value} {e : TypeId} {fr : Nat × Nat} (hb : w.heap[b]? = some (.cells cs e fr)) (d : TypeDesc)
    (hu : P.underlying ty = some d) (hd : d.isRow = true) (hi : (P.info? ty).map (·.size) = some cs.toList.length) (h : wpList P ops Q rest (a.put op.dst (.agg cs)) w) : wpList P ops Q (op :: rest) a w :=
  wpList_load_mid hgd ty x ho b 0 hx cs.toList d (fun j v hj => by
    rw [Nat.zero_add]; simp only [World.cell?, hb]; rw [← Array.getElem?_toList]; exact hj) hu hd hi h

/-- The whole block is stored. -/
theorem wp_storeB (hgd : op.guard = none) (ty : TypeId) (x y : Operand) (ho : op.op = .store ty x y) (b : Nat) (new : Array Value) (hx : a.eval x = .pointer (some ⟨b, 0, none⟩)) (hy : a.eval y = .agg new) {old : Array Value} {e : TypeId} (hb : w.heap[b]? = some (.cells old e (0, 0)))
    (hsz : old.size = new.size) (hi : (P.info? ty).map (·.size) = some new.size) (h1 : new.all (·.oneCell') = true)
    (h : ∀ w' : World, w'.heap[b]? = some (.cells new e (0, 0)) → w.grownBy w' (some b) → wpList P ops Q rest (a.put op.dst undef) w') : wpList P ops Q (op :: rest) a w := by
  refine wpList_store_mid hgd ty x y ho b 0 new hx hy (fun j hj => ⟨?_, ?_⟩) hi h1 ?_
  · simp only [World.cell?, hb, Nat.zero_add]
    rw [Array.getElem?_eq_getElem (by omega)]; rfl
  · simp [World.frozen?, hb]
  · obtain ⟨cur', c1, c2, c3⟩ := setCells_block b new.toList 0 w old e (0, 0) hb (by simp; omega)
    have : cur' = new := by
      apply Array.ext_getElem?
      intro i
      rw [c3]
      by_cases hi : i < new.size
      · rw [if_pos (by simp; omega), Nat.sub_zero, Array.getElem?_toList]
      · rw [if_neg (by simp; omega), Array.getElem?_eq_none (by omega), Array.getElem?_eq_none (by omega)]
    subst this
    exact h _ c1 (setCells_grown w b 0 _)
end
end Go.Proofs.YtfoamcobpfflbaaDoor
namespace Go.Proofs.YtfoamcobpfflbaaDoor
open Go Go.RowKit
open VfsS (File Chg Nm St find doL)

/-- A cell of an owned row is stored. -/
theorem OwnG.set1 {w : World} {e : TypeId} {size : Nat} {g o n c : Nat} {xs : List Value} (h : OwnG w e size (.slice (some ⟨g, o, none⟩) n c) n xs) (j : Nat) (hj : j < xs.length) (u : Value) :
    OwnG (w.setCell ⟨g, o + j, none⟩ u) e size (.slice (some ⟨g, o, none⟩) n c) n (xs.set j u) := by
  refine ⟨by rw [List.length_set]; exact h.1, ?_⟩
  have hxl := h.1
  rcases h.2 with ⟨e1, _⟩ | ⟨g', o', cap, cur, e1, hg, hn, hc, hs, ht⟩
  · cases e1
  · injection e1 with e1 _ e3
    injection e1 with e1
    injection e1 with e4 e5 _
    subst e3 e4 e5
    obtain ⟨s1, _⟩ := set_block hg (o + j) u
    refine .inr ⟨g, o, c, cur.setIfInBounds (o + j) u, rfl, s1, hn, hc, by simpa using hs, fun i x hx => ?_⟩
    rw [List.getElem?_set] at hx
    rw [Array.getElem?_setIfInBounds]
    by_cases e : j = i
    · subst e
      rw [if_pos rfl, if_pos hj] at hx
      have hlt : o + j < cur.size := by
        have : n * size ≤ c * size := Nat.mul_le_mul_right _ hn
        omega
      rw [if_pos rfl, if_pos hlt]; exact hx
    · rw [if_neg e] at hx
      rw [if_neg (by omega)]
      exact ht i x hx

/-- An element of two cells is stored. -/
theorem own_put2 {w : World} {e : TypeId} {g o n c : Nat} {xs : List Value} (h : OwnG w e 2 (.slice (some ⟨g, o, none⟩) n c) n xs) (i : Nat) (hi : i < n) (x y : Value) :
    ∃ u0 u1, w.cell? ⟨g, o + i * 2, none⟩ = some u0 ∧ w.frozen? ⟨g, o + i * 2, none⟩ = false ∧ (w.setCell ⟨g, o + i * 2, none⟩ x).cell? ⟨g, o + i * 2 + 1, none⟩ = some u1 ∧ (w.setCell ⟨g, o + i * 2, none⟩ x).frozen? ⟨g, o + i * 2 + 1, none⟩ = false ∧
      OwnG ((w.setCell ⟨g, o + i * 2, none⟩ x).setCell ⟨g, o + i * 2 + 1, none⟩ y) e 2 (.slice (some ⟨g, o, none⟩) n c) n ((xs.set (i * 2) x).set (i * 2 + 1) y) ∧ w.grownBy ((w.setCell ⟨g, o + i * 2, none⟩ x).setCell ⟨g, o + i * 2 + 1, none⟩ y) (some g) := by
  have hl := h.1
  have cellAt : ∀ {w' : World} {ys : List Value}, OwnG w' e 2 (.slice (some ⟨g, o, none⟩) n c) n ys → ∀ j, j < ys.length → (∃ u, w'.cell? ⟨g, o + j, none⟩ = some u) ∧ w'.frozen? ⟨g, o + j, none⟩ = false ∧ ∀ v, w'.grownBy (w'.setCell ⟨g, o + j, none⟩ v) (some g) := by
    intro w' ys h' j hj
    obtain ⟨cur, hc⟩ := h'.tag (k := g) rfl
    obtain ⟨a, c', e1, -, -, hs⟩ := h'.form
    injection e1 with e1
    subst e1
    refine ⟨?_, frozen_of hc _, fun v => (set_block hc _ v).2⟩
    rcases hs with hs | ⟨b, o', e2, _, hs⟩
    · subst hs; simp at hj
    · injection e2 with e2; injection e2 with e2 e3 _; subst e2 e3
      exact ⟨_, hs j _ (List.getElem?_eq_getElem hj)⟩
  obtain ⟨⟨u0, q0⟩, q1, q2⟩ := cellAt h (i * 2) (by omega)
  have h1 := h.set1 (i * 2) (by omega) x
  obtain ⟨⟨u1, p0⟩, p1, p2⟩ := cellAt h1 (i * 2 + 1) (by rw [List.length_set]; omega)
  rw [← Nat.add_assoc] at p0 p1
  have h2 := h1.set1 (i * 2 + 1) (by rw [List.length_set]; omega) y
  rw [← Nat.add_assoc] at h2
  have p3 := p2 y
  rw [← Nat.add_assoc] at p3
  exact ⟨u0, u1, q0, q1, p0, p1, h2, (q2 x).andThen p3 (fun j hj => .inr hj)⟩

theorem fileElem : Elem Tryd.prog 32 119 (.agg #[.string ByteArray.empty, .int .i64 0]) 2 24 := ⟨by kernel_rfl, by kernel_rfl⟩

theorem flrow_set (l : List File) (i : Nat) (f : File) (hi : i < l.length) : flrow (l.set i f) = ((flrow l).set (i * 2) (.string f.text)).set (i * 2 + 1) (.int .i64 (f.dur : Int)) := by
  have hl : (flrow (l.take i)).length = i * 2 := by rw [flrow_len, List.length_take]; congr 1; omega
  have h : flrow l = flrow (l.take i) ++ (.string l[i].text :: .int .i64 (l[i].dur : Int) :: flrow (l.drop (i + 1))) := by
    conv => lhs; rw [← List.take_append_drop i l, List.drop_eq_getElem_cons hi]
    rw [flrow_append]; rfl
  have h2 : flrow (l.set i f) = flrow (l.take i) ++ (.string f.text :: .int .i64 (f.dur : Int) :: flrow (l.drop (i + 1))) := by
    rw [List.set_eq_take_append_cons_drop, if_pos hi, flrow_append]; rfl
  rw [h, h2, List.set_append_right _ _ (by omega), hl, Nat.sub_self, List.set_append_right _ _ (by omega), hl, show i * 2 + 1 - i * 2 = 1 by omega]
  rfl

theorem alloc3 (w : World) (o1 o2 o3 : Obj) : (((w.alloc o1).alloc o2).alloc o3).heap[w.heap.size]? = some o1 ∧ (((w.alloc o1).alloc o2).alloc o3).heap[w.heap.size + 1]? = some o2 ∧ (((w.alloc o1).alloc o2).alloc o3).heap[w.heap.size + 1 + 1]? = some o3 ∧
    Below w.heap.size w (((w.alloc o1).alloc o2).alloc o3) ∧ (((w.alloc o1).alloc o2).alloc o3).heap.size = w.heap.size + 1 + 1 + 1 := by
  have s1 : (w.alloc o1).heap.size = w.heap.size + 1 := by simp
  have s2 : ((w.alloc o1).alloc o2).heap.size = w.heap.size + 1 + 1 := by simp
  have g1 : (w.alloc o1).heap[w.heap.size]? = some o1 := Array.getElem?_push_size
  have g2 : ((w.alloc o1).alloc o2).heap[w.heap.size + 1]? = some o2 := by rw [← s1]; exact Array.getElem?_push_size
  have g3 : (((w.alloc o1).alloc o2).alloc o3).heap[w.heap.size + 1 + 1]? = some o3 := by rw [← s2]; exact Array.getElem?_push_size
  have b1 : Below w.heap.size w (w.alloc o1) := (Below.refl _ w).alloc (Nat.le_refl _) _
  have b2 : Below (w.alloc o1).heap.size (w.alloc o1) ((w.alloc o1).alloc o2) := (Below.refl _ _).alloc (Nat.le_refl _) _
  have b3 : Below ((w.alloc o1).alloc o2).heap.size ((w.alloc o1).alloc o2) (((w.alloc o1).alloc o2).alloc o3) := (Below.refl _ _).alloc (Nat.le_refl _) _
  exact ⟨((b3.block _ (by omega)).trans (b2.block _ (by omega))).trans g1, (b3.block _ (by omega)).trans g2, g3, (b1.trans (b2.mono (by omega))).trans (b3.mono (by omega)), by simp⟩

theorem own_at {w : World} {e : TypeId} {size : Nat} {v : Value} {n : Nat} {xs : List Value} (h : OwnG w e size v n xs) (hn : 0 < n) : ∃ g o c, v = .slice (some ⟨g, o, none⟩) n c ∧ g < w.heap.size := by
  rcases h.2 with ⟨_, e⟩ | ⟨g, o, cap, cur, rfl, hg, _⟩
  · omega
  · exact ⟨g, o, cap, rfl, (Array.getElem?_eq_some_iff.1 hg).1⟩

set_option maxRecDepth 100000 in
set_option maxHeartbeats 1000000 in
theorem rput_c {w : World} {S : St} {fa na sa aa : Option Addr} {fc nn nc sn sc an ac : Nat} (hf : OwnG w 119 2 (.slice fa S.files.length fc) S.files.length (flrow S.files)) (hfl : S.files.length ≤ 100000000) (room steps limit : Int) (i : Nat) (hi : i < S.files.length) (f : File) :
    Calls Tryd.prog 68 #[RV fa S.files.length fc na nn nc sa sn sc aa an ac room steps limit, .int .i64 (i : Int), .agg #[.string f.text, .int .i64 (f.dur : Int)]] w fun e w' =>
      ∃ ga gc, e = .returned (RV ga S.files.length gc na nn nc sa sn sc aa an ac room steps limit) ∧ OwnG w' 119 2 (.slice ga S.files.length gc) S.files.length (flrow (S.files.set i f)) ∧ (∀ k, (Value.slice ga S.files.length gc).ownBlock = some k → w.heap.size ≤ k) ∧ Below w.heap.size w w' := by
  obtain ⟨ft, fd⟩ := f
  have HSET := Lib.hid (flrow_set S.files i ⟨ft, fd⟩ hi)
  have hlen := flrow_len S.files
  generalize S.files.length = n at *
  have hmx : 0 + n ≤ maxLen := by rw [show maxLen = 9223372036854775807 from rfl]; omega
  have hby : (0 + n) * 24 ≤ 140737488355328 := by omega
  have b1 : (0 : Int) ≤ (i : Int) := by omega
  have b2 : (i : Int) < n := by omega
  unfold RV
  go_enter Tryd.func68, Tryd.ntmps68
  go_upto_region 1 with fail
  obtain ⟨hB1, hB2, hB3, hbW, hsz⟩ := alloc3 w (.cells #[.slice fa n fc, .slice na nn nc, .slice sa sn sc, .slice aa an ac, .int .i64 room, .int .i64 steps, .int .i64 limit] 36) (.cells #[.string ft, .int .i64 (fd : Int)] 119) (.cells #[.slice none 0 0, .slice none 0 0, .slice none 0 0, .slice none 0 0, .int .i64 0, .int .i64 0, .int .i64 0] 36)
  generalize hW : ((w.alloc (.cells #[.slice fa n fc, .slice na nn nc, .slice sa sn sc, .slice aa an ac, .int .i64 room, .int .i64 steps, .int .i64 limit] 36)).alloc (.cells #[.string ft, .int .i64 (fd : Int)] 119)).alloc (.cells #[.slice none 0 0, .slice none 0 0, .slice none 0 0, .slice none 0 0, .int .i64 0, .int .i64 0, .int .i64 0] 36) = W at *
  clear hW
  have HSZ := Lib.hid hsz
  clear hsz
  have c0 : W.cell? ⟨w.heap.size, 0, none⟩ = some (.slice fa n fc) := by rw [cell_of hB1]; rfl
  have hbA : Below W.heap.size W (W.alloc (.cells #[] 119)) := (Below.refl _ W).alloc (Nat.le_refl _) _
  have l1 := (Array.getElem?_eq_some_iff.1 hB1).1
  have l2 := (Array.getElem?_eq_some_iff.1 hB2).1
  have l3 := (Array.getElem?_eq_some_iff.1 hB3).1
  have c0' : (W.alloc (.cells #[] 119)).cell? ⟨w.heap.size, 0, none⟩ = some (.slice fa n fc) := by rw [cell_of ((hbA.block _ l1).trans hB1)]; rfl
  have hs1 := src_ownG (P := Tryd.prog) (tx := 32) Tryd.underlying32 ((hf.below hbW).alloc (.cells #[] 119)) (one_files _)
  go_upto_region 3 with (at_builtin; refine wp_appG rfl _ _ _ _ rfl fileElem rfl rfl (OwnG.empty _ _ _) rfl hs1 hmx hby ?_; intro v3 w3 ho3 hg3 hv3; have hh : ∀ k o, W.heap[k]? = some o → w3.heap[k]? = some o := (fun k o h => by have hk := (Array.getElem?_eq_some_iff.1 h).1; exact (hg3.block k (by simp; omega) (fun e => by have e : some k = some W.heap.size := e; injection e with e; omega)).trans ((hbA.block k hk).trans h)); have D1 := hh _ _ hB1; have D2 := hh _ _ hB2; have D3 := hh _ _ hB3; have f0 : w3.cell? ⟨w.heap.size + 1, 0, none⟩ = some (.string ft) := (by rw [cell_of D2]; rfl); have f1 : w3.cell? ⟨w.heap.size + 1, 1, none⟩ = some (.int .i64 (fd : Int)) := (by rw [cell_of D2]; rfl); obtain ⟨g3, o3, c3, rfl, hgl⟩ := own_at ho3 (by omega); obtain ⟨x0, x1, m0, m1, m2, m3, ho4, hg4⟩ := own_put2 (n := n) (by simpa using ho3) i (by omega) (.string ft) (.int .i64 (fd : Int)))
  have hg3b : W.heap.size ≤ g3 := by
    rcases hv3 g3 rfl with e | e
    · have e : some W.heap.size = some g3 := e
      injection e with e; omega
    · simp at e; omega
  have kb : ∀ k o, W.heap[k]? = some o → ((w3.setCell ⟨g3, o3 + i * 2, none⟩ (.string ft)).setCell ⟨g3, o3 + i * 2 + 1, none⟩ (.int .i64 (fd : Int))).heap[k]? = some o := fun k o h => by
    have hk := (Array.getElem?_eq_some_iff.1 h).1
    exact (hg4.block k (Array.getElem?_eq_some_iff.1 (hh _ _ h)).1 (by intro e; injection e with e; omega)).trans (hh _ _ h)
  have B1 := kb _ _ hB1
  have B3 := kb _ _ hB3
  have hbW3 : Below w.heap.size w ((w3.setCell ⟨g3, o3 + i * 2, none⟩ (.string ft)).setCell ⟨g3, o3 + i * 2 + 1, none⟩ (.int .i64 (fd : Int))) :=
    ((hbW.trans (hbA.mono hbW.size)).grown hg3 (by have := hbW.size; simp; omega) (fun k e => by have e : some W.heap.size = some k := e; injection e with e; have := hbW.size; omega)).grown hg4 (by have := hg3.size; have := hbW.size; simp at *; omega) (fun k e => by injection e with e; have := hbW.size; omega)
  generalize (w3.setCell ⟨g3, o3 + i * 2, none⟩ (.string ft)).setCell ⟨g3, o3 + i * 2 + 1, none⟩ (.int .i64 (fd : Int)) = w4 at *
  have a0 : w4.cell? ⟨w.heap.size, 0, none⟩ = some (.slice fa n fc) := by rw [cell_of B1]; rfl
  have z0 := frozen_of B1 0
  obtain ⟨s5, g5⟩ := set_block B1 0 (.slice (some ⟨g3, o3, none⟩) n c3)
  have B5 := (g5.block _ (Array.getElem?_eq_some_iff.1 B3).1 (by intro e; injection e with e; omega)).trans B3
  have s5' : (w4.setCell ⟨w.heap.size, 0, none⟩ (.slice (some ⟨g3, o3, none⟩) n c3)).heap[w.heap.size]? = some (.cells #[Value.slice (some ⟨g3, o3, none⟩) n c3, .slice na nn nc, .slice sa sn sc, .slice aa an ac, .int .i64 room, .int .i64 steps, .int .i64 limit] 36 (0, 0)) := by simpa using s5
  have hone : (#[Value.slice (some ⟨g3, o3, none⟩) n c3, .slice na nn nc, .slice sa sn sc, .slice aa an ac, .int .i64 room, .int .i64 steps, .int .i64 limit] : Array Value).all (·.oneCell') = true := by simp [Value.oneCell']
  go_wp2_with (first
    | (refine wp_loadB rfl 36 _ rfl w.heap.size rfl s5' _ Tryd.underlying36 rfl (by kernel_rfl) ?_)
    | (refine wp_storeB rfl 36 _ _ rfl (w.heap.size + 1 + 1) #[Value.slice (some ⟨g3, o3, none⟩) n c3, .slice na nn nc, .slice sa sn sc, .slice aa an ac, .int .i64 room, .int .i64 steps, .int .i64 limit] rfl rfl B5 rfl (by kernel_rfl) hone ?_; intro w6 h6 g6; have r0 : w6.cell? ⟨w.heap.size + 1 + 1, 0, none⟩ = some (Value.slice (some ⟨g3, o3, none⟩) n c3) := (by rw [cell_of h6]; rfl); have r1 : w6.cell? ⟨w.heap.size + 1 + 1, 1, none⟩ = some (.slice na nn nc) := (by rw [cell_of h6]; rfl); have r2 : w6.cell? ⟨w.heap.size + 1 + 1, 2, none⟩ = some (.slice sa sn sc) := (by rw [cell_of h6]; rfl); have r3 : w6.cell? ⟨w.heap.size + 1 + 1, 3, none⟩ = some (.slice aa an ac) := (by rw [cell_of h6]; rfl); have r4 : w6.cell? ⟨w.heap.size + 1 + 1, 4, none⟩ = some (.int .i64 room) := (by rw [cell_of h6]; rfl); have r5 : w6.cell? ⟨w.heap.size + 1 + 1, 5, none⟩ = some (.int .i64 steps) := (by rw [cell_of h6]; rfl); have r6 : w6.cell? ⟨w.heap.size + 1 + 1, 6, none⟩ = some (.int .i64 limit) := (by rw [cell_of h6]; rfl)))
  (try simp only [Exit.inBlock, Exit.then])
  refine bodyPost_ret (by simp [results, Tryd.results68, go_sem, r0, r1, r2, r3, r4, r5, r6]; try rfl) rfl ?_
  have hb6 := (hbW3.grown g5 (by have := hbW3.size; omega) (fun k e => by injection e with e; omega)).grown g6 (by have := hbW3.size; have := g5.size; omega) (fun k e => by injection e with e; omega)
  refine ⟨some ⟨g3, o3, none⟩, c3, rfl, ?_, fun k hk => ?_, hb6⟩
  · rw [HSET.out]
    exact (ho4.kept g5 (.inr (fun e => by have e : some g3 = some w.heap.size := e; injection e with e; omega))).kept g6 (.inr (fun e => by have e : some g3 = some (w.heap.size + 1 + 1) := e; injection e with e; omega))
  · have e : some g3 = some k := hk
    injection e with e; have := hbW.size; omega
end Go.Proofs.YtfoamcobpfflbaaDoor
namespace Go.Proofs.YtfoamcobpfflbaaDoor
open Go Go.RowKit
open VfsS (File Chg Nm St find doL)

/-- Changes as cells. -/
def chrow (l : List Chg) : List Value := l.flatMap fun a => [.string a.src, .string a.dst, .int .i64 (fileI a.file)]

theorem chrow_len (l : List Chg) : (chrow l).length = l.length * 3 := by
  induction l with
  | nil => rfl
  | cons a l ih => rw [chrow, List.flatMap_cons, List.length_append, show (l.flatMap _).length = l.length * 3 from ih]; simp; omega

theorem chrow_append (l m : List Chg) : chrow (l ++ m) = chrow l ++ chrow m := by unfold chrow; rw [List.flatMap_append]

theorem chrow_drop (l : List Chg) (j : Nat) : (chrow l).drop (j * 3) = chrow (l.drop j) := by
  by_cases hj : j ≤ l.length
  · conv => lhs; rw [← List.take_append_drop j l, chrow_append]
    have hl : (chrow (l.take j)).length = j * 3 := by rw [chrow_len, List.length_take]; congr 1; omega
    rw [← hl, List.drop_left]
  · rw [List.drop_eq_nil_of_le (by rw [chrow_len]; omega), List.drop_eq_nil_of_le (by omega)]; rfl

theorem chrow_at (l : List Chg) (j : Nat) (hj : j < l.length) : (chrow l)[j * 3]? = some (.string l[j].src) ∧ (chrow l)[j * 3 + 1]? = some (.string l[j].dst) ∧ (chrow l)[j * 3 + 2]? = some (.int .i64 (fileI l[j].file)) := by
  have h : (chrow l).drop (j * 3) = [.string l[j].src, .string l[j].dst, .int .i64 (fileI l[j].file)] ++ chrow (l.drop (j + 1)) := by
    rw [chrow_drop, List.drop_eq_getElem_cons hj]; rfl
  have g : ∀ i, (chrow l)[j * 3 + i]? = ([.string l[j].src, .string l[j].dst, .int .i64 (fileI l[j].file)] ++ chrow (l.drop (j + 1)))[i]? := fun i => by rw [← h, List.getElem?_drop]
  exact ⟨by simpa using g 0, by simpa using g 1, by simpa using g 2⟩

theorem one_chgs (l : List Chg) : ∀ u ∈ chrow l, u.oneCell' = true := fun u hu => by
  obtain ⟨p, _, hp⟩ := List.mem_flatMap.1 hu
  simp at hp
  rcases hp with rfl | rfl | rfl <;> rfl

theorem chgElem : Elem Tryd.prog 34 122 (.agg #[.string ByteArray.empty, .string ByteArray.empty, .int .i64 0]) 3 40 := ⟨by kernel_rfl, by kernel_rfl⟩

set_option maxRecDepth 100000 in
set_option maxHeartbeats 1000000 in
theorem rchange_c {w : World} {S : St} {fa na sa aa : Option Addr} {fn fc nc sn sc ac : Nat} (hn : OwnG w 152 2 (.slice na S.now.length nc) S.now.length (nrow S.now)) (ha : OwnG w 122 3 (.slice aa S.acts.length ac) S.acts.length (chrow S.acts))
    (hnl : S.now.length ≤ 90000000) (hal : S.acts.length ≤ 90000000) (room steps limit : Int) (ch : Chg) (hfi : ∀ i, ch.file = some i → i ≤ 100000000) :
    Calls Tryd.prog 61 #[RV fa fn fc na S.now.length nc sa sn sc aa S.acts.length ac room steps limit, .agg #[.string ch.src, .string ch.dst, .int .i64 (fileI ch.file)]] w fun e w' =>
      ∃ ga gc ba bc, e = .returned (RV fa fn fc ga (doL S.now ch).length gc sa sn sc ba (S.acts.length + 1) bc room steps limit) ∧ OwnG w' 152 2 (.slice ga (doL S.now ch).length gc) (doL S.now ch).length (nrow (doL S.now ch)) ∧ OwnG w' 122 3 (.slice ba (S.acts.length + 1) bc) (S.acts.length + 1) (chrow (S.acts ++ [ch])) ∧
        (∀ k, (Value.slice ga (doL S.now ch).length gc).ownBlock = some k → (Value.slice na S.now.length nc).ownBlock = some k ∨ w.heap.size ≤ k) ∧ (∀ k, (Value.slice ba (S.acts.length + 1) bc).ownBlock = some k → w.heap.size ≤ k) ∧ Below w.heap.size w w' := by
  unfold RV
  go_enter Tryd.func61, Tryd.ntmps61
  go_upto_region 1 with fail
  obtain ⟨hB1, hB2, hB3, hbW, hsz⟩ := alloc3 w (.cells #[.slice fa fn fc, .slice na S.now.length nc, .slice sa sn sc, .slice aa S.acts.length ac, .int .i64 room, .int .i64 steps, .int .i64 limit] 36) (.cells #[.string ch.src, .string ch.dst, .int .i64 (fileI ch.file)] 122) (.cells #[.slice none 0 0, .slice none 0 0, .slice none 0 0, .slice none 0 0, .int .i64 0, .int .i64 0, .int .i64 0] 36)
  generalize hW : ((w.alloc (.cells #[.slice fa fn fc, .slice na S.now.length nc, .slice sa sn sc, .slice aa S.acts.length ac, .int .i64 room, .int .i64 steps, .int .i64 limit] 36)).alloc (.cells #[.string ch.src, .string ch.dst, .int .i64 (fileI ch.file)] 122)).alloc (.cells #[.slice none 0 0, .slice none 0 0, .slice none 0 0, .slice none 0 0, .int .i64 0, .int .i64 0, .int .i64 0] 36) = W at *
  clear hW
  have HSZ := Lib.hid hsz
  clear hsz
  have l1 := (Array.getElem?_eq_some_iff.1 hB1).1
  have l2 := (Array.getElem?_eq_some_iff.1 hB2).1
  have l3 := (Array.getElem?_eq_some_iff.1 hB3).1
  have c1 : W.cell? ⟨w.heap.size, 1, none⟩ = some (.slice na S.now.length nc) := by rw [cell_of hB1]; rfl
  have HDO := Lib.hid (rdo_c (hn.below hbW) hnl ch hfi)
  go_upto_region 2 with (first
    | (refine wp_loadB rfl 122 _ rfl (w.heap.size + 1) rfl hB2 _ Tryd.underlying122 rfl (by kernel_rfl) ?_)
    | (go_at_call 87; refine HDO.out.mono ?_; rintro e w1 ⟨v1, rfl, ho1, hk1, hb1⟩; obtain ⟨ga, gc, rfl, hgc, hgm, hgs⟩ := ho1.form; have D1 := (hb1.block _ l1).trans hB1; have c1' : w1.cell? ⟨w.heap.size, 1, none⟩ = some (.slice na S.now.length nc) := (by rw [cell_of D1]; rfl); have z1 := frozen_of D1 1))
  obtain ⟨s2, g2⟩ := set_block D1 1 (.slice ga (doL S.now ch).length gc)
  have kb2 : ∀ k o, W.heap[k]? = some o → k ≠ w.heap.size → (w1.setCell ⟨w.heap.size, 1, none⟩ (.slice ga (doL S.now ch).length gc)).heap[k]? = some o := fun k o h hk => by
    have hlt := (Array.getElem?_eq_some_iff.1 h).1
    have h1 := (hb1.block k hlt).trans h
    exact (g2.block k (Array.getElem?_eq_some_iff.1 h1).1 (by intro e; injection e with e; exact hk e)).trans h1
  have E2 := kb2 _ _ hB2 (by omega)
  have E3 := kb2 _ _ hB3 (by omega)
  have E1 : (w1.setCell ⟨w.heap.size, 1, none⟩ (.slice ga (doL S.now ch).length gc)).heap[w.heap.size]? = some (.cells #[.slice fa fn fc, .slice ga (doL S.now ch).length gc, .slice sa sn sc, .slice aa S.acts.length ac, .int .i64 room, .int .i64 steps, .int .i64 limit] 36 (0, 0)) := by simpa using s2
  have hb2 : Below w.heap.size w (w1.setCell ⟨w.heap.size, 1, none⟩ (.slice ga (doL S.now ch).length gc)) := (hbW.trans (hb1.mono hbW.size)).grown g2 (by have := hbW.size; have := hb1.size; omega) (fun k e => by injection e with e; omega)
  have ha2 := ha.below hb2
  have ho2 := ho1.kept g2 (by
    cases hk : (Value.slice ga (doL S.now ch).length gc).ownBlock with
    | none => exact .inl rfl
    | some k =>
      right; intro e; injection e with e; subst e
      obtain ⟨cur, hc⟩ := ho1.tag hk
      rw [D1] at hc; injection hc with hc; injection hc with _ hc _; exact absurd hc (by decide))
  generalize w1.setCell ⟨w.heap.size, 1, none⟩ (.slice ga (doL S.now ch).length gc) = w2 at *
  have m1 := (Array.getElem?_eq_some_iff.1 E1).1
  have m2 := (Array.getElem?_eq_some_iff.1 E2).1
  have m3 := (Array.getElem?_eq_some_iff.1 E3).1
  have hbA : Below w2.heap.size w2 (w2.alloc (.cells #[] 122)) := (Below.refl _ w2).alloc (Nat.le_refl _) _
  have c3 : (w2.alloc (.cells #[] 122)).cell? ⟨w.heap.size, 3, none⟩ = some (.slice aa S.acts.length ac) := by rw [cell_of ((hbA.block _ m1).trans E1)]; rfl
  have hs1 := src_ownG (P := Tryd.prog) (tx := 34) Tryd.underlying34 (ha2.alloc (.cells #[] 122)) (one_chgs _)
  have hmx : 0 + S.acts.length ≤ maxLen := by rw [show maxLen = 9223372036854775807 from rfl]; omega
  have hby : (0 + S.acts.length) * 40 ≤ 140737488355328 := by omega
  go_upto_region 3 with (at_builtin; refine wp_appG rfl _ _ _ _ rfl chgElem rfl rfl (OwnG.empty _ _ _) rfl hs1 hmx hby ?_; intro v3 w3 hp3 hg3 hv3)
  have kb3 : ∀ k o, w2.heap[k]? = some o → w3.heap[k]? = some o := fun k o h => by
    have hk := (Array.getElem?_eq_some_iff.1 h).1
    exact (hg3.block k (by simp; omega) (fun e => by have e : some k = some w2.heap.size := e; injection e with e; omega)).trans ((hbA.block k hk).trans h)
  have F1 := kb3 _ _ E1
  have F2 := kb3 _ _ E2
  have F3 := kb3 _ _ E3
  have hb3 : Below w2.heap.size w2 w3 := hbA.grown hg3 (by simp) (fun k e => by have e : some w2.heap.size = some k := e; injection e with e; omega)
  have hv3' : ∀ k, v3.ownBlock = some k → w2.heap.size ≤ k := fun k hk => by
    rcases hv3 k hk with e | e
    · have e : some w2.heap.size = some k := e; injection e with e; omega
    · simp at e; omega
  have ho3 := ho2.below hb3
  clear hs1 hmx hby c3 hg3 hv3 hbA
  have hsn := Src.ofNew (P := Tryd.prog) (w := w3) (tx := 34) (e := 122) Tryd.underlying34 (show [Value.string ch.src, Value.string ch.dst, Value.int .i64 (fileI ch.file)].length = 3 from rfl) (by intro u hu; simp at hu; rcases hu with rfl | rfl | rfl <;> rfl)
  have hmx2 : 0 + S.acts.length + 1 ≤ maxLen := by rw [show maxLen = 9223372036854775807 from rfl]; omega
  have hby2 : (0 + S.acts.length + 1) * 40 ≤ 140737488355328 := by omega
  go_upto_region 4 with (first
    | (refine wp_loadB rfl 122 _ rfl (w.heap.size + 1) rfl F2 _ Tryd.underlying122 rfl (by kernel_rfl) ?_)
    | (at_builtin; refine wp_appG rfl _ _ _ _ rfl chgElem rfl rfl (hp3.alloc _) rfl hsn hmx2 hby2 ?_; intro v4 w4 hp4 hg4 hv4; obtain ⟨ba, bc, rfl, hbc, hbm, hbs⟩ := hp4.form; have kb4 : ∀ k o, w3.heap[k]? = some o → k < w2.heap.size → w4.heap[k]? = some o := (fun k o h hk2 => by have hk := (Array.getElem?_eq_some_iff.1 h).1; exact (hg4.block k (by simp; omega) (fun e => by have := hv3' k e.symm; omega)).trans (((World.grownBy_alloc w3 (.cells #[.string ch.src, .string ch.dst, .int .i64 (fileI ch.file)] 122) none).block k hk (by simp)).trans h)); have G1 := kb4 _ _ F1 m1; have G3 := kb4 _ _ F3 m3; have c4 : w4.cell? ⟨w.heap.size, 3, none⟩ = some (.slice aa S.acts.length ac) := (by rw [cell_of G1]; rfl); have z4 := frozen_of G1 3))
  rw [Nat.zero_add] at hp4 hv4
  have hv4' : ∀ k, (Value.slice ba (S.acts.length + 1) bc).ownBlock = some k → w2.heap.size ≤ k := fun k hk => by
    rcases hv4 k (by simpa using hk) with e | e
    · exact hv3' k e
    · have := hb3.size; simp at e; omega
  have hb4 : Below w2.heap.size w2 w4 := (hb3.alloc hb3.size _).grown hg4 (by have := hb3.size; simp; omega) hv3'
  obtain ⟨s5, g5⟩ := set_block G1 3 (.slice ba (S.acts.length + 1) bc)
  have s5' : (w4.setCell ⟨w.heap.size, 3, none⟩ (.slice ba (S.acts.length + 1) bc)).heap[w.heap.size]? = some (.cells #[Value.slice fa fn fc, .slice ga (doL S.now ch).length gc, .slice sa sn sc, .slice ba (S.acts.length + 1) bc, .int .i64 room, .int .i64 steps, .int .i64 limit] 36 (0, 0)) := by simpa using s5
  have B5 := (g5.block _ (Array.getElem?_eq_some_iff.1 G3).1 (by intro e; injection e with e; omega)).trans G3
  have hb5 : Below w.heap.size w (w4.setCell ⟨w.heap.size, 3, none⟩ (.slice ba (S.acts.length + 1) bc)) := (hb2.trans (hb4.mono hb2.size)).grown g5 (by have := hb2.size; have := hb4.size; omega) (fun k e => by injection e with e; omega)
  have hn5 := (ho2.below hb4).kept g5 (by
    cases hk : (Value.slice ga (doL S.now ch).length gc).ownBlock with
    | none => exact .inl rfl
    | some k =>
      right; intro e; injection e with e; subst e
      obtain ⟨cur, hc⟩ := ho2.tag hk
      rw [E1] at hc; injection hc with hc; injection hc with _ hc _; exact absurd hc (by decide))
  have hp5 := hp4.kept g5 (by
    cases hk : (Value.slice ba (S.acts.length + 1) bc).ownBlock with
    | none => exact .inl rfl
    | some k =>
      right; intro e; injection e with e; have := hv4' _ hk; omega)
  generalize w4.setCell ⟨w.heap.size, 3, none⟩ (.slice ba (S.acts.length + 1) bc) = w5 at *
  have hone : (#[Value.slice fa fn fc, .slice ga (doL S.now ch).length gc, .slice sa sn sc, .slice ba (S.acts.length + 1) bc, .int .i64 room, .int .i64 steps, .int .i64 limit] : Array Value).all (·.oneCell') = true := by simp [Value.oneCell']
  go_wp2_with (first
    | (refine wp_loadB rfl 36 _ rfl w.heap.size rfl s5' _ Tryd.underlying36 rfl (by kernel_rfl) ?_)
    | (refine wp_storeB rfl 36 _ _ rfl (w.heap.size + 1 + 1) #[Value.slice fa fn fc, .slice ga (doL S.now ch).length gc, .slice sa sn sc, .slice ba (S.acts.length + 1) bc, .int .i64 room, .int .i64 steps, .int .i64 limit] rfl rfl B5 rfl (by kernel_rfl) hone ?_; intro w6 h6 g6; have r0 : w6.cell? ⟨w.heap.size + 1 + 1, 0, none⟩ = some (Value.slice fa fn fc) := (by rw [cell_of h6]; rfl); have r1 : w6.cell? ⟨w.heap.size + 1 + 1, 1, none⟩ = some (.slice ga (doL S.now ch).length gc) := (by rw [cell_of h6]; rfl); have r2 : w6.cell? ⟨w.heap.size + 1 + 1, 2, none⟩ = some (.slice sa sn sc) := (by rw [cell_of h6]; rfl); have r3 : w6.cell? ⟨w.heap.size + 1 + 1, 3, none⟩ = some (.slice ba (S.acts.length + 1) bc) := (by rw [cell_of h6]; rfl); have r4 : w6.cell? ⟨w.heap.size + 1 + 1, 4, none⟩ = some (.int .i64 room) := (by rw [cell_of h6]; rfl); have r5 : w6.cell? ⟨w.heap.size + 1 + 1, 5, none⟩ = some (.int .i64 steps) := (by rw [cell_of h6]; rfl); have r6 : w6.cell? ⟨w.heap.size + 1 + 1, 6, none⟩ = some (.int .i64 limit) := (by rw [cell_of h6]; rfl)))
  (try simp only [Exit.inBlock, Exit.then])
  refine bodyPost_ret (by simp [results, Tryd.results61, go_sem, r0, r1, r2, r3, r4, r5, r6]; try rfl) rfl ?_
  refine ⟨ga, gc, ba, bc, rfl, hn5.kept g6 ?_, ?_, fun k hk => ?_, fun k hk => ?_, hb5.grown g6 (by have := hb5.size; omega) (fun k e => by injection e with e; omega)⟩
  · cases hk : (Value.slice ga (doL S.now ch).length gc).ownBlock with
    | none => exact .inl rfl
    | some k =>
      right; intro e; injection e with e; subst e
      obtain ⟨cur, hc⟩ := hn5.tag hk
      rw [B5] at hc; injection hc with hc; injection hc with _ hc _; exact absurd hc (by decide)
  · rw [chrow_append]
    refine hp5.kept g6 ?_
    cases hk : (Value.slice ba (S.acts.length + 1) bc).ownBlock with
    | none => exact .inl rfl
    | some k =>
      right; intro e; injection e with e; have := hv4' _ hk; omega
  · rcases hk1 k hk with e | e
    · exact .inl e
    · right; have := hbW.size; omega
  · have := hv4' k hk; have := hb2.size; omega
end Go.Proofs.YtfoamcobpfflbaaDoor
