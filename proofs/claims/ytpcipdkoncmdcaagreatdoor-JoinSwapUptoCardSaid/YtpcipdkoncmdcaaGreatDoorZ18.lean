/- Texts of mine, joined: A path's files in three snapshots, as they lie in memory. | Walk: is a path alike in two snapshots? -/
import Derived.Test.YtpcipdkoncmdcaaGreatDoorZ17
namespace Go.Proofs.YtpcipdkoncmdcaaGreatDoor
open Go Go.RowKit

/-- One thing for each of three snapshots. -/
structure T3 (α : Type) where
  a : α
  b : α
  c : α
def T3.get {α : Type} (t : T3 α) : Nat → α
  | 0 => t.a
  | 1 => t.b
  | _ => t.c
def T3.set {α : Type} (t : T3 α) (n : Nat) (v : α) : T3 α :=
  match n with
  | 0 => { t with a := v }
  | 1 => { t with b := v }
  | _ => { t with c := v }

structure Th where
  path : ByteArray
  kind : Nat
  id : List Nat
  stamp : Nat
  tv : Value
  has : T3 Bool
  ids : T3 (List Nat)
  sts : T3 Nat

def tcs (t : Th) : List Value := .string t.path :: .int .i64 t.kind :: (nb t.id ++ (.float .f64 t.stamp :: t.tv :: .bool t.has.a :: .bool t.has.b :: .bool t.has.c :: (nb t.ids.a ++ (nb t.ids.b ++ (nb t.ids.c ++ [.float .f64 t.sts.a, .float .f64 t.sts.b, .float .f64 t.sts.c])))))

structure OkTh (t : Th) : Prop where
  id : OkId t.id
  ia : OkId t.ids.a
  ib : OkId t.ids.b
  ic : OkId t.ids.c
  sa : t.sts.a < 2 ^ 64
  sb : t.sts.b < 2 ^ 64
  sc : t.sts.c < 2 ^ 64
  tv : t.tv.oneCell' = true

/-- A block that holds a list of cells. -/
def Bk (w : World) (q : Nat) (e : TypeId) (cs : List Value) : Prop := w.heap[q]? = some (.cells cs.toArray e (0, 0))
section
variable {w w' : World} {q : Nat} {e : TypeId} {cs A B C : List Value}
theorem Bk.lt (h : Bk w q e cs) : q < w.heap.size := (Array.getElem?_eq_some_iff.1 h).1
theorem Bk.cell (h : Bk w q e cs) {j : Nat} {u : Value} (hu : cs[j]? = some u) : w.cell? ⟨q, j, none⟩ = some u := by
  have h : w.heap[q]? = some (.cells cs.toArray e (0, 0)) := h
  simp only [World.cell?, h]; simpa using hu
theorem Bk.fz (h : Bk w q e cs) (j : Nat) : w.frozen? ⟨q, j, none⟩ = false := by
  have h : w.heap[q]? = some (.cells cs.toArray e (0, 0)) := h
  simp [World.frozen?, h]
theorem Bk.below (h : Bk w q e cs) (hb : Below w.heap.size w w') : Bk w' q e cs := (hb.block q h.lt).trans h
theorem Bk.kept {r : Option Nat} (h : Bk w q e cs) (hg : w.grownBy w' r) (hne : some q ≠ r) : Bk w' q e cs := (hg.block q h.lt hne).trans h
theorem Bk.range (h : Bk w q e cs) (hc : cs = A ++ (B ++ C)) {n : Nat} (hn : A.length = n) : w.rangeAt q n B := fun j v hv => by
  refine h.cell ?_
  subst hc hn
  rw [List.getElem?_append_right (by omega), Nat.add_sub_cancel_left, List.getElem?_append_left (List.getElem?_eq_some_iff.1 hv).1]; exact hv
/-- Cells are turned. -/
theorem Bk.put (h : Bk w q e cs) (hc : cs = A ++ (B ++ C)) {n : Nat} (hn : A.length = n) {B' : List Value} (hl : B'.length = B.length) : Bk (w.setCells q n B') q e (A ++ (B' ++ C)) ∧ w.grownBy (w.setCells q n B') (some q) := by
  subst hc hn
  refine ⟨?_, setCells_grown w q _ _⟩
  obtain ⟨cur', c1, c2, c3⟩ := setCells_block q B' A.length w (A ++ (B ++ C)).toArray e (0, 0) h (by simp; omega)
  unfold Bk
  rw [c1]
  congr 2
  apply Array.ext_getElem?
  intro i
  rw [c3]
  simp only [List.getElem?_toArray]
  by_cases h1 : A.length ≤ i ∧ i < A.length + B'.length
  · rw [if_pos h1, List.getElem?_append_right (by omega), List.getElem?_append_left (by omega)]
  · rw [if_neg h1]
    by_cases h2 : i < A.length
    · rw [List.getElem?_append_left h2, List.getElem?_append_left h2]
    · rw [List.getElem?_append_right (by omega), List.getElem?_append_right (by omega), List.getElem?_append_right (by omega), List.getElem?_append_right (by omega), hl]
theorem Bk.put1 (h : Bk w q e cs) (j : Nat) (u : Value) : Bk (w.setCell ⟨q, j, none⟩ u) q e (cs.set j u) ∧ w.grownBy (w.setCell ⟨q, j, none⟩ u) (some q) := by
  obtain ⟨s, g⟩ := set_blk (show w.heap[q]? = some (.cells cs.toArray e (0, 0)) from h) j u
  refine ⟨?_, g⟩
  unfold Bk
  rw [s]
  simp
theorem Bk.there (h : Bk w q e cs) (n m : Nat) (hm : n + m ≤ cs.length) : w.there q n m := fun j hj => ⟨by rw [h.cell (List.getElem?_eq_getElem (by omega))]; rfl, h.fz _⟩
end

/-- The block q is the path's. -/
structure TR (w : World) (q : Nat) (t : Th) : Prop where
  blk : Bk w q 85 (tcs t)
  ok : OkTh t
section
variable {w w' : World} {q : Nat} {t : Th}
theorem tcs_len (h : OkTh t) : (tcs t).length = 138 := by
  simp [tcs, nb_len, h.id.1, h.ia.1, h.ib.1, h.ic.1]
theorem TR.below (h : TR w q t) (hb : Below w.heap.size w w') : TR w' q t := ⟨h.blk.below hb, h.ok⟩
theorem TR.kept {r : Option Nat} (h : TR w q t) (hg : w.grownBy w' r) (hne : some q ≠ r) : TR w' q t := ⟨h.blk.kept hg hne, h.ok⟩
theorem TR.h0 (h : TR w q t) : w.cell? ⟨q, 36, none⟩ = some (.bool t.has.a) := h.blk.cell (by simp [tcs, List.getElem?_append, nb_len, h.ok.id.1])
theorem TR.h1 (h : TR w q t) : w.cell? ⟨q, 37, none⟩ = some (.bool t.has.b) := h.blk.cell (by simp [tcs, List.getElem?_append, nb_len, h.ok.id.1])
theorem TR.h2 (h : TR w q t) : w.cell? ⟨q, 38, none⟩ = some (.bool t.has.c) := h.blk.cell (by simp [tcs, List.getElem?_append, nb_len, h.ok.id.1])
theorem TR.s0 (h : TR w q t) : w.cell? ⟨q, 135, none⟩ = some (.float .f64 t.sts.a) := h.blk.cell (by simp [tcs, nb_len, h.ok.id.1, h.ok.ia.1, h.ok.ib.1, h.ok.ic.1])
theorem TR.s1 (h : TR w q t) : w.cell? ⟨q, 136, none⟩ = some (.float .f64 t.sts.b) := h.blk.cell (by simp [tcs, nb_len, h.ok.id.1, h.ok.ia.1, h.ok.ib.1, h.ok.ic.1])
theorem TR.s2 (h : TR w q t) : w.cell? ⟨q, 137, none⟩ = some (.float .f64 t.sts.c) := h.blk.cell (by simp [tcs, nb_len, h.ok.id.1, h.ok.ia.1, h.ok.ib.1, h.ok.ic.1])
theorem TR.i0 (h : TR w q t) : w.rangeAt q 39 (nb t.ids.a) :=
  h.blk.range (A := .string t.path :: .int .i64 t.kind :: (nb t.id ++ [.float .f64 t.stamp, t.tv, .bool t.has.a, .bool t.has.b, .bool t.has.c])) (C := nb t.ids.b ++ (nb t.ids.c ++ [.float .f64 t.sts.a, .float .f64 t.sts.b, .float .f64 t.sts.c])) (by simp [tcs]) (by simp [nb_len, h.ok.id.1])
theorem TR.i1 (h : TR w q t) : w.rangeAt q 71 (nb t.ids.b) :=
  h.blk.range (A := .string t.path :: .int .i64 t.kind :: (nb t.id ++ (.float .f64 t.stamp :: t.tv :: .bool t.has.a :: .bool t.has.b :: .bool t.has.c :: nb t.ids.a))) (C := nb t.ids.c ++ [.float .f64 t.sts.a, .float .f64 t.sts.b, .float .f64 t.sts.c]) (by simp [tcs]) (by simp [nb_len, h.ok.id.1, h.ok.ia.1])
theorem TR.i2 (h : TR w q t) : w.rangeAt q 103 (nb t.ids.c) :=
  h.blk.range (A := .string t.path :: .int .i64 t.kind :: (nb t.id ++ (.float .f64 t.stamp :: t.tv :: .bool t.has.a :: .bool t.has.b :: .bool t.has.c :: (nb t.ids.a ++ nb t.ids.b)))) (C := [.float .f64 t.sts.a, .float .f64 t.sts.b, .float .f64 t.sts.c]) (by simp [tcs]) (by simp [nb_len, h.ok.id.1, h.ok.ia.1, h.ok.ib.1])
theorem set_app {l m : List Value} {n : Nat} (hl : l.length = n) (j : Nat) (u : Value) : (l ++ m).set (n + j) u = l ++ m.set j u := by rw [List.set_append_right _ _ (by omega)]; congr 2; omega
theorem TR.kind (h : TR w q t) (k : Nat) : TR (w.setCell ⟨q, 1, none⟩ (.int .i64 k)) q { t with kind := k } ∧ w.grownBy (w.setCell ⟨q, 1, none⟩ (.int .i64 k)) (some q) := by
  obtain ⟨h1, h2⟩ := h.blk.put1 1 (.int .i64 k)
  exact ⟨⟨h1, ⟨h.ok.id, h.ok.ia, h.ok.ib, h.ok.ic, h.ok.sa, h.ok.sb, h.ok.sc, h.ok.tv⟩⟩, h2⟩
theorem TR.stamp (h : TR w q t) (x : Nat) : TR (w.setCell ⟨q, 34, none⟩ (.float .f64 x)) q { t with stamp := x } ∧ w.grownBy (w.setCell ⟨q, 34, none⟩ (.float .f64 x)) (some q) := by
  obtain ⟨h1, h2⟩ := h.blk.put1 34 (.float .f64 x)
  refine ⟨⟨?_, ⟨h.ok.id, h.ok.ia, h.ok.ib, h.ok.ic, h.ok.sa, h.ok.sb, h.ok.sc, h.ok.tv⟩⟩, h2⟩
  have e : (tcs t).set 34 (.float .f64 x) = tcs { t with stamp := x } := by
    unfold tcs
    rw [show (34 : Nat) = 33 + 1 from rfl, List.set_cons_succ, show (33 : Nat) = 32 + 1 from rfl, List.set_cons_succ, show (32 : Nat) = 32 + 0 from rfl, set_app (by rw [nb_len, h.ok.id.1])]; rfl
  rw [e] at h1; exact h1
theorem TR.text (h : TR w q t) (v : Value) (hv : v.oneCell' = true) : TR (w.setCell ⟨q, 35, none⟩ v) q { t with tv := v } ∧ w.grownBy (w.setCell ⟨q, 35, none⟩ v) (some q) := by
  obtain ⟨h1, h2⟩ := h.blk.put1 35 v
  refine ⟨⟨?_, ⟨h.ok.id, h.ok.ia, h.ok.ib, h.ok.ic, h.ok.sa, h.ok.sb, h.ok.sc, hv⟩⟩, h2⟩
  have e : (tcs t).set 35 v = tcs { t with tv := v } := by
    unfold tcs
    rw [show (35 : Nat) = 34 + 1 from rfl, List.set_cons_succ, show (34 : Nat) = 33 + 1 from rfl, List.set_cons_succ, show (33 : Nat) = 32 + 1 from rfl, set_app (by rw [nb_len, h.ok.id.1])]; rfl
  rw [e] at h1; exact h1
theorem TR.idput (h : TR w q t) {x : List Nat} (hx : OkId x) : TR (w.setCells q 2 (nb x)) q { t with id := x } ∧ w.grownBy (w.setCells q 2 (nb x)) (some q) := by
  obtain ⟨h1, h2⟩ := h.blk.put (A := [.string t.path, .int .i64 t.kind]) (B := nb t.id) (n := 2) rfl rfl (B' := nb x) (by rw [nb_len, nb_len, hx.1, h.ok.id.1])
  exact ⟨⟨h1, ⟨hx, h.ok.ia, h.ok.ib, h.ok.ic, h.ok.sa, h.ok.sb, h.ok.sc, h.ok.tv⟩⟩, h2⟩
end
end Go.Proofs.YtpcipdkoncmdcaaGreatDoor
namespace Go.Proofs.YtpcipdkoncmdcaaGreatDoor
open Go Go.RowKit

theorem ld_bool (ad : Addr) (v : Value) (W : World) (h : W.cell? ad = some v) : (Instr.loadAt 4 (.pointer (some ad))).run Tryz.prog W = .ok v W := by go_simp
theorem ld_float (ad : Addr) (v : Value) (W : World) (h : W.cell? ad = some v) : (Instr.loadAt 44 (.pointer (some ad))).run Tryz.prog W = .ok v W := by go_simp
theorem ld_id {W : World} {b o : Nat} {x : List Nat} (hx : OkId x) (h : W.rangeAt b o (nb x)) : (Instr.loadAt 43 (.pointer (some ⟨b, o, none⟩))).run Tryz.prog W = .ok (.agg (nums .u8 x)) W := by
  have := run_loadAt_mid (P := Tryz.prog) W b o 43 (nb x) _ h id_under rfl (by rw [nb_len, hx.1]; kernel_rfl)
  rw [this]; rfl

set_option maxRecDepth 100000 in
set_option maxHeartbeats 2000000 in
theorem same12_c {w : World} {q : Nat} {t : Th} (h : TR w q t) : Calls Tryz.prog 52 #[.pointer (some ⟨q, 0, none⟩), .int .i64 1, .int .i64 2] w fun e w' => e = .returned (.bool (decide (t.has.b = t.has.c) && decide (t.ids.b = t.ids.c))) ∧ ∃ n, w' = w.drewN n := by
  have HT := Lib.hid (h.below (below_dN (Below.refl _ w) 1))
  have hok := h.ok
  have heq := fun W => id_eql hok.ib hok.ic W
  obtain ⟨z, hz⟩ : ∃ z, decide (t.has.b = t.has.c) = z := ⟨_, rfl⟩
  have HZ : Hid (decide (t.has.b = t.has.c) = z) := hz
  clear hz h
  go_enter Tryz.func52, Tryz.ntmps52
  go_upto_region 1 with fail
  refine wp_region_hz (fun W => TR W q t) (.tk 0 (.tk 1 (.tk 2 (.tk 3 (.tk 4 (.tk 5 (.tk 6 (.tk 7 (.tk 8 (.tk 9 (.tk 10 (.tk 11 (.tk 12 (.tk 13 (.tk 14 (.tk 15 (.tk 16 (.tk 17 (.tk 18 (.tk 19 (.tk 20 (.tk 21 (.tk 22 (.tk 23 (.tk 24 (.tk 25 (.tk 26 (.tk 27 (.tk 28 (.tk 29 (.tk 30 (.tk 31 (.tk 32 (.nil)))))))))))))))))))))))))))))))))) (by kernel_rfl) (by kernel_rfl) (fun _ _ _ _ _ h => h) ?_
  refine goZ_tk rfl rfl 7 rfl (.pointer (some ⟨q, 0, none⟩)) (fun _ => rfl) ?_
  simp only [List.setIfInBounds_toArray, List.set_cons_zero, List.set_cons_succ]
  refine goZ_tk rfl rfl 8 rfl (.int .i64 1) (fun _ => rfl) ?_
  simp only [List.setIfInBounds_toArray, List.set_cons_zero, List.set_cons_succ]
  refine goZ_tk rfl rfl 9 rfl (.pointer (some ⟨q, 0, none⟩)) (fun _ => rfl) ?_
  simp only [List.setIfInBounds_toArray, List.set_cons_zero, List.set_cons_succ]
  refine goZ_tk rfl rfl 10 rfl (.pointer (some ⟨q, 0, none⟩)) (fun _ => rfl) ?_
  simp only [List.setIfInBounds_toArray, List.set_cons_zero, List.set_cons_succ]
  refine goZ_tk rfl rfl 11 rfl (.pointer (some ⟨q, 36, none⟩)) (fun _ => rfl) ?_
  simp only [List.setIfInBounds_toArray, List.set_cons_zero, List.set_cons_succ]
  refine goZ_tk rfl rfl 12 rfl (.pointer (some ⟨q, 37, none⟩)) (fun _ => by go_simp) ?_
  simp only [List.setIfInBounds_toArray, List.set_cons_zero, List.set_cons_succ]
  refine goZ_ld rfl rfl 13 rfl 4 _ rfl ⟨q, 37, none⟩ (.bool t.has.b) rfl (fun W hS => ld_bool _ _ W hS.h1) (HT.out) ?_
  simp only [List.setIfInBounds_toArray, List.set_cons_zero, List.set_cons_succ]
  refine goZ_tk rfl rfl 14 rfl (.pointer (some ⟨q, 0, none⟩)) (fun _ => rfl) ?_
  simp only [List.setIfInBounds_toArray, List.set_cons_zero, List.set_cons_succ]
  refine goZ_tk rfl rfl 15 rfl (.int .i64 2) (fun _ => rfl) ?_
  simp only [List.setIfInBounds_toArray, List.set_cons_zero, List.set_cons_succ]
  refine goZ_tk rfl rfl 16 rfl (.pointer (some ⟨q, 0, none⟩)) (fun _ => rfl) ?_
  simp only [List.setIfInBounds_toArray, List.set_cons_zero, List.set_cons_succ]
  refine goZ_tk rfl rfl 17 rfl (.pointer (some ⟨q, 0, none⟩)) (fun _ => rfl) ?_
  simp only [List.setIfInBounds_toArray, List.set_cons_zero, List.set_cons_succ]
  refine goZ_tk rfl rfl 18 rfl (.pointer (some ⟨q, 36, none⟩)) (fun _ => rfl) ?_
  simp only [List.setIfInBounds_toArray, List.set_cons_zero, List.set_cons_succ]
  refine goZ_tk rfl rfl 19 rfl (.pointer (some ⟨q, 38, none⟩)) (fun _ => by go_simp) ?_
  simp only [List.setIfInBounds_toArray, List.set_cons_zero, List.set_cons_succ]
  refine goZ_ld rfl rfl 20 rfl 4 _ rfl ⟨q, 38, none⟩ (.bool t.has.c) rfl (fun W hS => ld_bool _ _ W hS.h2) (HT.out) ?_
  simp only [List.setIfInBounds_toArray, List.set_cons_zero, List.set_cons_succ]
  refine goZ_tk rfl rfl 21 rfl (.bool z) (fun _ => by rw [← HZ.out]; generalize t.has.b = x; generalize t.has.c = y; cases x <;> cases y <;> rfl) ?_
  simp only [List.setIfInBounds_toArray, List.set_cons_zero, List.set_cons_succ]
  refine goZ_tk rfl rfl 22 rfl (.bool z) (fun _ => rfl) ?_
  simp only [List.setIfInBounds_toArray, List.set_cons_zero, List.set_cons_succ]
  cases z
  · refine goZ_no rfl rfl 23 rfl ?_
    simp only [List.setIfInBounds_toArray, List.set_cons_zero, List.set_cons_succ]
    refine goZ_no rfl rfl 24 rfl ?_
    simp only [List.setIfInBounds_toArray, List.set_cons_zero, List.set_cons_succ]
    refine goZ_no rfl rfl 25 rfl ?_
    simp only [List.setIfInBounds_toArray, List.set_cons_zero, List.set_cons_succ]
    refine goZ_no rfl rfl 26 rfl ?_
    simp only [List.setIfInBounds_toArray, List.set_cons_zero, List.set_cons_succ]
    refine goZ_no rfl rfl 27 rfl ?_
    simp only [List.setIfInBounds_toArray, List.set_cons_zero, List.set_cons_succ]
    refine goZ_no rfl rfl 28 rfl ?_
    simp only [List.setIfInBounds_toArray, List.set_cons_zero, List.set_cons_succ]
    refine goZ_no rfl rfl 29 rfl ?_
    simp only [List.setIfInBounds_toArray, List.set_cons_zero, List.set_cons_succ]
    refine goZ_no rfl rfl 30 rfl ?_
    simp only [List.setIfInBounds_toArray, List.set_cons_zero, List.set_cons_succ]
    refine goZ_no rfl rfl 31 rfl ?_
    simp only [List.setIfInBounds_toArray, List.set_cons_zero, List.set_cons_succ]
    refine goZ_no rfl rfl 32 rfl ?_
    simp only [List.setIfInBounds_toArray, List.set_cons_zero, List.set_cons_succ]
    refine goZ_no rfl rfl 33 rfl ?_
    simp only [List.setIfInBounds_toArray, List.set_cons_zero, List.set_cons_succ]
    refine goZ_no rfl rfl 34 rfl ?_
    simp only [List.setIfInBounds_toArray, List.set_cons_zero, List.set_cons_succ]
    refine goZ_no rfl rfl 35 rfl ?_
    simp only [List.setIfInBounds_toArray, List.set_cons_zero, List.set_cons_succ]
    refine goZ_no rfl rfl 36 rfl ?_
    simp only [List.setIfInBounds_toArray, List.set_cons_zero, List.set_cons_succ]
    refine goZ_no rfl rfl 37 rfl ?_
    simp only [List.setIfInBounds_toArray, List.set_cons_zero, List.set_cons_succ]
    refine goZ_tk rfl rfl 38 rfl (.bool false) (fun _ => rfl) ?_
    simp only [List.setIfInBounds_toArray, List.set_cons_zero, List.set_cons_succ]
    refine goZ_tk rfl rfl 6 rfl (.bool false) (fun _ => rfl) ?_
    simp only [List.setIfInBounds_toArray, List.set_cons_zero, List.set_cons_succ]
    refine goZ_end ?_
    go_wp2_with fail
    go_ret
    exact ⟨ret_bool (by rw [HZ.out]; rfl), 1, rfl⟩
  · refine goZ_tk rfl rfl 23 rfl (.pointer (some ⟨q, 0, none⟩)) (fun _ => rfl) ?_
    simp only [List.setIfInBounds_toArray, List.set_cons_zero, List.set_cons_succ]
    refine goZ_tk rfl rfl 24 rfl (.int .i64 1) (fun _ => rfl) ?_
    simp only [List.setIfInBounds_toArray, List.set_cons_zero, List.set_cons_succ]
    refine goZ_tk rfl rfl 25 rfl (.pointer (some ⟨q, 0, none⟩)) (fun _ => rfl) ?_
    simp only [List.setIfInBounds_toArray, List.set_cons_zero, List.set_cons_succ]
    refine goZ_tk rfl rfl 26 rfl (.pointer (some ⟨q, 0, none⟩)) (fun _ => rfl) ?_
    simp only [List.setIfInBounds_toArray, List.set_cons_zero, List.set_cons_succ]
    refine goZ_tk rfl rfl 27 rfl (.pointer (some ⟨q, 39, none⟩)) (fun _ => rfl) ?_
    simp only [List.setIfInBounds_toArray, List.set_cons_zero, List.set_cons_succ]
    refine goZ_tk rfl rfl 28 rfl (.pointer (some ⟨q, 71, none⟩)) (fun _ => by go_simp) ?_
    simp only [List.setIfInBounds_toArray, List.set_cons_zero, List.set_cons_succ]
    refine goZ_ld rfl rfl 29 rfl 43 _ rfl ⟨q, 71, none⟩ (.agg (nums .u8 t.ids.b)) rfl (fun W hS => ld_id hok.ib hS.i1) (HT.out) ?_
    simp only [List.setIfInBounds_toArray, List.set_cons_zero, List.set_cons_succ]
    refine goZ_tk rfl rfl 30 rfl (.pointer (some ⟨q, 0, none⟩)) (fun _ => rfl) ?_
    simp only [List.setIfInBounds_toArray, List.set_cons_zero, List.set_cons_succ]
    refine goZ_tk rfl rfl 31 rfl (.int .i64 2) (fun _ => rfl) ?_
    simp only [List.setIfInBounds_toArray, List.set_cons_zero, List.set_cons_succ]
    refine goZ_tk rfl rfl 32 rfl (.pointer (some ⟨q, 0, none⟩)) (fun _ => rfl) ?_
    simp only [List.setIfInBounds_toArray, List.set_cons_zero, List.set_cons_succ]
    refine goZ_tk rfl rfl 33 rfl (.pointer (some ⟨q, 0, none⟩)) (fun _ => rfl) ?_
    simp only [List.setIfInBounds_toArray, List.set_cons_zero, List.set_cons_succ]
    refine goZ_tk rfl rfl 34 rfl (.pointer (some ⟨q, 39, none⟩)) (fun _ => rfl) ?_
    simp only [List.setIfInBounds_toArray, List.set_cons_zero, List.set_cons_succ]
    refine goZ_tk rfl rfl 35 rfl (.pointer (some ⟨q, 103, none⟩)) (fun _ => by go_simp) ?_
    simp only [List.setIfInBounds_toArray, List.set_cons_zero, List.set_cons_succ]
    refine goZ_ld rfl rfl 36 rfl 43 _ rfl ⟨q, 103, none⟩ (.agg (nums .u8 t.ids.c)) rfl (fun W hS => ld_id hok.ic hS.i2) (HT.out) ?_
    simp only [List.setIfInBounds_toArray, List.set_cons_zero, List.set_cons_succ]
    refine goZ_tk rfl rfl 37 rfl (.bool (decide (t.ids.b = t.ids.c))) (fun W => by go_simp) ?_
    simp only [List.setIfInBounds_toArray, List.set_cons_zero, List.set_cons_succ]
    refine goZ_tk rfl rfl 38 rfl (.bool (decide (t.ids.b = t.ids.c))) (fun _ => by cases decide (t.ids.b = t.ids.c) <;> rfl) ?_
    simp only [List.setIfInBounds_toArray, List.set_cons_zero, List.set_cons_succ]
    refine goZ_tk rfl rfl 6 rfl (.bool (decide (t.ids.b = t.ids.c))) (fun _ => rfl) ?_
    simp only [List.setIfInBounds_toArray, List.set_cons_zero, List.set_cons_succ]
    refine goZ_end ?_
    go_wp2_with fail
    go_ret
    exact ⟨ret_bool (by rw [HZ.out]; rfl), 1, rfl⟩

set_option maxRecDepth 100000 in
set_option maxHeartbeats 2000000 in
theorem same02_c {w : World} {q : Nat} {t : Th} (h : TR w q t) : Calls Tryz.prog 52 #[.pointer (some ⟨q, 0, none⟩), .int .i64 0, .int .i64 2] w fun e w' => e = .returned (.bool (decide (t.has.a = t.has.c) && decide (t.ids.a = t.ids.c))) ∧ ∃ n, w' = w.drewN n := by
  have HT := Lib.hid (h.below (below_dN (Below.refl _ w) 1))
  have hok := h.ok
  have heq := fun W => id_eql hok.ia hok.ic W
  obtain ⟨z, hz⟩ : ∃ z, decide (t.has.a = t.has.c) = z := ⟨_, rfl⟩
  have HZ : Hid (decide (t.has.a = t.has.c) = z) := hz
  clear hz h
  go_enter Tryz.func52, Tryz.ntmps52
  go_upto_region 1 with fail
  refine wp_region_hz (fun W => TR W q t) (.tk 0 (.tk 1 (.tk 2 (.tk 3 (.tk 4 (.tk 5 (.tk 6 (.tk 7 (.tk 8 (.tk 9 (.tk 10 (.tk 11 (.tk 12 (.tk 13 (.tk 14 (.tk 15 (.tk 16 (.tk 17 (.tk 18 (.tk 19 (.tk 20 (.tk 21 (.tk 22 (.tk 23 (.tk 24 (.tk 25 (.tk 26 (.tk 27 (.tk 28 (.tk 29 (.tk 30 (.tk 31 (.tk 32 (.nil)))))))))))))))))))))))))))))))))) (by kernel_rfl) (by kernel_rfl) (fun _ _ _ _ _ h => h) ?_
  refine goZ_tk rfl rfl 7 rfl (.pointer (some ⟨q, 0, none⟩)) (fun _ => rfl) ?_
  simp only [List.setIfInBounds_toArray, List.set_cons_zero, List.set_cons_succ]
  refine goZ_tk rfl rfl 8 rfl (.int .i64 0) (fun _ => rfl) ?_
  simp only [List.setIfInBounds_toArray, List.set_cons_zero, List.set_cons_succ]
  refine goZ_tk rfl rfl 9 rfl (.pointer (some ⟨q, 0, none⟩)) (fun _ => rfl) ?_
  simp only [List.setIfInBounds_toArray, List.set_cons_zero, List.set_cons_succ]
  refine goZ_tk rfl rfl 10 rfl (.pointer (some ⟨q, 0, none⟩)) (fun _ => rfl) ?_
  simp only [List.setIfInBounds_toArray, List.set_cons_zero, List.set_cons_succ]
  refine goZ_tk rfl rfl 11 rfl (.pointer (some ⟨q, 36, none⟩)) (fun _ => rfl) ?_
  simp only [List.setIfInBounds_toArray, List.set_cons_zero, List.set_cons_succ]
  refine goZ_tk rfl rfl 12 rfl (.pointer (some ⟨q, 36, none⟩)) (fun _ => by go_simp) ?_
  simp only [List.setIfInBounds_toArray, List.set_cons_zero, List.set_cons_succ]
  refine goZ_ld rfl rfl 13 rfl 4 _ rfl ⟨q, 36, none⟩ (.bool t.has.a) rfl (fun W hS => ld_bool _ _ W hS.h0) (HT.out) ?_
  simp only [List.setIfInBounds_toArray, List.set_cons_zero, List.set_cons_succ]
  refine goZ_tk rfl rfl 14 rfl (.pointer (some ⟨q, 0, none⟩)) (fun _ => rfl) ?_
  simp only [List.setIfInBounds_toArray, List.set_cons_zero, List.set_cons_succ]
  refine goZ_tk rfl rfl 15 rfl (.int .i64 2) (fun _ => rfl) ?_
  simp only [List.setIfInBounds_toArray, List.set_cons_zero, List.set_cons_succ]
  refine goZ_tk rfl rfl 16 rfl (.pointer (some ⟨q, 0, none⟩)) (fun _ => rfl) ?_
  simp only [List.setIfInBounds_toArray, List.set_cons_zero, List.set_cons_succ]
  refine goZ_tk rfl rfl 17 rfl (.pointer (some ⟨q, 0, none⟩)) (fun _ => rfl) ?_
  simp only [List.setIfInBounds_toArray, List.set_cons_zero, List.set_cons_succ]
  refine goZ_tk rfl rfl 18 rfl (.pointer (some ⟨q, 36, none⟩)) (fun _ => rfl) ?_
  simp only [List.setIfInBounds_toArray, List.set_cons_zero, List.set_cons_succ]
  refine goZ_tk rfl rfl 19 rfl (.pointer (some ⟨q, 38, none⟩)) (fun _ => by go_simp) ?_
  simp only [List.setIfInBounds_toArray, List.set_cons_zero, List.set_cons_succ]
  refine goZ_ld rfl rfl 20 rfl 4 _ rfl ⟨q, 38, none⟩ (.bool t.has.c) rfl (fun W hS => ld_bool _ _ W hS.h2) (HT.out) ?_
  simp only [List.setIfInBounds_toArray, List.set_cons_zero, List.set_cons_succ]
  refine goZ_tk rfl rfl 21 rfl (.bool z) (fun _ => by rw [← HZ.out]; generalize t.has.a = x; generalize t.has.c = y; cases x <;> cases y <;> rfl) ?_
  simp only [List.setIfInBounds_toArray, List.set_cons_zero, List.set_cons_succ]
  refine goZ_tk rfl rfl 22 rfl (.bool z) (fun _ => rfl) ?_
  simp only [List.setIfInBounds_toArray, List.set_cons_zero, List.set_cons_succ]
  cases z
  · refine goZ_no rfl rfl 23 rfl ?_
    simp only [List.setIfInBounds_toArray, List.set_cons_zero, List.set_cons_succ]
    refine goZ_no rfl rfl 24 rfl ?_
    simp only [List.setIfInBounds_toArray, List.set_cons_zero, List.set_cons_succ]
    refine goZ_no rfl rfl 25 rfl ?_
    simp only [List.setIfInBounds_toArray, List.set_cons_zero, List.set_cons_succ]
    refine goZ_no rfl rfl 26 rfl ?_
    simp only [List.setIfInBounds_toArray, List.set_cons_zero, List.set_cons_succ]
    refine goZ_no rfl rfl 27 rfl ?_
    simp only [List.setIfInBounds_toArray, List.set_cons_zero, List.set_cons_succ]
    refine goZ_no rfl rfl 28 rfl ?_
    simp only [List.setIfInBounds_toArray, List.set_cons_zero, List.set_cons_succ]
    refine goZ_no rfl rfl 29 rfl ?_
    simp only [List.setIfInBounds_toArray, List.set_cons_zero, List.set_cons_succ]
    refine goZ_no rfl rfl 30 rfl ?_
    simp only [List.setIfInBounds_toArray, List.set_cons_zero, List.set_cons_succ]
    refine goZ_no rfl rfl 31 rfl ?_
    simp only [List.setIfInBounds_toArray, List.set_cons_zero, List.set_cons_succ]
    refine goZ_no rfl rfl 32 rfl ?_
    simp only [List.setIfInBounds_toArray, List.set_cons_zero, List.set_cons_succ]
    refine goZ_no rfl rfl 33 rfl ?_
    simp only [List.setIfInBounds_toArray, List.set_cons_zero, List.set_cons_succ]
    refine goZ_no rfl rfl 34 rfl ?_
    simp only [List.setIfInBounds_toArray, List.set_cons_zero, List.set_cons_succ]
    refine goZ_no rfl rfl 35 rfl ?_
    simp only [List.setIfInBounds_toArray, List.set_cons_zero, List.set_cons_succ]
    refine goZ_no rfl rfl 36 rfl ?_
    simp only [List.setIfInBounds_toArray, List.set_cons_zero, List.set_cons_succ]
    refine goZ_no rfl rfl 37 rfl ?_
    simp only [List.setIfInBounds_toArray, List.set_cons_zero, List.set_cons_succ]
    refine goZ_tk rfl rfl 38 rfl (.bool false) (fun _ => rfl) ?_
    simp only [List.setIfInBounds_toArray, List.set_cons_zero, List.set_cons_succ]
    refine goZ_tk rfl rfl 6 rfl (.bool false) (fun _ => rfl) ?_
    simp only [List.setIfInBounds_toArray, List.set_cons_zero, List.set_cons_succ]
    refine goZ_end ?_
    go_wp2_with fail
    go_ret
    exact ⟨ret_bool (by rw [HZ.out]; rfl), 1, rfl⟩
  · refine goZ_tk rfl rfl 23 rfl (.pointer (some ⟨q, 0, none⟩)) (fun _ => rfl) ?_
    simp only [List.setIfInBounds_toArray, List.set_cons_zero, List.set_cons_succ]
    refine goZ_tk rfl rfl 24 rfl (.int .i64 0) (fun _ => rfl) ?_
    simp only [List.setIfInBounds_toArray, List.set_cons_zero, List.set_cons_succ]
    refine goZ_tk rfl rfl 25 rfl (.pointer (some ⟨q, 0, none⟩)) (fun _ => rfl) ?_
    simp only [List.setIfInBounds_toArray, List.set_cons_zero, List.set_cons_succ]
    refine goZ_tk rfl rfl 26 rfl (.pointer (some ⟨q, 0, none⟩)) (fun _ => rfl) ?_
    simp only [List.setIfInBounds_toArray, List.set_cons_zero, List.set_cons_succ]
    refine goZ_tk rfl rfl 27 rfl (.pointer (some ⟨q, 39, none⟩)) (fun _ => rfl) ?_
    simp only [List.setIfInBounds_toArray, List.set_cons_zero, List.set_cons_succ]
    refine goZ_tk rfl rfl 28 rfl (.pointer (some ⟨q, 39, none⟩)) (fun _ => by go_simp) ?_
    simp only [List.setIfInBounds_toArray, List.set_cons_zero, List.set_cons_succ]
    refine goZ_ld rfl rfl 29 rfl 43 _ rfl ⟨q, 39, none⟩ (.agg (nums .u8 t.ids.a)) rfl (fun W hS => ld_id hok.ia hS.i0) (HT.out) ?_
    simp only [List.setIfInBounds_toArray, List.set_cons_zero, List.set_cons_succ]
    refine goZ_tk rfl rfl 30 rfl (.pointer (some ⟨q, 0, none⟩)) (fun _ => rfl) ?_
    simp only [List.setIfInBounds_toArray, List.set_cons_zero, List.set_cons_succ]
    refine goZ_tk rfl rfl 31 rfl (.int .i64 2) (fun _ => rfl) ?_
    simp only [List.setIfInBounds_toArray, List.set_cons_zero, List.set_cons_succ]
    refine goZ_tk rfl rfl 32 rfl (.pointer (some ⟨q, 0, none⟩)) (fun _ => rfl) ?_
    simp only [List.setIfInBounds_toArray, List.set_cons_zero, List.set_cons_succ]
    refine goZ_tk rfl rfl 33 rfl (.pointer (some ⟨q, 0, none⟩)) (fun _ => rfl) ?_
    simp only [List.setIfInBounds_toArray, List.set_cons_zero, List.set_cons_succ]
    refine goZ_tk rfl rfl 34 rfl (.pointer (some ⟨q, 39, none⟩)) (fun _ => rfl) ?_
    simp only [List.setIfInBounds_toArray, List.set_cons_zero, List.set_cons_succ]
    refine goZ_tk rfl rfl 35 rfl (.pointer (some ⟨q, 103, none⟩)) (fun _ => by go_simp) ?_
    simp only [List.setIfInBounds_toArray, List.set_cons_zero, List.set_cons_succ]
    refine goZ_ld rfl rfl 36 rfl 43 _ rfl ⟨q, 103, none⟩ (.agg (nums .u8 t.ids.c)) rfl (fun W hS => ld_id hok.ic hS.i2) (HT.out) ?_
    simp only [List.setIfInBounds_toArray, List.set_cons_zero, List.set_cons_succ]
    refine goZ_tk rfl rfl 37 rfl (.bool (decide (t.ids.a = t.ids.c))) (fun W => by go_simp) ?_
    simp only [List.setIfInBounds_toArray, List.set_cons_zero, List.set_cons_succ]
    refine goZ_tk rfl rfl 38 rfl (.bool (decide (t.ids.a = t.ids.c))) (fun _ => by cases decide (t.ids.a = t.ids.c) <;> rfl) ?_
    simp only [List.setIfInBounds_toArray, List.set_cons_zero, List.set_cons_succ]
    refine goZ_tk rfl rfl 6 rfl (.bool (decide (t.ids.a = t.ids.c))) (fun _ => rfl) ?_
    simp only [List.setIfInBounds_toArray, List.set_cons_zero, List.set_cons_succ]
    refine goZ_end ?_
    go_wp2_with fail
    go_ret
    exact ⟨ret_bool (by rw [HZ.out]; rfl), 1, rfl⟩

set_option maxRecDepth 100000 in
set_option maxHeartbeats 2000000 in
theorem same01_c {w : World} {q : Nat} {t : Th} (h : TR w q t) : Calls Tryz.prog 52 #[.pointer (some ⟨q, 0, none⟩), .int .i64 0, .int .i64 1] w fun e w' => e = .returned (.bool (decide (t.has.a = t.has.b) && decide (t.ids.a = t.ids.b))) ∧ ∃ n, w' = w.drewN n := by
  have HT := Lib.hid (h.below (below_dN (Below.refl _ w) 1))
  have hok := h.ok
  have heq := fun W => id_eql hok.ia hok.ib W
  obtain ⟨z, hz⟩ : ∃ z, decide (t.has.a = t.has.b) = z := ⟨_, rfl⟩
  have HZ : Hid (decide (t.has.a = t.has.b) = z) := hz
  clear hz h
  go_enter Tryz.func52, Tryz.ntmps52
  go_upto_region 1 with fail
  refine wp_region_hz (fun W => TR W q t) (.tk 0 (.tk 1 (.tk 2 (.tk 3 (.tk 4 (.tk 5 (.tk 6 (.tk 7 (.tk 8 (.tk 9 (.tk 10 (.tk 11 (.tk 12 (.tk 13 (.tk 14 (.tk 15 (.tk 16 (.tk 17 (.tk 18 (.tk 19 (.tk 20 (.tk 21 (.tk 22 (.tk 23 (.tk 24 (.tk 25 (.tk 26 (.tk 27 (.tk 28 (.tk 29 (.tk 30 (.tk 31 (.tk 32 (.nil)))))))))))))))))))))))))))))))))) (by kernel_rfl) (by kernel_rfl) (fun _ _ _ _ _ h => h) ?_
  refine goZ_tk rfl rfl 7 rfl (.pointer (some ⟨q, 0, none⟩)) (fun _ => rfl) ?_
  simp only [List.setIfInBounds_toArray, List.set_cons_zero, List.set_cons_succ]
  refine goZ_tk rfl rfl 8 rfl (.int .i64 0) (fun _ => rfl) ?_
  simp only [List.setIfInBounds_toArray, List.set_cons_zero, List.set_cons_succ]
  refine goZ_tk rfl rfl 9 rfl (.pointer (some ⟨q, 0, none⟩)) (fun _ => rfl) ?_
  simp only [List.setIfInBounds_toArray, List.set_cons_zero, List.set_cons_succ]
  refine goZ_tk rfl rfl 10 rfl (.pointer (some ⟨q, 0, none⟩)) (fun _ => rfl) ?_
  simp only [List.setIfInBounds_toArray, List.set_cons_zero, List.set_cons_succ]
  refine goZ_tk rfl rfl 11 rfl (.pointer (some ⟨q, 36, none⟩)) (fun _ => rfl) ?_
  simp only [List.setIfInBounds_toArray, List.set_cons_zero, List.set_cons_succ]
  refine goZ_tk rfl rfl 12 rfl (.pointer (some ⟨q, 36, none⟩)) (fun _ => by go_simp) ?_
  simp only [List.setIfInBounds_toArray, List.set_cons_zero, List.set_cons_succ]
  refine goZ_ld rfl rfl 13 rfl 4 _ rfl ⟨q, 36, none⟩ (.bool t.has.a) rfl (fun W hS => ld_bool _ _ W hS.h0) (HT.out) ?_
  simp only [List.setIfInBounds_toArray, List.set_cons_zero, List.set_cons_succ]
  refine goZ_tk rfl rfl 14 rfl (.pointer (some ⟨q, 0, none⟩)) (fun _ => rfl) ?_
  simp only [List.setIfInBounds_toArray, List.set_cons_zero, List.set_cons_succ]
  refine goZ_tk rfl rfl 15 rfl (.int .i64 1) (fun _ => rfl) ?_
  simp only [List.setIfInBounds_toArray, List.set_cons_zero, List.set_cons_succ]
  refine goZ_tk rfl rfl 16 rfl (.pointer (some ⟨q, 0, none⟩)) (fun _ => rfl) ?_
  simp only [List.setIfInBounds_toArray, List.set_cons_zero, List.set_cons_succ]
  refine goZ_tk rfl rfl 17 rfl (.pointer (some ⟨q, 0, none⟩)) (fun _ => rfl) ?_
  simp only [List.setIfInBounds_toArray, List.set_cons_zero, List.set_cons_succ]
  refine goZ_tk rfl rfl 18 rfl (.pointer (some ⟨q, 36, none⟩)) (fun _ => rfl) ?_
  simp only [List.setIfInBounds_toArray, List.set_cons_zero, List.set_cons_succ]
  refine goZ_tk rfl rfl 19 rfl (.pointer (some ⟨q, 37, none⟩)) (fun _ => by go_simp) ?_
  simp only [List.setIfInBounds_toArray, List.set_cons_zero, List.set_cons_succ]
  refine goZ_ld rfl rfl 20 rfl 4 _ rfl ⟨q, 37, none⟩ (.bool t.has.b) rfl (fun W hS => ld_bool _ _ W hS.h1) (HT.out) ?_
  simp only [List.setIfInBounds_toArray, List.set_cons_zero, List.set_cons_succ]
  refine goZ_tk rfl rfl 21 rfl (.bool z) (fun _ => by rw [← HZ.out]; generalize t.has.a = x; generalize t.has.b = y; cases x <;> cases y <;> rfl) ?_
  simp only [List.setIfInBounds_toArray, List.set_cons_zero, List.set_cons_succ]
  refine goZ_tk rfl rfl 22 rfl (.bool z) (fun _ => rfl) ?_
  simp only [List.setIfInBounds_toArray, List.set_cons_zero, List.set_cons_succ]
  cases z
  · refine goZ_no rfl rfl 23 rfl ?_
    simp only [List.setIfInBounds_toArray, List.set_cons_zero, List.set_cons_succ]
    refine goZ_no rfl rfl 24 rfl ?_
    simp only [List.setIfInBounds_toArray, List.set_cons_zero, List.set_cons_succ]
    refine goZ_no rfl rfl 25 rfl ?_
    simp only [List.setIfInBounds_toArray, List.set_cons_zero, List.set_cons_succ]
    refine goZ_no rfl rfl 26 rfl ?_
    simp only [List.setIfInBounds_toArray, List.set_cons_zero, List.set_cons_succ]
    refine goZ_no rfl rfl 27 rfl ?_
    simp only [List.setIfInBounds_toArray, List.set_cons_zero, List.set_cons_succ]
    refine goZ_no rfl rfl 28 rfl ?_
    simp only [List.setIfInBounds_toArray, List.set_cons_zero, List.set_cons_succ]
    refine goZ_no rfl rfl 29 rfl ?_
    simp only [List.setIfInBounds_toArray, List.set_cons_zero, List.set_cons_succ]
    refine goZ_no rfl rfl 30 rfl ?_
    simp only [List.setIfInBounds_toArray, List.set_cons_zero, List.set_cons_succ]
    refine goZ_no rfl rfl 31 rfl ?_
    simp only [List.setIfInBounds_toArray, List.set_cons_zero, List.set_cons_succ]
    refine goZ_no rfl rfl 32 rfl ?_
    simp only [List.setIfInBounds_toArray, List.set_cons_zero, List.set_cons_succ]
    refine goZ_no rfl rfl 33 rfl ?_
    simp only [List.setIfInBounds_toArray, List.set_cons_zero, List.set_cons_succ]
    refine goZ_no rfl rfl 34 rfl ?_
    simp only [List.setIfInBounds_toArray, List.set_cons_zero, List.set_cons_succ]
    refine goZ_no rfl rfl 35 rfl ?_
    simp only [List.setIfInBounds_toArray, List.set_cons_zero, List.set_cons_succ]
    refine goZ_no rfl rfl 36 rfl ?_
    simp only [List.setIfInBounds_toArray, List.set_cons_zero, List.set_cons_succ]
    refine goZ_no rfl rfl 37 rfl ?_
    simp only [List.setIfInBounds_toArray, List.set_cons_zero, List.set_cons_succ]
    refine goZ_tk rfl rfl 38 rfl (.bool false) (fun _ => rfl) ?_
    simp only [List.setIfInBounds_toArray, List.set_cons_zero, List.set_cons_succ]
    refine goZ_tk rfl rfl 6 rfl (.bool false) (fun _ => rfl) ?_
    simp only [List.setIfInBounds_toArray, List.set_cons_zero, List.set_cons_succ]
    refine goZ_end ?_
    go_wp2_with fail
    go_ret
    exact ⟨ret_bool (by rw [HZ.out]; rfl), 1, rfl⟩
  · refine goZ_tk rfl rfl 23 rfl (.pointer (some ⟨q, 0, none⟩)) (fun _ => rfl) ?_
    simp only [List.setIfInBounds_toArray, List.set_cons_zero, List.set_cons_succ]
    refine goZ_tk rfl rfl 24 rfl (.int .i64 0) (fun _ => rfl) ?_
    simp only [List.setIfInBounds_toArray, List.set_cons_zero, List.set_cons_succ]
    refine goZ_tk rfl rfl 25 rfl (.pointer (some ⟨q, 0, none⟩)) (fun _ => rfl) ?_
    simp only [List.setIfInBounds_toArray, List.set_cons_zero, List.set_cons_succ]
    refine goZ_tk rfl rfl 26 rfl (.pointer (some ⟨q, 0, none⟩)) (fun _ => rfl) ?_
    simp only [List.setIfInBounds_toArray, List.set_cons_zero, List.set_cons_succ]
    refine goZ_tk rfl rfl 27 rfl (.pointer (some ⟨q, 39, none⟩)) (fun _ => rfl) ?_
    simp only [List.setIfInBounds_toArray, List.set_cons_zero, List.set_cons_succ]
    refine goZ_tk rfl rfl 28 rfl (.pointer (some ⟨q, 39, none⟩)) (fun _ => by go_simp) ?_
    simp only [List.setIfInBounds_toArray, List.set_cons_zero, List.set_cons_succ]
    refine goZ_ld rfl rfl 29 rfl 43 _ rfl ⟨q, 39, none⟩ (.agg (nums .u8 t.ids.a)) rfl (fun W hS => ld_id hok.ia hS.i0) (HT.out) ?_
    simp only [List.setIfInBounds_toArray, List.set_cons_zero, List.set_cons_succ]
    refine goZ_tk rfl rfl 30 rfl (.pointer (some ⟨q, 0, none⟩)) (fun _ => rfl) ?_
    simp only [List.setIfInBounds_toArray, List.set_cons_zero, List.set_cons_succ]
    refine goZ_tk rfl rfl 31 rfl (.int .i64 1) (fun _ => rfl) ?_
    simp only [List.setIfInBounds_toArray, List.set_cons_zero, List.set_cons_succ]
    refine goZ_tk rfl rfl 32 rfl (.pointer (some ⟨q, 0, none⟩)) (fun _ => rfl) ?_
    simp only [List.setIfInBounds_toArray, List.set_cons_zero, List.set_cons_succ]
    refine goZ_tk rfl rfl 33 rfl (.pointer (some ⟨q, 0, none⟩)) (fun _ => rfl) ?_
    simp only [List.setIfInBounds_toArray, List.set_cons_zero, List.set_cons_succ]
    refine goZ_tk rfl rfl 34 rfl (.pointer (some ⟨q, 39, none⟩)) (fun _ => rfl) ?_
    simp only [List.setIfInBounds_toArray, List.set_cons_zero, List.set_cons_succ]
    refine goZ_tk rfl rfl 35 rfl (.pointer (some ⟨q, 71, none⟩)) (fun _ => by go_simp) ?_
    simp only [List.setIfInBounds_toArray, List.set_cons_zero, List.set_cons_succ]
    refine goZ_ld rfl rfl 36 rfl 43 _ rfl ⟨q, 71, none⟩ (.agg (nums .u8 t.ids.b)) rfl (fun W hS => ld_id hok.ib hS.i1) (HT.out) ?_
    simp only [List.setIfInBounds_toArray, List.set_cons_zero, List.set_cons_succ]
    refine goZ_tk rfl rfl 37 rfl (.bool (decide (t.ids.a = t.ids.b))) (fun W => by go_simp) ?_
    simp only [List.setIfInBounds_toArray, List.set_cons_zero, List.set_cons_succ]
    refine goZ_tk rfl rfl 38 rfl (.bool (decide (t.ids.a = t.ids.b))) (fun _ => by cases decide (t.ids.a = t.ids.b) <;> rfl) ?_
    simp only [List.setIfInBounds_toArray, List.set_cons_zero, List.set_cons_succ]
    refine goZ_tk rfl rfl 6 rfl (.bool (decide (t.ids.a = t.ids.b))) (fun _ => rfl) ?_
    simp only [List.setIfInBounds_toArray, List.set_cons_zero, List.set_cons_succ]
    refine goZ_end ?_
    go_wp2_with fail
    go_ret
    exact ⟨ret_bool (by rw [HZ.out]; rfl), 1, rfl⟩

end Go.Proofs.YtpcipdkoncmdcaaGreatDoor
