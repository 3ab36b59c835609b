/- Texts of mine, joined: Walk: is a path alike in two snapshots? | Walk: the merged time. -/
import Derived.Test.YtpcipdkoncmdcaaGreatDoorYJoinApart12
namespace Go.Proofs.YtpcipdkoncmdcaaGreatDoor
open Go Go.RowKit
theorem ld_bool (ad : Addr) (v : Value) (W : World) (h : W.cell? ad = some v) : (Instr.loadAt 4 (.pointer (some ad))).run Tryz.prog W = .ok v W := by go_simp
theorem ld_float (ad : Addr) (v : Value) (W : World) (h : W.cell? ad = some v) : (Instr.loadAt 44 (.pointer (some ad))).run Tryz.prog W = .ok v W := by go_simp
theorem ld_id {W : World} {b o : Nat} {x : List Nat} (hx : OkId x) (h : W.rangeAt b o (nb x)) : (Instr.loadAt 43 (.pointer (some ⟨b, o, none⟩))).run Tryz.prog W = .ok (.agg (nums .u8 x)) W := by
  have := run_loadAt_mid (P := Tryz.prog) W b o 43 (nb x) _ h id_under rfl (by rw [nb_len, hx.1]; kernel_rfl)
  rw [this]; rfl

set_option maxRecDepth 100000 in
set_option maxHeartbeats 2000000 in
theorem same12_c {w : World} {q : Nat} {t : Th} (h : TR w q t) : Calls Tryz.prog 52 #[.pointer (some ⟨q, 0, none⟩), .int .i64 1, .int .i64 2] w fun e w' => e = .returned (.bool (decide (t.has.b = t.has.c) && decide (t.ids.b = t.ids.c))) ∧ ∃ n, w' = w.drewN n := by
  have HT := Lib.hid (h.below (below_dN (Below.refl _ w) 1))
  have hok := h.ok
  have heq := fun W => id_eql hok.ib hok.ic W
  obtain ⟨z, hz⟩ : ∃ z, decide (t.has.b = t.has.c) = z := ⟨_, rfl⟩
  have HZ : Hid (decide (t.has.b = t.has.c) = z) := hz
  clear hz h
  go_enter Tryz.func52, Tryz.ntmps52
  go_upto_region 1 with fail
  refine wp_region_hz (fun W => TR W q t) (.tk 0 (.tk 1 (.tk 2 (.tk 3 (.tk 4 (.tk 5 (.tk 6 (.tk 7 (.tk 8 (.tk 9 (.tk 10 (.tk 11 (.tk 12 (.tk 13 (.tk 14 (.tk 15 (.tk 16 (.tk 17 (.tk 18 (.tk 19 (.tk 20 (.tk 21 (.tk 22 (.tk 23 (.tk 24 (.tk 25 (.tk 26 (.tk 27 (.tk 28 (.tk 29 (.tk 30 (.tk 31 (.tk 32 (.nil)))))))))))))))))))))))))))))))))) (by kernel_rfl) (by kernel_rfl) (fun _ _ _ _ _ h => h) ?_
  refine goZ_tk rfl rfl 7 rfl (.pointer (some ⟨q, 0, none⟩)) (fun _ => rfl) ?_; simp only [zT, zA, zB]
  refine goZ_tk rfl rfl 8 rfl (.int .i64 1) (fun _ => rfl) ?_; simp only [zT, zA, zB]
  refine goZ_tk rfl rfl 9 rfl (.pointer (some ⟨q, 0, none⟩)) (fun _ => rfl) ?_; simp only [zT, zA, zB]
  refine goZ_tk rfl rfl 10 rfl (.pointer (some ⟨q, 0, none⟩)) (fun _ => rfl) ?_; simp only [zT, zA, zB]
  refine goZ_tk rfl rfl 11 rfl (.pointer (some ⟨q, 36, none⟩)) (fun _ => rfl) ?_; simp only [zT, zA, zB]
  refine goZ_tk rfl rfl 12 rfl (.pointer (some ⟨q, 37, none⟩)) (fun _ => by go_simp) ?_; simp only [zT, zA, zB]
  refine goZ_ld rfl rfl 13 rfl 4 _ rfl ⟨q, 37, none⟩ (.bool t.has.b) rfl (fun W hS => ld_bool _ _ W hS.h1) (HT.out) ?_; simp only [zT, zA, zB]
  refine goZ_tk rfl rfl 14 rfl (.pointer (some ⟨q, 0, none⟩)) (fun _ => rfl) ?_; simp only [zT, zA, zB]
  refine goZ_tk rfl rfl 15 rfl (.int .i64 2) (fun _ => rfl) ?_; simp only [zT, zA, zB]
  refine goZ_tk rfl rfl 16 rfl (.pointer (some ⟨q, 0, none⟩)) (fun _ => rfl) ?_; simp only [zT, zA, zB]
  refine goZ_tk rfl rfl 17 rfl (.pointer (some ⟨q, 0, none⟩)) (fun _ => rfl) ?_; simp only [zT, zA, zB]
  refine goZ_tk rfl rfl 18 rfl (.pointer (some ⟨q, 36, none⟩)) (fun _ => rfl) ?_; simp only [zT, zA, zB]
  refine goZ_tk rfl rfl 19 rfl (.pointer (some ⟨q, 38, none⟩)) (fun _ => by go_simp) ?_; simp only [zT, zA, zB]
  refine goZ_ld rfl rfl 20 rfl 4 _ rfl ⟨q, 38, none⟩ (.bool t.has.c) rfl (fun W hS => ld_bool _ _ W hS.h2) (HT.out) ?_; simp only [zT, zA, zB]
  refine goZ_tk rfl rfl 21 rfl (.bool z) (fun _ => by rw [← HZ.out]; generalize t.has.b = x; generalize t.has.c = y; cases x <;> cases y <;> rfl) ?_; simp only [zT, zA, zB]
  refine goZ_tk rfl rfl 22 rfl (.bool z) (fun _ => rfl) ?_; simp only [zT, zA, zB]
  cases z
  · refine goZ_no rfl rfl 23 rfl ?_
    simp only [zT, zA, zB]
    refine goZ_no rfl rfl 24 rfl ?_; simp only [zT, zA, zB]
    refine goZ_no rfl rfl 25 rfl ?_; simp only [zT, zA, zB]
    refine goZ_no rfl rfl 26 rfl ?_; simp only [zT, zA, zB]
    refine goZ_no rfl rfl 27 rfl ?_; simp only [zT, zA, zB]
    refine goZ_no rfl rfl 28 rfl ?_; simp only [zT, zA, zB]
    refine goZ_no rfl rfl 29 rfl ?_; simp only [zT, zA, zB]
    refine goZ_no rfl rfl 30 rfl ?_; simp only [zT, zA, zB]
    refine goZ_no rfl rfl 31 rfl ?_; simp only [zT, zA, zB]
    refine goZ_no rfl rfl 32 rfl ?_; simp only [zT, zA, zB]
    refine goZ_no rfl rfl 33 rfl ?_; simp only [zT, zA, zB]
    refine goZ_no rfl rfl 34 rfl ?_; simp only [zT, zA, zB]
    refine goZ_no rfl rfl 35 rfl ?_; simp only [zT, zA, zB]
    refine goZ_no rfl rfl 36 rfl ?_; simp only [zT, zA, zB]
    refine goZ_no rfl rfl 37 rfl ?_; simp only [zT, zA, zB]
    refine goZ_tk rfl rfl 38 rfl (.bool false) (fun _ => rfl) ?_; simp only [zT, zA, zB]
    refine goZ_tk rfl rfl 6 rfl (.bool false) (fun _ => rfl) ?_; simp only [zT, zA, zB]
    refine goZ_end ?_
    go_wp2_with fail
    go_ret
    exact ⟨ret_bool (by rw [HZ.out]; rfl), 1, rfl⟩
  · refine goZ_tk rfl rfl 23 rfl (.pointer (some ⟨q, 0, none⟩)) (fun _ => rfl) ?_
    simp only [zT, zA, zB]
    refine goZ_tk rfl rfl 24 rfl (.int .i64 1) (fun _ => rfl) ?_; simp only [zT, zA, zB]
    refine goZ_tk rfl rfl 25 rfl (.pointer (some ⟨q, 0, none⟩)) (fun _ => rfl) ?_; simp only [zT, zA, zB]
    refine goZ_tk rfl rfl 26 rfl (.pointer (some ⟨q, 0, none⟩)) (fun _ => rfl) ?_; simp only [zT, zA, zB]
    refine goZ_tk rfl rfl 27 rfl (.pointer (some ⟨q, 39, none⟩)) (fun _ => rfl) ?_; simp only [zT, zA, zB]
    refine goZ_tk rfl rfl 28 rfl (.pointer (some ⟨q, 71, none⟩)) (fun _ => by go_simp) ?_; simp only [zT, zA, zB]
    refine goZ_ld rfl rfl 29 rfl 43 _ rfl ⟨q, 71, none⟩ (.agg (nums .u8 t.ids.b)) rfl (fun W hS => ld_id hok.ib hS.i1) (HT.out) ?_; simp only [zT, zA, zB]
    refine goZ_tk rfl rfl 30 rfl (.pointer (some ⟨q, 0, none⟩)) (fun _ => rfl) ?_; simp only [zT, zA, zB]
    refine goZ_tk rfl rfl 31 rfl (.int .i64 2) (fun _ => rfl) ?_; simp only [zT, zA, zB]
    refine goZ_tk rfl rfl 32 rfl (.pointer (some ⟨q, 0, none⟩)) (fun _ => rfl) ?_; simp only [zT, zA, zB]
    refine goZ_tk rfl rfl 33 rfl (.pointer (some ⟨q, 0, none⟩)) (fun _ => rfl) ?_; simp only [zT, zA, zB]
    refine goZ_tk rfl rfl 34 rfl (.pointer (some ⟨q, 39, none⟩)) (fun _ => rfl) ?_; simp only [zT, zA, zB]
    refine goZ_tk rfl rfl 35 rfl (.pointer (some ⟨q, 103, none⟩)) (fun _ => by go_simp) ?_; simp only [zT, zA, zB]
    refine goZ_ld rfl rfl 36 rfl 43 _ rfl ⟨q, 103, none⟩ (.agg (nums .u8 t.ids.c)) rfl (fun W hS => ld_id hok.ic hS.i2) (HT.out) ?_; simp only [zT, zA, zB]
    refine goZ_tk rfl rfl 37 rfl (.bool (decide (t.ids.b = t.ids.c))) (fun W => by go_simp) ?_; simp only [zT, zA, zB]
    refine goZ_tk rfl rfl 38 rfl (.bool (decide (t.ids.b = t.ids.c))) (fun _ => by cases decide (t.ids.b = t.ids.c) <;> rfl) ?_; simp only [zT, zA, zB]
    refine goZ_tk rfl rfl 6 rfl (.bool (decide (t.ids.b = t.ids.c))) (fun _ => rfl) ?_; simp only [zT, zA, zB]
    refine goZ_end ?_
    go_wp2_with fail
    go_ret
    exact ⟨ret_bool (by rw [HZ.out]; rfl), 1, rfl⟩

set_option maxRecDepth 100000 in
set_option maxHeartbeats 2000000 in
theorem same02_c {w : World} {q : Nat} {t : Th} (h : TR w q t) : Calls Tryz.prog 52 #[.pointer (some ⟨q, 0, none⟩), .int .i64 0, .int .i64 2] w fun e w' => e = .returned (.bool (decide (t.has.a = t.has.c) && decide (t.ids.a = t.ids.c))) ∧ ∃ n, w' = w.drewN n := by
  have HT := Lib.hid (h.below (below_dN (Below.refl _ w) 1))
  have hok := h.ok
  have heq := fun W => id_eql hok.ia hok.ic W
  obtain ⟨z, hz⟩ : ∃ z, decide (t.has.a = t.has.c) = z := ⟨_, rfl⟩
  have HZ : Hid (decide (t.has.a = t.has.c) = z) := hz
  clear hz h
  go_enter Tryz.func52, Tryz.ntmps52
  go_upto_region 1 with fail
  refine wp_region_hz (fun W => TR W q t) (.tk 0 (.tk 1 (.tk 2 (.tk 3 (.tk 4 (.tk 5 (.tk 6 (.tk 7 (.tk 8 (.tk 9 (.tk 10 (.tk 11 (.tk 12 (.tk 13 (.tk 14 (.tk 15 (.tk 16 (.tk 17 (.tk 18 (.tk 19 (.tk 20 (.tk 21 (.tk 22 (.tk 23 (.tk 24 (.tk 25 (.tk 26 (.tk 27 (.tk 28 (.tk 29 (.tk 30 (.tk 31 (.tk 32 (.nil)))))))))))))))))))))))))))))))))) (by kernel_rfl) (by kernel_rfl) (fun _ _ _ _ _ h => h) ?_
  refine goZ_tk rfl rfl 7 rfl (.pointer (some ⟨q, 0, none⟩)) (fun _ => rfl) ?_; simp only [zT, zA, zB]
  refine goZ_tk rfl rfl 8 rfl (.int .i64 0) (fun _ => rfl) ?_; simp only [zT, zA, zB]
  refine goZ_tk rfl rfl 9 rfl (.pointer (some ⟨q, 0, none⟩)) (fun _ => rfl) ?_; simp only [zT, zA, zB]
  refine goZ_tk rfl rfl 10 rfl (.pointer (some ⟨q, 0, none⟩)) (fun _ => rfl) ?_; simp only [zT, zA, zB]
  refine goZ_tk rfl rfl 11 rfl (.pointer (some ⟨q, 36, none⟩)) (fun _ => rfl) ?_; simp only [zT, zA, zB]
  refine goZ_tk rfl rfl 12 rfl (.pointer (some ⟨q, 36, none⟩)) (fun _ => by go_simp) ?_; simp only [zT, zA, zB]
  refine goZ_ld rfl rfl 13 rfl 4 _ rfl ⟨q, 36, none⟩ (.bool t.has.a) rfl (fun W hS => ld_bool _ _ W hS.h0) (HT.out) ?_; simp only [zT, zA, zB]
  refine goZ_tk rfl rfl 14 rfl (.pointer (some ⟨q, 0, none⟩)) (fun _ => rfl) ?_; simp only [zT, zA, zB]
  refine goZ_tk rfl rfl 15 rfl (.int .i64 2) (fun _ => rfl) ?_; simp only [zT, zA, zB]
  refine goZ_tk rfl rfl 16 rfl (.pointer (some ⟨q, 0, none⟩)) (fun _ => rfl) ?_; simp only [zT, zA, zB]
  refine goZ_tk rfl rfl 17 rfl (.pointer (some ⟨q, 0, none⟩)) (fun _ => rfl) ?_; simp only [zT, zA, zB]
  refine goZ_tk rfl rfl 18 rfl (.pointer (some ⟨q, 36, none⟩)) (fun _ => rfl) ?_; simp only [zT, zA, zB]
  refine goZ_tk rfl rfl 19 rfl (.pointer (some ⟨q, 38, none⟩)) (fun _ => by go_simp) ?_; simp only [zT, zA, zB]
  refine goZ_ld rfl rfl 20 rfl 4 _ rfl ⟨q, 38, none⟩ (.bool t.has.c) rfl (fun W hS => ld_bool _ _ W hS.h2) (HT.out) ?_; simp only [zT, zA, zB]
  refine goZ_tk rfl rfl 21 rfl (.bool z) (fun _ => by rw [← HZ.out]; generalize t.has.a = x; generalize t.has.c = y; cases x <;> cases y <;> rfl) ?_; simp only [zT, zA, zB]
  refine goZ_tk rfl rfl 22 rfl (.bool z) (fun _ => rfl) ?_; simp only [zT, zA, zB]
  cases z
  · refine goZ_no rfl rfl 23 rfl ?_
    simp only [zT, zA, zB]
    refine goZ_no rfl rfl 24 rfl ?_; simp only [zT, zA, zB]
    refine goZ_no rfl rfl 25 rfl ?_; simp only [zT, zA, zB]
    refine goZ_no rfl rfl 26 rfl ?_; simp only [zT, zA, zB]
    refine goZ_no rfl rfl 27 rfl ?_; simp only [zT, zA, zB]
    refine goZ_no rfl rfl 28 rfl ?_; simp only [zT, zA, zB]
    refine goZ_no rfl rfl 29 rfl ?_; simp only [zT, zA, zB]
    refine goZ_no rfl rfl 30 rfl ?_; simp only [zT, zA, zB]
    refine goZ_no rfl rfl 31 rfl ?_; simp only [zT, zA, zB]
    refine goZ_no rfl rfl 32 rfl ?_; simp only [zT, zA, zB]
    refine goZ_no rfl rfl 33 rfl ?_; simp only [zT, zA, zB]
    refine goZ_no rfl rfl 34 rfl ?_; simp only [zT, zA, zB]
    refine goZ_no rfl rfl 35 rfl ?_; simp only [zT, zA, zB]
    refine goZ_no rfl rfl 36 rfl ?_; simp only [zT, zA, zB]
    refine goZ_no rfl rfl 37 rfl ?_; simp only [zT, zA, zB]
    refine goZ_tk rfl rfl 38 rfl (.bool false) (fun _ => rfl) ?_; simp only [zT, zA, zB]
    refine goZ_tk rfl rfl 6 rfl (.bool false) (fun _ => rfl) ?_; simp only [zT, zA, zB]
    refine goZ_end ?_
    go_wp2_with fail
    go_ret
    exact ⟨ret_bool (by rw [HZ.out]; rfl), 1, rfl⟩
  · refine goZ_tk rfl rfl 23 rfl (.pointer (some ⟨q, 0, none⟩)) (fun _ => rfl) ?_
    simp only [zT, zA, zB]
    refine goZ_tk rfl rfl 24 rfl (.int .i64 0) (fun _ => rfl) ?_; simp only [zT, zA, zB]
    refine goZ_tk rfl rfl 25 rfl (.pointer (some ⟨q, 0, none⟩)) (fun _ => rfl) ?_; simp only [zT, zA, zB]
    refine goZ_tk rfl rfl 26 rfl (.pointer (some ⟨q, 0, none⟩)) (fun _ => rfl) ?_; simp only [zT, zA, zB]
    refine goZ_tk rfl rfl 27 rfl (.pointer (some ⟨q, 39, none⟩)) (fun _ => rfl) ?_; simp only [zT, zA, zB]
    refine goZ_tk rfl rfl 28 rfl (.pointer (some ⟨q, 39, none⟩)) (fun _ => by go_simp) ?_; simp only [zT, zA, zB]
    refine goZ_ld rfl rfl 29 rfl 43 _ rfl ⟨q, 39, none⟩ (.agg (nums .u8 t.ids.a)) rfl (fun W hS => ld_id hok.ia hS.i0) (HT.out) ?_; simp only [zT, zA, zB]
    refine goZ_tk rfl rfl 30 rfl (.pointer (some ⟨q, 0, none⟩)) (fun _ => rfl) ?_; simp only [zT, zA, zB]
    refine goZ_tk rfl rfl 31 rfl (.int .i64 2) (fun _ => rfl) ?_; simp only [zT, zA, zB]
    refine goZ_tk rfl rfl 32 rfl (.pointer (some ⟨q, 0, none⟩)) (fun _ => rfl) ?_; simp only [zT, zA, zB]
    refine goZ_tk rfl rfl 33 rfl (.pointer (some ⟨q, 0, none⟩)) (fun _ => rfl) ?_; simp only [zT, zA, zB]
    refine goZ_tk rfl rfl 34 rfl (.pointer (some ⟨q, 39, none⟩)) (fun _ => rfl) ?_; simp only [zT, zA, zB]
    refine goZ_tk rfl rfl 35 rfl (.pointer (some ⟨q, 103, none⟩)) (fun _ => by go_simp) ?_; simp only [zT, zA, zB]
    refine goZ_ld rfl rfl 36 rfl 43 _ rfl ⟨q, 103, none⟩ (.agg (nums .u8 t.ids.c)) rfl (fun W hS => ld_id hok.ic hS.i2) (HT.out) ?_; simp only [zT, zA, zB]
    refine goZ_tk rfl rfl 37 rfl (.bool (decide (t.ids.a = t.ids.c))) (fun W => by go_simp) ?_; simp only [zT, zA, zB]
    refine goZ_tk rfl rfl 38 rfl (.bool (decide (t.ids.a = t.ids.c))) (fun _ => by cases decide (t.ids.a = t.ids.c) <;> rfl) ?_; simp only [zT, zA, zB]
    refine goZ_tk rfl rfl 6 rfl (.bool (decide (t.ids.a = t.ids.c))) (fun _ => rfl) ?_; simp only [zT, zA, zB]
    refine goZ_end ?_
    go_wp2_with fail
    go_ret
    exact ⟨ret_bool (by rw [HZ.out]; rfl), 1, rfl⟩

set_option maxRecDepth 100000 in
set_option maxHeartbeats 2000000 in
theorem same01_c {w : World} {q : Nat} {t : Th} (h : TR w q t) : Calls Tryz.prog 52 #[.pointer (some ⟨q, 0, none⟩), .int .i64 0, .int .i64 1] w fun e w' => e = .returned (.bool (decide (t.has.a = t.has.b) && decide (t.ids.a = t.ids.b))) ∧ ∃ n, w' = w.drewN n := by
  have HT := Lib.hid (h.below (below_dN (Below.refl _ w) 1))
  have hok := h.ok
  have heq := fun W => id_eql hok.ia hok.ib W
  obtain ⟨z, hz⟩ : ∃ z, decide (t.has.a = t.has.b) = z := ⟨_, rfl⟩
  have HZ : Hid (decide (t.has.a = t.has.b) = z) := hz
  clear hz h
  go_enter Tryz.func52, Tryz.ntmps52
  go_upto_region 1 with fail
  refine wp_region_hz (fun W => TR W q t) (.tk 0 (.tk 1 (.tk 2 (.tk 3 (.tk 4 (.tk 5 (.tk 6 (.tk 7 (.tk 8 (.tk 9 (.tk 10 (.tk 11 (.tk 12 (.tk 13 (.tk 14 (.tk 15 (.tk 16 (.tk 17 (.tk 18 (.tk 19 (.tk 20 (.tk 21 (.tk 22 (.tk 23 (.tk 24 (.tk 25 (.tk 26 (.tk 27 (.tk 28 (.tk 29 (.tk 30 (.tk 31 (.tk 32 (.nil)))))))))))))))))))))))))))))))))) (by kernel_rfl) (by kernel_rfl) (fun _ _ _ _ _ h => h) ?_
  refine goZ_tk rfl rfl 7 rfl (.pointer (some ⟨q, 0, none⟩)) (fun _ => rfl) ?_; simp only [zT, zA, zB]
  refine goZ_tk rfl rfl 8 rfl (.int .i64 0) (fun _ => rfl) ?_; simp only [zT, zA, zB]
  refine goZ_tk rfl rfl 9 rfl (.pointer (some ⟨q, 0, none⟩)) (fun _ => rfl) ?_; simp only [zT, zA, zB]
  refine goZ_tk rfl rfl 10 rfl (.pointer (some ⟨q, 0, none⟩)) (fun _ => rfl) ?_; simp only [zT, zA, zB]
  refine goZ_tk rfl rfl 11 rfl (.pointer (some ⟨q, 36, none⟩)) (fun _ => rfl) ?_; simp only [zT, zA, zB]
  refine goZ_tk rfl rfl 12 rfl (.pointer (some ⟨q, 36, none⟩)) (fun _ => by go_simp) ?_; simp only [zT, zA, zB]
  refine goZ_ld rfl rfl 13 rfl 4 _ rfl ⟨q, 36, none⟩ (.bool t.has.a) rfl (fun W hS => ld_bool _ _ W hS.h0) (HT.out) ?_; simp only [zT, zA, zB]
  refine goZ_tk rfl rfl 14 rfl (.pointer (some ⟨q, 0, none⟩)) (fun _ => rfl) ?_; simp only [zT, zA, zB]
  refine goZ_tk rfl rfl 15 rfl (.int .i64 1) (fun _ => rfl) ?_; simp only [zT, zA, zB]
  refine goZ_tk rfl rfl 16 rfl (.pointer (some ⟨q, 0, none⟩)) (fun _ => rfl) ?_; simp only [zT, zA, zB]
  refine goZ_tk rfl rfl 17 rfl (.pointer (some ⟨q, 0, none⟩)) (fun _ => rfl) ?_; simp only [zT, zA, zB]
  refine goZ_tk rfl rfl 18 rfl (.pointer (some ⟨q, 36, none⟩)) (fun _ => rfl) ?_; simp only [zT, zA, zB]
  refine goZ_tk rfl rfl 19 rfl (.pointer (some ⟨q, 37, none⟩)) (fun _ => by go_simp) ?_; simp only [zT, zA, zB]
  refine goZ_ld rfl rfl 20 rfl 4 _ rfl ⟨q, 37, none⟩ (.bool t.has.b) rfl (fun W hS => ld_bool _ _ W hS.h1) (HT.out) ?_; simp only [zT, zA, zB]
  refine goZ_tk rfl rfl 21 rfl (.bool z) (fun _ => by rw [← HZ.out]; generalize t.has.a = x; generalize t.has.b = y; cases x <;> cases y <;> rfl) ?_; simp only [zT, zA, zB]
  refine goZ_tk rfl rfl 22 rfl (.bool z) (fun _ => rfl) ?_; simp only [zT, zA, zB]
  cases z
  · refine goZ_no rfl rfl 23 rfl ?_
    simp only [zT, zA, zB]
    refine goZ_no rfl rfl 24 rfl ?_; simp only [zT, zA, zB]
    refine goZ_no rfl rfl 25 rfl ?_; simp only [zT, zA, zB]
    refine goZ_no rfl rfl 26 rfl ?_; simp only [zT, zA, zB]
    refine goZ_no rfl rfl 27 rfl ?_; simp only [zT, zA, zB]
    refine goZ_no rfl rfl 28 rfl ?_; simp only [zT, zA, zB]
    refine goZ_no rfl rfl 29 rfl ?_; simp only [zT, zA, zB]
    refine goZ_no rfl rfl 30 rfl ?_; simp only [zT, zA, zB]
    refine goZ_no rfl rfl 31 rfl ?_; simp only [zT, zA, zB]
    refine goZ_no rfl rfl 32 rfl ?_; simp only [zT, zA, zB]
    refine goZ_no rfl rfl 33 rfl ?_; simp only [zT, zA, zB]
    refine goZ_no rfl rfl 34 rfl ?_; simp only [zT, zA, zB]
    refine goZ_no rfl rfl 35 rfl ?_; simp only [zT, zA, zB]
    refine goZ_no rfl rfl 36 rfl ?_; simp only [zT, zA, zB]
    refine goZ_no rfl rfl 37 rfl ?_; simp only [zT, zA, zB]
    refine goZ_tk rfl rfl 38 rfl (.bool false) (fun _ => rfl) ?_; simp only [zT, zA, zB]
    refine goZ_tk rfl rfl 6 rfl (.bool false) (fun _ => rfl) ?_; simp only [zT, zA, zB]
    refine goZ_end ?_
    go_wp2_with fail
    go_ret
    exact ⟨ret_bool (by rw [HZ.out]; rfl), 1, rfl⟩
  · refine goZ_tk rfl rfl 23 rfl (.pointer (some ⟨q, 0, none⟩)) (fun _ => rfl) ?_
    simp only [zT, zA, zB]
    refine goZ_tk rfl rfl 24 rfl (.int .i64 0) (fun _ => rfl) ?_; simp only [zT, zA, zB]
    refine goZ_tk rfl rfl 25 rfl (.pointer (some ⟨q, 0, none⟩)) (fun _ => rfl) ?_; simp only [zT, zA, zB]
    refine goZ_tk rfl rfl 26 rfl (.pointer (some ⟨q, 0, none⟩)) (fun _ => rfl) ?_; simp only [zT, zA, zB]
    refine goZ_tk rfl rfl 27 rfl (.pointer (some ⟨q, 39, none⟩)) (fun _ => rfl) ?_; simp only [zT, zA, zB]
    refine goZ_tk rfl rfl 28 rfl (.pointer (some ⟨q, 39, none⟩)) (fun _ => by go_simp) ?_; simp only [zT, zA, zB]
    refine goZ_ld rfl rfl 29 rfl 43 _ rfl ⟨q, 39, none⟩ (.agg (nums .u8 t.ids.a)) rfl (fun W hS => ld_id hok.ia hS.i0) (HT.out) ?_; simp only [zT, zA, zB]
    refine goZ_tk rfl rfl 30 rfl (.pointer (some ⟨q, 0, none⟩)) (fun _ => rfl) ?_; simp only [zT, zA, zB]
    refine goZ_tk rfl rfl 31 rfl (.int .i64 1) (fun _ => rfl) ?_; simp only [zT, zA, zB]
    refine goZ_tk rfl rfl 32 rfl (.pointer (some ⟨q, 0, none⟩)) (fun _ => rfl) ?_; simp only [zT, zA, zB]
    refine goZ_tk rfl rfl 33 rfl (.pointer (some ⟨q, 0, none⟩)) (fun _ => rfl) ?_; simp only [zT, zA, zB]
    refine goZ_tk rfl rfl 34 rfl (.pointer (some ⟨q, 39, none⟩)) (fun _ => rfl) ?_; simp only [zT, zA, zB]
    refine goZ_tk rfl rfl 35 rfl (.pointer (some ⟨q, 71, none⟩)) (fun _ => by go_simp) ?_; simp only [zT, zA, zB]
    refine goZ_ld rfl rfl 36 rfl 43 _ rfl ⟨q, 71, none⟩ (.agg (nums .u8 t.ids.b)) rfl (fun W hS => ld_id hok.ib hS.i1) (HT.out) ?_; simp only [zT, zA, zB]
    refine goZ_tk rfl rfl 37 rfl (.bool (decide (t.ids.a = t.ids.b))) (fun W => by go_simp) ?_; simp only [zT, zA, zB]
    refine goZ_tk rfl rfl 38 rfl (.bool (decide (t.ids.a = t.ids.b))) (fun _ => by cases decide (t.ids.a = t.ids.b) <;> rfl) ?_; simp only [zT, zA, zB]
    refine goZ_tk rfl rfl 6 rfl (.bool (decide (t.ids.a = t.ids.b))) (fun _ => rfl) ?_; simp only [zT, zA, zB]
    refine goZ_end ?_
    go_wp2_with fail
    go_ret
    exact ⟨ret_bool (by rw [HZ.out]; rfl), 1, rfl⟩

end Go.Proofs.YtpcipdkoncmdcaaGreatDoor
namespace Go.Proofs.YtpcipdkoncmdcaaGreatDoor
open Go Go.RowKit
/-- The merged time. -/
def whenS (has : T3 Bool) (sts : T3 Nat) : Nat :=
  if has.b = false then cn sts.c else if has.c = false then cn sts.b else
  if has.a = true ∧ cn sts.b = cn sts.a then cn sts.c else if has.a = true ∧ cn sts.c = cn sts.a then cn sts.b else
  if fkey sts.b < fkey sts.c then cn sts.c else cn sts.b

theorem cmp0 {x y : Nat} (hx : x < 2 ^ 64) (hy : y < 2 ^ 64) : ∃ z : Int, (z = 0 ↔ cn x = cn y) ∧ ∀ W : World, Calls Tryz.prog 47 #[.float .f64 x, .float .f64 y] W fun e w' => e = .returned (.int .i64 z) ∧ w' = W := by
  refine ⟨_, ?_, fun W => compare_c x y W hx hy⟩
  constructor
  · intro h
    refine fkey_cn hx hy ?_
    split at h
    · omega
    · split at h <;> omega
  · intro h
    have : fkey x = fkey y := by rw [← fkey_of_cn x, ← fkey_of_cn y, h]
    rw [this, if_neg (by omega), if_neg (by omega)]

set_option maxRecDepth 100000 in
set_option maxHeartbeats 4000000 in
theorem when_c {w : World} {q : Nat} {t : Th} (h : TR w q t) : Calls Tryz.prog 53 #[.pointer (some ⟨q, 0, none⟩)] w fun e w' => e = .returned (.float .f64 (whenS t.has t.sts)) ∧ Below w.heap.size w w' := by
  have HT := Lib.hid (h.below (below_dN (Below.refl _ w) 1))
  have hok := h.ok
  have hB : Below w.heap.size w (w.drewN 1) := below_dN (Below.refl _ w) 1
  have HW : Hid (whenS t.has t.sts = whenS t.has t.sts) := rfl
  clear h
  go_enter Tryz.func53, Tryz.ntmps53
  go_upto_region 1 with fail
  refine wp_region_hz (fun W => TR W q t) (.tk 0 (.tk 1 (.tk 2 (.tk 3 (.tk 4 (.tk 5 (.tk 6 (.tk 7 (.tk 8 (.tk 9 (.tk 10 (.tk 11 (.nil))))))))))))) (by kernel_rfl) (by kernel_rfl) (fun _ _ _ _ _ h => h) ?_
  refine goZ_tk rfl rfl 5 rfl (.pointer (some ⟨q, 0, none⟩)) (fun _ => rfl) ?_; simp only [zT, zA, zB]
  refine goZ_tk rfl rfl 6 rfl (.pointer (some ⟨q, 0, none⟩)) (fun _ => rfl) ?_; simp only [zT, zA, zB]
  refine goZ_tk rfl rfl 7 rfl (.pointer (some ⟨q, 135, none⟩)) (fun _ => rfl) ?_; simp only [zT, zA, zB]
  refine goZ_tk rfl rfl 8 rfl (.pointer (some ⟨q, 136, none⟩)) (fun _ => by go_simp) ?_; simp only [zT, zA, zB]
  refine goZ_ld rfl rfl 9 rfl 44 _ rfl ⟨q, 136, none⟩ (.float .f64 t.sts.b) rfl (fun W hS => ld_float _ _ W hS.s1) (HT.out) ?_; simp only [zT, zA, zB]
  refine goZ_tk rfl rfl 10 rfl (.pointer (some ⟨q, 0, none⟩)) (fun _ => rfl) ?_; simp only [zT, zA, zB]
  refine goZ_tk rfl rfl 11 rfl (.pointer (some ⟨q, 0, none⟩)) (fun _ => rfl) ?_; simp only [zT, zA, zB]
  refine goZ_tk rfl rfl 12 rfl (.pointer (some ⟨q, 135, none⟩)) (fun _ => rfl) ?_; simp only [zT, zA, zB]
  refine goZ_tk rfl rfl 13 rfl (.pointer (some ⟨q, 137, none⟩)) (fun _ => by go_simp) ?_; simp only [zT, zA, zB]
  refine goZ_ld rfl rfl 14 rfl 44 _ rfl ⟨q, 137, none⟩ (.float .f64 t.sts.c) rfl (fun W hS => ld_float _ _ W hS.s2) (HT.out) ?_; simp only [zT, zA, zB]
  refine goZ_tk rfl rfl 3 rfl (.float .f64 t.sts.b) (fun _ => rfl) ?_; simp only [zT, zA, zB]
  refine goZ_tk rfl rfl 4 rfl (.float .f64 t.sts.c) (fun _ => rfl) ?_; simp only [zT, zA, zB]
  refine goZ_end ?_
  generalize hw1 : w.drewN 1 = w1 at *
  clear hw1
  have h0 := HT.out.h0
  have h1 := HT.out.h1
  have h2 := HT.out.h2
  have s0 := HT.out.s0
  have hsa := hok.sa
  have hsb := hok.sb
  have hsc := hok.sc
  obtain ⟨zb, hzb, cb⟩ := cmp0 hsb hsa
  obtain ⟨zc, hzc, cc⟩ := cmp0 hsc hsa
  have HCB := Lib.hid cb
  have HCC := Lib.hid cc
  have HNB := Lib.hid (fun W => canon_c t.sts.b W)
  have HNC := Lib.hid (fun W => canon_c t.sts.c W)
  have hb2 : Below w1.heap.size w1 (w1.alloc (.cells #[.float .f64 t.sts.b, .float .f64 t.sts.c] 44 (0, 0))) := (Below.refl _ w1).alloc (Nat.le_refl _) _
  have HLT : Hid (Calls Tryz.prog 84 #[.slice (some ⟨w1.heap.size, 0, none⟩) 2 2] (w1.alloc (.cells #[.float .f64 t.sts.b, .float .f64 t.sts.c] 44 (0, 0))) fun e w' => e = .returned (.float .f64 (if fkey t.sts.b < fkey t.sts.c then cn t.sts.c else cn t.sts.b)) ∧ w' = w1.alloc (.cells #[.float .f64 t.sts.b, .float .f64 t.sts.c] 44 (0, 0))) := by
    have := latest_c (w := w1.alloc (.cells #[.float .f64 t.sts.b, .float .f64 t.sts.c] 44 (0, 0))) (a := some ⟨w1.heap.size, 0, none⟩) (c := 2) (l := [t.sts.b, t.sts.c]) (.inr ⟨_, _, rfl, by simp, fun i u hu => by rw [World.cell?_alloc_at _ _ _ _ rfl]; simpa using hu⟩) (by simp) (fun x hx => by
      rcases List.mem_cons.1 hx with rfl | hx
      · exact hsb
      · rcases List.mem_cons.1 hx with rfl | hx
        · exact hsc
        · cases hx)
    rw [last_two hsb] at this
    exact this
  have HB2 : Hid (Below w.heap.size w (w1.alloc (.cells #[.float .f64 t.sts.b, .float .f64 t.sts.c] 44 (0, 0)))) := hB.trans (hb2.mono hB.size)
  have HB := Lib.hid hB
  have HWW : Hid (∀ a b c : Bool, t.has.a = a → t.has.b = b → t.has.c = c → whenS t.has t.sts = if b = false then cn t.sts.c else if c = false then cn t.sts.b else if a = true ∧ zb = 0 then cn t.sts.c else if a = true ∧ zc = 0 then cn t.sts.b else if fkey t.sts.b < fkey t.sts.c then cn t.sts.c else cn t.sts.b) := by
    intro a b c e1 e2 e3
    unfold whenS
    rw [e1, e2, e3]
    simp only [hzb, hzc]
  clear HT hok hsa hsb hsc hzb hzc cb cc hb2 hB HW
  obtain ⟨ba, ea⟩ : ∃ b, t.has.a = b := ⟨_, rfl⟩
  obtain ⟨bb, eb⟩ : ∃ b, t.has.b = b := ⟨_, rfl⟩
  obtain ⟨bc, ec⟩ : ∃ b, t.has.c = b := ⟨_, rfl⟩
  have HWX := Lib.hid (HWW.out ba bb bc ea eb ec)
  rw [ea] at h0
  rw [eb] at h1
  rw [ec] at h2
  clear ea eb ec HWW
  obtain ⟨R, hR⟩ : ∃ R, whenS t.has t.sts = R := ⟨_, rfl⟩
  rw [hR] at HWX
  have HRR : Hid (whenS t.has t.sts = R) := hR
  clear hR
  generalize (if fkey t.sts.b < fkey t.sts.c then cn t.sts.c else cn t.sts.b) = rl at *
  generalize cn t.sts.b = nb_ at *
  generalize cn t.sts.c = nc_ at *
  generalize t.sts.a = sa at *
  generalize t.sts.b = sb at *
  generalize t.sts.c = sc at *
  have hz1 : zb = 0 ∨ zb ≠ 0 := by omega
  have hz2 : zc = 0 ∨ zc ≠ 0 := by omega
  cases bb
  · have HR : Hid (R = nc_) := by show _ = _; rw [HWX.out, if_pos rfl]
    go_wp2_with (go_at_call 83; refine (HNC.out _).mono ?_; rintro e w2 ⟨rfl, hw⟩; obtain rfl := hw.symm; clear hw)
    go_ret
    exact ⟨by rw [HRR.out, HR.out]; rfl, HB.out⟩
  cases bc
  · have HR : Hid (R = nb_) := by show _ = _; rw [HWX.out, if_neg (by simp), if_pos rfl]
    go_wp2_with (go_at_call 83; refine (HNB.out _).mono ?_; rintro e w2 ⟨rfl, hw⟩; obtain rfl := hw.symm; clear hw)
    go_ret
    exact ⟨by rw [HRR.out, HR.out]; rfl, HB.out⟩
  cases ba
  · have HR : Hid (R = rl) := by show _ = _; rw [HWX.out, if_neg (by simp), if_neg (by simp), if_neg (by simp), if_neg (by simp)]
    go_wp2_with (go_at_call 84; refine HLT.out.mono ?_; rintro e w2 ⟨rfl, hw⟩; obtain rfl := hw.symm; clear hw)
    go_ret
    exact ⟨by rw [HRR.out, HR.out]; rfl, HB2.out⟩
  · rcases hz1 with rfl | hz1
    · have HR : Hid (R = nc_) := by show _ = _; rw [HWX.out, if_neg (by simp), if_neg (by simp), if_pos (by simp)]
      go_wp2_with (first
        | (go_at_call 47; refine (HCB.out _).mono ?_; rintro e w2 ⟨rfl, hw⟩; obtain rfl := hw.symm; clear hw HCB)
        | (go_at_call 83; refine (HNC.out _).mono ?_; rintro e w2 ⟨rfl, hw⟩; obtain rfl := hw.symm; clear hw))
      go_ret
      exact ⟨by rw [HRR.out, HR.out]; rfl, HB.out⟩
    · have e1 : (zb == 0) = false := beq_eq_false_iff_ne.2 hz1
      rcases hz2 with rfl | hz2
      · have HR : Hid (R = nb_) := by show _ = _; rw [HWX.out, if_neg (by simp), if_neg (by simp), if_neg (by simp [hz1]), if_pos (by simp)]
        clear hz1
        go_wp2_with (first
          | (go_at_call 47; refine (HCB.out _).mono ?_; rintro e w2 ⟨rfl, hw⟩; obtain rfl := hw.symm; clear hw HCB)
          | (go_at_call 47; refine (HCC.out _).mono ?_; rintro e w2 ⟨rfl, hw⟩; obtain rfl := hw.symm; clear hw HCC)
          | (go_at_call 83; refine (HNB.out _).mono ?_; rintro e w2 ⟨rfl, hw⟩; obtain rfl := hw.symm; clear hw))
        go_ret
        exact ⟨by rw [HRR.out, HR.out]; rfl, HB.out⟩
      · have e2 : (zc == 0) = false := beq_eq_false_iff_ne.2 hz2
        have HR : Hid (R = rl) := by show _ = _; rw [HWX.out, if_neg (by simp), if_neg (by simp), if_neg (by simp [hz1]), if_neg (by simp [hz2])]
        clear hz1 hz2
        go_wp2_with (first
          | (go_at_call 47; refine (HCB.out _).mono ?_; rintro e w2 ⟨rfl, hw⟩; obtain rfl := hw.symm; clear hw HCB)
          | (go_at_call 47; refine (HCC.out _).mono ?_; rintro e w2 ⟨rfl, hw⟩; obtain rfl := hw.symm; clear hw HCC)
          | (go_at_call 84; refine HLT.out.mono ?_; rintro e w2 ⟨rfl, hw⟩; obtain rfl := hw.symm; clear hw))
        go_ret
        exact ⟨by rw [HRR.out, HR.out]; rfl, HB2.out⟩
end Go.Proofs.YtpcipdkoncmdcaaGreatDoor
