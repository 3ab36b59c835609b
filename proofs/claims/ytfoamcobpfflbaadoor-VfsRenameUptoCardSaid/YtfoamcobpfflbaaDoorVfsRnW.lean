/- THE ATOMIC RENAME: the law's walk. -/
import Derived.Test.YtfoamcobpfflbaaDoorVfsRn
import Derived.Test.YtfoamcobpfflbaaDoorVfsAwW
namespace Go.Proofs.YtfoamcobpfflbaaDoor
open Go Go.RowKit Go.Maps
open VfsS (St)

theorem slA_old {w0 v w : World} {a : Option Addr} {xs : List Value} (h : Sl w0 a xs) (hb : Below w0.heap.size w0 w) : SlA w0 v w a xs := by
  rcases h with h | ⟨b, o, r1, r2, r3⟩
  · exact .inl h
  · exact .inr ⟨b, o, r1, Nat.lt_of_lt_of_le r2 hb.size, .inl r2, fun i u hu => by rw [World.cell?_of_block (a := ⟨b, o + i, none⟩) (hb.block b r2)]; exact r3 i u hu⟩

set_option maxRecDepth 100000 in
set_option maxHeartbeats 4000000 in
theorem lawRename_c (a1 a2 : Option Addr) (c1 c2 : Nat) (x y : ByteArray) (n0 n1 n2 : Int) (w : World) (hg : Gl w) (s1 : Sl w a1 (byteCells x)) (s2 : Sl w a2 (byteCells y)) (hx : x.size ≤ 1048576) (hy : y.size ≤ 1048576)
    (h0 : -9223372036854775808 ≤ n0 ∧ n0 ≤ 9223372036854775807) :
    Calls Tryd.prog 7 #[.slice a1 x.size c1, .slice a2 y.size c2, .agg #[.int .i64 n0, .int .i64 n1, .int .i64 n2]] w fun e w' => e = .returned (.bool true) ∧ Below w.heap.size w w' := by
  have ks := fun {w : World} {a : Option Addr} {b : ByteArray} (h : Sl w a (byteCells b)) (c : Nat) => run_str_of (P := Tryd.prog) Tryd.underlying43 Tryd.underlying5 Tryd.underlying9 h c
  have hw1 : IntKind.i64.wrap ((x.size : Int) + (y.size : Int)) = ((x.size + y.size : Nat) : Int) := IntWalk.i64_in _ (by omega)
  go_enter Tryd.func7, Tryd.ntmps7
  go_wp2_with fail
  have hgA : Gl (w.alloc (.cells #[.int .i64 n0, .int .i64 n1, .int .i64 n2] 84)) := hg.below (below_alloc w _) (Nat.le_refl _)
  refine (awake14_c _ hgA).mono ?_
  rintro e w0 ⟨rfl, hb0⟩
  have hbw := (below_alloc w (.cells #[.int .i64 n0, .int .i64 n1, .int .i64 n2] 84)).trans (hb0.mono (by simp))
  by_cases hxy : 1000 < x.size + y.size
  · have hd : decide ((x.size + y.size : Nat) > (1000 : Int)) = true := decide_eq_true (by omega)
    go_wp2_with fail
    go_ret
    exact ⟨rfl, hbw⟩
  have hd : decide ((x.size + y.size : Nat) > (1000 : Int)) = false := decide_eq_false (by omega)
  have hg0 := hgA.below hb0 (Nat.le_refl _)
  have hB : w0.heap[w.heap.size]? = some (.cells #[.int .i64 n0, .int .i64 n1, .int .i64 n2] 84) := (hb0.block _ (by simp)).trans Array.getElem?_push_size
  have hBlt : w.heap.size < w0.heap.size := (Array.getElem?_eq_some_iff.1 hB).1
  have hx0 := s1.below hbw
  have hy0 := s2.below hbw
  go_wp2_with fail
  refine (new_a 1000 w0 hg0).mono ?_
  rintro e v1 (⟨h, _⟩ | ⟨-, p, rfl, H1⟩)
  · omega
  go_wp2_with fail
  refine (create_a H1 VfsT.f (by decide) (by omega)).mono ?_
  rw [VfsT.f1]
  rintro e v2 ⟨rfl, H2⟩
  clear H1
  go_wp2_with fail
  refine (append_a H2 (Below.refl _ _) VfsT.f x a1 c1 (by decide) (by omega) ?_ (by omega)).mono ?_
  · exact slA_old hx0 H2.out
  rw [VfsT.f2 x (by omega)]
  rintro e v3 ⟨rfl, H3⟩
  clear H2
  go_wp2_with fail
  refine (sync_a H3 VfsT.f (by decide) (by omega)).mono ?_
  rw [VfsT.f3]
  rintro e v4 ⟨rfl, H4⟩
  clear H3
  go_wp2_with fail
  refine (flush_a H4 (by omega)).mono ?_
  rw [VfsT.f4]
  rintro e v5 ⟨rfl, H5⟩
  clear H4
  have k0 : v5.cell? ⟨w.heap.size, 0, none⟩ = some (.int .i64 n0) := by rw [cell_of ((H5.out.block _ hBlt).trans hB)]; rfl
  go_wp2_with fail
  refine (stop_a H5 n0 h0).mono ?_
  rintro e v6 ⟨rfl, H6⟩
  clear H5 k0
  change VA w0 v6 p (VfsT.old1 x n0) _ at H6
  go_wp2_with fail
  refine (create_a H6 VfsT.g (by decide) (by omega)).mono ?_
  rw [VfsT.o1]
  by_cases e0 : n0 = 0
  · rw [if_pos e0]
    rintro e vB ⟨rfl, HV⟩
    have HR : ∃ t, VfsS.readS (VfsS.crashS (VfsT.old1 x n0) n1 n2) VfsT.f = some t ∧ (t = x ∨ t = y) := ⟨x, VfsT.rd0 _ _ _ _, .inl rfl⟩
    change VA w0 vB p (VfsT.old1 x n0) _ at HV
    have hr : 0 ≤ n0 ∧ n0 < 5 := by omega
    have hd1 : decide (n0 < 0) = false := decide_eq_false (by omega)
    have hd2 : decide (n0 ≥ 5) = false := decide_eq_false (by omega)
    clear hr e0
    have hdone := trivial
    have kk : ∀ {v : World}, Below w0.heap.size w0 v → v.cell? ⟨w.heap.size, 0, none⟩ = some (.int .i64 n0) ∧ v.cell? ⟨w.heap.size, 1, none⟩ = some (.int .i64 n1) ∧ v.cell? ⟨w.heap.size, 2, none⟩ = some (.int .i64 n2) := fun hb => ⟨by rw [cell_of ((hb.block _ hBlt).trans hB)]; rfl, by rw [cell_of ((hb.block _ hBlt).trans hB)]; rfl, by rw [cell_of ((hb.block _ hBlt).trans hB)]; rfl⟩
    obtain ⟨-, m1, m2⟩ := kk HV.out
    go_wp2_with fail
    refine (crash_a HV n1 n2).mono ?_
    rintro e vC ⟨rfl, HC⟩
    obtain ⟨t, ht, hor⟩ := HR
    go_wp2_with fail
    refine (read_a HC VfsT.f (by decide)).mono ?_
    rw [ht]
    simp only [Option.getD_some, Option.isSome_some, if_true]
    rintro e vD ⟨ra, rc, rfl, hsl, -, HD⟩
    obtain ⟨m0, -, -⟩ := kk HD.out
    have q1 := ks hsl.sl rc
    have q2 := ks (hx0.below HD.out) c1
    have q3 := ks (hy0.below HD.out) c2
    go_wp2_with fail
    all_goals
      go_ret
      exact ⟨by rcases hor with e | e <;> rw [e] <;> simp, hbw.trans (HD.out.mono hbw.size)⟩
  rw [if_neg e0]
  rintro e u0 ⟨rfl, HV⟩
  change VA w0 u0 p (VfsT.g1 x (VfsT.lim n0)) _ at HV
  go_wp2_with fail
  refine (append_a HV (Below.refl _ _) VfsT.g y a2 c2 (by decide) (by omega) (slA_old hy0 HV.out) (by omega)).mono ?_
  rw [VfsT.o2 _ _ _ (by omega)]
  clear HV
  by_cases e1 : (VfsT.lim n0) = 0
  · rw [if_pos e1]
    rintro e vB ⟨rfl, HV⟩
    have HR : ∃ t, VfsS.readS (VfsS.crashS (VfsT.g1 x (VfsT.lim n0)) n1 n2) VfsT.f = some t ∧ (t = x ∨ t = y) := ⟨x, VfsT.rd1 _ _ _ _ _ _, .inl rfl⟩
    change VA w0 vB p (VfsT.g1 x (VfsT.lim n0)) _ at HV
    have hr : 0 ≤ n0 ∧ n0 < 5 := by unfold VfsT.lim at *; split at * <;> omega
    have hd1 : decide (n0 < 0) = false := decide_eq_false (by omega)
    have hd2 : decide (n0 ≥ 5) = false := decide_eq_false (by omega)
    clear hr e1
    have hdone := trivial
    have kk : ∀ {v : World}, Below w0.heap.size w0 v → v.cell? ⟨w.heap.size, 0, none⟩ = some (.int .i64 n0) ∧ v.cell? ⟨w.heap.size, 1, none⟩ = some (.int .i64 n1) ∧ v.cell? ⟨w.heap.size, 2, none⟩ = some (.int .i64 n2) := fun hb => ⟨by rw [cell_of ((hb.block _ hBlt).trans hB)]; rfl, by rw [cell_of ((hb.block _ hBlt).trans hB)]; rfl, by rw [cell_of ((hb.block _ hBlt).trans hB)]; rfl⟩
    obtain ⟨-, m1, m2⟩ := kk HV.out
    go_wp2_with fail
    refine (crash_a HV n1 n2).mono ?_
    rintro e vC ⟨rfl, HC⟩
    obtain ⟨t, ht, hor⟩ := HR
    go_wp2_with fail
    refine (read_a HC VfsT.f (by decide)).mono ?_
    rw [ht]
    simp only [Option.getD_some, Option.isSome_some, if_true]
    rintro e vD ⟨ra, rc, rfl, hsl, -, HD⟩
    obtain ⟨m0, -, -⟩ := kk HD.out
    have q1 := ks hsl.sl rc
    have q2 := ks (hx0.below HD.out) c1
    have q3 := ks (hy0.below HD.out) c2
    go_wp2_with fail
    all_goals
      go_ret
      exact ⟨by rcases hor with e | e <;> rw [e] <;> simp, hbw.trans (HD.out.mono hbw.size)⟩
  rw [if_neg e1]
  rintro e u1 ⟨rfl, HV⟩
  change VA w0 u1 p (VfsT.g2 x y (VfsT.lim (VfsT.lim n0))) _ at HV
  go_wp2_with fail
  refine (sync_a HV VfsT.g (by decide) (by omega)).mono ?_
  rw [VfsT.o3]
  clear HV
  by_cases e2 : (VfsT.lim (VfsT.lim n0)) = 0
  · rw [if_pos e2]
    rintro e vB ⟨rfl, HV⟩
    have HR : ∃ t, VfsS.readS (VfsS.crashS (VfsT.g2 x y (VfsT.lim (VfsT.lim n0))) n1 n2) VfsT.f = some t ∧ (t = x ∨ t = y) := ⟨x, VfsT.rd1 _ _ _ _ _ _, .inl rfl⟩
    change VA w0 vB p (VfsT.g2 x y (VfsT.lim (VfsT.lim n0))) _ at HV
    have hr : 0 ≤ n0 ∧ n0 < 5 := by unfold VfsT.lim at *; split at * <;> omega
    have hd1 : decide (n0 < 0) = false := decide_eq_false (by omega)
    have hd2 : decide (n0 ≥ 5) = false := decide_eq_false (by omega)
    clear hr e2
    have hdone := trivial
    have kk : ∀ {v : World}, Below w0.heap.size w0 v → v.cell? ⟨w.heap.size, 0, none⟩ = some (.int .i64 n0) ∧ v.cell? ⟨w.heap.size, 1, none⟩ = some (.int .i64 n1) ∧ v.cell? ⟨w.heap.size, 2, none⟩ = some (.int .i64 n2) := fun hb => ⟨by rw [cell_of ((hb.block _ hBlt).trans hB)]; rfl, by rw [cell_of ((hb.block _ hBlt).trans hB)]; rfl, by rw [cell_of ((hb.block _ hBlt).trans hB)]; rfl⟩
    obtain ⟨-, m1, m2⟩ := kk HV.out
    go_wp2_with fail
    refine (crash_a HV n1 n2).mono ?_
    rintro e vC ⟨rfl, HC⟩
    obtain ⟨t, ht, hor⟩ := HR
    go_wp2_with fail
    refine (read_a HC VfsT.f (by decide)).mono ?_
    rw [ht]
    simp only [Option.getD_some, Option.isSome_some, if_true]
    rintro e vD ⟨ra, rc, rfl, hsl, -, HD⟩
    obtain ⟨m0, -, -⟩ := kk HD.out
    have q1 := ks hsl.sl rc
    have q2 := ks (hx0.below HD.out) c1
    have q3 := ks (hy0.below HD.out) c2
    go_wp2_with fail
    all_goals
      go_ret
      exact ⟨by rcases hor with e | e <;> rw [e] <;> simp, hbw.trans (HD.out.mono hbw.size)⟩
  rw [if_neg e2]
  rintro e u2 ⟨rfl, HV⟩
  change VA w0 u2 p (VfsT.g3 x y (VfsT.lim (VfsT.lim (VfsT.lim n0)))) _ at HV
  go_wp2_with fail
  refine (rename_a HV VfsT.g VfsT.f (by decide) (by decide) (by omega)).mono ?_
  rw [VfsT.o4]
  clear HV
  by_cases e3 : (VfsT.lim (VfsT.lim (VfsT.lim n0))) = 0
  · rw [if_pos e3]
    rintro e vB ⟨rfl, HV⟩
    have HR : ∃ t, VfsS.readS (VfsS.crashS (VfsT.g3 x y (VfsT.lim (VfsT.lim (VfsT.lim n0)))) n1 n2) VfsT.f = some t ∧ (t = x ∨ t = y) := ⟨x, VfsT.rd1 _ _ _ _ _ _, .inl rfl⟩
    change VA w0 vB p (VfsT.g3 x y (VfsT.lim (VfsT.lim (VfsT.lim n0)))) _ at HV
    have hr : 0 ≤ n0 ∧ n0 < 5 := by unfold VfsT.lim at *; split at * <;> omega
    have hd1 : decide (n0 < 0) = false := decide_eq_false (by omega)
    have hd2 : decide (n0 ≥ 5) = false := decide_eq_false (by omega)
    clear hr e3
    have hdone := trivial
    have kk : ∀ {v : World}, Below w0.heap.size w0 v → v.cell? ⟨w.heap.size, 0, none⟩ = some (.int .i64 n0) ∧ v.cell? ⟨w.heap.size, 1, none⟩ = some (.int .i64 n1) ∧ v.cell? ⟨w.heap.size, 2, none⟩ = some (.int .i64 n2) := fun hb => ⟨by rw [cell_of ((hb.block _ hBlt).trans hB)]; rfl, by rw [cell_of ((hb.block _ hBlt).trans hB)]; rfl, by rw [cell_of ((hb.block _ hBlt).trans hB)]; rfl⟩
    obtain ⟨-, m1, m2⟩ := kk HV.out
    go_wp2_with fail
    refine (crash_a HV n1 n2).mono ?_
    rintro e vC ⟨rfl, HC⟩
    obtain ⟨t, ht, hor⟩ := HR
    go_wp2_with fail
    refine (read_a HC VfsT.f (by decide)).mono ?_
    rw [ht]
    simp only [Option.getD_some, Option.isSome_some, if_true]
    rintro e vD ⟨ra, rc, rfl, hsl, -, HD⟩
    obtain ⟨m0, -, -⟩ := kk HD.out
    have q1 := ks hsl.sl rc
    have q2 := ks (hx0.below HD.out) c1
    have q3 := ks (hy0.below HD.out) c2
    go_wp2_with fail
    all_goals
      go_ret
      exact ⟨by rcases hor with e | e <;> rw [e] <;> simp, hbw.trans (HD.out.mono hbw.size)⟩
  rw [if_neg e3]
  rintro e u3 ⟨rfl, HV⟩
  change VA w0 u3 p (VfsT.g4 x y (VfsT.lim (VfsT.lim (VfsT.lim (VfsT.lim n0))))) _ at HV
  go_wp2_with fail
  refine (flush_a HV (by omega)).mono ?_
  rw [VfsT.o5]
  clear HV
  by_cases e4 : (VfsT.lim (VfsT.lim (VfsT.lim (VfsT.lim n0)))) = 0
  · rw [if_pos e4]
    rintro e vB ⟨rfl, HV⟩
    have HR : ∃ t, VfsS.readS (VfsS.crashS (VfsT.g4 x y (VfsT.lim (VfsT.lim (VfsT.lim (VfsT.lim n0))))) n1 n2) VfsT.f = some t ∧ (t = x ∨ t = y) := (VfsT.rd4 _ _ _ _ _).elim (fun h => ⟨x, h, .inl rfl⟩) (fun h => ⟨y, h, .inr rfl⟩)
    change VA w0 vB p (VfsT.g4 x y (VfsT.lim (VfsT.lim (VfsT.lim (VfsT.lim n0))))) _ at HV
    have hr : 0 ≤ n0 ∧ n0 < 5 := by unfold VfsT.lim at *; split at * <;> omega
    have hd1 : decide (n0 < 0) = false := decide_eq_false (by omega)
    have hd2 : decide (n0 ≥ 5) = false := decide_eq_false (by omega)
    clear hr e4
    have hdone := trivial
    have kk : ∀ {v : World}, Below w0.heap.size w0 v → v.cell? ⟨w.heap.size, 0, none⟩ = some (.int .i64 n0) ∧ v.cell? ⟨w.heap.size, 1, none⟩ = some (.int .i64 n1) ∧ v.cell? ⟨w.heap.size, 2, none⟩ = some (.int .i64 n2) := fun hb => ⟨by rw [cell_of ((hb.block _ hBlt).trans hB)]; rfl, by rw [cell_of ((hb.block _ hBlt).trans hB)]; rfl, by rw [cell_of ((hb.block _ hBlt).trans hB)]; rfl⟩
    obtain ⟨-, m1, m2⟩ := kk HV.out
    go_wp2_with fail
    refine (crash_a HV n1 n2).mono ?_
    rintro e vC ⟨rfl, HC⟩
    obtain ⟨t, ht, hor⟩ := HR
    go_wp2_with fail
    refine (read_a HC VfsT.f (by decide)).mono ?_
    rw [ht]
    simp only [Option.getD_some, Option.isSome_some, if_true]
    rintro e vD ⟨ra, rc, rfl, hsl, -, HD⟩
    obtain ⟨m0, -, -⟩ := kk HD.out
    have q1 := ks hsl.sl rc
    have q2 := ks (hx0.below HD.out) c1
    have q3 := ks (hy0.below HD.out) c2
    go_wp2_with fail
    all_goals
      go_ret
      exact ⟨by rcases hor with e | e <;> rw [e] <;> simp, hbw.trans (HD.out.mono hbw.size)⟩
  rw [if_neg e4]
  rintro e u4 ⟨rfl, HV⟩
  change VA w0 u4 p (VfsT.g5 x y (VfsT.lim (VfsT.lim (VfsT.lim (VfsT.lim (VfsT.lim n0)))))) _ at HV
  have kk : ∀ {v : World}, Below w0.heap.size w0 v → v.cell? ⟨w.heap.size, 0, none⟩ = some (.int .i64 n0) ∧ v.cell? ⟨w.heap.size, 1, none⟩ = some (.int .i64 n1) ∧ v.cell? ⟨w.heap.size, 2, none⟩ = some (.int .i64 n2) := fun hb => ⟨by rw [cell_of ((hb.block _ hBlt).trans hB)]; rfl, by rw [cell_of ((hb.block _ hBlt).trans hB)]; rfl, by rw [cell_of ((hb.block _ hBlt).trans hB)]; rfl⟩
  obtain ⟨-, m1, m2⟩ := kk HV.out
  have hr : n0 < 0 ∨ 5 ≤ n0 := by
    have l1 : ∀ z : Int, VfsT.lim z = if 0 < z then z - 1 else z := fun _ => rfl
    by_cases h : n0 < 0
    · exact .inl h
    · right
      have p0 : VfsT.lim n0 = n0 - 1 := by rw [l1, if_pos (by omega)]
      rw [p0] at e1 e2 e3 e4
      have p1 : VfsT.lim (n0 - 1) = n0 - 2 := by rw [l1, if_pos (by omega)]; omega
      rw [p1] at e2 e3 e4
      have p2 : VfsT.lim (n0 - 2) = n0 - 3 := by rw [l1, if_pos (by omega)]; omega
      rw [p2] at e3 e4
      have p3 : VfsT.lim (n0 - 3) = n0 - 4 := by rw [l1, if_pos (by omega)]; omega
      rw [p3] at e4
      omega
  clear e0 e1 e2 e3 e4
  go_wp2_with fail
  refine (crash_a HV n1 n2).mono ?_
  rintro e vC ⟨rfl, HC⟩
  have ht := VfsT.rd5 x y (VfsT.lim (VfsT.lim (VfsT.lim (VfsT.lim (VfsT.lim n0))))) n1 n2
  go_wp2_with fail
  refine (read_a HC VfsT.f (by decide)).mono ?_
  rw [ht]
  simp only [Option.getD_some, Option.isSome_some, if_true]
  rintro e vD ⟨ra, rc, rfl, hsl, -, HD⟩
  obtain ⟨m0, -, -⟩ := kk HD.out
  have q1 := ks hsl.sl rc
  have q2 := ks (hx0.below HD.out) c1
  have q3 := ks (hy0.below HD.out) c2
  by_cases hn : n0 < 0
  · have hd1 : decide (n0 < 0) = true := decide_eq_true hn
    go_wp2_with fail
    all_goals
      go_ret
      exact ⟨by simp, hbw.trans (HD.out.mono hbw.size)⟩
  · have hd1 : decide (n0 < 0) = false := decide_eq_false hn
    have hd2 : decide (n0 ≥ 5) = true := decide_eq_true (by omega)
    go_wp2_with fail
    all_goals
      go_ret
      exact ⟨by simp, hbw.trans (HD.out.mono hbw.size)⟩
end Go.Proofs.YtfoamcobpfflbaaDoor
