/- Walks: which of two moves stands first. -/
import Derived.Test.YtlnifigbnpdemaaDoorScoreAl
import Derived.Test.YtlnifigbnpdemaaDoorScorePath
import Derived.Test.YtlnifigbnpdemaaDoorKitG
namespace Go.Proofs.YtlnifigbnpdemaaDoor
open Go Go.RowKit Go.Sort

/-- The first number that is not nought. -/
def orI : List Int → Int
  | [] => 0
  | x :: l => if x = 0 then orI l else x

set_option maxRecDepth 100000 in
theorem or_c (a : Option Addr) (c : Nat) (xs : List Int) (w : World) (hs : Sl w a (xs.map (Value.int .i64))) (hl : xs.length ≤ 1000) :
    Calls Tryd.prog 40 #[.slice a xs.length c] w fun e w' => e = .returned (.int .i64 (orI xs)) ∧ w' = w := by
  have HS : Hid (orI (xs.drop 0) = orI xs) := by show _ = _; rw [List.drop_zero]
  go_enter Tryd.func40, Tryd.ntmps40
  go_wp2_with fail
  go_loopw [8] (fun v wr => ∃ k : Nat, k ≤ xs.length ∧ v = .int .i64 k ∧ Hid (orI (xs.drop k) = orI xs) ∧ wr = w) (fun v _ => xs.length - (intOf v).toNat)
  case atStart => exact ⟨0, by omega, rfl, HS, rfl⟩
  case round =>
    clear HS
    obtain ⟨k, hk, rfl, HO, rfl⟩ := hrel
    by_cases hlt : k < xs.length
    · obtain ⟨b, o, rfl, hbl, hc⟩ := hs.at (k := k) (by simpa using hlt)
      have hck : wr.cell? ⟨b, o + k, none⟩ = some (.int .i64 xs[k]) := by rw [hc k (by simpa using hlt), List.getElem_map]
      have hd : xs.drop k = xs[k] :: xs.drop (k + 1) := List.drop_eq_getElem_cons hlt
      have HD := Lib.hid hd
      clear hc hd
      have hlti : (k : Int) < xs.length := by omega
      generalize xs[k] = x at *
      by_cases hx : x = 0
      · have hxb : (x != 0) = false := by simp [hx]
        have HN : Hid (orI (xs.drop (k + 1)) = orI xs) := by show _ = _; rw [← HO.out, HD.out, orI, if_pos hx]
        clear HO HD
        go_wp2_with fail
        go_roundw
        case rel => exact ⟨k + 1, by omega, by go_num, HN, by first | trivial | rfl⟩
        case measure => simp [intOf]; omega
      · have hxb : (x != 0) = true := by simp [hx]
        have HN : Hid (orI xs = x) := by show _ = _; rw [← HO.out, HD.out, orI, if_neg hx]
        clear HO HD
        go_wp2_with fail
        go_ret
        exact ⟨ret_i64 HN.out, rfl⟩
    · have HN : Hid (orI xs = 0) := by show _ = _; rw [← HO.out, List.drop_eq_nil_of_le (by omega)]; rfl
      have hlti : ¬ (k : Int) < xs.length := by omega
      go_wp2_with fail
      go_ret
      exact ⟨ret_i64 HN.out, rfl⟩

/-- A move. -/
structure Mv where
  src : ByteArray
  dst : ByteArray
  sc : Nat
  deriving Inhabited

def cmpF (x y : Nat) : Int := if fkey x < fkey y then -1 else if fkey y < fkey x then 1 else 0

def ordI (x y : Mv) : Int := orI [cmpF y.sc x.sc, PathS.cmp x.src y.src, PathS.cmp x.dst y.dst]

def encM (m : Mv) : List Value := [.string m.src, .string m.dst, .float .f64 m.sc]

set_option maxRecDepth 100000 in
set_option maxHeartbeats 2000000 in
theorem order_g (x y : Mv) (w : World) (hg : Gl w) (h1 : x.src.size ≤ 10000000) (h2 : x.dst.size ≤ 10000000) (h3 : x.sc < 2 ^ 64) (g1 : y.src.size ≤ 10000000) (g2 : y.dst.size ≤ 10000000) (g3 : y.sc < 2 ^ 64) :
    Calls Tryd.prog 28 #[.agg (encM x).toArray, .agg (encM y).toArray] w fun e w' => e = .returned (.int .i64 (ordI x y)) ∧ Gr w w' := by
  obtain ⟨xf, xt, xs⟩ := x
  obtain ⟨yf, yt, ys⟩ := y
  have HV : Hid (ordI ⟨xf, xt, xs⟩ ⟨yf, yt, ys⟩ = orI [cmpF ys xs, PathS.cmp xf yf, PathS.cmp xt yt]) := rfl
  show Calls _ _ #[.agg #[.string xf, .string xt, .float .f64 xs], .agg #[.string yf, .string yt, .float .f64 ys]] _ _
  go_enter Tryd.func28, Tryd.ntmps28
  go_wp2_with fail
  generalize hW : (w.alloc (.cells #[.string xf, .string xt, .float .f64 xs] 43)).alloc (.cells #[.string yf, .string yt, .float .f64 ys] 43) = W
  have hsz : W.heap.size = w.heap.size + 2 := by rw [← hW]; simp
  have hgr : Gr w W := by rw [← hW]; exact ((Gr.refl w).alloc _).alloc _
  have hgW := hg.below hgr.1 (Nat.le_refl _)
  have c1 : W.cell? ⟨w.heap.size, 0, none⟩ = some (.string xf) := by rw [← hW]; simp
  have c2 : W.cell? ⟨w.heap.size, 1, none⟩ = some (.string xt) := by rw [← hW]; simp
  have c3 : W.cell? ⟨w.heap.size, 2, none⟩ = some (.float .f64 xs) := by rw [← hW]; simp
  have c4 : W.cell? ⟨w.heap.size + 1, 0, none⟩ = some (.string yf) := by rw [← hW]; simp
  have c5 : W.cell? ⟨w.heap.size + 1, 1, none⟩ = some (.string yt) := by rw [← hW]; simp
  have c6 : W.cell? ⟨w.heap.size + 1, 2, none⟩ = some (.float .f64 ys) := by rw [← hW]; simp
  have k1 := cell_grown (a := ⟨w.heap.size, 0, none⟩) (by show w.heap.size < W.heap.size; omega) c1
  have k2 := cell_grown (a := ⟨w.heap.size, 1, none⟩) (by show w.heap.size < W.heap.size; omega) c2
  have k3 := cell_grown (a := ⟨w.heap.size, 2, none⟩) (by show w.heap.size < W.heap.size; omega) c3
  have k4 := cell_grown (a := ⟨w.heap.size + 1, 0, none⟩) (by show w.heap.size + 1 < W.heap.size; omega) c4
  have k5 := cell_grown (a := ⟨w.heap.size + 1, 1, none⟩) (by show w.heap.size + 1 < W.heap.size; omega) c5
  have k6 := cell_grown (a := ⟨w.heap.size + 1, 2, none⟩) (by show w.heap.size + 1 < W.heap.size; omega) c6
  have HG := Lib.hid (fun n os => hgW.below (gr_grow W n os).1 (Nat.le_refl _))
  have HA := Lib.hid (fun (n : Nat) (os : Array Obj) => grown_of_gr ((compare_c ys xs (grow (W.drewN n) os) g3 h3).mono fun _ _ ⟨he, hw⟩ => ⟨he, by rw [hw]; exact Gr.refl _⟩))
  have HB := Lib.hid (fun (n : Nat) (os : Array Obj) => grown_of_gr (cmp_g xf yf _ (HG.out n os) h1 g1))
  have HC := Lib.hid (fun (n : Nat) (os : Array Obj) => grown_of_gr (cmp_g xt yt _ (HG.out n os) h2 g2))
  clear c1 c2 c3 c4 c5 c6 hgW hg hW
  change Hid (_ = orI [cmpF ys xs, _, _]) at HV
  unfold cmpF at HV
  generalize (if fkey ys < fkey xs then (-1 : Int) else if fkey xs < fkey ys then 1 else 0) = ra at *
  generalize PathS.cmp xf yf = rb at *
  generalize PathS.cmp xt yt = rc at *
  refine wp_region_grown_tail 15 (by kernel_rfl) (by kernel_rfl) ?_
  simp only [List.take_succ_cons, List.take_zero, List.drop_succ_cons, List.drop_zero]
  iterate 4 quiet_step (fail)
  quiet_step (exact HA.out _ _)
  iterate 4 quiet_step (fail)
  quiet_step (exact HB.out _ _)
  iterate 4 quiet_step (fail)
  quiet_step (exact HC.out _ _)
  refine wpQuiet_nil ?_
  rintro _ ⟨⟨nq, osq⟩, rfl⟩
  go_wp2_with fail
  have hsz2 : (grow (W.drewN nq) osq).heap.size = w.heap.size + 2 + osq.size := by rw [← hsz]; show (W.heap ++ osq).size = _; rw [Array.size_append]
  have hgr2 : Gr w ((grow (W.drewN nq) osq).alloc (.cells #[.int .i64 ra, .int .i64 rb, .int .i64 rc] 3)) := (hgr.trans (gr_grow W nq osq)).alloc _
  rw [← hsz2]
  generalize grow (W.drewN nq) osq = W2 at *
  refine (or_c (some ⟨W2.heap.size, 0, none⟩) 3 [ra, rb, rc] _ ?_ (by simp)).mono ?_
  · refine .inr ⟨_, _, rfl, by simp, fun i u hu => ?_⟩
    rw [World.cell?_alloc_at _ _ _ _ rfl]
    simpa using hu
  · rintro e w3 ⟨rfl, rfl⟩
    go_wp2_with fail
    go_ret
    exact ⟨ret_i64 HV.out, hgr2⟩
end Go.Proofs.YtlnifigbnpdemaaDoor
