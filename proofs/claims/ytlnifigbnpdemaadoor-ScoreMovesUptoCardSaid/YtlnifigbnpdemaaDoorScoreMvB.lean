/- Walks of the reference's helpers: which path stands first, which move stands first; raw texts handed on. -/
import Derived.Test.YtlnifigbnpdemaaDoorScoreMvA
import Derived.BigQuiet
namespace Go.Proofs.YtlnifigbnpdemaaDoor
open Go Go.RowKit

theorem split_len (s : ByteArray) : (PathS.split s).length ≤ s.size + 1 := by
  unfold PathS.split; split
  · simp
  · exact PathS.splitTo_len s (s.size + 1)

set_option maxRecDepth 100000 in
set_option maxHeartbeats 1000000 in
theorem ref_cmp (a b : ByteArray) (w : World) (ha : a.size ≤ 10000000) (hb : b.size ≤ 10000000) :
    Calls Tryd.prog 42 #[.string a, .string b] w fun e w' => e = .returned (.int .i64 (PathS.cmp a b)) ∧ Below w.heap.size w w' := by
  have HC : Hid (PathS.cmp a b = PathS.cmpL ((PathS.split a).drop 0) ((PathS.split b).drop 0)) := by show _ = _; rfl
  have hla := split_len a
  have hlb := split_len b
  go_enter Tryd.func42, Tryd.ntmps42
  go_wp2_with fail
  refine (ref_split a w ha).mono ?_
  rintro e w1 ⟨v1, rfl, hb1, hown1⟩
  go_wp2_with fail
  refine (ref_split b w1 hb).mono ?_
  rintro e w2 ⟨v2, rfl, hb2, hown2⟩
  have hown1 := own_below hown1 hb2
  obtain ⟨a1, c1, rfl, -, -, hx⟩ := own_sl hown1
  obtain ⟨a2, c2, rfl, -, -, hy⟩ := own_sl hown2
  have hbb := hb1.trans (hb2.mono hb1.size)
  clear hown1 hown2 hb1 hb2
  generalize PathS.split a = x at *
  generalize PathS.split b = y at *
  go_wp2_with fail
  go_loopw [7] (fun i wr => ∃ k : Nat, k ≤ x.length ∧ k ≤ y.length ∧ i = .int .i64 k ∧ Below w.heap.size w wr ∧ Below w2.heap.size w2 wr ∧ Hid (PathS.cmp a b = PathS.cmpL (x.drop k) (y.drop k))) (fun i _ => x.length - (intOf i).toNat)
  case atStart => exact ⟨0, by omega, by omega, rfl, hbb, Below.refl _ _, HC⟩
  case round =>
    obtain ⟨k, hk, hk2, rfl, hbw, hb2w, HP⟩ := hrel
    clear HC
    by_cases hlt : k < x.length
    · by_cases hlt2 : k < y.length
      · obtain ⟨b1, o1, rfl, hbl1, hc1⟩ := hx.at (k := k) (by simpa using hlt)
        obtain ⟨b2, o2, rfl, hbl2, hc2⟩ := hy.at (k := k) (by simpa using hlt2)
        have hcell1 : wr.cell? ⟨b1, o1 + k, none⟩ = some (.string x[k]) := by rw [hb2w.cell (p := ⟨b1, o1 + k, none⟩) hbl1, hc1 k (by simpa using hlt), List.getElem_map]
        have hcell2 : wr.cell? ⟨b2, o2 + k, none⟩ = some (.string y[k]) := by rw [hb2w.cell (p := ⟨b2, o2 + k, none⟩) hbl2, hc2 k (by simpa using hlt2), List.getElem_map]
        clear hc1 hc2
        have HD := Lib.hid (cmpL_drop x y k hlt hlt2)
        rcases cmpB_cases x[k] y[k] with ⟨h1, H⟩ | ⟨h1, h2, H⟩ | ⟨h1, h2, H⟩
        · go_wp2_with fail
          go_quiet (fail)
          go_wp2_with fail
          go_ret
          exact ⟨ret_i64 (by rw [HP.out, HD.out, H.out]; rfl), below_dN hbw _⟩
        · go_wp2_with fail
          go_quiet (fail)
          go_wp2_with fail
          go_quiet (fail)
          go_wp2_with fail
          go_roundw
          case rel => exact ⟨k + 1, by omega, by omega, by go_num, below_dN hbw _, below_dN hb2w _, by show _ = _; rw [HP.out, HD.out, H.out]; rfl⟩
          case measure => simp [intOf]; omega
        · go_wp2_with fail
          go_quiet (fail)
          go_wp2_with fail
          go_quiet (fail)
          go_wp2_with fail
          go_ret
          exact ⟨ret_i64 (by rw [HP.out, HD.out, H.out]; rfl), below_dN (below_dN hbw _) _⟩
      · have e : y.drop k = [] := List.drop_eq_nil_of_le (by omega)
        have HF : Hid (PathS.cmp a b = 1) := by
          show _ = _
          rw [HP.out, List.drop_eq_getElem_cons hlt, e]; rfl
        clear e
        have g1 : ¬ x.length < y.length := by omega
        have g2 : y.length < x.length := by omega
        go_wp2_with fail
        go_ret
        exact ⟨ret_i64 HF.out, hbw⟩
    · have e : x.drop k = [] := List.drop_eq_nil_of_le (by omega)
      by_cases hlt2 : x.length < y.length
      · have HF : Hid (PathS.cmp a b = -1) := by
          show _ = _
          rw [HP.out, e, List.drop_eq_getElem_cons (show k < y.length by omega)]; rfl
        clear e
        go_wp2_with fail
        go_ret
        exact ⟨ret_i64 HF.out, hbw⟩
      · have e2 : y.drop k = [] := List.drop_eq_nil_of_le (by omega)
        have HF : Hid (PathS.cmp a b = 0) := by
          show _ = _
          rw [HP.out, e, e2]; rfl
        clear e e2
        have g2 : ¬ y.length < x.length := by omega
        go_wp2_with fail
        go_ret
        exact ⟨ret_i64 HF.out, hbw⟩


set_option maxRecDepth 100000 in
set_option maxHeartbeats 1000000 in
theorem ahead_c (x y : Mv) (w : World) (hx : okM x) (hy : okM y) :
    Calls Tryd.prog 29 #[.agg (encM x).toArray, .agg (encM y).toArray] w fun e w' => e = .returned (.bool (decide (ordI x y < 0))) ∧ Below w.heap.size w w' := by
  obtain ⟨xf, xt, xs⟩ := x
  obtain ⟨yf, yt, ys⟩ := y
  obtain ⟨h1, h2, h3, -⟩ := hx
  obtain ⟨g1, g2, g3, -⟩ := hy
  simp only at h1 h2 h3 g1 g2 g3
  have HV := Lib.hid (ordI_lt (x := ⟨xf, xt, xs⟩) (y := ⟨yf, yt, ys⟩))
  have hck : cn xs = cn ys ↔ fkey ys = fkey xs := ⟨fun h => by unfold fkey; rw [h], fun h => (fkey_inj (cn_lt g3) (cn_lt h3) h).symm⟩
  show Calls _ _ #[.agg #[.string xf, .string xt, .float .f64 xs], .agg #[.string yf, .string yt, .float .f64 ys]] _ _
  have HX := Lib.hid (fun W => refbits_c xs W)
  have HY := Lib.hid (fun W => refbits_c ys W)
  have HB := Lib.hid (fun W => before_c ys xs W g3 h3)
  have HC1 := Lib.hid (fun W => ref_cmp xf yf W h1 g1)
  have HC2 := Lib.hid (fun W => ref_cmp xt yt W h2 g2)
  have hb0 : Below w.heap.size w ((w.alloc (.cells #[.string xf, .string xt, .float .f64 xs] 44)).alloc (.cells #[.string yf, .string yt, .float .f64 ys] 44)) := ((Below.refl _ w).alloc (Nat.le_refl _) _).alloc (by simp) _
  have hx0 : ((w.alloc (.cells #[.string xf, .string xt, .float .f64 xs] 44)).alloc (.cells #[.string yf, .string yt, .float .f64 ys] 44)).heap[w.heap.size]? = some (.cells #[.string xf, .string xt, .float .f64 xs] 44 (0, 0)) := by
    rw [(World.grownBy_alloc _ _ none).block w.heap.size (by simp) (by simp)]; exact (Go.MapKept.heap_alloc w _).1
  have hy0 : ((w.alloc (.cells #[.string xf, .string xt, .float .f64 xs] 44)).alloc (.cells #[.string yf, .string yt, .float .f64 ys] 44)).heap[w.heap.size + 1]? = some (.cells #[.string yf, .string yt, .float .f64 ys] 44 (0, 0)) := by
    have := (Go.MapKept.heap_alloc (w.alloc (.cells #[.string xf, .string xt, .float .f64 xs] 44)) (.cells #[.string yf, .string yt, .float .f64 ys] 44)).1
    rwa [show (w.alloc (.cells #[.string xf, .string xt, .float .f64 xs] 44)).heap.size = w.heap.size + 1 by simp] at this
  go_enter Tryd.func29, Tryd.ntmps29
  go_wp2_with fail
  generalize (w.alloc (.cells #[.string xf, .string xt, .float .f64 xs] 44)).alloc (.cells #[.string yf, .string yt, .float .f64 ys] 44) = W at *
  have x0 : W.cell? ⟨w.heap.size, 0, none⟩ = some (.string xf) := by rw [blk_cell hx0]; rfl
  have x1 : W.cell? ⟨w.heap.size, 1, none⟩ = some (.string xt) := by rw [blk_cell hx0]; rfl
  have x2 : W.cell? ⟨w.heap.size, 2, none⟩ = some (.float .f64 xs) := by rw [blk_cell hx0]; rfl
  have y0 : W.cell? ⟨w.heap.size + 1, 0, none⟩ = some (.string yf) := by rw [blk_cell hy0]; rfl
  have y1 : W.cell? ⟨w.heap.size + 1, 1, none⟩ = some (.string yt) := by rw [blk_cell hy0]; rfl
  have y2 : W.cell? ⟨w.heap.size + 1, 2, none⟩ = some (.float .f64 ys) := by rw [blk_cell hy0]; rfl
  have hsz : w.heap.size + 1 < W.heap.size := (Array.getElem?_eq_some_iff.1 hy0).1
  by_cases hk : cn xs = cn ys
  · have hk2 := hck.1 hk
    have HF : Hid (ordI ⟨xf, xt, xs⟩ ⟨yf, yt, ys⟩ < 0 ↔ PathS.cmp xf yf < 0 ∨ (PathS.cmp xf yf = 0 ∧ PathS.cmp xt yt < 0)) := by
      show _ ↔ _
      rw [HV.out]; (try simp only); omega
    have d1 : ((cn xs : Int) != (cn ys : Int)) = false := by rw [hk]; simp
    clear hck hk hk2 HV HB hx0 hy0
    generalize cn xs = ca at *
    generalize cn ys = cb at *
    generalize PathS.cmp xf yf = c1 at *
    generalize PathS.cmp xt yt = c2 at *
    refine wp_region_quiet_lit (by kernel_rfl) (by kernel_rfl) ?_
    iterate 2 quiet_step (fail)
    quiet_step (exact Calls.quiet_of_same (HX.out _))
    iterate 2 quiet_step (fail)
    quiet_step (exact Calls.quiet_of_same (HY.out _))
    quiet_step (fail)
    refine wpQuiet_nil ?_
    rintro _ ⟨nq, rfl⟩
    go_wp2_with fail
    refine (HC1.out _).mono ?_
    rintro e w1 ⟨rfl, hb1⟩
    have hb2 : Below w.heap.size w w1 := (below_dN hb0 nq).trans (hb1.mono hb0.size)
    have hb1' : Below W.heap.size W w1 := (below_dN (Below.refl _ W) nq).trans hb1
    by_cases hz : c1 = 0
    · have z1 : (c1 != 0) = false := by rw [hz]; rfl
      have HF2 : Hid (ordI ⟨xf, xt, xs⟩ ⟨yf, yt, ys⟩ < 0 ↔ c2 < 0) := by show _ ↔ _; rw [HF.out]; omega
      have x1' : w1.cell? ⟨w.heap.size, 1, none⟩ = some (.string xt) := by rw [hb1'.cell (p := ⟨w.heap.size, 1, none⟩) (by show w.heap.size < _; omega)]; exact x1
      have y1' : w1.cell? ⟨w.heap.size + 1, 1, none⟩ = some (.string yt) := by rw [hb1'.cell (p := ⟨w.heap.size + 1, 1, none⟩) hsz]; exact y1
      clear hz HF hb1 hb1'
      go_wp2_with fail
      refine (HC2.out _).mono ?_
      rintro e w2 ⟨rfl, hb3⟩
      go_wp2_with fail
      go_ret
      exact ⟨ret_bool (by rw [decide_eq_decide]; exact HF2.out), hb2.trans (hb3.mono hb2.size)⟩
    · have z1 : (c1 != 0) = true := by rw [bne_iff_ne]; exact hz
      have HF2 : Hid (ordI ⟨xf, xt, xs⟩ ⟨yf, yt, ys⟩ < 0 ↔ c1 < 0) := by show _ ↔ _; rw [HF.out]; omega
      clear hz HF
      go_wp2_with fail
      go_ret
      exact ⟨ret_bool (by rw [decide_eq_decide]; exact HF2.out), hb2⟩
  · have hk2 : ¬ fkey ys = fkey xs := fun h => hk (hck.2 h)
    have HF : Hid (ordI ⟨xf, xt, xs⟩ ⟨yf, yt, ys⟩ < 0 ↔ fkey ys < fkey xs) := by
      show _ ↔ _
      rw [HV.out]; (try simp only); omega
    have d1 : ((cn xs : Int) != (cn ys : Int)) = true := by rw [bne_iff_ne]; omega
    clear hck hk hk2 HV hx0 hy0 HC1 HC2
    generalize cn xs = ca at *
    generalize cn ys = cb at *
    refine wp_region_quiet_lit (by kernel_rfl) (by kernel_rfl) ?_
    iterate 2 quiet_step (fail)
    quiet_step (exact Calls.quiet_of_same (HX.out _))
    iterate 2 quiet_step (fail)
    quiet_step (exact Calls.quiet_of_same (HY.out _))
    quiet_step (fail)
    refine wpQuiet_nil ?_
    rintro _ ⟨nq, rfl⟩
    go_wp2_with fail
    refine (HB.out _).mono ?_
    rintro e w1 ⟨rfl, rfl⟩
    go_wp2_with fail
    go_ret
    exact ⟨ret_bool (by rw [decide_eq_decide]; exact HF.out), below_dN hb0 nq⟩
end Go.Proofs.YtlnifigbnpdemaaDoor
