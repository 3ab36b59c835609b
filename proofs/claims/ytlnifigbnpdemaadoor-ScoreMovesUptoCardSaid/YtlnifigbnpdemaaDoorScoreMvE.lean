/- The walk of the law ScoreMoves. -/
import Derived.Test.YtlnifigbnpdemaaDoorScoreMvD
namespace Go.Proofs.YtlnifigbnpdemaaDoor
open Go Go.RowKit Go.Sort Go.Maps

theorem grd_len {gone come : List Tx} {least : Nat} {l' : List Mv} (hp : l'.Perm (allM gone come least)) : (grd [] l').length ≤ gone.length * come.length := by
  obtain ⟨l2, hsub, he⟩ := grd_sub l' []
  rw [List.nil_append] at he
  have e1 : (grd [] l').length ≤ l'.length := by rw [he]; exact hsub.length_le
  have e2 := hp.length_eq
  have e3 := allM_le least gone come
  omega

set_option maxRecDepth 100000 in
set_option maxHeartbeats 3000000 in
theorem lawMoves_c (ag ac : Option Addr) (cg cc : Nat) (gone come : List Tx) (least : Nat) (w : World) (hg : Gl w) (hsg : TxS w ag gone) (hsc : TxS w ac come) (hlg : gone.length ≤ 10000000) (hlc : come.length ≤ 10000000)
    (htg : totL gone ≤ 100000000) (htc : totL come ≤ 100000000) (hzg : ∀ t ∈ gone, t.path.size ≤ 10000000) (hzc : ∀ t ∈ come, t.path.size ≤ 10000000) (hl : least < 2 ^ 64) :
    Calls Tryd.prog 4 #[.slice ag gone.length cg, .slice ac come.length cc, .float .f64 least] w fun e w' => e = .returned (.bool true) ∧ RowKit.Below w.heap.size w w' := by
  go_enter Tryd.func4, Tryd.ntmps4
  go_wp2_with fail
  refine (awake_c w hg).mono ?_
  rintro e w1 ⟨rfl, b1⟩
  go_wp2_with fail
  refine (small_c ag cg gone w1 (hsg.below b1) hlg htg).mono ?_
  rintro e w2 ⟨rfl, b2'⟩
  have b2 := b1.trans (b2'.mono b1.size)
  clear b2'
  by_cases hs1 : totL gone ≤ 200
  · rw [decide_eq_true hs1]
    go_wp2_with fail
    refine (small_c ac cc come w2 (hsc.below b2) hlc htc).mono ?_
    rintro e w3 ⟨rfl, b3'⟩
    have b3 := b2.trans (b3'.mono b2.size)
    clear b3' b2 b1
    by_cases hs2 : totL come ≤ 200
    · rw [decide_eq_true hs2]
      by_cases hbig : 64 < gone.length ∨ 64 < come.length
      · have HM := Lib.hid (moves_long ag ac cg cc gone.length come.length least w3 hbig)
        have HR := Lib.hid (fun a1 c1 a2 c2 W => ref_moves_long a1 a2 c1 c2 gone.length come.length least W hbig)
        clear hbig hs1 hs2
        go_wp2_with fail
        refine HM.out.mono ?_
        rintro e w4 ⟨rfl, rfl⟩
        go_wp2_with fail
        refine (plain_c ag cg gone w4 (hsg.below b3) hlg).mono ?_
        rintro e w5 ⟨a5, c5, rfl, -, b5⟩
        have b35 := b3.trans (b5.mono b3.size)
        go_wp2_with fail
        refine (plain_c ac cc come w5 (hsc.below b35) hlc).mono ?_
        rintro e w6 ⟨a6, c6, rfl, -, b6⟩
        have b36 := b35.trans (b6.mono b35.size)
        go_wp2_with fail
        refine (HR.out a5 c5 a6 c6 w6).mono ?_
        rintro e w7 ⟨rfl, rfl⟩
        go_wp2_with fail
        refine wp_loop_rounds 1 ?_
        rw [rounds_succ]
        go_wp2_with fail
        go_ret
        exact ⟨rfl, b36⟩
      · have hlt : (allM gone come least).length < 1000000 := by
          have := allM_le least gone come
          have := Nat.mul_le_mul (show gone.length ≤ 64 by omega) (show come.length ≤ 64 by omega)
          omega
        have HZ1 : ∀ t ∈ gone, t.path.size ≤ 10000000 ∧ t.lines.length ≤ 1000 := fun t h => ⟨hzg t h, by have := totL_mem h; omega⟩
        have HZ2 : ∀ t ∈ come, t.path.size ≤ 10000000 ∧ t.lines.length ≤ 1000 := fun t h => ⟨hzc t h, by have := totL_mem h; omega⟩
        have HM := Lib.hid (moves_c stableToAll ag ac cg cc gone come least w3 (hg.below b3 (Nat.le_refl _)) (hsg.below b3) (hsc.below b3) (by omega) (by omega) HZ1 HZ2 hl hlt)
        have hg64 : gone.length ≤ 64 := by omega
        have hc64 : come.length ≤ 64 := by omega
        have HR := Lib.hid (fun a1 c1 a2 c2 W h1 h2 => ref_moves_c a1 a2 c1 c2 gone come least W h1 h2 hg64 hc64 HZ1 HZ2 hl)
        have HOK := Lib.hid (allM_ok (least := least) hzg hzc)
        clear hbig hs1 hs2 hlt hzg hzc htg htc HZ1 HZ2
        go_wp2_with fail
        refine HM.out.mono ?_
        rintro e w4 ⟨v, rfl, l', hperm, hpw, hown, b4'⟩
        have b4 := b3.trans (b4'.mono b3.size)
        have hol : (grd [] l').length ≤ 4096 := Nat.le_trans (grd_len hperm) (Nat.mul_le_mul hg64 hc64)
        have HRR := Lib.hid (fun a1 c1 a2 c2 W h1 h2 => HR.out a1 c1 a2 c2 W h1 h2 l' hperm hpw)
        clear hperm hpw b4' HM b3 HR
        generalize grd [] l' = out at *
        obtain ⟨a7, c7, rfl, hsl⟩ := own_slN hown
        clear hown
        go_wp2_with fail
        refine (plain_c ag cg gone w4 (hsg.below b4) hlg).mono ?_
        rintro e w5 ⟨a5, c5, rfl, ht5, b5⟩
        have b45 := b4.trans (b5.mono b4.size)
        go_wp2_with fail
        refine (plain_c ac cc come w5 (hsc.below b45) hlc).mono ?_
        rintro e w6 ⟨a6, c6, rfl, ht6, b6⟩
        have b46 := b45.trans (b6.mono b45.size)
        go_wp2_with fail
        refine (HRR.out a5 c5 a6 c6 w6 (ht5.below b6) ht6).mono ?_
        rintro e w7 ⟨v7, rfl, hown7, b7⟩
        have b47 := b46.trans (b7.mono b46.size)
        have hsl7 := hsl.below (b5.trans ((b6.mono b5.size).trans (b7.mono (Nat.le_trans b5.size b6.size))))
        obtain ⟨a8, c8, rfl, hsr7⟩ := own_slN hown7
        clear hsl ht5 ht6 b4 b45 b46 b5 b6 b7 hown7 HRR hsg hsc
        have HB := Lib.hid (fun s W => by have := bitsq_c s s W; rwa [decide_eq_true rfl] at this)
        go_wp2_with fail
        go_loopw [50] (fun iv wr => ∃ (j : Nat), j ≤ out.length ∧ iv = .int .i64 j ∧ RowKit.Below w7.heap.size w7 wr) (fun iv _ => out.length - (intOf iv).toNat)
        case atStart => exact ⟨0, by omega, rfl, RowKit.Below.refl _ _⟩
        case round =>
          obtain ⟨j, hj, rfl, hbr⟩ := hrel
          by_cases hjl : j < out.length
          · have hjj : (j : Int) < out.length := by omega
            have hjj0 : (0 : Int) ≤ j := by omega
            obtain ⟨g8, o8, rfl, hgl8, hc8⟩ := hsl7.at (k := j * 3) (by rw [mrow_len]; omega)
            have hget := mrow_get (w := w7) (g := g8) (o := o8) (l := out) (fun i u hu => by
              obtain ⟨hi', hu'⟩ := List.getElem?_eq_some_iff.1 hu
              rw [hc8 i hi', hu'])
            obtain ⟨p0, p1, p2⟩ := hget j hjl
            obtain ⟨g9, o9, rfl, hgl9, hc9⟩ := hsr7.at (k := j * 3) (by rw [mrow_len]; omega)
            have hget9 := mrow_get (w := w7) (g := g9) (o := o9) (l := out) (fun i u hu => by
              obtain ⟨hi', hu'⟩ := List.getElem?_eq_some_iff.1 hu
              rw [hc9 i hi', hu'])
            obtain ⟨q0, q1, q2⟩ := hget9 j hjl
            clear hget hget9 hc8 hc9
            generalize out[j] = m at *
            have p0' : wr.cell? ⟨g8, o8 + j * 3, none⟩ = some (.string m.src) := (hbr.cell (p := ⟨g8, _, none⟩) hgl8).trans p0
            have p1' : wr.cell? ⟨g8, o8 + j * 3 + 1, none⟩ = some (.string m.dst) := (hbr.cell (p := ⟨g8, _, none⟩) hgl8).trans p1
            have p2' : wr.cell? ⟨g8, o8 + j * 3 + 2, none⟩ = some (.float .f64 m.sc) := (hbr.cell (p := ⟨g8, _, none⟩) hgl8).trans p2
            have q0' : wr.cell? ⟨g9, o9 + j * 3, none⟩ = some (.string m.src) := (hbr.cell (p := ⟨g9, _, none⟩) hgl9).trans q0
            have q1' : wr.cell? ⟨g9, o9 + j * 3 + 1, none⟩ = some (.string m.dst) := (hbr.cell (p := ⟨g9, _, none⟩) hgl9).trans q1
            have q2' : wr.cell? ⟨g9, o9 + j * 3 + 2, none⟩ = some (.float .f64 m.sc) := (hbr.cell (p := ⟨g9, _, none⟩) hgl9).trans q2
            have d0 : (m.src.toList == m.src.toList) = true := by simp
            have d1 : (m.dst.toList == m.dst.toList) = true := by simp
            clear p0 p1 p2 q0 q1 q2
            go_wp2_with fail
            go_quiet (exact Calls.quiet_of_same (HB.out _ _))
            go_wp2_with fail
            go_roundw
            case rel => exact ⟨j + 1, by omega, by go_num, below_dN hbr _⟩
            case measure => simp [intOf]; omega
          · have hjj : ¬ (j : Int) < out.length := by omega
            go_wp2_with fail
            go_ret
            exact ⟨rfl, b47.trans (hbr.mono b47.size)⟩
    · rw [decide_eq_false hs2]
      go_wp2_with fail
      go_ret
      exact ⟨rfl, b3⟩
  · rw [decide_eq_false hs1]
    go_wp2_with fail
    go_ret
    exact ⟨rfl, b2⟩
end Go.Proofs.YtlnifigbnpdemaaDoor
