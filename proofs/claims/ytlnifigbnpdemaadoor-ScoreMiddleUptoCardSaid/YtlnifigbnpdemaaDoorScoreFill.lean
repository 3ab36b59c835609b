/- Walks: the program fills its table. -/
import Derived.Test.YtlnifigbnpdemaaDoorScoreTab
import Derived.Test.YtlnifigbnpdemaaDoorScoreT
import Derived.Deep.RegionHeld3
import Derived.Laws.OwnMore
import Derived.Test.YtlnifigbnpdemaaDoorKitQ
namespace Go.Proofs.YtlnifigbnpdemaaDoor
open Go Go.RowKit

theorem ScoreS.ba_ext {a b : ByteArray} (h : a.data.toList = b.data.toList) : a = b := by
  cases a; cases b; congr; exact Array.toList_inj.1 h

/-- A row of numbers. -/
def Row (N : Nat) (f : Nat → Nat) : List Value := (List.range N).map fun j => Value.int .i64 (f j)

theorem Row_length (N : Nat) (f : Nat → Nat) : (Row N f).length = N := by simp [Row]

theorem Row_set (N : Nat) (f : Nat → Nat) (j v : Nat) : (Row N f).set j (.int .i64 v) = Row N (fun x => if x = j then v else f x) := by
  apply List.ext_getElem
  · simp [Row]
  · intro n h1 h2
    rw [List.getElem_set]
    simp only [Row, List.getElem_map, List.getElem_range]
    by_cases h : j = n
    · subst h; simp
    · rw [if_neg h, if_neg (fun e => h e.symm)]

theorem Row_zero (N : Nat) : (madeCells #[Value.int .i64 0] N).toList = Row N fun _ => 0 := by
  rw [toList_madeCells_one]
  apply List.ext_getElem
  · simp [Row]
  · intro n h1 h2
    simp [Row]

theorem Row_cell {w : World} {base : Nat} {e : TypeId} {g c N : Nat} {f : Nat → Nat} (h : w.ownsRow base e 1 (.slice (some ⟨g, 0, none⟩) N c) N (Row N f)) (j : Nat) (hj : j < N) : w.cell? ⟨g, j, none⟩ = some (.int .i64 (f j)) := by
  have h2 := own_sl h
  obtain ⟨a, c', e1, -, -, hs⟩ := h2
  cases e1
  obtain ⟨b, o, e2, -, hc⟩ := hs.at (k := j) (by rw [Row_length]; exact hj)
  cases e2
  have := hc j (by rw [Row_length]; exact hj)
  simpa [Row] using this

theorem infoI : (Tryd.prog.info? 3).map (fun i => (i.zero, i.size, i.bytes)) = some (some (.int .i64 0), 1, 8) := by kernel_rfl

/-- The table under work: its head at t, its cells at g, f what they hold. -/
structure Tb (w : World) (base t g N wd : Nat) (f : Nat → Nat) : Prop where
  own : w.ownsRow base 3 1 (.slice (some ⟨g, 0, none⟩) N N) N (Row N f)
  c0 : w.cell? ⟨t, 0, none⟩ = some (.slice (some ⟨g, 0, none⟩) N N)
  c1 : w.cell? ⟨t, 1, none⟩ = some (.int .i64 wd)
  ne : t ≠ g
  tl : t < w.heap.size
  gl : g < w.heap.size
  bg : base ≤ g

theorem Tb.at_w {w wr : World} {B t g N wd : Nat} {f : Nat → Nat} (h : Tb wr B t g N wd f) (hw : ∃ q, w = wr.drewN q) (i k p : Nat) (hp : i * wd + k = p) (hpN : p < N) (hb : N ≤ 100000000) :
    Calls Tryd.prog 36 #[.pointer (some ⟨t, 0, none⟩), .int .i64 i, .int .i64 k] w fun e w' => e = .returned (.pointer (some ⟨g, p, none⟩)) ∧ ∃ q, w' = wr.drewN q := by
  obtain ⟨q, rfl⟩ := hw
  subst hp
  refine (at_c t 0 g N wd i k (wr.drewN q) h.c0 h.c1 hpN hb).mono ?_
  rintro e w' ⟨rfl, q', rfl⟩
  exact ⟨rfl, q + q', by simp [World.drewN, Nat.add_assoc]⟩

theorem Tb.at_q {wr : World} {B t g N wd : Nat} {f : Nat → Nat} (h : Tb wr B t g N wd f) (i k p : Nat) (I K : Int) (hI : I = i) (hK : K = k) (hp : i * wd + k = p) (hpN : p < N) (hb : N ≤ 100000000) (q x : Nat) :
    Calls Tryd.prog 36 #[.pointer (some ⟨t, 0, none⟩), .int .i64 I, .int .i64 K] (wr.drewN (q + x)) fun e w' => e = .returned (.pointer (some ⟨g, p, none⟩)) ∧ ∃ m, w' = wr.drewN (q + m) := by
  subst hp hI hK
  refine (at_c t 0 g N wd i k (wr.drewN (q + x)) h.c0 h.c1 hpN hb).mono ?_
  rintro e w' ⟨rfl, q', rfl⟩
  exact ⟨rfl, x + q', by simp [World.drewN, Nat.add_assoc]⟩

theorem Tb.stored {w : World} {B t g N wd : Nat} {f : Nat → Nat} (h : Tb w B t g N wd f) (p v : Nat) :
    Tb (w.setCell ⟨g, p, none⟩ (.int .i64 v)) B t g N wd (fun x => if x = p then v else f x) ∧ Below B w (w.setCell ⟨g, p, none⟩ (.int .i64 v)) := by
  obtain ⟨h1, h2⟩ := h.own.stored p (.int .i64 v)
  rw [Row_set] at h1
  have ne := h.ne
  refine ⟨⟨h1, ?_, ?_, ne, ?_, ?_, h.bg⟩, ?_⟩
  · exact h2.cell h.c0 (by simpa using ne)
  · exact h2.cell h.c1 (by simpa using ne)
  · have := h2.size; have := h.tl; omega
  · have := h2.size; have := h.gl; omega
  · exact (Below.refl B w).grown h2 (Nat.le_trans h.bg (Nat.le_of_lt h.gl)) (by intro k hk; cases hk; exact h.bg)

theorem Tb.drewN {w : World} {B t g N wd : Nat} {f : Nat → Nat} (h : Tb w B t g N wd f) (q : Nat) : Tb (w.drewN q) B t g N wd f :=
  ⟨h.own, h.c0, h.c1, h.ne, h.tl, h.gl, h.bg⟩

set_option maxRecDepth 100000 in
set_option maxHeartbeats 2000000 in
theorem fill_c (aa ab : Option Addr) (ca cb : Nat) (a b : List ByteArray) (w : World) (ha : Sl w aa (a.map Value.string)) (hb : Sl w ab (b.map Value.string)) (hN : (a.length + 1) * (b.length + 1) ≤ 100000000) :
    Calls Tryd.prog 35 #[.slice aa a.length ca, .slice ab b.length cb] w fun e w' => ∃ t g f, e = .returned (.pointer (some ⟨t, 0, none⟩)) ∧
      Tb w' w.heap.size t g ((a.length + 1) * (b.length + 1)) (b.length + 1) f ∧ ScoreS.Done a b 0 0 f ∧ Below w.heap.size w w' := by
  have hla : a.length + 1 ≤ (a.length + 1) * (b.length + 1) := Nat.le_mul_of_pos_right _ (by omega)
  have hlb : b.length + 1 ≤ (a.length + 1) * (b.length + 1) := Nat.le_mul_of_pos_left _ (by omega)
  have hm : IntKind.i64.wrap ((a.length : Int) + 1) = ((a.length + 1 : Nat) : Int) := IntWalk.i64_in _ (by omega)
  obtain ⟨N, hNe⟩ : ∃ N, N = (a.length + 1) * (b.length + 1) := ⟨_, rfl⟩
  have hmb : IntKind.i64.wrap ((b.length : Int) + 1) = ((b.length + 1 : Nat) : Int) := IntWalk.i64_in _ (by omega)
  have HP : Hid (((a.length : Int) + 1) * ((b.length : Int) + 1) = (N : Int)) := by show _ = _; rw [hNe]; push_cast; rfl
  have hw2 : IntKind.i64.wrap (((a.length : Int) + 1) * ((b.length : Int) + 1)) = (N : Int) := by
    rw [HP.out]; exact IntWalk.i64_in _ (by omega)
  rw [← hNe] at hN hla hlb ⊢
  have HNe := Lib.hid hNe
  clear hNe
  obtain ⟨i, hi, hz0, hz1, hz2⟩ := info_parts infoI
  go_enter Tryd.func35, Tryd.ntmps35
  go_wp2_with (at_make; (refine wpList_make_full _ rfl (.tmp 14) (.tmp 14) 86 rfl w.heap.size 3 i (.int .i64 0) 1 rfl hi hz0 hz1 .i64 .i64 _ _ N rfl rfl rfl rfl ?b2 ?b3 (Nat.le_refl _) ?hK))
  case b2 => rw [hz2]; omega
  case b3 => simp only [maxLen]; omega
  intro w1 hown hgrow
  rw [Row_zero] at hown
  have hb1 : Below w.heap.size w w1 := (Below.refl _ w).grown hgrow (Nat.le_refl _) (by intro k hk; cases hk)
  obtain ⟨-, -, -, hsz, -⟩ := hgrow
  have hg1 := hown.lt w.heap.size rfl
  have HS : Hid (ScoreS.Done a b a.length 0 fun _ => 0) := ScoreS.done_start a b
  go_wp2_with fail
  go_loopw [6] (fun v wr => ∃ (k : Nat) (f : Nat → Nat), k ≤ a.length ∧ v = .int .i64 ((k : Int) - 1) ∧ Tb wr w.heap.size w1.heap.size w.heap.size N (b.length + 1) f ∧ Hid (ScoreS.Done a b k 0 f) ∧ Below w.heap.size w wr) (fun v _ => ((intOf v) + 1).toNat)
  case atStart =>
    refine ⟨a.length, fun _ => 0, by omega, by go_num, ⟨own_below hown (Below.refl _ _ |>.alloc (Nat.le_refl _) _), ?_, ?_, by omega, by simp, by simp; omega, Nat.le_refl _⟩, HS, hb1.alloc hsz _⟩
    · simp
    · simp
  case round =>
    obtain ⟨k, f, hk, rfl, hT, HD, hbw⟩ := hrel
    clear hown HS hg1 hsz hb1
    have htl := hT.ne
    generalize w1.heap.size = t at *
    rcases k with _ | i'
    · go_wp2_with fail
      go_ret
      exact ⟨t, _, f, rfl, hT, HD, hbw⟩
    · have HR : Hid (ScoreS.Done a b i' b.length f) := ScoreS.done_row HD.out
      rw [show (((i' + 1 : Nat) : Int) - 1) = (i' : Int) by omega]
      go_wp2_with fail
      go_loopw [7] (fun v wi => ∃ (j : Nat) (f : Nat → Nat), j ≤ b.length ∧ v = .int .i64 ((j : Int) - 1) ∧ Tb wi w.heap.size t w.heap.size N (b.length + 1) f ∧ Hid (ScoreS.Done a b i' j f) ∧ Below w.heap.size w wi) (fun v _ => ((intOf v) + 1).toNat)
      case atStart => exact ⟨b.length, f, by omega, by go_num, hT, HR, hbw⟩
      case round =>
        clear hT HD hbw HR f
        obtain ⟨j, f, hj, rfl, hT, HD, hbw⟩ := hrel
        rcases j with _ | j'
        · go_wp2_with fail
          go_roundw
          case rel => exact ⟨i', f, by omega, by go_num, hT, HD, hbw⟩
          case measure => simp [intOf]
        · rw [show (((j' + 1 : Nat) : Int) - 1) = (j' : Int) by omega]
          have hi1 : i' < a.length := by omega
          have hj1 : j' < b.length := by omega
          obtain ⟨ba, oa, rfl, hal, hac⟩ := ha.at (k := i') (by simpa using hi1)
          obtain ⟨bb, ob, rfl, hbl, hbc⟩ := hb.at (k := j') (by simpa using hj1)
          have hca : wr.cell? ⟨ba, oa + i', none⟩ = some (.string a[i']) := by rw [hbw.cell (p := ⟨ba, oa + i', none⟩) hal, hac i' (by simpa using hi1), List.getElem_map]
          have hcb : wr.cell? ⟨bb, ob + j', none⟩ = some (.string b[j']) := by rw [hbw.cell (p := ⟨bb, ob + j', none⟩) hbl, hbc j' (by simpa using hj1), List.getElem_map]
          clear hac hbc
          obtain ⟨e1, e2, e3⟩ := ScoreS.done_next hi1 hj1 HD.out
          have HV := Lib.hid (ScoreS.L_at hi1 hj1)
          have HSet := Lib.hid (fun v => ScoreS.done_set hi1 hj1 HD.out v)
          have hN0 : i' * (b.length + 1) + j' < N := by rw [HNe.out]; exact ScoreS.place_lt (by omega) (by omega)
          have hN1 : (i' + 1) * (b.length + 1) + j' < N := by rw [HNe.out]; exact ScoreS.place_lt (by omega) (by omega)
          have hN2 : i' * (b.length + 1) + (j' + 1) < N := by rw [HNe.out]; exact ScoreS.place_lt (by omega) (by omega)
          have hN3 : (i' + 1) * (b.length + 1) + (j' + 1) < N := by rw [HNe.out]; exact ScoreS.place_lt (by omega) (by omega)
          have hx1 := Row_cell hT.own _ hN1
          have hx2 := Row_cell hT.own _ hN2
          have hx3 := Row_cell hT.own _ hN3
          have hx0 := Row_cell hT.own _ hN0
          have hfz := hT.own.frozenAt (i' * (b.length + 1) + j')
          have hb3 : f ((i' + 1) * (b.length + 1) + (j' + 1)) ≤ 100000000 := by
            rw [e3]; refine Nat.le_trans (ScoreS.L_le _ _) ?_; rw [List.length_drop]; omega
          have HA0 := Lib.hid (fun w' (h : ∃ q, w' = wr.drewN q) => hT.at_w h i' j' _ rfl hN0 hN)
          have HA1 := Lib.hid (fun w' (h : ∃ q, w' = wr.drewN q) => hT.at_w h (i' + 1) j' _ rfl hN1 hN)
          have HA2 := Lib.hid (fun w' (h : ∃ q, w' = wr.drewN q) => hT.at_w h i' (j' + 1) _ rfl hN2 hN)
          have HA3 := Lib.hid (fun w' (h : ∃ q, w' = wr.drewN q) => hT.at_w h (i' + 1) (j' + 1) _ rfl hN3 hN)
          have HQ0 := Lib.hid (fun q x => hT.at_q i' j' _ i' j' rfl rfl rfl hN0 hN q x)
          have HQ1 := Lib.hid (fun q x => hT.at_q (i' + 1) j' _ ((i' : Int) + 1) j' (by omega) rfl rfl hN1 hN q x)
          have HQ2 := Lib.hid (fun q x => hT.at_q i' (j' + 1) _ i' ((j' : Int) + 1) rfl (by omega) rfl hN2 hN q x)
          rw [← e1, ← e2, ← e3] at HV
          clear e1 e2 e3
          have HST := Lib.hid (fun v => hT.stored (i' * (b.length + 1) + j') v)
          generalize f ((i' + 1) * (b.length + 1) + j') = x1 at *
          generalize f (i' * (b.length + 1) + (j' + 1)) = x2 at *
          generalize f ((i' + 1) * (b.length + 1) + (j' + 1)) = x3 at *
          generalize f (i' * (b.length + 1) + j') = x0 at *
          generalize hp0 : i' * (b.length + 1) + j' = p0 at *
          generalize (i' + 1) * (b.length + 1) + j' = p1 at *
          generalize i' * (b.length + 1) + (j' + 1) = p2 at *
          generalize (i' + 1) * (b.length + 1) + (j' + 1) = p3 at *
          generalize a[i'] = x at *
          generalize b[j'] = y at *
          have hii : (0 : Int) ≤ i' := by omega
          have hii1 : (i' : Int) < a.length := by omega
          have hjj : (0 : Int) ≤ j' := by omega
          have hjj1 : (j' : Int) < b.length := by omega
          have hwi : IntKind.i64.wrap ((i' : Int) + 1) = (i' : Int) + 1 := IntWalk.i64_in _ (by omega)
          have hwj : IntKind.i64.wrap ((j' : Int) + 1) = (j' : Int) + 1 := IntWalk.i64_in _ (by omega)
          by_cases hxy : x = y
          · have d1 : (x.toList == y.toList) = true := by rw [hxy]; simp
            have HM := HSet.out (x3 + 1) (by rw [HV.out, if_pos hxy])
            have hw1 : IntKind.i64.wrap ((x3 : Int) + 1) = ((x3 + 1 : Nat) : Int) := IntWalk.i64_in _ (by omega)
            have HMM := Lib.hid HM
            clear HM HV HSet hxy
            go_wp2_with fail
            go_quiet (fail)
            go_wp2_with fail
            refine (HA0.out _ ⟨_, rfl⟩).mono ?_
            rintro e w2 ⟨rfl, q2, rfl⟩
            go_wp2_with fail
            refine (HA3.out _ ⟨_, rfl⟩).mono ?_
            rintro e w3 ⟨rfl, q3, rfl⟩
            go_wp2_with fail
            go_roundw
            case rel => exact ⟨j', _, by omega, by go_num, ((HST.out (x3 + 1)).1.drewN _), HMM, below_dN (hbw.trans ((HST.out (x3 + 1)).2)) _⟩
            case measure => simp [intOf]
          · have d1 : (x.toList == y.toList) = false := by
              rw [beq_eq_false_iff_ne, Lib.toList_data, Lib.toList_data]; intro h; exact hxy (ScoreS.ba_ext h)
            have HM := HSet.out (max x1 x2) (by rw [HV.out, if_neg hxy])
            have HMM := Lib.hid HM
            clear HM HV HSet hxy
            go_wp2_with fail
            go_quiet (fail)
            go_wp2_with fail
            refine wp_region_quiet_tail 20 (by kernel_rfl) (by kernel_rfl) ?_
            simp only [List.take_succ_cons, List.take_zero, List.drop_succ_cons, List.drop_zero]
            iterate 3 quiet_step (fail)
            quiet_step (exact HQ0.out _ _)
            iterate 4 quiet_step (fail)
            quiet_step (exact HQ1.out _ _)
            iterate 6 quiet_step (fail)
            quiet_step (exact HQ2.out _ _)
            iterate 4 quiet_step (fail)
            refine wpQuiet_nil ?_
            rintro _ ⟨nq, rfl⟩
            go_wp2_with fail
            have hmx : (if x1 < x2 then (x2 : Int) else (x1 : Int)) = ((max x1 x2 : Nat) : Int) := by split <;> omega
            rw [hmx]
            go_roundw
            case rel => exact ⟨j', _, by omega, by go_num, ((HST.out (max x1 x2)).1.drewN _), HMM, below_dN (hbw.trans ((HST.out (max x1 x2)).2)) _⟩
            case measure => simp [intOf]
end Go.Proofs.YtlnifigbnpdemaaDoor
