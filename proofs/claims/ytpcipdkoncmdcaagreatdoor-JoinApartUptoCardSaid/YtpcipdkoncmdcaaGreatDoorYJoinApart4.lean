/- Texts of mine, joined: Walks: the program fills its table. | Walks: the program's pairs of alike places. | Walks: texts, their lines; lines put together. -/
import Derived.Deep.RegionHeld3
import Derived.Laws.OwnMore
import Derived.Test.YtpcipdkoncmdcaaGreatDoorShelf
import Derived.Test.YtpcipdkoncmdcaaGreatDoorYJoinApart3
namespace Go.Proofs.YtpcipdkoncmdcaaGreatDoor
open Go Go.RowKit
theorem ScoreS.ba_ext {a b : ByteArray} (h : a.data.toList = b.data.toList) : a = b := by
  cases a; cases b; congr; exact Array.toList_inj.1 h

/-- A row of numbers. -/
def Row (N : Nat) (f : Nat → Nat) : List Value := (List.range N).map fun j => Value.int .i64 (f j)

theorem Row_length (N : Nat) (f : Nat → Nat) : (Row N f).length = N := by simp [Row]

theorem Row_set (N : Nat) (f : Nat → Nat) (j v : Nat) : (Row N f).set j (.int .i64 v) = Row N (fun x => if x = j then v else f x) := by
  apply List.ext_getElem
  · simp [Row]
  · intro n h1 h2
    rw [List.getElem_set]
    simp only [Row, List.getElem_map, List.getElem_range]
    by_cases h : j = n
    · subst h; simp
    · rw [if_neg h, if_neg (fun e => h e.symm)]

theorem Row_zero (N : Nat) : (madeCells #[Value.int .i64 0] N).toList = Row N fun _ => 0 := by
  rw [toList_madeCells_one]
  apply List.ext_getElem
  · simp [Row]
  · intro n h1 h2
    simp [Row]

theorem Row_cell {w : World} {base : Nat} {e : TypeId} {g c N : Nat} {f : Nat → Nat} (h : w.ownsRow base e 1 (.slice (some ⟨g, 0, none⟩) N c) N (Row N f)) (j : Nat) (hj : j < N) : w.cell? ⟨g, j, none⟩ = some (.int .i64 (f j)) := by
  have h2 := own_sl h
  obtain ⟨a, c', e1, -, -, hs⟩ := h2
  cases e1
  obtain ⟨b, o, e2, -, hc⟩ := hs.at (k := j) (by rw [Row_length]; exact hj)
  cases e2
  have := hc j (by rw [Row_length]; exact hj)
  simpa [Row] using this

theorem infoI : (Tryz.prog.info? 3).map (fun i => (i.zero, i.size, i.bytes)) = some (some (.int .i64 0), 1, 8) := by kernel_rfl

/-- The table under work: its head at t, its cells at g, f what they hold. -/
structure Tb (w : World) (base t g N wd : Nat) (f : Nat → Nat) : Prop where
  own : w.ownsRow base 3 1 (.slice (some ⟨g, 0, none⟩) N N) N (Row N f)
  c0 : w.cell? ⟨t, 0, none⟩ = some (.slice (some ⟨g, 0, none⟩) N N)
  c1 : w.cell? ⟨t, 1, none⟩ = some (.int .i64 wd)
  ne : t ≠ g
  tl : t < w.heap.size
  gl : g < w.heap.size
  bg : base ≤ g

theorem Tb.at_w {w wr : World} {B t g N wd : Nat} {f : Nat → Nat} (h : Tb wr B t g N wd f) (hw : ∃ q, w = wr.drewN q) (i k p : Nat) (hp : i * wd + k = p) (hpN : p < N) (hb : N ≤ 100000000) :
    Calls Tryz.prog 125 #[.pointer (some ⟨t, 0, none⟩), .int .i64 i, .int .i64 k] w fun e w' => e = .returned (.pointer (some ⟨g, p, none⟩)) ∧ ∃ q, w' = wr.drewN q := by
  obtain ⟨q, rfl⟩ := hw
  subst hp
  refine (at_c t 0 g N wd i k (wr.drewN q) h.c0 h.c1 hpN hb).mono ?_
  rintro e w' ⟨rfl, q', rfl⟩
  exact ⟨rfl, q + q', by simp [World.drewN, Nat.add_assoc]⟩

theorem Tb.at_q {wr : World} {B t g N wd : Nat} {f : Nat → Nat} (h : Tb wr B t g N wd f) (i k p : Nat) (I K : Int) (hI : I = i) (hK : K = k) (hp : i * wd + k = p) (hpN : p < N) (hb : N ≤ 100000000) (q x : Nat) :
    Calls Tryz.prog 125 #[.pointer (some ⟨t, 0, none⟩), .int .i64 I, .int .i64 K] (wr.drewN (q + x)) fun e w' => e = .returned (.pointer (some ⟨g, p, none⟩)) ∧ ∃ m, w' = wr.drewN (q + m) := by
  subst hp hI hK
  refine (at_c t 0 g N wd i k (wr.drewN (q + x)) h.c0 h.c1 hpN hb).mono ?_
  rintro e w' ⟨rfl, q', rfl⟩
  exact ⟨rfl, x + q', by simp [World.drewN, Nat.add_assoc]⟩

theorem Tb.stored {w : World} {B t g N wd : Nat} {f : Nat → Nat} (h : Tb w B t g N wd f) (p v : Nat) :
    Tb (w.setCell ⟨g, p, none⟩ (.int .i64 v)) B t g N wd (fun x => if x = p then v else f x) ∧ Below B w (w.setCell ⟨g, p, none⟩ (.int .i64 v)) := by
  obtain ⟨h1, h2⟩ := h.own.stored p (.int .i64 v)
  rw [Row_set] at h1
  have ne := h.ne
  refine ⟨⟨h1, ?_, ?_, ne, ?_, ?_, h.bg⟩, ?_⟩
  · exact h2.cell h.c0 (by simpa using ne)
  · exact h2.cell h.c1 (by simpa using ne)
  · have := h2.size; have := h.tl; omega
  · have := h2.size; have := h.gl; omega
  · exact (Below.refl B w).grown h2 (Nat.le_trans h.bg (Nat.le_of_lt h.gl)) (by intro k hk; cases hk; exact h.bg)

theorem Tb.drewN {w : World} {B t g N wd : Nat} {f : Nat → Nat} (h : Tb w B t g N wd f) (q : Nat) : Tb (w.drewN q) B t g N wd f :=
  ⟨h.own, h.c0, h.c1, h.ne, h.tl, h.gl, h.bg⟩

set_option maxRecDepth 100000 in
set_option maxHeartbeats 2000000 in
theorem fill_c (aa ab : Option Addr) (ca cb : Nat) (a b : List ByteArray) (w : World) (ha : Sl w aa (a.map Value.string)) (hb : Sl w ab (b.map Value.string)) (hN : (a.length + 1) * (b.length + 1) ≤ 100000000) :
    Calls Tryz.prog 124 #[.slice aa a.length ca, .slice ab b.length cb] w fun e w' => ∃ t g f, e = .returned (.pointer (some ⟨t, 0, none⟩)) ∧
      Tb w' w.heap.size t g ((a.length + 1) * (b.length + 1)) (b.length + 1) f ∧ ScoreS.Done a b 0 0 f ∧ Below w.heap.size w w' := by
  have hla : a.length + 1 ≤ (a.length + 1) * (b.length + 1) := Nat.le_mul_of_pos_right _ (by omega)
  have hlb : b.length + 1 ≤ (a.length + 1) * (b.length + 1) := Nat.le_mul_of_pos_left _ (by omega)
  have hm : IntKind.i64.wrap ((a.length : Int) + 1) = ((a.length + 1 : Nat) : Int) := IntWalk.i64_in _ (by omega)
  obtain ⟨N, hNe⟩ : ∃ N, N = (a.length + 1) * (b.length + 1) := ⟨_, rfl⟩
  have hmb : IntKind.i64.wrap ((b.length : Int) + 1) = ((b.length + 1 : Nat) : Int) := IntWalk.i64_in _ (by omega)
  have HP : Hid (((a.length : Int) + 1) * ((b.length : Int) + 1) = (N : Int)) := by show _ = _; rw [hNe]; push_cast; rfl
  have hw2 : IntKind.i64.wrap (((a.length : Int) + 1) * ((b.length : Int) + 1)) = (N : Int) := by
    rw [HP.out]; exact IntWalk.i64_in _ (by omega)
  rw [← hNe] at hN hla hlb ⊢
  have HNe := Lib.hid hNe
  clear hNe
  obtain ⟨i, hi, hz0, hz1, hz2⟩ := info_parts infoI
  go_enter Tryz.func124, Tryz.ntmps124
  go_wp2_with (at_make; (refine wpList_make_full _ rfl (.tmp 14) (.tmp 14) 188 rfl w.heap.size 3 i (.int .i64 0) 1 rfl hi hz0 hz1 .i64 .i64 _ _ N rfl rfl rfl rfl ?b2 ?b3 (Nat.le_refl _) ?hK))
  case b2 => rw [hz2]; omega
  case b3 => simp only [maxLen]; omega
  intro w1 hown hgrow
  rw [Row_zero] at hown
  have hb1 : Below w.heap.size w w1 := (Below.refl _ w).grown hgrow (Nat.le_refl _) (by intro k hk; cases hk)
  obtain ⟨-, -, -, hsz, -⟩ := hgrow
  have hg1 := hown.lt w.heap.size rfl
  have HS : Hid (ScoreS.Done a b a.length 0 fun _ => 0) := ScoreS.done_start a b
  go_wp2_with fail
  go_loopw [6] (fun v wr => ∃ (k : Nat) (f : Nat → Nat), k ≤ a.length ∧ v = .int .i64 ((k : Int) - 1) ∧ Tb wr w.heap.size w1.heap.size w.heap.size N (b.length + 1) f ∧ Hid (ScoreS.Done a b k 0 f) ∧ Below w.heap.size w wr) (fun v _ => ((intOf v) + 1).toNat)
  case atStart =>
    refine ⟨a.length, fun _ => 0, by omega, by go_num, ⟨own_below hown (Below.refl _ _ |>.alloc (Nat.le_refl _) _), ?_, ?_, by omega, by simp, by simp; omega, Nat.le_refl _⟩, HS, hb1.alloc hsz _⟩
    · simp
    · simp
  case round =>
    obtain ⟨k, f, hk, rfl, hT, HD, hbw⟩ := hrel
    clear hown HS hg1 hsz hb1
    have htl := hT.ne
    generalize w1.heap.size = t at *
    rcases k with _ | i'
    · go_wp2_with fail
      go_ret
      exact ⟨t, _, f, rfl, hT, HD, hbw⟩
    · have HR : Hid (ScoreS.Done a b i' b.length f) := ScoreS.done_row HD.out
      rw [show (((i' + 1 : Nat) : Int) - 1) = (i' : Int) by omega]
      go_wp2_with fail
      go_loopw [7] (fun v wi => ∃ (j : Nat) (f : Nat → Nat), j ≤ b.length ∧ v = .int .i64 ((j : Int) - 1) ∧ Tb wi w.heap.size t w.heap.size N (b.length + 1) f ∧ Hid (ScoreS.Done a b i' j f) ∧ Below w.heap.size w wi) (fun v _ => ((intOf v) + 1).toNat)
      case atStart => exact ⟨b.length, f, by omega, by go_num, hT, HR, hbw⟩
      case round =>
        clear hT HD hbw HR f
        obtain ⟨j, f, hj, rfl, hT, HD, hbw⟩ := hrel
        rcases j with _ | j'
        · go_wp2_with fail
          go_roundw
          case rel => exact ⟨i', f, by omega, by go_num, hT, HD, hbw⟩
          case measure => simp [intOf]
        · rw [show (((j' + 1 : Nat) : Int) - 1) = (j' : Int) by omega]
          have hi1 : i' < a.length := by omega
          have hj1 : j' < b.length := by omega
          obtain ⟨ba, oa, rfl, hal, hac⟩ := ha.at (k := i') (by simpa using hi1)
          obtain ⟨bb, ob, rfl, hbl, hbc⟩ := hb.at (k := j') (by simpa using hj1)
          have hca : wr.cell? ⟨ba, oa + i', none⟩ = some (.string a[i']) := by rw [hbw.cell (p := ⟨ba, oa + i', none⟩) hal, hac i' (by simpa using hi1), List.getElem_map]
          have hcb : wr.cell? ⟨bb, ob + j', none⟩ = some (.string b[j']) := by rw [hbw.cell (p := ⟨bb, ob + j', none⟩) hbl, hbc j' (by simpa using hj1), List.getElem_map]
          clear hac hbc
          obtain ⟨e1, e2, e3⟩ := ScoreS.done_next hi1 hj1 HD.out
          have HV := Lib.hid (ScoreS.L_at hi1 hj1)
          have HSet := Lib.hid (fun v => ScoreS.done_set hi1 hj1 HD.out v)
          have hN0 : i' * (b.length + 1) + j' < N := by rw [HNe.out]; exact ScoreS.place_lt (by omega) (by omega)
          have hN1 : (i' + 1) * (b.length + 1) + j' < N := by rw [HNe.out]; exact ScoreS.place_lt (by omega) (by omega)
          have hN2 : i' * (b.length + 1) + (j' + 1) < N := by rw [HNe.out]; exact ScoreS.place_lt (by omega) (by omega)
          have hN3 : (i' + 1) * (b.length + 1) + (j' + 1) < N := by rw [HNe.out]; exact ScoreS.place_lt (by omega) (by omega)
          have hx1 := Row_cell hT.own _ hN1
          have hx2 := Row_cell hT.own _ hN2
          have hx3 := Row_cell hT.own _ hN3
          have hx0 := Row_cell hT.own _ hN0
          have hfz := hT.own.frozenAt (i' * (b.length + 1) + j')
          have hb3 : f ((i' + 1) * (b.length + 1) + (j' + 1)) ≤ 100000000 := by
            rw [e3]; refine Nat.le_trans (ScoreS.L_le _ _) ?_; rw [List.length_drop]; omega
          have HA0 := Lib.hid (fun w' (h : ∃ q, w' = wr.drewN q) => hT.at_w h i' j' _ rfl hN0 hN)
          have HA1 := Lib.hid (fun w' (h : ∃ q, w' = wr.drewN q) => hT.at_w h (i' + 1) j' _ rfl hN1 hN)
          have HA2 := Lib.hid (fun w' (h : ∃ q, w' = wr.drewN q) => hT.at_w h i' (j' + 1) _ rfl hN2 hN)
          have HA3 := Lib.hid (fun w' (h : ∃ q, w' = wr.drewN q) => hT.at_w h (i' + 1) (j' + 1) _ rfl hN3 hN)
          have HQ0 := Lib.hid (fun q x => hT.at_q i' j' _ i' j' rfl rfl rfl hN0 hN q x)
          have HQ1 := Lib.hid (fun q x => hT.at_q (i' + 1) j' _ ((i' : Int) + 1) j' (by omega) rfl rfl hN1 hN q x)
          have HQ2 := Lib.hid (fun q x => hT.at_q i' (j' + 1) _ i' ((j' : Int) + 1) rfl (by omega) rfl hN2 hN q x)
          rw [← e1, ← e2, ← e3] at HV
          clear e1 e2 e3
          have HST := Lib.hid (fun v => hT.stored (i' * (b.length + 1) + j') v)
          generalize f ((i' + 1) * (b.length + 1) + j') = x1 at *
          generalize f (i' * (b.length + 1) + (j' + 1)) = x2 at *
          generalize f ((i' + 1) * (b.length + 1) + (j' + 1)) = x3 at *
          generalize f (i' * (b.length + 1) + j') = x0 at *
          generalize hp0 : i' * (b.length + 1) + j' = p0 at *
          generalize (i' + 1) * (b.length + 1) + j' = p1 at *
          generalize i' * (b.length + 1) + (j' + 1) = p2 at *
          generalize (i' + 1) * (b.length + 1) + (j' + 1) = p3 at *
          generalize a[i'] = x at *
          generalize b[j'] = y at *
          have hii : (0 : Int) ≤ i' := by omega
          have hii1 : (i' : Int) < a.length := by omega
          have hjj : (0 : Int) ≤ j' := by omega
          have hjj1 : (j' : Int) < b.length := by omega
          have hwi : IntKind.i64.wrap ((i' : Int) + 1) = (i' : Int) + 1 := IntWalk.i64_in _ (by omega)
          have hwj : IntKind.i64.wrap ((j' : Int) + 1) = (j' : Int) + 1 := IntWalk.i64_in _ (by omega)
          by_cases hxy : x = y
          · have d1 : (x.toList == y.toList) = true := by rw [hxy]; simp
            have HM := HSet.out (x3 + 1) (by rw [HV.out, if_pos hxy])
            have hw1 : IntKind.i64.wrap ((x3 : Int) + 1) = ((x3 + 1 : Nat) : Int) := IntWalk.i64_in _ (by omega)
            have HMM := Lib.hid HM
            clear HM HV HSet hxy
            go_wp2_with fail
            go_quiet (fail)
            go_wp2_with fail
            refine (HA0.out _ ⟨_, rfl⟩).mono ?_
            rintro e w2 ⟨rfl, q2, rfl⟩
            go_wp2_with fail
            refine (HA3.out _ ⟨_, rfl⟩).mono ?_
            rintro e w3 ⟨rfl, q3, rfl⟩
            go_wp2_with fail
            go_roundw
            case rel => exact ⟨j', _, by omega, by go_num, ((HST.out (x3 + 1)).1.drewN _), HMM, below_dN (hbw.trans ((HST.out (x3 + 1)).2)) _⟩
            case measure => simp [intOf]
          · have d1 : (x.toList == y.toList) = false := by
              rw [beq_eq_false_iff_ne, Lib.toList_data, Lib.toList_data]; intro h; exact hxy (ScoreS.ba_ext h)
            have HM := HSet.out (max x1 x2) (by rw [HV.out, if_neg hxy])
            have HMM := Lib.hid HM
            clear HM HV HSet hxy
            go_wp2_with fail
            go_quiet (fail)
            go_wp2_with fail
            refine wp_region_quiet_tail 20 (by kernel_rfl) (by kernel_rfl) ?_
            simp only [List.take_succ_cons, List.take_zero, List.drop_succ_cons, List.drop_zero]
            iterate 3 quiet_step (fail)
            quiet_step (exact HQ0.out _ _)
            iterate 4 quiet_step (fail)
            quiet_step (exact HQ1.out _ _)
            iterate 6 quiet_step (fail)
            quiet_step (exact HQ2.out _ _)
            iterate 4 quiet_step (fail)
            refine wpQuiet_nil ?_
            rintro _ ⟨nq, rfl⟩
            go_wp2_with fail
            have hmx : (if x1 < x2 then (x2 : Int) else (x1 : Int)) = ((max x1 x2 : Nat) : Int) := by split <;> omega
            have hmy : max (x1 : Int) (x2 : Int) = ((max x1 x2 : Nat) : Int) := by omega
            first | rw [hmx] | rw [hmy]
            go_roundw
            case rel => exact ⟨j', _, by omega, by go_num, ((HST.out (max x1 x2)).1.drewN _), HMM, below_dN (hbw.trans ((HST.out (max x1 x2)).2)) _⟩
            case measure => simp [intOf]
end Go.Proofs.YtpcipdkoncmdcaaGreatDoor
namespace Go.Proofs.YtpcipdkoncmdcaaGreatDoor
open Go Go.RowKit
/-- 'append(s, x)' of one element of so many cells, s the call's own. -/
theorem wp_appN {P : Program} {ops : Array Oper} {rest : List Oper} {o : Oper} {a : Act} {Q : Exit → Act → World → Prop} {w : World} (hgd : o.guard = none) (s x : Operand) (t : TypeId)
    (ho : o.op = .call { callee := .builtin .append, args := #[s, x], argTypes := #[t, t] })
    {e : TypeId} {z : Value} {size bytes : Nat} (E : Elem P t e z size bytes) (hzs : z.cells.size = size) (hsz : 0 < size) {base : Nat} {v : Value} {n : Nat} {xs : List Value} {news : List Value}
    (hs : a.eval s = v) (hown : w.ownsRow base e size v n xs) (hx : a.eval x = .slice (some ⟨w.heap.size, 0, none⟩) 1 1) (hl : news.length = size) (h1 : ∀ u ∈ news, u.oneCell' = true)
    (hn : (n + 1) * bytes ≤ 140737488355328) (h63 : n + 1 ≤ maxLen) (hbase : base ≤ w.heap.size)
    (h : ∀ v' w', w'.ownsRow base e size v' (n + 1) (xs ++ news) → w.grownBy w' v.ownBlock → Below base w w' → wpList P ops Q rest (a.put o.dst v') w') :
    wpList P ops Q (o :: rest) a (w.alloc (.cells news.toArray e)) := by
  obtain ⟨i, hi, g1, g2, g3⟩ := info_parts E.info
  refine wpList_append_own _ hgd s x t ho base e i z size bytes E.under hi g1 g2 g3 hzs hsz v n xs hs (hown.alloc _) _ 1 1 news hx (by omega) (fun j u hu => ?_) h1 h63 hn ?_ ?_
  · rw [Addr.add_lit, Nat.zero_add]
    simpa using hu
  · have : (w.alloc (.cells news.toArray e)).heap.size = w.heap.size + 1 := by simp
    omega
  · intro v' w' h4 h5 _
    have h6 : w.grownBy w' v.ownBlock := (World.grownBy_alloc w _ _).trans h5
    exact h v' w' h4 h6 (below_of_grown hown h6 hbase)

theorem own_base {w : World} {base base' : Nat} {e : TypeId} {s : Nat} {v : Value} {n : Nat} {xs : List Value} (h : w.ownsRow base e s v n xs) (hb : base' ≤ base) : w.ownsRow base' e s v n xs := by
  obtain ⟨h1, h2⟩ := h
  refine ⟨h1, ?_⟩
  rcases h2 with h2 | ⟨g, cap, cur, h3, h4, h5⟩
  · exact .inl h2
  · exact .inr ⟨g, cap, cur, h3, Nat.le_trans hb h4, h5⟩

theorem own_dN {w : World} {base : Nat} {e : TypeId} {s : Nat} {v : Value} {n : Nat} {xs : List Value} (h : w.ownsRow base e s v n xs) (q : Nat) : (w.drewN q).ownsRow base e s v n xs := h

/-- Pairs of numbers as cells. -/
def prow (l : List (Nat × Nat)) : List Value := l.flatMap fun p => [.int .i64 p.1, .int .i64 p.2]

theorem prow_snoc (l : List (Nat × Nat)) (p : Nat × Nat) : prow (l ++ [p]) = prow l ++ [.int .i64 p.1, .int .i64 p.2] := by simp [prow]

theorem pairElem : Elem Tryz.prog 174 180 (.agg #[.int .i64 0, .int .i64 0]) 2 16 := ⟨by kernel_rfl, by kernel_rfl⟩

theorem at_q {wr : World} {t g N wd : Nat} (h0 : wr.cell? ⟨t, 0, none⟩ = some (.slice (some ⟨g, 0, none⟩) N N)) (h1 : wr.cell? ⟨t, 1, none⟩ = some (.int .i64 wd)) (i k p : Nat) (I K : Int) (hI : I = i) (hK : K = k) (hp : i * wd + k = p) (hpN : p < N) (hb : N ≤ 100000000) (q x : Nat) :
    Calls Tryz.prog 125 #[.pointer (some ⟨t, 0, none⟩), .int .i64 I, .int .i64 K] (wr.drewN (q + x)) fun e w' => e = .returned (.pointer (some ⟨g, p, none⟩)) ∧ ∃ m, w' = wr.drewN (q + m) := by
  subst hp hI hK
  refine (at_c t 0 g N wd i k (wr.drewN (q + x)) h0 h1 hpN hb).mono ?_
  rintro e w' ⟨rfl, q', rfl⟩
  exact ⟨rfl, x + q', by simp [World.drewN, Nat.add_assoc]⟩

/-- The work is too much. -/
theorem work_iff {m n : Nat} (hn : 0 < n) : 1048576 / n < m ↔ 1048576 < m * n := by
  rw [Nat.div_lt_iff_lt_mul hn]

set_option maxRecDepth 100000 in
set_option maxHeartbeats 2000000 in
theorem pairs_c (aa ab : Option Addr) (ca cb : Nat) (a b : List ByteArray) (w : World) (ha : Sl w aa (a.map Value.string)) (hb : Sl w ab (b.map Value.string)) (hla : a.length ≤ 10000000) (hlb : b.length ≤ 10000000) (hw : a.length * b.length ≤ 1048576) :
    Calls Tryz.prog 111 #[.slice aa a.length ca, .slice ab b.length cb] w fun e w' => ∃ v, e = .returned (.tuple #[v, .int .i64 0]) ∧
      w'.ownsRow w.heap.size 180 2 v (ScoreS.P 0 0 a b).length (prow (ScoreS.P 0 0 a b)) ∧ Below w.heap.size w w' := by
  have hN : (a.length + 1) * (b.length + 1) ≤ 100000000 := by rw [Nat.add_mul, Nat.mul_add]; omega
  have HF := Lib.hid (fill_c aa ab ca cb a b w ha hb hN)
  by_cases h0 : b.length = 0
  · obtain rfl := List.eq_nil_of_length_eq_zero h0
    have e1 : ScoreS.P 0 0 a [] = [] := by cases a <;> simp [ScoreS.P]
    rw [e1]
    clear hw hN
    go_enter Tryz.func111, Tryz.ntmps111
    go_wp2_with fail
    refine HF.out.mono ?_
    rintro e w2 ⟨t, g, f, rfl, hT, -, hb2⟩
    go_wp2_with fail
    go_loopw [7, 8, 9] (fun v i k wr => v = .slice none 0 0 ∧ i = .int .i64 0 ∧ k = .int .i64 0 ∧ Below w.heap.size w wr) (fun _ _ _ _ => 0)
    case atStart => exact ⟨rfl, rfl, rfl, hb2⟩
    case round =>
      obtain ⟨rfl, rfl, rfl, hbw⟩ := hrel
      rcases Nat.eq_zero_or_pos a.length with h1 | h1
      · rw [h1]
        go_wp2_with fail
        go_ret2
        exact ⟨_, rfl, World.ownsRow_nil _ _ _ _, hbw⟩
      · have h2 : (0 : Int) < a.length := by omega
        go_wp2_with fail
        go_ret2
        exact ⟨_, rfl, World.ownsRow_nil _ _ _ _, hbw⟩
  · obtain ⟨q, hqe⟩ : ∃ q, q = 1048576 / b.length := ⟨_, rfl⟩
    have hq0 : q ≤ 1048576 := by rw [hqe]; exact Nat.div_le_self _ _
    have hlb0 : (0 : Int) < b.length := by omega
    have hqi : ¬ (1048576 : Int) / (b.length : Int) < a.length := by
      rw [show (1048576 : Int) / (b.length : Int) = (q : Int) by rw [hqe]; rfl, hqe]
      intro h
      have := (work_iff (m := a.length) (n := b.length) (by omega)).1 (by omega)
      omega
    have hw1 : IntKind.i64.wrap ((1048576 : Int) / (b.length : Int)) = (q : Int) := by
      rw [show (1048576 : Int) / (b.length : Int) = (q : Int) by rw [hqe]; rfl]; exact IntWalk.i64_in _ (by omega)
    have hbn : ¬ (b.length : Int) = 0 := by omega
    clear hw hqe h0
    go_enter Tryz.func111, Tryz.ntmps111
    go_wp2_with fail
    refine HF.out.mono ?_
    rintro e w2 ⟨t, g, f, rfl, hT, HD, hb2⟩
    clear HF hqi hw1 hbn
    go_wp2_with fail
    have hc0 := hT.c0
    have hc1 := hT.c1
    have htl := hT.tl
    have hgl := hT.gl
    have HC : Hid (∀ j, j < (a.length + 1) * (b.length + 1) → w2.cell? ⟨g, j, none⟩ = some (.int .i64 (f j))) := fun j hj => Row_cell hT.own j hj
    have HDD := Lib.hid HD
    have HS : Hid (ScoreS.P 0 0 a b = [] ++ ScoreS.P 0 0 (a.drop 0) (b.drop 0)) := by show _ = _; simp
    clear hT HD
    go_loopw [7, 8, 9] (fun v iv kv wr => ∃ (i k : Nat) (xs : List (Nat × Nat)), i ≤ a.length ∧ k ≤ b.length ∧ iv = .int .i64 i ∧ kv = .int .i64 k ∧ wr.ownsRow w2.heap.size 180 2 v xs.length (prow xs) ∧ Hid (ScoreS.P 0 0 a b = xs ++ ScoreS.P i k (a.drop i) (b.drop k)) ∧ xs.length ≤ i ∧ Below w2.heap.size w2 wr) (fun _ iv kv _ => (a.length - (intOf iv).toNat) + (b.length - (intOf kv).toNat))
    case atStart => exact ⟨0, 0, [], by omega, by omega, rfl, rfl, World.ownsRow_nil _ _ _ _, HS, Nat.zero_le _, Below.refl _ _⟩
    case round =>
      clear HS
      obtain ⟨i, k, xs, hi, hk, rfl, rfl, hown, HP, hxl, hbr⟩ := hrel
      have hbw : Below w.heap.size w wr := hb2.trans (hbr.mono hb2.size)
      by_cases hi1 : i < a.length
      · by_cases hk1 : k < b.length
        · obtain ⟨ba, oa, rfl, hal, hac⟩ := ha.at (k := i) (by simpa using hi1)
          obtain ⟨bb, ob, rfl, hbl, hbc⟩ := hb.at (k := k) (by simpa using hk1)
          have hca : wr.cell? ⟨ba, oa + i, none⟩ = some (.string a[i]) := by rw [hbw.cell (p := ⟨ba, oa + i, none⟩) hal, hac i (by simpa using hi1), List.getElem_map]
          have hcb : wr.cell? ⟨bb, ob + k, none⟩ = some (.string b[k]) := by rw [hbw.cell (p := ⟨bb, ob + k, none⟩) hbl, hbc k (by simpa using hk1), List.getElem_map]
          clear hac hbc
          have HPA := Lib.hid (ScoreS.P_at (i := i) (k := k) hi1 hk1)
          have e1 := HDD.out (i + 1) k (by omega) (by omega) (.inl (by omega))
          have e2 := HDD.out i (k + 1) (by omega) (by omega) (by omega)
          rw [← e1, ← e2] at HPA
          have hN1 : (i + 1) * (b.length + 1) + k < (a.length + 1) * (b.length + 1) := ScoreS.place_lt (by omega) (by omega)
          have hN2 : i * (b.length + 1) + (k + 1) < (a.length + 1) * (b.length + 1) := ScoreS.place_lt (by omega) (by omega)
          have hx1 : wr.cell? ⟨g, (i + 1) * (b.length + 1) + k, none⟩ = some (.int .i64 (f ((i + 1) * (b.length + 1) + k))) := by rw [hbr.cell (p := ⟨g, _, none⟩) hgl]; exact HC.out _ hN1
          have hx2 : wr.cell? ⟨g, i * (b.length + 1) + (k + 1), none⟩ = some (.int .i64 (f (i * (b.length + 1) + (k + 1)))) := by rw [hbr.cell (p := ⟨g, _, none⟩) hgl]; exact HC.out _ hN2
          have hd0 : wr.cell? ⟨t, 0, none⟩ = some (.slice (some ⟨g, 0, none⟩) ((a.length + 1) * (b.length + 1)) ((a.length + 1) * (b.length + 1))) := by rw [hbr.cell (p := ⟨t, 0, none⟩) htl]; exact hc0
          have hd1 : wr.cell? ⟨t, 1, none⟩ = some (.int .i64 ((b.length + 1 : Nat) : Int)) := by rw [hbr.cell (p := ⟨t, 1, none⟩) htl]; exact hc1
          have HQ1 := Lib.hid (fun q x => at_q hd0 hd1 (i + 1) k _ ((i : Int) + 1) k (by omega) rfl rfl hN1 hN q x)
          have HQ2 := Lib.hid (fun q x => at_q hd0 hd1 i (k + 1) _ i ((k : Int) + 1) rfl (by omega) rfl hN2 hN q x)
          clear e1 e2 hd0 hd1
          generalize f ((i + 1) * (b.length + 1) + k) = x1 at *
          generalize f (i * (b.length + 1) + (k + 1)) = x2 at *
          generalize (i + 1) * (b.length + 1) + k = p1 at *
          generalize i * (b.length + 1) + (k + 1) = p2 at *
          generalize a[i] = x at *
          generalize b[k] = y at *
          have hii : (0 : Int) ≤ i := by omega
          have hii1 : (i : Int) < a.length := by omega
          have hkk : (0 : Int) ≤ k := by omega
          have hkk1 : (k : Int) < b.length := by omega
          have hwi : IntKind.i64.wrap ((i : Int) + 1) = (i : Int) + 1 := IntWalk.i64_in _ (by omega)
          have hwk : IntKind.i64.wrap ((k : Int) + 1) = (k : Int) + 1 := IntWalk.i64_in _ (by omega)
          by_cases hxy : x = y
          · have d1 : (x.toList == y.toList) = true := by rw [hxy]; simp
            have HN : Hid (ScoreS.P 0 0 a b = (xs ++ [(i, k)]) ++ ScoreS.P (i + 1) (k + 1) (a.drop (i + 1)) (b.drop (k + 1))) := by
              show _ = _
              rw [HP.out, HPA.out, if_pos hxy, List.append_assoc]; rfl
            clear HP HPA hxy HQ1 HQ2 HDD
            go_wp2_with fail
            go_quiet (fail)
            go_wp2_with (at_builtin; (refine wp_appN (news := [.int .i64 i, .int .i64 k]) rfl _ _ _ rfl pairElem rfl (by decide) rfl (own_dN hown _) rfl rfl (by simp [Value.oneCell']) (by omega) (by simp [maxLen]; omega) hbr.size ?_))
            intro v' w' hown' _ hb'
            go_wp2_with fail
            go_roundw
            case rel => exact ⟨i + 1, k + 1, xs ++ [(i, k)], by omega, by omega, by go_num, by go_num, by rw [prow_snoc, List.length_append]; exact hown', HN, by simp; omega, (below_dN hbr _).trans hb'⟩
            case measure => simp [intOf]; omega
          · have d1 : (x.toList == y.toList) = false := by
              rw [beq_eq_false_iff_ne, Lib.toList_data, Lib.toList_data]; intro h; exact hxy (ScoreS.ba_ext h)
            rw [if_neg hxy] at HPA
            by_cases hle : x2 ≤ x1
            · have HN : Hid (ScoreS.P 0 0 a b = xs ++ ScoreS.P (i + 1) k (a.drop (i + 1)) (b.drop k)) := by
                show _ = _
                rw [HP.out, HPA.out, if_pos hle]
              have hle2 : (x2 : Int) ≤ x1 := by omega
              clear HP HPA hxy HDD
              go_wp2_with fail
              go_quiet (fail)
              go_wp2_with fail
              refine wp_region_quiet_lit (by kernel_rfl) (by kernel_rfl) ?_
              iterate 4 quiet_step (fail)
              quiet_step (exact HQ1.out _ _)
              iterate 6 quiet_step (fail)
              quiet_step (exact HQ2.out _ _)
              iterate 4 quiet_step (fail)
              refine wpQuiet_nil ?_
              rintro _ ⟨nq2, rfl⟩
              go_wp2_with fail
              go_roundw
              case rel => exact ⟨i + 1, k, xs, by omega, by omega, by go_num, rfl, hown, HN, by omega, below_dN hbr _⟩
              case measure => simp [intOf]; omega
            · have HN : Hid (ScoreS.P 0 0 a b = xs ++ ScoreS.P i (k + 1) (a.drop i) (b.drop (k + 1))) := by
                show _ = _
                rw [HP.out, HPA.out, if_neg hle]
              have hle2 : ¬ (x2 : Int) ≤ x1 := by omega
              clear HP HPA hxy HDD
              go_wp2_with fail
              go_quiet (fail)
              go_wp2_with fail
              refine wp_region_quiet_lit (by kernel_rfl) (by kernel_rfl) ?_
              iterate 4 quiet_step (fail)
              quiet_step (exact HQ1.out _ _)
              iterate 6 quiet_step (fail)
              quiet_step (exact HQ2.out _ _)
              iterate 4 quiet_step (fail)
              refine wpQuiet_nil ?_
              rintro _ ⟨nq2, rfl⟩
              go_wp2_with fail
              go_roundw
              case rel => exact ⟨i, k + 1, xs, by omega, by omega, rfl, by go_num, hown, HN, by omega, below_dN hbr _⟩
              case measure => simp [intOf]; omega
        · have HE : Hid (ScoreS.P 0 0 a b = xs) := by
            show _ = _
            rw [HP.out, show k = b.length by omega, List.drop_length]
            cases a.drop i <;> simp [ScoreS.P]
          have hx1 : (i : Int) < a.length := by omega
          have hx2 : ¬ (k : Int) < b.length := by omega
          go_wp2_with fail
          go_ret2
          exact ⟨_, rfl, by rw [HE.out]; exact own_base hown hb2.size, hbw⟩
      · have HE : Hid (ScoreS.P 0 0 a b = xs) := by
          show _ = _
          rw [HP.out, show i = a.length by omega, List.drop_length]
          simp [ScoreS.P]
        have hx1 : ¬ (i : Int) < a.length := by omega
        go_wp2_with fail
        go_ret2
        exact ⟨_, rfl, by rw [HE.out]; exact own_base hown hb2.size, hbw⟩
end Go.Proofs.YtpcipdkoncmdcaaGreatDoor
namespace Go.Proofs.YtpcipdkoncmdcaaGreatDoor
open Go Go.RowKit
theorem u8s_elem : Tryz.prog.underlying 52 = some (.slice (Tryz.prog.elem 52)) := by have h := Tryz.underlying52; simp [Program.elem, h]
theorem u8s_one (W : World) : (sizeOf (Tryz.prog.elem 52)).run Tryz.prog W = .ok 1 W := by simp [go_sem]
theorem strs_elem : Tryz.prog.underlying 82 = some (.slice (Tryz.prog.elem 82)) := by have h := Tryz.underlying82; simp [Program.elem, h]
theorem strs_one (W : World) : (sizeOf (Tryz.prog.elem 82)).run Tryz.prog W = .ok 1 W := by simp [go_sem]

/-- bytes.IndexByte over a text. -/
theorem idx_c {w : World} {v : Value} {t : ByteArray} (h : Tx w v t) (c : Int) : Calls Tryz.prog 110 #[v, .int .u8 c] w fun e w' => e = .returned (.int .i64 (Lib.indexByte t.data.toList c.toNat.toUInt8)) ∧ w' = w := by
  by_cases h0 : t.size = 0
  · obtain ⟨a, k, rfl, -, -, h4, -⟩ := h
    have e : t.data.toList = [] := List.eq_nil_of_length_eq_zero (by rw [← Lib.size_eq]; exact h0)
    rw [e, h0]
    cases a with
    | none => rw [h4 rfl]; exact Tryz.bytes_IndexByte_nil c w
    | some ad => exact Tryz.bytes_IndexByte_at ad 0 k [] c w rfl (fun i hi => absurd hi (Nat.not_lt_zero i))
  · obtain ⟨b, o, k, rfl, -, -, hs⟩ := h.some_ h0
    exact Tryz.bytes_IndexByte_bytes b o k t c w (bytes_of_sl hs)

theorem istext_c {w : World} {v : Value} {t : ByteArray} (h : Tx w v t) : Calls Tryz.prog 85 #[v] w fun e w' => e = .returned (.bool (JoinS.isText t)) ∧ w' = w := by
  have HI := Lib.hid (idx_c h 0)
  have HT : Hid (JoinS.isText t = decide (Lib.indexByte t.data.toList (0 : Int).toNat.toUInt8 < 0)) := by
    show _ = _
    have h1 := JoinS.idx_pos (c := (0 : Int).toNat.toUInt8) (l := t.data.toList)
    unfold JoinS.isText
    rw [Bool.eq_iff_iff, List.all_eq_true, decide_eq_true_eq]
    constructor
    · intro h2
      refine Int.lt_of_not_ge fun hge => ?_
      have := h2 _ (h1.1 hge)
      simp at this
    · intro h2 x hx
      rw [decide_eq_true_eq]
      rintro rfl
      have : (0 : UInt8) = (0 : Int).toNat.toUInt8 := rfl
      rw [this] at hx
      have := h1.2 hx
      omega
  clear h
  generalize Lib.indexByte t.data.toList (0 : Int).toNat.toUInt8 = z at *
  go_enter Tryz.func85, Tryz.ntmps85
  go_wp2_with (go_at_call 110; refine HI.out.mono ?_; rintro e w1 ⟨rfl, rfl⟩)
  go_ret
  exact ⟨ret_bool HT.out, rfl⟩

set_option maxRecDepth 100000 in
set_option maxHeartbeats 2000000 in
theorem lsplt_c {w : World} {v : Value} {t : ByteArray} (h : Tx w v t) (hz : t.size ≤ 100000000) : Calls Tryz.prog 86 #[v] w fun e w' => ∃ v', e = .returned v' ∧ w'.ownsRow w.heap.size 9 1 v' (JoinS.lns t).length (lrow (JoinS.lns t)) ∧ Below w.heap.size w w' := by
  go_enter Tryz.func86, Tryz.ntmps86
  go_wp2_with fail
  go_loopw [0, 3, 4] (fun tv ov _ wx => ∃ (r : ByteArray) (ls : List ByteArray), Tx w tv r ∧ wx.ownsRow w.heap.size 9 1 ov ls.length (lrow ls) ∧ Below w.heap.size w wx ∧ Hid (JoinS.lns t = ls ++ JoinS.lns r) ∧ ls.length + r.size ≤ t.size) (fun tv _ _ _ => lenV tv)
  case atStart => exact ⟨t, [], h, World.ownsRow_nil _ _ _ _, Below.refl _ _, by show _ = _; rfl, by simp⟩
  case round =>
    obtain ⟨r, ls, hT, hown, hb, HL, hsz⟩ := hrel
    clear h
    by_cases h0 : r.size = 0
    · obtain ⟨a, c, rfl, -, -, -, -⟩ := hT
      have HE : Hid (JoinS.lns t = ls) := by show _ = _; rw [HL.out, JoinS.lns_nil h0, List.append_nil]
      have d1 : decide ((r.size : Int) > 0) = false := decide_eq_false (by omega)
      have d2 : decide (0 < r.size) = false := decide_eq_false (by omega)
      clear HL
      have HO := Lib.hid hown
      clear hown h0
      go_wp2_with fail
      go_ret
      rw [HE.out]
      exact ⟨_, rfl, HO.out, hb⟩
    · have HI := Lib.hid (idx_c (hT.below hb) 10)
      obtain ⟨b, o, c, rfl, hc, hcm, hs⟩ := hT.some_ h0
      have d1 : decide ((r.size : Int) > 0) = true := decide_eq_true (by omega)
      have d2 : decide (0 < r.size) = true := decide_eq_true (by omega)
      have d3 : 0 < r.size := by omega
      have hl0 : r.data.toList ≠ [] := fun e => h0 (by rw [Lib.size_eq, e]; rfl)
      have hcut := JoinS.cut_pos hl0
      rw [← Lib.size_eq] at hcut
      have HC := Lib.hid (JoinS.lns_cut h0)
      have hge := JoinS.idx_ge (c := 10) (l := r.data.toList)
      have hlt := JoinS.idx_lt (c := 10) (l := r.data.toList)
      rw [← Lib.size_eq] at hlt
      have HK : Hid (JoinS.cutAt r.data.toList = if Lib.indexByte r.data.toList 10 + 1 = 0 then r.size else (Lib.indexByte r.data.toList 10 + 1).toNat) := by show _ = _; rw [Lib.size_eq]; rfl
      have h10 : (10 : Int).toNat.toUInt8 = 10 := rfl
      rw [h10] at HI
      obtain ⟨z, hzz⟩ : ∃ z, Lib.indexByte r.data.toList 10 = z := ⟨_, rfl⟩
      rw [hzz] at HI HK hge hlt
      have hwr : IntKind.i64.wrap (z + 1) = z + 1 := IntWalk.i64_in _ (by omega)
      have hbs := bytes_of_sl (hs.below hb)
      generalize JoinS.cutAt r.data.toList = k at *
      have hbl := bts_len r
      obtain ⟨A, C, hC1, hC2, hC3, hAs, hrun⟩ := sl_from u8s_elem u8s_one (c := c) hs (by omega) (by simp) (k := k) (by omega)
      rw [hbl] at hrun hC1
      have hto : ∀ W, (Instr.slice 52 (.slice (some ⟨b, o, none⟩) r.size c) none (some (.int .i64 k)) none).run Tryz.prog W = .ok (.slice (some ⟨b, o, none⟩) k c) W := fun W => sl_to u8s_elem u8s_one (by omega) (by simp) W
      have hcv : (convert 52 9 (.slice (some ⟨b, o, none⟩) k c)).run Tryz.prog wr = .ok (.string (r.extract 0 k)) wr := by
        have := Lib.run_convert_window (P := Tryz.prog) wr 52 5 9 Tryz.underlying52 Tryz.underlying5 Tryz.underlying9 b o r hbs 0 k c (by omega)
        rwa [Nat.add_zero, Nat.zero_add] at this
      have hre : (r.extract k r.size).size = r.size - k := by simp [ByteArray.size_extract]
      have hbt := bts_from r k
      have HL2 : Hid (JoinS.lns t = (ls ++ [r.extract 0 k]) ++ JoinS.lns (r.extract k r.size)) := by show _ = _; rw [HL.out, HC.out]; simp
      have HT2 : Hid (Tx w (.slice A (r.size - k) C) (r.extract k r.size)) := Lib.hid ⟨A, C, by rw [hre], by rw [hre]; exact hC1, by omega, hC3, by rw [hbt]; exact hAs⟩
      have HRE := Lib.hid hre
      have HB := Lib.hid hb
      clear HL HC hbt hT hs hbs hAs h0 hl0 hbl hre
      have hcase : (z + 1 = 0 ∧ k = r.size) ∨ (¬ z + 1 = 0 ∧ z + 1 = (k : Int)) := by
        have := HK.out
        split at this
        · exact .inl ⟨by assumption, this⟩
        · exact .inr ⟨by assumption, by omega⟩
      clear HK hzz
      have hsl : (r.extract k r.size).size + (ls.length + 1) ≤ t.size := by have := HRE.out; omega
      rcases hcase with ⟨h1, rfl⟩ | ⟨h1, h2⟩
      · have e1 : (z + 1 == 0) = true := by rw [h1]; rfl
        replace hwr : IntKind.i64.wrap (z + 1) = 0 := by rw [hwr, h1]
        clear h1 hge hlt e1
        go_wp2_with (first
          | (go_at_call 110; refine HI.out.mono ?_; rintro e w1 ⟨rfl, hw1⟩; obtain rfl := hw1.symm)
          | (at_builtin; refine wp_app1 rfl _ _ _ rfl ES rfl rfl hown rfl rfl (by omega) (by simp [maxLen]; omega) HB.out.size ?_; intro v' w' hown' hg' hb'))
        go_roundw
        case rel => exact ⟨_, _, by simpa using HT2.out, by simpa [lrow] using hown', HB.out.trans hb', HL2, by simp; omega⟩
        case measure => simp [lenV]; omega
      · have e1 : (z + 1 == 0) = false := by rw [beq_eq_false_iff_ne]; exact h1
        replace hwr : IntKind.i64.wrap (z + 1) = (k : Int) := by rw [hwr, h2]
        rw [h2] at e1
        have e2 : ((k : Int) == 0) = false := e1
        clear h1 hge hlt h2
        go_wp2_with (first
          | (go_at_call 110; refine HI.out.mono ?_; rintro e w1 ⟨rfl, hw1⟩; obtain rfl := hw1.symm)
          | (at_builtin; refine wp_app1 rfl _ _ _ rfl ES rfl rfl hown rfl rfl (by omega) (by simp [maxLen]; omega) HB.out.size ?_; intro v' w' hown' hg' hb'))
        go_roundw
        case rel => exact ⟨_, _, HT2.out, by simpa [lrow] using hown', HB.out.trans hb', HL2, by simp; omega⟩
        case measure => simp [lenV]; omega
end Go.Proofs.YtpcipdkoncmdcaaGreatDoor
