/- Walks: the program's pairs of alike places. -/
import Derived.Test.YtlnifigbnpdemaaDoorScoreFill
namespace Go.Proofs.YtlnifigbnpdemaaDoor
open Go Go.RowKit

/-- 'append(s, x)' of one element of so many cells, s the call's own. -/
theorem wp_appN {P : Program} {ops : Array Oper} {rest : List Oper} {o : Oper} {a : Act} {Q : Exit → Act → World → Prop} {w : World} (hgd : o.guard = none) (s x : Operand) (t : TypeId)
    (ho : o.op = .call { callee := .builtin .append, args := #[s, x], argTypes := #[t, t] })
    {e : TypeId} {z : Value} {size bytes : Nat} (E : Elem P t e z size bytes) (hzs : z.cells.size = size) (hsz : 0 < size) {base : Nat} {v : Value} {n : Nat} {xs : List Value} {news : List Value}
    (hs : a.eval s = v) (hown : w.ownsRow base e size v n xs) (hx : a.eval x = .slice (some ⟨w.heap.size, 0, none⟩) 1 1) (hl : news.length = size) (h1 : ∀ u ∈ news, u.oneCell' = true)
    (hn : (n + 1) * bytes ≤ 140737488355328) (h63 : n + 1 ≤ maxLen) (hbase : base ≤ w.heap.size)
    (h : ∀ v' w', w'.ownsRow base e size v' (n + 1) (xs ++ news) → w.grownBy w' v.ownBlock → Below base w w' → wpList P ops Q rest (a.put o.dst v') w') :
    wpList P ops Q (o :: rest) a (w.alloc (.cells news.toArray e)) := by
  obtain ⟨i, hi, g1, g2, g3⟩ := info_parts E.info
  refine wpList_append_own _ hgd s x t ho base e i z size bytes E.under hi g1 g2 g3 hzs hsz v n xs hs (hown.alloc _) _ 1 1 news hx (by omega) (fun j u hu => ?_) h1 h63 hn ?_ ?_
  · rw [Addr.add_lit, Nat.zero_add]
    simpa using hu
  · have : (w.alloc (.cells news.toArray e)).heap.size = w.heap.size + 1 := by simp
    omega
  · intro v' w' h4 h5 _
    have h6 : w.grownBy w' v.ownBlock := (World.grownBy_alloc w _ _).trans h5
    exact h v' w' h4 h6 (below_of_grown hown h6 hbase)

theorem own_base {w : World} {base base' : Nat} {e : TypeId} {s : Nat} {v : Value} {n : Nat} {xs : List Value} (h : w.ownsRow base e s v n xs) (hb : base' ≤ base) : w.ownsRow base' e s v n xs := by
  obtain ⟨h1, h2⟩ := h
  refine ⟨h1, ?_⟩
  rcases h2 with h2 | ⟨g, cap, cur, h3, h4, h5⟩
  · exact .inl h2
  · exact .inr ⟨g, cap, cur, h3, Nat.le_trans hb h4, h5⟩

theorem own_dN {w : World} {base : Nat} {e : TypeId} {s : Nat} {v : Value} {n : Nat} {xs : List Value} (h : w.ownsRow base e s v n xs) (q : Nat) : (w.drewN q).ownsRow base e s v n xs := h

/-- Pairs of numbers as cells. -/
def prow (l : List (Nat × Nat)) : List Value := l.flatMap fun p => [.int .i64 p.1, .int .i64 p.2]

theorem prow_snoc (l : List (Nat × Nat)) (p : Nat × Nat) : prow (l ++ [p]) = prow l ++ [.int .i64 p.1, .int .i64 p.2] := by simp [prow]

theorem pairElem : Elem Tryd.prog 58 79 (.agg #[.int .i64 0, .int .i64 0]) 2 16 := ⟨by kernel_rfl, by kernel_rfl⟩

theorem at_q {wr : World} {t g N wd : Nat} (h0 : wr.cell? ⟨t, 0, none⟩ = some (.slice (some ⟨g, 0, none⟩) N N)) (h1 : wr.cell? ⟨t, 1, none⟩ = some (.int .i64 wd)) (i k p : Nat) (I K : Int) (hI : I = i) (hK : K = k) (hp : i * wd + k = p) (hpN : p < N) (hb : N ≤ 100000000) (q x : Nat) :
    Calls Tryd.prog 36 #[.pointer (some ⟨t, 0, none⟩), .int .i64 I, .int .i64 K] (wr.drewN (q + x)) fun e w' => e = .returned (.pointer (some ⟨g, p, none⟩)) ∧ ∃ m, w' = wr.drewN (q + m) := by
  subst hp hI hK
  refine (at_c t 0 g N wd i k (wr.drewN (q + x)) h0 h1 hpN hb).mono ?_
  rintro e w' ⟨rfl, q', rfl⟩
  exact ⟨rfl, x + q', by simp [World.drewN, Nat.add_assoc]⟩

/-- The work is too much. -/
theorem work_iff {m n : Nat} (hn : 0 < n) : 1048576 / n < m ↔ 1048576 < m * n := by
  rw [Nat.div_lt_iff_lt_mul hn]

set_option maxRecDepth 100000 in
set_option maxHeartbeats 2000000 in
theorem pairs_long (aa ab : Option Addr) (ca cb la lb : Nat) (w : World) (hlb : lb ≤ 10000000) (hw : 1048576 < la * lb) :
    Calls Tryd.prog 21 #[.slice aa la ca, .slice ab lb cb] w fun e w' => e = .returned (.tuple #[.slice none 0 0, .int .i64 2]) ∧ w' = w := by
  have hb0 : 0 < lb := by rcases Nat.eq_zero_or_pos lb with h | h; subst h; simp at hw; exact h
  have hq : 1048576 / lb < la := (work_iff hb0).2 hw
  have hq0 : 1048576 / lb ≤ 1048576 := Nat.div_le_self _ _
  obtain ⟨q, hqe⟩ : ∃ q, q = 1048576 / lb := ⟨_, rfl⟩
  rw [← hqe] at hq hq0
  have hw1 : IntKind.i64.wrap ((1048576 : Int) / (lb : Int)) = (q : Int) := by
    rw [show (1048576 : Int) / (lb : Int) = (q : Int) by rw [hqe]; rfl]; exact IntWalk.i64_in _ (by omega)
  have hbn : ¬ (lb : Int) = 0 := by omega
  have hqi : (1048576 : Int) / (lb : Int) < la := by rw [show (1048576 : Int) / (lb : Int) = (q : Int) by rw [hqe]; rfl]; omega
  clear hw hqe
  go_enter Tryd.func21, Tryd.ntmps21
  go_wp2_with fail
  go_ret2
  exact ⟨rfl, rfl⟩
set_option maxRecDepth 100000 in
set_option maxHeartbeats 2000000 in
theorem pairs_c (aa ab : Option Addr) (ca cb : Nat) (a b : List ByteArray) (w : World) (ha : Sl w aa (a.map Value.string)) (hb : Sl w ab (b.map Value.string)) (hla : a.length ≤ 10000000) (hlb : b.length ≤ 10000000) (hw : a.length * b.length ≤ 1048576) :
    Calls Tryd.prog 21 #[.slice aa a.length ca, .slice ab b.length cb] w fun e w' => ∃ v, e = .returned (.tuple #[v, .int .i64 0]) ∧
      w'.ownsRow w.heap.size 79 2 v (ScoreS.P 0 0 a b).length (prow (ScoreS.P 0 0 a b)) ∧ Below w.heap.size w w' := by
  have hN : (a.length + 1) * (b.length + 1) ≤ 100000000 := by rw [Nat.add_mul, Nat.mul_add]; omega
  have HF := Lib.hid (fill_c aa ab ca cb a b w ha hb hN)
  by_cases h0 : b.length = 0
  · obtain rfl := List.eq_nil_of_length_eq_zero h0
    have e1 : ScoreS.P 0 0 a [] = [] := by cases a <;> simp [ScoreS.P]
    rw [e1]
    clear hw hN
    go_enter Tryd.func21, Tryd.ntmps21
    go_wp2_with fail
    refine HF.out.mono ?_
    rintro e w2 ⟨t, g, f, rfl, hT, -, hb2⟩
    go_wp2_with fail
    go_loopw [7, 8, 9] (fun v i k wr => v = .slice none 0 0 ∧ i = .int .i64 0 ∧ k = .int .i64 0 ∧ Below w.heap.size w wr) (fun _ _ _ _ => 0)
    case atStart => exact ⟨rfl, rfl, rfl, hb2⟩
    case round =>
      obtain ⟨rfl, rfl, rfl, hbw⟩ := hrel
      rcases Nat.eq_zero_or_pos a.length with h1 | h1
      · rw [h1]
        go_wp2_with fail
        go_ret2
        exact ⟨_, rfl, World.ownsRow_nil _ _ _ _, hbw⟩
      · have h2 : (0 : Int) < a.length := by omega
        go_wp2_with fail
        go_ret2
        exact ⟨_, rfl, World.ownsRow_nil _ _ _ _, hbw⟩
  · obtain ⟨q, hqe⟩ : ∃ q, q = 1048576 / b.length := ⟨_, rfl⟩
    have hq0 : q ≤ 1048576 := by rw [hqe]; exact Nat.div_le_self _ _
    have hlb0 : (0 : Int) < b.length := by omega
    have hqi : ¬ (1048576 : Int) / (b.length : Int) < a.length := by
      rw [show (1048576 : Int) / (b.length : Int) = (q : Int) by rw [hqe]; rfl, hqe]
      intro h
      have := (work_iff (m := a.length) (n := b.length) (by omega)).1 (by omega)
      omega
    have hw1 : IntKind.i64.wrap ((1048576 : Int) / (b.length : Int)) = (q : Int) := by
      rw [show (1048576 : Int) / (b.length : Int) = (q : Int) by rw [hqe]; rfl]; exact IntWalk.i64_in _ (by omega)
    have hbn : ¬ (b.length : Int) = 0 := by omega
    clear hw hqe h0
    go_enter Tryd.func21, Tryd.ntmps21
    go_wp2_with fail
    refine HF.out.mono ?_
    rintro e w2 ⟨t, g, f, rfl, hT, HD, hb2⟩
    clear HF hqi hw1 hbn
    go_wp2_with fail
    have hc0 := hT.c0
    have hc1 := hT.c1
    have htl := hT.tl
    have hgl := hT.gl
    have HC : Hid (∀ j, j < (a.length + 1) * (b.length + 1) → w2.cell? ⟨g, j, none⟩ = some (.int .i64 (f j))) := fun j hj => Row_cell hT.own j hj
    have HDD := Lib.hid HD
    have HS : Hid (ScoreS.P 0 0 a b = [] ++ ScoreS.P 0 0 (a.drop 0) (b.drop 0)) := by show _ = _; simp
    clear hT HD
    go_loopw [7, 8, 9] (fun v iv kv wr => ∃ (i k : Nat) (xs : List (Nat × Nat)), i ≤ a.length ∧ k ≤ b.length ∧ iv = .int .i64 i ∧ kv = .int .i64 k ∧ wr.ownsRow w2.heap.size 79 2 v xs.length (prow xs) ∧ Hid (ScoreS.P 0 0 a b = xs ++ ScoreS.P i k (a.drop i) (b.drop k)) ∧ xs.length ≤ i ∧ Below w2.heap.size w2 wr) (fun _ iv kv _ => (a.length - (intOf iv).toNat) + (b.length - (intOf kv).toNat))
    case atStart => exact ⟨0, 0, [], by omega, by omega, rfl, rfl, World.ownsRow_nil _ _ _ _, HS, Nat.zero_le _, Below.refl _ _⟩
    case round =>
      clear HS
      obtain ⟨i, k, xs, hi, hk, rfl, rfl, hown, HP, hxl, hbr⟩ := hrel
      have hbw : Below w.heap.size w wr := hb2.trans (hbr.mono hb2.size)
      by_cases hi1 : i < a.length
      · by_cases hk1 : k < b.length
        · obtain ⟨ba, oa, rfl, hal, hac⟩ := ha.at (k := i) (by simpa using hi1)
          obtain ⟨bb, ob, rfl, hbl, hbc⟩ := hb.at (k := k) (by simpa using hk1)
          have hca : wr.cell? ⟨ba, oa + i, none⟩ = some (.string a[i]) := by rw [hbw.cell (p := ⟨ba, oa + i, none⟩) hal, hac i (by simpa using hi1), List.getElem_map]
          have hcb : wr.cell? ⟨bb, ob + k, none⟩ = some (.string b[k]) := by rw [hbw.cell (p := ⟨bb, ob + k, none⟩) hbl, hbc k (by simpa using hk1), List.getElem_map]
          clear hac hbc
          have HPA := Lib.hid (ScoreS.P_at (i := i) (k := k) hi1 hk1)
          have e1 := HDD.out (i + 1) k (by omega) (by omega) (.inl (by omega))
          have e2 := HDD.out i (k + 1) (by omega) (by omega) (by omega)
          rw [← e1, ← e2] at HPA
          have hN1 : (i + 1) * (b.length + 1) + k < (a.length + 1) * (b.length + 1) := ScoreS.place_lt (by omega) (by omega)
          have hN2 : i * (b.length + 1) + (k + 1) < (a.length + 1) * (b.length + 1) := ScoreS.place_lt (by omega) (by omega)
          have hx1 : wr.cell? ⟨g, (i + 1) * (b.length + 1) + k, none⟩ = some (.int .i64 (f ((i + 1) * (b.length + 1) + k))) := by rw [hbr.cell (p := ⟨g, _, none⟩) hgl]; exact HC.out _ hN1
          have hx2 : wr.cell? ⟨g, i * (b.length + 1) + (k + 1), none⟩ = some (.int .i64 (f (i * (b.length + 1) + (k + 1)))) := by rw [hbr.cell (p := ⟨g, _, none⟩) hgl]; exact HC.out _ hN2
          have hd0 : wr.cell? ⟨t, 0, none⟩ = some (.slice (some ⟨g, 0, none⟩) ((a.length + 1) * (b.length + 1)) ((a.length + 1) * (b.length + 1))) := by rw [hbr.cell (p := ⟨t, 0, none⟩) htl]; exact hc0
          have hd1 : wr.cell? ⟨t, 1, none⟩ = some (.int .i64 ((b.length + 1 : Nat) : Int)) := by rw [hbr.cell (p := ⟨t, 1, none⟩) htl]; exact hc1
          have HQ1 := Lib.hid (fun q x => at_q hd0 hd1 (i + 1) k _ ((i : Int) + 1) k (by omega) rfl rfl hN1 hN q x)
          have HQ2 := Lib.hid (fun q x => at_q hd0 hd1 i (k + 1) _ i ((k : Int) + 1) rfl (by omega) rfl hN2 hN q x)
          clear e1 e2 hd0 hd1
          generalize f ((i + 1) * (b.length + 1) + k) = x1 at *
          generalize f (i * (b.length + 1) + (k + 1)) = x2 at *
          generalize (i + 1) * (b.length + 1) + k = p1 at *
          generalize i * (b.length + 1) + (k + 1) = p2 at *
          generalize a[i] = x at *
          generalize b[k] = y at *
          have hii : (0 : Int) ≤ i := by omega
          have hii1 : (i : Int) < a.length := by omega
          have hkk : (0 : Int) ≤ k := by omega
          have hkk1 : (k : Int) < b.length := by omega
          have hwi : IntKind.i64.wrap ((i : Int) + 1) = (i : Int) + 1 := IntWalk.i64_in _ (by omega)
          have hwk : IntKind.i64.wrap ((k : Int) + 1) = (k : Int) + 1 := IntWalk.i64_in _ (by omega)
          by_cases hxy : x = y
          · have d1 : (x.toList == y.toList) = true := by rw [hxy]; simp
            have HN : Hid (ScoreS.P 0 0 a b = (xs ++ [(i, k)]) ++ ScoreS.P (i + 1) (k + 1) (a.drop (i + 1)) (b.drop (k + 1))) := by
              show _ = _
              rw [HP.out, HPA.out, if_pos hxy, List.append_assoc]; rfl
            clear HP HPA hxy HQ1 HQ2 HDD
            go_wp2_with fail
            go_quiet (fail)
            go_wp2_with (at_builtin; (refine wp_appN (news := [.int .i64 i, .int .i64 k]) rfl _ _ _ rfl pairElem rfl (by decide) rfl (own_dN hown _) rfl rfl (by simp [Value.oneCell']) (by omega) (by simp [maxLen]; omega) hbr.size ?_))
            intro v' w' hown' _ hb'
            go_wp2_with fail
            go_roundw
            case rel => exact ⟨i + 1, k + 1, xs ++ [(i, k)], by omega, by omega, by go_num, by go_num, by rw [prow_snoc, List.length_append]; exact hown', HN, by simp; omega, (below_dN hbr _).trans hb'⟩
            case measure => simp [intOf]; omega
          · have d1 : (x.toList == y.toList) = false := by
              rw [beq_eq_false_iff_ne, Lib.toList_data, Lib.toList_data]; intro h; exact hxy (ScoreS.ba_ext h)
            rw [if_neg hxy] at HPA
            by_cases hle : x2 ≤ x1
            · have HN : Hid (ScoreS.P 0 0 a b = xs ++ ScoreS.P (i + 1) k (a.drop (i + 1)) (b.drop k)) := by
                show _ = _
                rw [HP.out, HPA.out, if_pos hle]
              have hle2 : (x2 : Int) ≤ x1 := by omega
              clear HP HPA hxy HDD
              go_wp2_with fail
              go_quiet (fail)
              go_wp2_with fail
              refine wp_region_quiet_lit (by kernel_rfl) (by kernel_rfl) ?_
              iterate 4 quiet_step (fail)
              quiet_step (exact HQ1.out _ _)
              iterate 6 quiet_step (fail)
              quiet_step (exact HQ2.out _ _)
              iterate 4 quiet_step (fail)
              refine wpQuiet_nil ?_
              rintro _ ⟨nq2, rfl⟩
              go_wp2_with fail
              go_roundw
              case rel => exact ⟨i + 1, k, xs, by omega, by omega, by go_num, rfl, hown, HN, by omega, below_dN hbr _⟩
              case measure => simp [intOf]; omega
            · have HN : Hid (ScoreS.P 0 0 a b = xs ++ ScoreS.P i (k + 1) (a.drop i) (b.drop (k + 1))) := by
                show _ = _
                rw [HP.out, HPA.out, if_neg hle]
              have hle2 : ¬ (x2 : Int) ≤ x1 := by omega
              clear HP HPA hxy HDD
              go_wp2_with fail
              go_quiet (fail)
              go_wp2_with fail
              refine wp_region_quiet_lit (by kernel_rfl) (by kernel_rfl) ?_
              iterate 4 quiet_step (fail)
              quiet_step (exact HQ1.out _ _)
              iterate 6 quiet_step (fail)
              quiet_step (exact HQ2.out _ _)
              iterate 4 quiet_step (fail)
              refine wpQuiet_nil ?_
              rintro _ ⟨nq2, rfl⟩
              go_wp2_with fail
              go_roundw
              case rel => exact ⟨i, k + 1, xs, by omega, by omega, rfl, by go_num, hown, HN, by omega, below_dN hbr _⟩
              case measure => simp [intOf]; omega
        · have HE : Hid (ScoreS.P 0 0 a b = xs) := by
            show _ = _
            rw [HP.out, show k = b.length by omega, List.drop_length]
            cases a.drop i <;> simp [ScoreS.P]
          have hx1 : (i : Int) < a.length := by omega
          have hx2 : ¬ (k : Int) < b.length := by omega
          go_wp2_with fail
          go_ret2
          exact ⟨_, rfl, by rw [HE.out]; exact own_base hown hb2.size, hbw⟩
      · have HE : Hid (ScoreS.P 0 0 a b = xs) := by
          show _ = _
          rw [HP.out, show i = a.length by omega, List.drop_length]
          simp [ScoreS.P]
        have hx1 : ¬ (i : Int) < a.length := by omega
        go_wp2_with fail
        go_ret2
        exact ⟨_, rfl, by rw [HE.out]; exact own_base hown hb2.size, hbw⟩
end Go.Proofs.YtlnifigbnpdemaaDoor
