/- Walks: the benches' first question. -/
import Derived.Test.YtlnifigbnpdemaaDoorScoreTot
namespace Go.Proofs.YtlnifigbnpdemaaDoor
open Go Go.RowKit Go.Sort

theorem P1 : (ScoreS.P 0 0 [(⟨#[97]⟩ : ByteArray), ⟨#[98]⟩] [⟨#[97]⟩, ⟨#[99]⟩]).length = 1 := by
  rw [ScoreS.P_length]; simp [ScoreS.L]
theorem P2 : (ScoreS.P 0 0 [(⟨#[97]⟩ : ByteArray), ⟨#[98]⟩] [⟨#[97]⟩, ⟨#[98]⟩]).length = 2 := by
  rw [ScoreS.P_length]; simp [ScoreS.L]
theorem aw1 : alw [(⟨#[97]⟩ : ByteArray), ⟨#[98]⟩] [⟨#[97]⟩, ⟨#[99]⟩] = 4602678819172646912 := by
  rw [alw, P1]; decide
theorem aw2 : alw [(⟨#[97]⟩ : ByteArray), ⟨#[98]⟩] [⟨#[97]⟩, ⟨#[98]⟩] = 4607182418800017408 := by
  rw [alw, P2]; decide
theorem aw0 : alw [] [] = 9221120237041090560 := by
  rw [alw, ScoreS.P_length, ScoreS.L_nil]; decide
set_option maxRecDepth 100000 in
theorem awT : totF 0 0 [4607182418800017408, 9221120237041090561, 4611686018427387904] = some (4613937818241073152, 1) := by decide

theorem perm_two {A B : Mv} {l' : List Mv} (h : l'.Perm [A, B]) (hp : l'.Pairwise (fun x y => ¬ ordI y x < 0)) (hlt : ordI B A < 0) : l' = [B, A] := by
  have hlen := h.length_eq
  match l', hlen with
  | [p, q], _ =>
    have hm := h.mem_iff (a := p)
    simp at hm
    rcases hm with e | e
    · subst e
      have h2 := (List.perm_cons p).1 h
      have h3 := List.perm_singleton.1 h2
      injection h3 with h3
      subst h3
      rw [List.pairwise_cons] at hp
      exact absurd hlt (hp.1 q (by simp))
    · subst e
      have h2 : [p, q].Perm [p, A] := h.trans (List.Perm.swap p A [])
      have h3 := List.perm_singleton.1 ((List.perm_cons p).1 h2)
      injection h3 with h3
      rw [h3]

set_option maxRecDepth 100000 in
theorem aw_moves {l' : List Mv} (h : l'.Perm (allM [⟨⟨#[120]⟩, [⟨#[97]⟩, ⟨#[98]⟩]⟩] [⟨⟨#[121]⟩, [⟨#[97]⟩, ⟨#[99]⟩]⟩, ⟨⟨#[122]⟩, [⟨#[97]⟩, ⟨#[98]⟩]⟩] 4602678819172646912)) (hp : l'.Pairwise (fun x y => ¬ ordI y x < 0)) :
    grd [] l' = [⟨⟨#[120]⟩, ⟨#[122]⟩, 4607182418800017408⟩] := by
  have e : allM [⟨⟨#[120]⟩, [⟨#[97]⟩, ⟨#[98]⟩]⟩] [⟨⟨#[121]⟩, [⟨#[97]⟩, ⟨#[99]⟩]⟩, ⟨⟨#[122]⟩, [⟨#[97]⟩, ⟨#[98]⟩]⟩] 4602678819172646912 = [⟨⟨#[120]⟩, ⟨#[121]⟩, 4602678819172646912⟩, ⟨⟨#[120]⟩, ⟨#[122]⟩, 4607182418800017408⟩] := by
    have h1 : ¬ fkey 4602678819172646912 < fkey 4602678819172646912 := Nat.lt_irrefl _
    have h2 : ¬ fkey 4607182418800017408 < fkey 4602678819172646912 := by decide
    simp only [allM, mvRow, List.flatMap_cons, List.flatMap_nil, mv1, aw1, aw2, if_neg h1, if_neg h2, List.append_nil, List.cons_append, List.nil_append]
  rw [e] at h
  have hl := perm_two h hp (ordI_lt.2 (.inl (by decide)))
  rw [hl]
  simp [grd, used]

theorem sl_alloc (w : World) (cs : List Value) (e : TypeId) : Sl (w.alloc (.cells cs.toArray e)) (some ⟨w.heap.size, 0, none⟩) cs := by
  refine .inr ⟨_, _, rfl, by simp, fun i u hu => ?_⟩
  rw [World.cell?_alloc_at _ _ _ _ rfl]
  simpa using hu

theorem two_sl {w : World} {b : Nat} {x y : ByteArray} (hb : b < w.heap.size) (h0 : w.cell? ⟨b, 0, none⟩ = some (.string x)) (h1 : w.cell? ⟨b, 1, none⟩ = some (.string y)) : Sl w (some ⟨b, 0, none⟩) ([x, y].map Value.string) := by
  refine .inr ⟨_, _, rfl, hb, fun i u hu => ?_⟩
  match i, hu with
  | 0, hu => simp at hu; subst hu; exact h0
  | 1, hu => simp at hu; subst hu; exact h1

set_option maxRecDepth 100000 in
set_option maxHeartbeats 4000000 in
theorem awake_c (w : World) (hg : Gl w) : Calls Tryd.prog 8 #[] w fun e w' => e = .returned (.bool true) ∧ RowKit.Below w.heap.size w w' := by
  go_enter Tryd.func8, Tryd.ntmps8
  go_wp2_with fail
  have hz1 : (w.alloc (.cells #[.string ⟨#[97]⟩, .string ⟨#[98]⟩] 9)).heap.size = w.heap.size + 1 := by simp
  have k1 := sl_alloc w [.string ⟨#[97]⟩, .string ⟨#[98]⟩] 9
  have k2 := sl_alloc (w.alloc (.cells #[.string ⟨#[97]⟩, .string ⟨#[98]⟩] 9)) [.string ⟨#[97]⟩, .string ⟨#[99]⟩] 9
  rw [hz1] at k2
  have k1' := k1.below ((RowKit.Below.refl (w.alloc (.cells #[.string ⟨#[97]⟩, .string ⟨#[98]⟩] 9)).heap.size _).alloc (Nat.le_refl _) (.cells #[.string ⟨#[97]⟩, .string ⟨#[99]⟩] 9))
  have hbA : RowKit.Below w.heap.size w ((w.alloc (.cells #[.string ⟨#[97]⟩, .string ⟨#[98]⟩] 9)).alloc (.cells #[.string ⟨#[97]⟩, .string ⟨#[99]⟩] 9)) := ((RowKit.Below.refl _ w).alloc (Nat.le_refl _) _).alloc (by simp) _
  refine (alike_c _ _ 2 2 [⟨#[97]⟩, ⟨#[98]⟩] [⟨#[97]⟩, ⟨#[99]⟩] _ k1' k2 (by simp) (by simp)).mono ?_
  rw [if_pos (by decide), aw1]
  rintro e w1 ⟨rfl, hb1⟩
  have hbw1 := hbA.trans (hb1.mono hbA.size)
  clear k1 k2 k1' hbA hb1 hz1
  go_wp2_with fail
  refine (alike_c none none 0 0 [] [] w1 (Sl.nil _ _) (Sl.nil _ _) (by simp) (by simp)).mono ?_
  rw [if_pos (by decide), aw0]
  rintro e w2 ⟨rfl, hb2⟩
  have hbw2 := hbw1.trans (hb2.mono hbw1.size)
  clear hb2 hbw1
  go_wp2_with fail
  generalize hW : (((((w2.alloc (.cells #[.string ⟨#[97]⟩, .string ⟨#[98]⟩] 9)).alloc (.cells #[.string ⟨#[120]⟩, .slice (some ⟨w2.heap.size, 0, none⟩) 2 2] 48)).alloc (.cells #[.string ⟨#[97]⟩, .string ⟨#[99]⟩] 9)).alloc (.cells #[.string ⟨#[97]⟩, .string ⟨#[98]⟩] 9)).alloc (.cells #[.string ⟨#[121]⟩, .slice (some ⟨w2.heap.size + 1 + 1, 0, none⟩) 2 2, .string ⟨#[122]⟩, .slice (some ⟨w2.heap.size + 1 + 1 + 1, 0, none⟩) 2 2] 48)) = W
  have hsz : W.heap.size = w2.heap.size + 5 := by rw [← hW]; simp
  have hbW : RowKit.Below w.heap.size w W := by
    rw [← hW]
    have h0 := hbw2.size
    exact ((((hbw2.alloc h0 _).alloc (by simp; omega) _).alloc (by simp; omega) _).alloc (by simp; omega) _).alloc (by simp; omega) _
  have a0 : W.cell? ⟨w2.heap.size, 0, none⟩ = some (.string ⟨#[97]⟩) := by
    rw [← hW]; simp (disch := first | omega | (simp; done) | (simp; omega)) only [World.cell?_alloc_at, World.cell?_alloc_past]; rfl
  have a1 : W.cell? ⟨w2.heap.size, 1, none⟩ = some (.string ⟨#[98]⟩) := by
    rw [← hW]; simp (disch := first | omega | (simp; done) | (simp; omega)) only [World.cell?_alloc_at, World.cell?_alloc_past]; rfl
  have g0 : W.cell? ⟨w2.heap.size + 1, 0, none⟩ = some (.string ⟨#[120]⟩) := by
    rw [← hW]; simp (disch := first | omega | (simp; done) | (simp; omega)) only [World.cell?_alloc_at, World.cell?_alloc_past]; rfl
  have g1 : W.cell? ⟨w2.heap.size + 1, 1, none⟩ = some (.slice (some ⟨w2.heap.size, 0, none⟩) 2 2) := by
    rw [← hW]; simp (disch := first | omega | (simp; done) | (simp; omega)) only [World.cell?_alloc_at, World.cell?_alloc_past]; rfl
  have b0 : W.cell? ⟨w2.heap.size + 1 + 1, 0, none⟩ = some (.string ⟨#[97]⟩) := by
    rw [← hW]; simp (disch := first | omega | (simp; done) | (simp; omega)) only [World.cell?_alloc_at, World.cell?_alloc_past]; rfl
  have b1 : W.cell? ⟨w2.heap.size + 1 + 1, 1, none⟩ = some (.string ⟨#[99]⟩) := by
    rw [← hW]; simp (disch := first | omega | (simp; done) | (simp; omega)) only [World.cell?_alloc_at, World.cell?_alloc_past]; rfl
  have d0 : W.cell? ⟨w2.heap.size + 1 + 1 + 1, 0, none⟩ = some (.string ⟨#[97]⟩) := by
    rw [← hW]; simp (disch := first | omega | (simp; done) | (simp; omega)) only [World.cell?_alloc_at, World.cell?_alloc_past]; rfl
  have d1 : W.cell? ⟨w2.heap.size + 1 + 1 + 1, 1, none⟩ = some (.string ⟨#[98]⟩) := by
    rw [← hW]; simp (disch := first | omega | (simp; done) | (simp; omega)) only [World.cell?_alloc_at, World.cell?_alloc_past]; rfl
  have e0 : W.cell? ⟨w2.heap.size + 1 + 1 + 1 + 1, 0, none⟩ = some (.string ⟨#[121]⟩) := by
    rw [← hW]; simp (disch := first | omega | (simp; done) | (simp; omega)) only [World.cell?_alloc_at]; rfl
  have e1 : W.cell? ⟨w2.heap.size + 1 + 1 + 1 + 1, 1, none⟩ = some (.slice (some ⟨w2.heap.size + 1 + 1, 0, none⟩) 2 2) := by
    rw [← hW]; simp (disch := first | omega | (simp; done) | (simp; omega)) only [World.cell?_alloc_at]; rfl
  have e2 : W.cell? ⟨w2.heap.size + 1 + 1 + 1 + 1, 2, none⟩ = some (.string ⟨#[122]⟩) := by
    rw [← hW]; simp (disch := first | omega | (simp; done) | (simp; omega)) only [World.cell?_alloc_at]; rfl
  have e3 : W.cell? ⟨w2.heap.size + 1 + 1 + 1 + 1, 3, none⟩ = some (.slice (some ⟨w2.heap.size + 1 + 1 + 1, 0, none⟩) 2 2) := by
    rw [← hW]; simp (disch := first | omega | (simp; done) | (simp; omega)) only [World.cell?_alloc_at]; rfl
  have sA : Sl W (some ⟨w2.heap.size, 0, none⟩) ([(⟨#[97]⟩ : ByteArray), ⟨#[98]⟩].map Value.string) := two_sl (by omega) a0 a1
  have sB : Sl W (some ⟨w2.heap.size + 1 + 1, 0, none⟩) ([(⟨#[97]⟩ : ByteArray), ⟨#[99]⟩].map Value.string) := two_sl (by omega) b0 b1
  have sD : Sl W (some ⟨w2.heap.size + 1 + 1 + 1, 0, none⟩) ([(⟨#[97]⟩ : ByteArray), ⟨#[98]⟩].map Value.string) := two_sl (by omega) d0 d1
  have tG : TxS W (some ⟨w2.heap.size + 1, 0, none⟩) [⟨⟨#[120]⟩, [⟨#[97]⟩, ⟨#[98]⟩]⟩] := by
    refine .inr ⟨_, _, rfl, by omega, fun i hi => ?_⟩
    match i, hi with
    | 0, _ => exact ⟨g0, _, _, g1, sA⟩
  have tC : TxS W (some ⟨w2.heap.size + 1 + 1 + 1 + 1, 0, none⟩) [⟨⟨#[121]⟩, [⟨#[97]⟩, ⟨#[99]⟩]⟩, ⟨⟨#[122]⟩, [⟨#[97]⟩, ⟨#[98]⟩]⟩] := by
    refine .inr ⟨_, _, rfl, by omega, fun i hi => ?_⟩
    match i, hi with
    | 0, _ => exact ⟨e0, _, _, e1, sB⟩
    | 1, _ => exact ⟨e2, _, _, e3, sD⟩
  have HM := moves_c stableTo20 _ _ 1 2 _ _ 4602678819172646912 W (hg.below hbW (Nat.le_refl _)) tG tC (by simp) (by simp) (by intro t ht; simp only [List.mem_cons, List.not_mem_nil, or_false] at ht; subst ht; exact ⟨by show 1 ≤ 10000000; omega, by show 2 ≤ 1000; omega⟩) (by intro t ht; simp only [List.mem_cons, List.not_mem_nil, or_false] at ht; rcases ht with rfl | rfl; exact ⟨by show 1 ≤ 10000000; omega, by show 2 ≤ 1000; omega⟩; exact ⟨by show 1 ≤ 10000000; omega, by show 2 ≤ 1000; omega⟩) (by decide) (Nat.lt_of_le_of_lt (allM_le _ _ _) (by simp))
  clear a0 a1 g0 g1 b0 b1 d0 d1 e0 e1 e2 e3 sA sB sD tG tC hW
  refine HM.mono ?_
  rintro e w3 ⟨v, rfl, l', hpm, hpw, hown, hb3⟩
  rw [aw_moves hpm hpw] at hown
  have hbw3 := hbW.trans (hb3.mono hbW.size)
  obtain ⟨a5, c5, rfl⟩ := own_shape hown
  obtain ⟨g5, f0, f1, f2⟩ : ∃ g, a5 = some ⟨g, 0, none⟩ ∧ (w3.cell? ⟨g, 1, none⟩ = some (.string ⟨#[122]⟩)) ∧ w3.cell? ⟨g, 2, none⟩ = some (.float .f64 4607182418800017408) := by
    rcases hown.2 with ⟨_, h2⟩ | ⟨g, cap, cur, h1, _⟩
    · cases h2
    · injection h1 with h1 _ _
      subst h1
      exact ⟨g, rfl, (hown.cellAt 1 (by decide)).trans rfl, (hown.cellAt 2 (by decide)).trans rfl⟩
  subst f0
  have hgl5 : g5 < w3.heap.size := (hown.lt g5 rfl).2
  clear hpm hpw hown HM hsz hb3 hbW hbw2
  have q1 : (FloatKind.f64.format.order 4602678819172646912 4602678819172646912 == some .eq) = true := by decide
  have q2 : (FloatKind.f64.format.order 9221120237041090560 9221120237041090560 != some .eq) = true := by decide
  have q3 : (FloatKind.f64.format.order 4607182418800017408 4607182418800017408 == some .eq) = true := by decide
  have q4 : (FloatKind.f64.format.order 4613937818241073152 4613937818241073152 == some .eq) = true := by decide
  go_wp2_with fail
  refine (nan_c w3).mono ?_
  rintro e w4 ⟨rfl, rfl⟩
  go_wp2_with fail
  refine (total_c _ 3 [4607182418800017408, 9221120237041090561, 4611686018427387904] _ 4613937818241073152 1 (sl_alloc w4 _ 24) (by simp) awT).mono ?_
  rw [show cn 4613937818241073152 = 4613937818241073152 by decide]
  rintro e w5 ⟨rfl, rfl⟩
  have f1' : (w4.alloc (.cells #[.float .f64 4607182418800017408, .float .f64 9221120237041090561, .float .f64 4611686018427387904] 24)).cell? ⟨g5, 1, none⟩ = some (.string ⟨#[122]⟩) := by rw [World.cell?_alloc_past _ _ _ hgl5]; exact f1
  have f2' : (w4.alloc (.cells #[.float .f64 4607182418800017408, .float .f64 9221120237041090561, .float .f64 4611686018427387904] 24)).cell? ⟨g5, 2, none⟩ = some (.float .f64 4607182418800017408) := by rw [World.cell?_alloc_past _ _ _ hgl5]; exact f2
  go_wp2_with fail
  go_ret
  exact ⟨rfl, hbw3.alloc hbw3.size _⟩

set_option maxRecDepth 100000 in
theorem bitsq_c (x y : Nat) (w : World) : Calls Tryd.prog 11 #[.float .f64 x, .float .f64 y] w fun e w' => e = .returned (.bool (decide (x = y))) ∧ w' = w := by
  have hx := run_bits x
  have hy := run_bits y
  by_cases h : x = y
  · have h1 : ((x : Int) == (y : Int)) = true := by rw [h]; simp
    have HV : Hid (decide (x = y) = true) := by show _ = _; simp [h]
    clear h
    go_enter Tryd.func11, Tryd.ntmps11
    go_wp2_with fail
    go_ret
    exact ⟨ret_bool HV.out, rfl⟩
  · have h1 : ((x : Int) == (y : Int)) = false := by simp; omega
    have HV : Hid (decide (x = y) = false) := by show _ = _; simp [h]
    clear h
    go_enter Tryd.func11, Tryd.ntmps11
    go_wp2_with fail
    go_ret
    exact ⟨ret_bool HV.out, rfl⟩

set_option maxRecDepth 100000 in
set_option maxHeartbeats 2000000 in
theorem lawAlike_c (aa ab : Option Addr) (ca cb : Nat) (a b : List ByteArray) (w : World) (hg : Gl w) (ha : Sl w aa (a.map Value.string)) (hb : Sl w ab (b.map Value.string)) (hla : a.length ≤ 10000000) (hlb : b.length ≤ 10000000) :
    Calls Tryd.prog 3 #[.slice aa a.length ca, .slice ab b.length cb] w fun e w' => e = .returned (.bool true) ∧ RowKit.Below w.heap.size w w' := by
  go_enter Tryd.func3, Tryd.ntmps3
  go_wp2_with fail
  refine (awake_c w hg).mono ?_
  rintro e w1 ⟨rfl, b1⟩
  go_wp2_with fail
  have H1 := alike_c aa ab ca cb a b w1 (ha.below b1) (hb.below b1) hla hlb
  by_cases hw : a.length * b.length ≤ 1048576
  · rw [if_pos hw] at H1
    refine H1.mono ?_
    rintro e w2 ⟨rfl, b2⟩
    have b12 := b1.trans (b2.mono b1.size)
    have H2 := ref_alike_c aa ab ca cb a b w2 (ha.below b12) (hb.below b12) hla hlb
    rw [if_pos hw] at H2
    clear H1 hw
    generalize alw a b = s at *
    go_wp2_with fail
    refine H2.mono ?_
    rintro e w3 ⟨rfl, b3⟩
    have b13 := b12.trans (b3.mono b12.size)
    go_wp2_with fail
    refine (bitsq_c s s w3).mono ?_
    rw [decide_eq_true rfl]
    rintro e w4 ⟨rfl, rfl⟩
    go_wp2_with fail
    go_ret
    exact ⟨rfl, b13⟩
  · rw [if_neg hw] at H1
    refine H1.mono ?_
    rintro e w2 ⟨rfl, b2⟩
    have b12 := b1.trans (b2.mono b1.size)
    have H2 := ref_alike_c aa ab ca cb a b w2 (ha.below b12) (hb.below b12) hla hlb
    rw [if_neg hw] at H2
    clear H1 hw
    go_wp2_with fail
    refine H2.mono ?_
    rintro e w3 ⟨rfl, b3⟩
    have b13 := b12.trans (b3.mono b12.size)
    go_wp2_with fail
    refine (bitsq_c 0 0 w3).mono ?_
    rw [decide_eq_true rfl]
    rintro e w4 ⟨rfl, rfl⟩
    go_wp2_with fail
    go_ret
    exact ⟨rfl, b13⟩
end Go.Proofs.YtlnifigbnpdemaaDoor
