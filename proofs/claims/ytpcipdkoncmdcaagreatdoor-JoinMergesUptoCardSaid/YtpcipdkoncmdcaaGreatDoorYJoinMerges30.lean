/- Texts of mine, joined: The document's outcome in a block of one's own; walks: the document's one form of a number, the merged time. | Walk: bytes cloned. An append of nothing; of every program. | Walks of the document's weaving: a place that is paired; lines closed. -/
import Derived.Test.YtpcipdkoncmdcaaGreatDoorRows
import Derived.Deep.Cut
import Derived.BigQuiet
import Derived.Deep.QuietTactic
import Derived.Lib.SliceRun
import Derived.Test.YtpcipdkoncmdcaaGreatDoorYJoinMerges29
namespace Go.Proofs.YtpcipdkoncmdcaaGreatDoor
open Go Go.RowKit
/-- The block q is the document's outcome. -/
structure DO (w : World) (q : Nat) (o : Ou) : Prop where
  blk : Bk w q 48 (doC o)
  ok : OkOu o
section
variable {w w' : World} {q : Nat} {o : Ou}
theorem DO.lt (h : DO w q o) : q < w.heap.size := h.blk.lt
theorem DO.below (h : DO w q o) (hb : Below w.heap.size w w') : DO w' q o := ⟨h.blk.below hb, h.ok⟩
theorem DO.kept {r : Option Nat} (h : DO w q o) (hg : w.grownBy w' r) (hne : some q ≠ r) : DO w' q o := ⟨h.blk.kept hg hne, h.ok⟩
theorem DO.hg (h : DO w q o) {i : Nat} (hi : i < 3) : w.cell? ⟨q, 36 + i, none⟩ = some (.bool (o.has.get i)) := by
  refine h.blk.cell ?_
  unfold doC
  rw [show 36 + i = (34 + i) + 1 + 1 by omega, List.getElem?_cons_succ, List.getElem?_cons_succ, List.getElem?_append_right (by rw [nb_len, h.ok.id.1]; omega), nb_len, h.ok.id.1, show 34 + i - 32 = i + 1 + 1 by omega, List.getElem?_cons_succ, List.getElem?_cons_succ]
  rcases i with _ | _ | _ | i
  · rfl
  · rfl
  · rfl
  · omega
theorem DO.ig (h : DO w q o) {i : Nat} (hi : i < 3) : w.rangeAt q (39 + i * 32) (nb (o.ids.get i)) := by
  rcases i with _ | _ | _ | i
  · exact h.blk.range (A := .string o.path :: .int .i64 o.kind :: (nb o.id ++ [.float .f64 o.stamp, .string o.text, .bool o.has.a, .bool o.has.b, .bool o.has.c])) (C := nb o.ids.b ++ nb o.ids.c) (by simp [doC, T3.get]) (by simp [nb_len, h.ok.id.1])
  · exact h.blk.range (A := .string o.path :: .int .i64 o.kind :: (nb o.id ++ (.float .f64 o.stamp :: .string o.text :: .bool o.has.a :: .bool o.has.b :: .bool o.has.c :: nb o.ids.a))) (C := nb o.ids.c) (by simp [doC, T3.get]) (by simp [nb_len, h.ok.id.1, h.ok.ia.1])
  · exact h.blk.range (A := .string o.path :: .int .i64 o.kind :: (nb o.id ++ (.float .f64 o.stamp :: .string o.text :: .bool o.has.a :: .bool o.has.b :: .bool o.has.c :: (nb o.ids.a ++ nb o.ids.b)))) (C := []) (by simp [doC, T3.get]) (by simp [nb_len, h.ok.id.1, h.ok.ia.1, h.ok.ib.1])
  · omega
theorem OkOu.ig (h : OkOu o) {i : Nat} (hi : i < 3) : OkId (o.ids.get i) := by
  rcases i with _ | _ | _ | i
  · exact h.ia
  · exact h.ib
  · exact h.ic
  · omega
theorem DO.b3 (h : DO w q o) : w.rangeAt q 36 [.bool o.has.a, .bool o.has.b, .bool o.has.c] := by
  intro j v hv
  rcases j with _ | _ | _ | j
  · cases hv; exact h.hg (i := 0) (by decide)
  · cases hv; exact h.hg (i := 1) (by decide)
  · cases hv; exact h.hg (i := 2) (by decide)
  · simp at hv
theorem DO.kind (h : DO w q o) {k : Nat} (hk : k ≤ 4) : DO (w.setCell ⟨q, 1, none⟩ (.int .i64 k)) q { o with kind := k } ∧ w.grownBy (w.setCell ⟨q, 1, none⟩ (.int .i64 k)) (some q) := by
  obtain ⟨h1, h2⟩ := h.blk.put1 1 (.int .i64 k)
  exact ⟨⟨h1, ⟨h.ok.id, h.ok.ia, h.ok.ib, h.ok.ic, hk, h.ok.st, h.ok.pz⟩⟩, h2⟩
theorem DO.stamp (h : DO w q o) {x : Nat} (hx : x < 2 ^ 64) : DO (w.setCell ⟨q, 34, none⟩ (.float .f64 x)) q { o with stamp := x } ∧ w.grownBy (w.setCell ⟨q, 34, none⟩ (.float .f64 x)) (some q) := by
  obtain ⟨h1, h2⟩ := h.blk.put1 34 (.float .f64 x)
  refine ⟨⟨?_, ⟨h.ok.id, h.ok.ia, h.ok.ib, h.ok.ic, h.ok.kd, hx, h.ok.pz⟩⟩, h2⟩
  have e : (doC o).set 34 (.float .f64 x) = doC { o with stamp := x } := by
    unfold doC
    rw [show (34 : Nat) = 33 + 1 from rfl, List.set_cons_succ, show (33 : Nat) = 32 + 1 from rfl, List.set_cons_succ, show (32 : Nat) = 32 + 0 from rfl, set_app (by rw [nb_len, h.ok.id.1])]; rfl
  rw [e] at h1; exact h1
theorem DO.text (h : DO w q o) (t : ByteArray) : DO (w.setCell ⟨q, 35, none⟩ (.string t)) q { o with text := t } ∧ w.grownBy (w.setCell ⟨q, 35, none⟩ (.string t)) (some q) := by
  obtain ⟨h1, h2⟩ := h.blk.put1 35 (.string t)
  refine ⟨⟨?_, ⟨h.ok.id, h.ok.ia, h.ok.ib, h.ok.ic, h.ok.kd, h.ok.st, h.ok.pz⟩⟩, h2⟩
  have e : (doC o).set 35 (.string t) = doC { o with text := t } := by
    unfold doC
    rw [show (35 : Nat) = 34 + 1 from rfl, List.set_cons_succ, show (34 : Nat) = 33 + 1 from rfl, List.set_cons_succ, show (33 : Nat) = 32 + 1 from rfl, set_app (by rw [nb_len, h.ok.id.1])]; rfl
  rw [e] at h1; exact h1
theorem DO.idput (h : DO w q o) {x : List Nat} (hx : OkId x) : DO (w.setCells q 2 (nb x)) q { o with id := x } ∧ w.grownBy (w.setCells q 2 (nb x)) (some q) := by
  obtain ⟨h1, h2⟩ := h.blk.put (A := [.string o.path, .int .i64 o.kind]) (B := nb o.id) (n := 2) rfl rfl (B' := nb x) (by rw [nb_len, nb_len, hx.1, h.ok.id.1])
  exact ⟨⟨h1, ⟨hx, h.ok.ia, h.ok.ib, h.ok.ic, h.ok.kd, h.ok.st, h.ok.pz⟩⟩, h2⟩
theorem DO.hasput (h : DO w q o) {i : Nat} (hi : i < 3) (b : Bool) : DO (w.setCell ⟨q, 36 + i, none⟩ (.bool b)) q { o with has := o.has.set i b } ∧ w.grownBy (w.setCell ⟨q, 36 + i, none⟩ (.bool b)) (some q) := by
  obtain ⟨h1, h2⟩ := h.blk.put1 (36 + i) (.bool b)
  refine ⟨⟨?_, ⟨h.ok.id, h.ok.ia, h.ok.ib, h.ok.ic, h.ok.kd, h.ok.st, h.ok.pz⟩⟩, h2⟩
  have e : (doC o).set (36 + i) (.bool b) = doC { o with has := o.has.set i b } := by
    unfold doC
    rw [show 36 + i = (35 + i) + 1 by omega, List.set_cons_succ, show 35 + i = (34 + i) + 1 by omega, List.set_cons_succ, show 34 + i = 32 + (2 + i) by omega, set_app (by rw [nb_len, h.ok.id.1])]
    rcases i with _ | _ | _ | i
    · rfl
    · rfl
    · rfl
    · omega
  rw [e] at h1; exact h1
theorem OkOu.set_id (h : OkOu o) {i : Nat} {x : List Nat} (hx : OkId x) : OkOu { o with ids := o.ids.set i x } := by
  rcases i with _ | _ | i
  · exact ⟨h.id, hx, h.ib, h.ic, h.kd, h.st, h.pz⟩
  · exact ⟨h.id, h.ia, hx, h.ic, h.kd, h.st, h.pz⟩
  · exact ⟨h.id, h.ia, h.ib, hx, h.kd, h.st, h.pz⟩
theorem DO.idsput (h : DO w q o) {i : Nat} (hi : i < 3) {x : List Nat} (hx : OkId x) : DO (w.setCells q (39 + i * 32) (nb x)) q { o with ids := o.ids.set i x } ∧ w.grownBy (w.setCells q (39 + i * 32) (nb x)) (some q) := by
  have l0 := nb_len o.id
  have la := nb_len o.ids.a
  have lb := nb_len o.ids.b
  have lc := nb_len o.ids.c
  have lx := nb_len x
  rw [h.ok.id.1] at l0
  rw [h.ok.ia.1] at la
  rw [h.ok.ib.1] at lb
  rw [h.ok.ic.1] at lc
  rw [hx.1] at lx
  rcases i with _ | _ | _ | i
  · obtain ⟨h1, h2⟩ := h.blk.put (A := .string o.path :: .int .i64 o.kind :: (nb o.id ++ [.float .f64 o.stamp, .string o.text, .bool o.has.a, .bool o.has.b, .bool o.has.c])) (B := nb o.ids.a) (C := nb o.ids.b ++ nb o.ids.c) (n := 39) (by simp [doC]) (by simp [l0]) (B' := nb x) (by omega)
    exact ⟨⟨by simpa [doC, T3.set] using h1, h.ok.set_id (i := 0) hx⟩, h2⟩
  · obtain ⟨h1, h2⟩ := h.blk.put (A := .string o.path :: .int .i64 o.kind :: (nb o.id ++ (.float .f64 o.stamp :: .string o.text :: .bool o.has.a :: .bool o.has.b :: .bool o.has.c :: nb o.ids.a))) (B := nb o.ids.b) (C := nb o.ids.c) (n := 71) (by simp [doC]) (by simp [l0, la]) (B' := nb x) (by omega)
    exact ⟨⟨by simpa [doC, T3.set] using h1, h.ok.set_id (i := 1) hx⟩, h2⟩
  · obtain ⟨h1, h2⟩ := h.blk.put (A := .string o.path :: .int .i64 o.kind :: (nb o.id ++ (.float .f64 o.stamp :: .string o.text :: .bool o.has.a :: .bool o.has.b :: .bool o.has.c :: (nb o.ids.a ++ nb o.ids.b)))) (B := nb o.ids.c) (C := []) (n := 103) (by simp [doC]) (by simp [l0, la, lb]) (B' := nb x) (by omega)
    exact ⟨⟨by simpa [doC, T3.set] using h1, h.ok.set_id (i := 2) hx⟩, h2⟩
  · omega
end
set_option maxRecDepth 100000 in
theorem rcanon13_c (x : Nat) (w : World) : Calls Tryz.prog 58 #[.float .f64 x] w fun e w' => e = .returned (.float .f64 (cn x)) ∧ w' = w := by
  have hr := run_frombits (cn x)
  go_enter Tryz.func58, Tryz.ntmps58
  go_wp2_with fail
  refine (refbits_c x w).mono ?_
  rintro e w1 ⟨rfl, rfl⟩
  go_wp2_with fail
  go_ret
  exact ⟨rfl, rfl⟩
set_option maxRecDepth 100000 in
theorem ralike_c (x y : Nat) (w : World) : Calls Tryz.prog 35 #[.float .f64 x, .float .f64 y] w fun e w' => e = .returned (.bool (decide (cn x = cn y))) ∧ w' = w := by
  have h1 := Lib.hid (refbits_c x)
  have h2 := Lib.hid (refbits_c y)
  obtain ⟨z, hz⟩ : ∃ z, decide (cn x = cn y) = z := ⟨_, rfl⟩
  have he : ((cn x : Int) == (cn y : Int)) = z := by
    rw [← hz]
    by_cases h : cn x = cn y
    · rw [h]; simp
    · rw [decide_eq_false h, beq_eq_false_iff_ne]; omega
  have he2 : (cn x == cn y) = z := by rw [← hz]; rfl
  rw [hz]
  clear hz
  generalize cn x = a at *
  generalize cn y = b at *
  go_enter Tryz.func35, Tryz.ntmps35
  go_wp2_with (first
    | (go_at_call 20; refine (h1.out _).mono ?_; rintro _ _ ⟨rfl, rfl⟩; clear h1)
    | (go_at_call 20; refine (h2.out _).mono ?_; rintro _ _ ⟨rfl, rfl⟩; clear h2))
  go_ret
  exact ⟨rfl, rfl⟩

set_option maxRecDepth 100000 in
set_option maxHeartbeats 4000000 in
theorem rwhen_c (w : World) (has : T3 Bool) (sts : T3 Nat) (hb : sts.b < 2 ^ 64) (hc : sts.c < 2 ^ 64) :
    Calls Tryz.prog 32 #[.agg #[.bool has.a, .bool has.b, .bool has.c], .agg #[.float .f64 sts.a, .float .f64 sts.b, .float .f64 sts.c]] w fun e w' => e = .returned (.float .f64 (whenS has sts)) ∧ Below w.heap.size w w' := by
  obtain ⟨ba, bb, bc⟩ := has
  obtain ⟨sa, sb, sc⟩ := sts
  simp only at hb hc
  have HAB := Lib.hid (ralike_c sa sb)
  have HAC := Lib.hid (ralike_c sa sc)
  have HNB := Lib.hid (rcanon13_c sb)
  have HNC := Lib.hid (rcanon13_c sc)
  have HLT := Lib.hid (fun W => before_c sb sc W hb hc)
  have HWX : Hid (whenS ⟨ba, bb, bc⟩ ⟨sa, sb, sc⟩ = if bb = false then cn sc else if bc = false then cn sb else if ba = true ∧ cn sa = cn sb then cn sc else if ba = true ∧ cn sa = cn sc then cn sb else if fkey sb < fkey sc then cn sc else cn sb) := by
    show _ = _
    unfold whenS
    simp only [eq_comm (a := cn sa)]
  obtain ⟨W1, hW1⟩ : ∃ W1, (w.alloc (.cells #[.bool ba, .bool bb, .bool bc] 45 (0, 0))).alloc (.cells #[.float .f64 sa, .float .f64 sb, .float .f64 sc] 64 (0, 0)) = W1 := ⟨_, rfl⟩
  have hB0 : Below w.heap.size w (w.alloc (.cells #[.bool ba, .bool bb, .bool bc] 45 (0, 0))) := (Below.refl _ w).alloc (Nat.le_refl _) _
  have HB : Hid (Below w.heap.size w W1) := by show Below _ _ _; rw [← hW1]; exact hB0.alloc hB0.size _
  have hk1 : W1.heap[w.heap.size]? = some (.cells #[.bool ba, .bool bb, .bool bc] 45 (0, 0)) := by
    rw [← hW1]
    exact (((Below.refl _ (w.alloc (.cells #[.bool ba, .bool bb, .bool bc] 45 (0, 0)))).alloc (Nat.le_refl _) _).block _ (by simp)).trans Array.getElem?_push_size
  have hk2 : W1.heap[w.heap.size + 1]? = some (.cells #[.float .f64 sa, .float .f64 sb, .float .f64 sc] 64 (0, 0)) := by
    rw [← hW1, show w.heap.size + 1 = (w.alloc (.cells #[.bool ba, .bool bb, .bool bc] 45 (0, 0))).heap.size by simp]
    exact Array.getElem?_push_size
  have h0 : W1.cell? ⟨w.heap.size, 0, none⟩ = some (.bool ba) := by simp only [World.cell?, hk1]; rfl
  have h1 : W1.cell? ⟨w.heap.size, 1, none⟩ = some (.bool bb) := by simp only [World.cell?, hk1]; rfl
  have h2 : W1.cell? ⟨w.heap.size, 2, none⟩ = some (.bool bc) := by simp only [World.cell?, hk1]; rfl
  have g0 : W1.cell? ⟨w.heap.size + 1, 0, none⟩ = some (.float .f64 sa) := by simp only [World.cell?, hk2]; rfl
  have g1 : W1.cell? ⟨w.heap.size + 1, 1, none⟩ = some (.float .f64 sb) := by simp only [World.cell?, hk2]; rfl
  have g2 : W1.cell? ⟨w.heap.size + 1, 2, none⟩ = some (.float .f64 sc) := by simp only [World.cell?, hk2]; rfl
  have HW1 := Lib.hid hW1
  clear hW1 hB0 hk1 hk2 hb hc
  go_enter Tryz.func32, Tryz.ntmps32
  go_upto_region 1 with fail
  rw [HW1.out]
  clear HW1
  obtain ⟨R, hR⟩ : ∃ R, whenS ⟨ba, bb, bc⟩ ⟨sa, sb, sc⟩ = R := ⟨_, rfl⟩
  rw [hR] at HWX
  have HRR := Lib.hid hR
  clear hR
  obtain ⟨zb, hzb⟩ : ∃ z, decide (cn sa = cn sb) = z := ⟨_, rfl⟩
  obtain ⟨zc, hzc⟩ : ∃ z, decide (cn sa = cn sc) = z := ⟨_, rfl⟩
  obtain ⟨zl, hzl⟩ : ∃ z, decide (fkey sb < fkey sc) = z := ⟨_, rfl⟩
  have HWY : Hid (R = if bb = false then cn sc else if bc = false then cn sb else if ba = true ∧ zb = true then cn sc else if ba = true ∧ zc = true then cn sb else if zl = true then cn sc else cn sb) := by
    show _ = _
    rw [HWX.out, ← hzb, ← hzc, ← hzl]
    simp only [decide_eq_true_eq]
  rw [hzb] at HAB
  rw [hzc] at HAC
  rw [hzl] at HLT
  clear hzb hzc hzl HWX
  generalize cn sb = nb_ at *
  generalize cn sc = nc_ at *
  cases bb
  · have HR : Hid (R = nc_) := by show _ = _; rw [HWY.out, if_pos rfl]
    go_wp2_with (go_at_call 58; refine (HNC.out _).mono ?_; rintro e w2 ⟨rfl, hw⟩; obtain rfl := hw.symm; clear hw)
    go_ret
    exact ⟨by rw [HRR.out, HR.out]; rfl, HB.out⟩
  cases bc
  · have HR : Hid (R = nb_) := by show _ = _; rw [HWY.out, if_neg (by simp), if_pos rfl]
    go_wp2_with (go_at_call 58; refine (HNB.out _).mono ?_; rintro e w2 ⟨rfl, hw⟩; obtain rfl := hw.symm; clear hw)
    go_ret
    exact ⟨by rw [HRR.out, HR.out]; rfl, HB.out⟩
  cases ba
  · have HR : Hid (R = if zl = true then nc_ else nb_) := by show _ = _; rw [HWY.out, if_neg (by simp), if_neg (by simp), if_neg (by simp), if_neg (by simp)]
    clear HWY HAB HAC
    cases zl
    · go_wp2_with (first
        | (go_at_call 22; refine (HLT.out _).mono ?_; rintro e w2 ⟨rfl, hw⟩; obtain rfl := hw.symm; clear hw)
        | (go_at_call 58; refine (HNB.out _).mono ?_; rintro e w2 ⟨rfl, hw⟩; obtain rfl := hw.symm; clear hw))
      go_ret
      exact ⟨by rw [HRR.out, HR.out]; rfl, HB.out⟩
    · go_wp2_with (first
        | (go_at_call 22; refine (HLT.out _).mono ?_; rintro e w2 ⟨rfl, hw⟩; obtain rfl := hw.symm; clear hw)
        | (go_at_call 58; refine (HNC.out _).mono ?_; rintro e w2 ⟨rfl, hw⟩; obtain rfl := hw.symm; clear hw))
      go_ret
      exact ⟨by rw [HRR.out, HR.out]; rfl, HB.out⟩
  · cases zb
    · cases zc
      · have HR : Hid (R = if zl = true then nc_ else nb_) := by show _ = _; rw [HWY.out, if_neg (by simp), if_neg (by simp), if_neg (by simp), if_neg (by simp)]
        clear HWY
        cases zl
        · go_wp2_with (first
            | (go_at_call 35; refine (HAB.out _).mono ?_; rintro e w2 ⟨rfl, hw⟩; obtain rfl := hw.symm; clear hw HAB)
            | (go_at_call 35; refine (HAC.out _).mono ?_; rintro e w2 ⟨rfl, hw⟩; obtain rfl := hw.symm; clear hw HAC)
            | (go_at_call 22; refine (HLT.out _).mono ?_; rintro e w2 ⟨rfl, hw⟩; obtain rfl := hw.symm; clear hw)
            | (go_at_call 58; refine (HNB.out _).mono ?_; rintro e w2 ⟨rfl, hw⟩; obtain rfl := hw.symm; clear hw))
          go_ret
          exact ⟨by rw [HRR.out, HR.out]; rfl, HB.out⟩
        · go_wp2_with (first
            | (go_at_call 35; refine (HAB.out _).mono ?_; rintro e w2 ⟨rfl, hw⟩; obtain rfl := hw.symm; clear hw HAB)
            | (go_at_call 35; refine (HAC.out _).mono ?_; rintro e w2 ⟨rfl, hw⟩; obtain rfl := hw.symm; clear hw HAC)
            | (go_at_call 22; refine (HLT.out _).mono ?_; rintro e w2 ⟨rfl, hw⟩; obtain rfl := hw.symm; clear hw)
            | (go_at_call 58; refine (HNC.out _).mono ?_; rintro e w2 ⟨rfl, hw⟩; obtain rfl := hw.symm; clear hw))
          go_ret
          exact ⟨by rw [HRR.out, HR.out]; rfl, HB.out⟩
      · have HR : Hid (R = nb_) := by show _ = _; rw [HWY.out, if_neg (by simp), if_neg (by simp), if_neg (by simp), if_pos (by simp)]
        clear HWY
        go_wp2_with (first
          | (go_at_call 35; refine (HAB.out _).mono ?_; rintro e w2 ⟨rfl, hw⟩; obtain rfl := hw.symm; clear hw HAB)
          | (go_at_call 35; refine (HAC.out _).mono ?_; rintro e w2 ⟨rfl, hw⟩; obtain rfl := hw.symm; clear hw HAC)
          | (go_at_call 58; refine (HNB.out _).mono ?_; rintro e w2 ⟨rfl, hw⟩; obtain rfl := hw.symm; clear hw))
        go_ret
        exact ⟨by rw [HRR.out, HR.out]; rfl, HB.out⟩
    · have HR : Hid (R = nc_) := by show _ = _; rw [HWY.out, if_neg (by simp), if_neg (by simp), if_pos (by simp)]
      clear HWY
      go_wp2_with (first
        | (go_at_call 35; refine (HAB.out _).mono ?_; rintro e w2 ⟨rfl, hw⟩; obtain rfl := hw.symm; clear hw HAB)
        | (go_at_call 58; refine (HNC.out _).mono ?_; rintro e w2 ⟨rfl, hw⟩; obtain rfl := hw.symm; clear hw))
      go_ret
      exact ⟨by rw [HRR.out, HR.out]; rfl, HB.out⟩
end Go.Proofs.YtpcipdkoncmdcaaGreatDoor
namespace Go.Proofs.YtpcipdkoncmdcaaGreatDoor
open Go Go.RowKit
theorem wp_app0 {P : Program} {ops : Array Oper} {rest : List Oper} {o : Oper} {a : Act} {Q : Exit → Act → World → Prop} {w : World} (hgd : o.guard = none) (s x : Operand) (t tx : TypeId)
    (ho : o.op = .call { callee := .builtin .append, args := #[s, x], argTypes := #[t, tx] })
    {e : TypeId} {z : Value} {size bytes : Nat} (E : Elem P t e z size bytes) {ad : Addr} {xv : Value}
    (hs : a.eval s = .slice (some ad) 0 0) (hx : a.eval x = xv) (hsrc : Src P size tx xv 0 [] w)
    (h : wpList P ops Q rest (a.put o.dst (.slice (some ad) 0 0)) w) : wpList P ops Q (o :: rest) a w := by
  refine wpList_plain hgd fun K hK => ?_
  obtain ⟨i, hi, g1, g2, g3⟩ := info_parts E.info
  subst g2
  have hr := run_append_nothing (P := P) w t tx o.type e i E.under hi (some ad) 0 0 (Nat.le_refl _) xv hsrc
  unfold Oper.wp execOp
  simp only [ho, resolve, invoke, builtin, Sem.run_bind, Sem.run_pure, Result.andThen_ok, List.map_toArray, List.map_cons, List.map_nil, hs, hx, hr]
  exact hK _ _ h
end Go.Proofs.YtpcipdkoncmdcaaGreatDoor
namespace Go.Proofs.YtpcipdkoncmdcaaGreatDoor
open Go Go.RowKit
/-- The place with which a place is paired. -/
def placeP (x : Nat) : List (Nat × Nat) → Int
  | [] => -1
  | p :: l => if p.1 = x then (p.2 : Int) else placeP x l
theorem prow_ln : ∀ l : List (Nat × Nat), (prow l).length = l.length * 2
  | [] => rfl
  | p :: l => by
    show ([Value.int .i64 p.1, .int .i64 p.2] ++ prow l).length = _
    rw [List.length_append, prow_ln l, List.length_cons]; simp; omega
theorem prow_get : ∀ (l : List (Nat × Nat)) (k : Nat) (hk : k < l.length), (prow l)[k * 2]? = some (.int .i64 l[k].1) ∧ (prow l)[k * 2 + 1]? = some (.int .i64 l[k].2)
  | p :: l, 0, _ => ⟨rfl, rfl⟩
  | p :: l, k + 1, hk => by
    have h := prow_get l k (by simpa using hk)
    show ([Value.int .i64 p.1, .int .i64 p.2] ++ prow l)[(k + 1) * 2]? = _ ∧ ([Value.int .i64 p.1, .int .i64 p.2] ++ prow l)[(k + 1) * 2 + 1]? = _
    rw [List.getElem?_append_right (by simp; omega), List.getElem?_append_right (by simp; omega)]
    rw [show (k + 1) * 2 - [Value.int .i64 p.1, .int .i64 p.2].length = k * 2 by simp; omega, show (k + 1) * 2 + 1 - [Value.int .i64 p.1, .int .i64 p.2].length = k * 2 + 1 by simp; omega]
    exact h
set_option maxRecDepth 100000 in
set_option maxHeartbeats 2000000 in
theorem rplace_c {w : World} {a : Option Addr} {c : Nat} {l : List (Nat × Nat)} (h : Sl w a (prow l)) (hl : l.length ≤ 100000000) (x : Nat) : Calls Tryz.prog 95 #[.slice a l.length c, .int .i64 x] w fun e w' => e = .returned (.int .i64 (placeP x l)) ∧ w' = w := by
  have HS := Lib.hid h
  have H0 : Hid (placeP x l = placeP x (l.drop 0)) := rfl
  clear h
  go_enter Tryz.func95, Tryz.ntmps95
  go_upto_region 2 with fail
  go_loopw [5] (fun iv wx => ∃ k : Nat, k ≤ l.length ∧ iv = .int .i64 k ∧ Hid (placeP x l = placeP x (l.drop k)) ∧ wx = w) (fun iv _ => (l.length - intOf iv).toNat)
  case atStart => exact ⟨0, Nat.zero_le _, rfl, H0, rfl⟩
  case round =>
    clear H0
    obtain ⟨k, hk, rfl, HT, rfl⟩ := hrel
    by_cases hlt : k < l.length
    · have d1 : decide ((k : Int) < (l.length : Int)) = true := decide_eq_true (by omega)
      have d3 : (0 : Int) ≤ (k : Int) := by omega
      have d4 : (k : Int) < (l.length : Int) := by omega
      have kw : IntKind.i64.wrap ((k : Int) + 1) = ((k + 1 : Nat) : Int) := IntWalk.i64_in _ (by omega)
      obtain ⟨b, o, rfl, hb, hc⟩ := HS.out.resolve_left (fun e => by have := prow_ln l; rw [e] at this; simp at this; omega)
      have hp := prow_get l k hlt
      have c0 : wr.cell? ⟨b, o + k * 2, none⟩ = some (.int .i64 l[k].1) := hc _ _ hp.1
      have c1 : wr.cell? ⟨b, o + k * 2 + 1, none⟩ = some (.int .i64 l[k].2) := by rw [Nat.add_assoc]; exact hc _ _ hp.2
      have ht := HT.out
      rw [List.drop_eq_getElem_cons hlt] at ht
      have ht : placeP x l = if l[k].1 = x then (l[k].2 : Int) else placeP x (l.drop (k + 1)) := ht
      have HT2 := Lib.hid ht
      clear hc hp ht HT HS hb
      generalize l[k] = q at *
      by_cases h7 : q.1 = x
      · have h8 : ((q.1 : Int) == (x : Int)) = true := beq_iff_eq.2 (by omega)
        have HR : Hid (placeP x l = (q.2 : Int)) := by show _ = _; rw [HT2.out, if_pos h7]
        clear HT2 h7
        go_wp2_with fail
        go_ret
        exact ⟨ret_i64 HR.out, rfl⟩
      · have h8 : ((q.1 : Int) == (x : Int)) = false := beq_eq_false_iff_ne.2 (by omega)
        have HR : Hid (Hid (placeP x l = placeP x (l.drop (k + 1)))) := by show _ = _; rw [HT2.out, if_neg h7]
        clear HT2 h7
        go_wp2_with fail
        go_roundw
        case rel => exact ⟨k + 1, hlt, by go_num, HR.out, trivial⟩
        case measure => simp [intOf]; omega
    · have hke : k = l.length := by omega
      subst hke
      have d1 : decide ((l.length : Int) < (l.length : Int)) = false := decide_eq_false (by omega)
      have HR : Hid (placeP x l = -1) := by show _ = _; rw [HT.out, List.drop_length]; rfl
      clear HT HS
      go_wp2_with fail
      go_ret
      exact ⟨ret_i64 HR.out, rfl⟩
end Go.Proofs.YtpcipdkoncmdcaaGreatDoor
