/- Texts of mine, joined: Walk: woven parts told as lines. | Walks: the reference's table, a slice of rows. | Walks: the reference's pairs of alike places. | Walks: numbers with a point: their bits, their one form, their order. | Walks: the order of numbers with a point. | Walk: lines put together as bytes; numbers: the later one. | Walk: the number that stands last. -/
import Derived.WalkLawsBesides
import Derived.Laws.Externs
import Derived.Laws.Bits64
import Derived.Laws.Bits64b
import Derived.Lib.Join
import Derived.Test.YtpcipdkoncmdcaaGreatDoorYJoinApart10
namespace Go.Proofs.YtpcipdkoncmdcaaGreatDoor
open Go Go.RowKit
open JoinS (emit tellAll clean closed kindOf)
/-- Lines put together in a row of the call's own, beside a block b that stays. -/
structure OT (w W : World) (b : Nat) (cs : Array Value) (e : TypeId) (v : Value) (L : List ByteArray) : Prop where
  own : OwnG W 9 1 v L.length (lrow L)
  nw : ∀ k, v.ownBlock = some k → w.heap.size ≤ k ∧ k ≠ b
  below : Below w.heap.size w W
  blk : W.heap[b]? = some (.cells cs e (0, 0))
section
variable {w W : World} {b : Nat} {cs : Array Value} {e : TypeId} {v : Value} {L l : List ByteArray}
theorem OT.cell (h : OT w W b cs e v L) {j : Nat} {u : Value} (hu : cs[j]? = some u) : W.cell? ⟨b, j, none⟩ = some u := by simp only [World.cell?, h.blk]; exact hu
theorem OT.grow (h : OT w W b cs e v L) {W' : World} (hb : Below W.heap.size W W') : OT w W' b cs e v L :=
  ⟨h.own.below hb, h.nw, h.below.trans (hb.mono h.below.size), (hb.block b (Array.getElem?_eq_some_iff.1 h.blk).1).trans h.blk⟩
theorem OT.app {ops : Array Oper} {rest : List Oper} {op : Oper} {a : Act} {Q : Exit → Act → World → Prop} (h : OT w W b cs e v L) (hgd : op.guard = none) (s x : Operand)
    (ho : op.op = .call { callee := .builtin .append, args := #[s, x], argTypes := #[82, 82] }) {xv : Value}
    (hs : a.eval s = v) (hx : a.eval x = xv) (hT : Tl W xv l) (hn : L.length + l.length ≤ 1000000000)
    (K : ∀ v' W', OT w W' b cs e v' (L ++ l) → wpList Tryz.prog ops Q rest (a.put op.dst v') W') : wpList Tryz.prog ops Q (op :: rest) a W := by
  have hbl := (Array.getElem?_eq_some_iff.1 h.blk).1
  refine wp_appG hgd s x _ _ ho ES rfl hs h.own hx (src_tl hT) (by simp [maxLen]; omega) (by omega) fun v' W' h4 h5 h6 => K v' W' ⟨by rw [lrow_app, List.length_append]; exact h4, fun k hk => ?_, ?_, ?_⟩
  · rcases h6 k hk with e | e
    · exact h.nw k e
    · have := h.below.size; exact ⟨by omega, by omega⟩
  · exact h.below.grown h5 h.below.size fun k hk => (h.nw k hk).1
  · exact (h5.block b hbl (fun e => (h.nw b e.symm).2 rfl)).trans h.blk
theorem OT.app1 {ops : Array Oper} {rest : List Oper} {op : Oper} {a : Act} {Q : Exit → Act → World → Prop} (h : OT w W b cs e v L) (hgd : op.guard = none) (s x : Operand)
    (ho : op.op = .call { callee := .builtin .append, args := #[s, x], argTypes := #[82, 82] }) {t : ByteArray}
    (hs : a.eval s = v) (hx : a.eval x = .slice (some ⟨W.heap.size, 0, none⟩) 1 1) (hn : L.length + 1 ≤ 1000000000)
    (K : ∀ v' W', OT w W' b cs e v' (L ++ [t]) → wpList Tryz.prog ops Q rest (a.put op.dst v') W') : wpList Tryz.prog ops Q (op :: rest) a (W.alloc (.cells #[.string t] 9)) := by
  have hb : Below W.heap.size W (W.alloc (.cells #[.string t] 9)) := (Below.refl _ W).alloc (Nat.le_refl _) _
  exact (h.grow hb).app (l := [t]) hgd s x ho hs hx ⟨some ⟨W.heap.size, 0, none⟩, 1, rfl, Nat.le_refl _, by simp [maxLen], (fun h => nomatch h), .inr ⟨W.heap.size, 0, rfl, by simp, fun i u hu => by
    rw [World.cell?_alloc_at _ _ _ _ rfl]
    simpa [lrow] using hu⟩⟩ hn K
end
theorem kind_le (p : JoinS.Pt ByteArray) : kindOf p ≤ 4 := by
  unfold kindOf
  repeat' split
  all_goals omega
theorem closed_len (l : List ByteArray) : (closed l).length = l.length := by
  unfold closed
  cases h : l.getLast? with
  | none => rw [List.getLast?_eq_none_iff.1 h]
  | some x =>
    simp only
    split
    · rfl
    · have := congrArg List.length (JoinS.dl_last h)
      simp only [List.length_append, List.length_singleton] at this ⊢; omega
theorem pvR_get : ∀ (xs : List PtV) (k : Nat) (hk : k < xs.length) (j : Nat), j < 4 → (pvR xs)[k * 4 + j]? = (pvC xs[k])[j]?
  | x :: xs, 0, _, j, hj => by
    show (pvC x ++ pvR xs)[0 * 4 + j]? = _
    rw [Nat.zero_mul, Nat.zero_add, List.getElem?_append_left (by simp [pvC]; omega)]; rfl
  | x :: xs, k + 1, hk, j, hj => by
    show (pvC x ++ pvR xs)[(k + 1) * 4 + j]? = _
    have hl : (pvC x).length = 4 := rfl
    rw [List.getElem?_append_right (by rw [hl]; omega), hl, show (k + 1) * 4 + j - 4 = k * 4 + j by omega]
    exact pvR_get xs k (by simpa using hk) j hj
theorem tell_succ (u v : ByteArray) (xs : List PtV) (k : Nat) (hk : k < xs.length) : tellAll u v ((xs.map (·.p)).take (k + 1)) = tellAll u v ((xs.map (·.p)).take k) ++ emit u v xs[k].p ∧ clean ((xs.map (·.p)).take (k + 1)) = (clean ((xs.map (·.p)).take k) && decide (kindOf xs[k].p ≠ 4)) := by
  have e : (xs.map (·.p)).take (k + 1) = (xs.map (·.p)).take k ++ [xs[k].p] := by
    rw [List.take_succ_eq_append_getElem (by simpa using hk), List.getElem_map]
  rw [e]
  constructor
  · simp [tellAll]
  · simp [clean]

set_option maxRecDepth 100000 in
set_option maxHeartbeats 4000000 in
theorem text_c {w : World} {pv : Value} {xs : List PtV} (h : PR w pv xs) (u v : ByteArray) (hu : u.size ≤ 1000) (hv : v.size ≤ 1000) (hN : ∀ k, (tellAll u v ((xs.map (·.p)).take k)).length ≤ 100000000) (hx : ∀ x ∈ xs, x.p.b.length ≤ 10000000 ∧ x.p.o.length ≤ 10000000 ∧ x.p.t.length ≤ 10000000)
    (hz : ∀ x ∈ xs, (∀ s ∈ x.p.b, s.size ≤ 100000000) ∧ (∀ s ∈ x.p.o, s.size ≤ 100000000) ∧ ∀ s ∈ x.p.t, s.size ≤ 100000000) :
    Calls Tryz.prog 88 #[pv, .string u, .string v] w fun e w' => ∃ tv, e = .returned (.tuple #[tv, .bool (clean (xs.map (·.p)))]) ∧ Tl w' tv (tellAll u v (xs.map (·.p))) ∧ Below w.heap.size w w' := by
  have hn := h.n
  have HPR := Lib.hid h
  have HN := Lib.hid hN
  have HX := Lib.hid hx
  have HZ := Lib.hid hz
  obtain ⟨a, c, (e0 : pv = .slice a xs.length c), hlc, -, hsl⟩ := h.row.form
  subst e0
  have HSL := Lib.hid hsl
  clear h hN hx hz hsl
  go_enter Tryz.func88, Tryz.ntmps88
  go_wp2_with fail
  go_loopw [8, 9, 11, 14] (fun ov cv _ iv wx => ∃ k : Nat, k ≤ xs.length ∧ iv = .int .i64 k ∧ (∃ z, cv = .bool z ∧ Hid (clean ((xs.map (·.p)).take k) = z)) ∧ (∃ L, Hid (tellAll u v ((xs.map (·.p)).take k) = L) ∧ OwnG wx 9 1 ov L.length (lrow L) ∧ ∀ b, ov.ownBlock = some b → w.heap.size ≤ b) ∧ Below w.heap.size w wx) (fun _ _ _ iv _ => (xs.length - intOf iv).toNat)
  case atStart => exact ⟨0, Nat.zero_le _, rfl, ⟨true, rfl, rfl⟩, ⟨[], rfl, OwnG.nil _ _ _, fun b hb => nomatch hb⟩, Below.refl _ _⟩
  case round =>
    obtain ⟨k, hk, rfl, ⟨z, rfl, HCL⟩, ⟨L, HL, hown, hnew⟩, hb⟩ := hrel
    by_cases hlt : k < xs.length
    · have d1 : decide ((k : Int) < (xs.length : Int)) = true := decide_eq_true (by omega)
      have d2 : decide (k < xs.length) = true := decide_eq_true hlt
      have dw : IntKind.i64.wrap ((k : Int) + 1) = ((k + 1 : Nat) : Int) := IntWalk.i64_in _ (by omega)
      obtain ⟨g, o, cap, (e1 : Value.slice a xs.length c = .slice (some ⟨g, o, none⟩) xs.length cap), -, hgl, hcs, -⟩ := (HPR.out.row.below hb).place (by omega)
      injection e1 with e1 _ e2
      subst e1 e2
      obtain ⟨t1, t2⟩ := tell_succ u v xs k hlt
      obtain ⟨x, hxe⟩ : ∃ x, xs[k] = x := ⟨_, rfl⟩
      have hxm : x ∈ xs := by rw [← hxe]; exact List.getElem_mem hlt
      rw [hxe] at t1 t2
      have hra : wr.rangeAt g (o + k * 4) (pvC x) := fun j vv hv => by
        have hj : j < 4 := (List.getElem?_eq_some_iff.1 hv).1
        rw [Nat.add_assoc]
        exact hcs _ _ (by rw [pvR_get xs k hlt j hj, hxe]; exact hv)
      obtain ⟨q1, q2, q3⟩ := (HPR.out.below hb).rd x hxm
      have fb : x.b.oneCell' = true := by obtain ⟨_, _, e, -⟩ := q1; rw [e]; rfl
      have fo : x.o.oneCell' = true := by obtain ⟨_, _, e, -⟩ := q2; rw [e]; rfl
      have ft : x.t.oneCell' = true := by obtain ⟨_, _, e, -⟩ := q3; rw [e]; rfl
      have h1c : (pvC x).toArray.all (·.oneCell') = true := by simp [pvC, fb, fo, ft]; rfl
      have HRA := Lib.hid hra
      have Hq1 := Lib.hid q1
      have Hq2 := Lib.hid q2
      have Hq3 := Lib.hid q3
      have Hown := Lib.hid hown
      have Hb := Lib.hid hb
      have H1C := Lib.hid h1c
      clear hra q1 q2 q3 hown hb h1c
      go_upto_region 6 with (first
        | (refine wpList_load_mid rfl 182 _ rfl g (o + k * 4) rfl (pvC x) _ HRA.out Tryz.underlying182 rfl (by kernel_rfl) ?_)
        | (refine wp_storeB rfl 182 _ _ rfl wr.heap.size (pvC x).toArray rfl rfl (old := #[.int .i64 0, .slice none 0 0, .slice none 0 0, .slice none 0 0]) Array.getElem?_push_size rfl (by kernel_rfl) H1C.out ?_; intro W5 hb5 hg5))
      have hba : Below wr.heap.size wr (wr.alloc (.cells #[.int .i64 0, .slice none 0 0, .slice none 0 0, .slice none 0 0] 182 (0, 0))) := (Below.refl _ wr).alloc (Nat.le_refl _) _
      have hB5 : Below wr.heap.size wr W5 := hba.grown hg5 hba.size fun k hk => by injection hk with hk; omega
      have hOT : OT w W5 wr.heap.size (pvC x).toArray 182 u8 L := ⟨Hown.out.below hB5, fun k hk => ⟨hnew k hk, by have := Hown.out.lt hk; omega⟩, Hb.out.trans (hB5.mono Hb.out.size), hb5⟩
      have c0 := hOT.cell (j := 0) (u := .int .i64 (kindOf x.p)) rfl
      have c1 := hOT.cell (j := 1) (u := x.b) rfl
      have c2 := hOT.cell (j := 2) (u := x.o) rfl
      have c3 := hOT.cell (j := 3) (u := x.t) rfl
      have HOT := Lib.hid hOT
      have hRX := (HPR.out.rd x hxm)
      have Q1 := Lib.hid hRX.1
      have Q2 := Lib.hid hRX.2.1
      have Q3 := Lib.hid hRX.2.2
      have T1 := Lib.hid t1
      have T2 := Lib.hid t2
      have hLn : L.length ≤ 100000000 := by rw [← HL.out]; exact HN.out k
      have hxl := HX.out x hxm
      have hzl := Lib.hid (HZ.out x hxm)
      clear hba hb5 hg5 hB5 t1 t2 hcs fb fo ft hOT hRX hnew Hown Hb Hq1 Hq2 Hq3 H1C HRA
      obtain ⟨kd, hkd⟩ : ∃ kd, kindOf x.p = kd := ⟨_, rfl⟩
      have hk5 := kind_le x.p
      rw [hkd] at c0 hk5
      have HKD := Lib.hid hkd
      clear hkd
      have hk1 : k + 1 ≤ xs.length := hlt
      have hcase : (kd = 0 ∨ kd = 1 ∨ kd = 3) ∨ kd = 2 ∨ kd = 4 := by omega
      rcases hcase with hc | hc | hc
      · have HE : Hid (emit u v x.p = x.p.o) := by
          show _ = _; unfold emit; rw [HKD.out, if_neg (by omega), if_neg (by omega)]
        have HC4 : Hid (decide (kindOf x.p ≠ 4) = true) := by show _ = _; rw [HKD.out]; exact decide_eq_true (by omega)
        have HEL : Hid (tellAll u v ((xs.map (·.p)).take (k + 1)) = L ++ x.p.o) := by show _ = _; rw [T1.out, HL.out, HE.out]
        have HCC : Hid (clean ((xs.map (·.p)).take (k + 1)) = z) := by show _ = _; rw [T2.out, HCL.out, HC4.out, Bool.and_true]
        clear T1 T2 HL HCL HE HC4 hk5 HKD
        rcases hc with rfl | rfl | rfl
        all_goals
          go_wp2_with (at_builtin; refine HOT.out.app rfl _ _ rfl rfl rfl (Q2.out.below HOT.out.below) (by omega) ?_; intro v' w' hot)
          go_roundw
          case rel => exact ⟨k + 1, hk1, by go_num, ⟨z, rfl, HCC⟩, ⟨_, HEL, hot.own, fun b hb => (hot.nw b hb).1⟩, hot.below⟩
          case measure => simp [intOf]; omega
      · subst hc
        have HE : Hid (emit u v x.p = x.p.t) := by
          show _ = _; unfold emit; rw [HKD.out, if_neg (by omega), if_pos rfl]
        have HC4 : Hid (decide (kindOf x.p ≠ 4) = true) := by show _ = _; rw [HKD.out]; rfl
        have HEL : Hid (tellAll u v ((xs.map (·.p)).take (k + 1)) = L ++ x.p.t) := by show _ = _; rw [T1.out, HL.out, HE.out]
        have HCC : Hid (clean ((xs.map (·.p)).take (k + 1)) = z) := by show _ = _; rw [T2.out, HCL.out, HC4.out, Bool.and_true]
        clear T1 T2 HL HCL HE HC4 hk5 HKD
        go_wp2_with (at_builtin; refine HOT.out.app rfl _ _ rfl rfl rfl (Q3.out.below HOT.out.below) (by omega) ?_; intro v' w' hot)
        go_roundw
        case rel => exact ⟨k + 1, hk1, by go_num, ⟨z, rfl, HCC⟩, ⟨_, HEL, hot.own, fun b hb => (hot.nw b hb).1⟩, hot.below⟩
        case measure => simp [intOf]; omega
      · subst hc
        have HE : Hid (emit u v x.p = [JoinS.m1 u] ++ closed x.p.o ++ [JoinS.m2] ++ closed x.p.b ++ [JoinS.m3] ++ closed x.p.t ++ [JoinS.m4 v]) := by
          show _ = _; unfold emit; rw [HKD.out, if_pos rfl]
        have HC4 : Hid (decide (kindOf x.p ≠ 4) = false) := by show _ = _; rw [HKD.out]; rfl
        have HEL : Hid (tellAll u v ((xs.map (·.p)).take (k + 1)) = L ++ ([JoinS.m1 u] ++ closed x.p.o ++ [JoinS.m2] ++ closed x.p.b ++ [JoinS.m3] ++ closed x.p.t ++ [JoinS.m4 v])) := by show _ = _; rw [T1.out, HL.out, HE.out]
        have HCC : Hid (clean ((xs.map (·.p)).take (k + 1)) = false) := by show _ = _; rw [T2.out, HCL.out, HC4.out, Bool.and_false]
        have HO : Hid (∀ W, Below w.heap.size w W → Calls Tryz.prog 113 #[x.o] W fun e w' => ∃ v', e = .returned v' ∧ w'.ownsRow W.heap.size 9 1 v' (closed x.p.o).length (lrow (closed x.p.o)) ∧ Below W.heap.size W w') := Lib.hid fun W hW => closed_c (Q2.out.below hW) hxl.2.1 hzl.out.2.1
        have HBc : Hid (∀ W, Below w.heap.size w W → Calls Tryz.prog 113 #[x.b] W fun e w' => ∃ v', e = .returned v' ∧ w'.ownsRow W.heap.size 9 1 v' (closed x.p.b).length (lrow (closed x.p.b)) ∧ Below W.heap.size W w') := Lib.hid fun W hW => closed_c (Q1.out.below hW) hxl.1 hzl.out.1
        have HTc : Hid (∀ W, Below w.heap.size w W → Calls Tryz.prog 113 #[x.t] W fun e w' => ∃ v', e = .returned v' ∧ w'.ownsRow W.heap.size 9 1 v' (closed x.p.t).length (lrow (closed x.p.t)) ∧ Below W.heap.size W w') := Lib.hid fun W hW => closed_c (Q3.out.below hW) hxl.2.2 hzl.out.2.2
        have lo := closed_len x.p.o
        have lb := closed_len x.p.b
        have lt := closed_len x.p.t
        clear T1 T2 HL HCL HE HC4 hk5 HKD Q1 Q2 Q3
        go_wp2_with (first
          | (go_at_call 113; refine (HO.out _ HOT.out.below).mono ?_; rintro e W6 ⟨cv, rfl, hc, hbc⟩; clear HO; have HOT := Lib.hid (HOT.out.grow hbc); have hT := Tl.of_own hc; clear hc hbc; have c1 := HOT.out.cell (j := 1) (u := x.b) rfl; have c2 := HOT.out.cell (j := 2) (u := x.o) rfl; have c3 := HOT.out.cell (j := 3) (u := x.t) rfl)
          | (go_at_call 113; refine (HBc.out _ HOT.out.below).mono ?_; rintro e W6 ⟨cv, rfl, hc, hbc⟩; clear HBc; have HOT := Lib.hid (HOT.out.grow hbc); have hT := Tl.of_own hc; clear hc hbc; have c1 := HOT.out.cell (j := 1) (u := x.b) rfl; have c2 := HOT.out.cell (j := 2) (u := x.o) rfl; have c3 := HOT.out.cell (j := 3) (u := x.t) rfl)
          | (go_at_call 113; refine (HTc.out _ HOT.out.below).mono ?_; rintro e W6 ⟨cv, rfl, hc, hbc⟩; clear HTc; have HOT := Lib.hid (HOT.out.grow hbc); have hT := Tl.of_own hc; clear hc hbc; have c1 := HOT.out.cell (j := 1) (u := x.b) rfl; have c2 := HOT.out.cell (j := 2) (u := x.o) rfl; have c3 := HOT.out.cell (j := 3) (u := x.t) rfl)
          | (at_builtin; refine HOT.out.app rfl _ _ rfl rfl rfl hT (by (try simp only [List.length_append, List.length_singleton]); omega) ?_; clear hT; intro v' w' hot; have HOT := Lib.hid hot; clear hot; have c1 := HOT.out.cell (j := 1) (u := x.b) rfl; have c2 := HOT.out.cell (j := 2) (u := x.o) rfl; have c3 := HOT.out.cell (j := 3) (u := x.t) rfl)
          | (at_builtin; refine HOT.out.app1 rfl _ _ rfl rfl rfl (by (try simp only [List.length_append, List.length_singleton]); omega) ?_; intro v' w' hot; have HOT := Lib.hid hot; clear hot; have c1 := HOT.out.cell (j := 1) (u := x.b) rfl; have c2 := HOT.out.cell (j := 2) (u := x.o) rfl; have c3 := HOT.out.cell (j := 3) (u := x.t) rfl))
        go_roundw
        case rel => exact ⟨k + 1, hk1, by go_num, ⟨false, rfl, HCC⟩, ⟨_, by show _ = _; rw [HEL.out]; simp only [← List.append_assoc]; rfl, HOT.out.own, fun b hb => (HOT.out.nw b hb).1⟩, HOT.out.below⟩
        case measure => simp [intOf]; omega
    · have d1 : decide ((k : Int) < (xs.length : Int)) = false := decide_eq_false (by omega)
      have d2 : decide (k < xs.length) = false := decide_eq_false hlt
      have HB := Lib.hid hb
      have HO := Lib.hid hown
      have e3 : (xs.map (·.p)).take k = xs.map (·.p) := List.take_of_length_le (by simp; omega)
      rw [e3] at HL HCL
      have HL2 := HL
      have HCL2 := HCL
      clear hown hb
      go_wp2_with fail
      go_ret2
      have g1 := HCL2.out
      have g2 := HL2.out
      subst g1 g2
      exact ⟨_, rfl, tl_own HO.out, HB.out⟩
end Go.Proofs.YtpcipdkoncmdcaaGreatDoor
namespace Go.Proofs.YtpcipdkoncmdcaaGreatDoor
open Go Go.RowKit
theorem own_grown {w w' : World} {base : Nat} {e : TypeId} {s : Nat} {v : Value} {n : Nat} {xs : List Value} {g : Nat} (h : w.ownsRow base e s v n xs) (hg : w.grownBy w' (some g)) (hne : v.ownBlock ≠ some g) : w'.ownsRow base e s v n xs :=
  h.kept hg (.inr hne)

/-- The reference's table: its rows from lo on are laid. -/
structure LT (w : World) (base o la wd : Nat) (r f : Nat → Nat) (lo : Nat) : Prop where
  own : ∃ xs, w.ownsRow base 188 1 (.slice (some ⟨o, 0, none⟩) (la + 1) (la + 1)) (la + 1) xs ∧ ∀ i, lo ≤ i → i ≤ la → xs[i]? = some (.slice (some ⟨r i, 0, none⟩) wd wd)
  rows : ∀ i, lo ≤ i → i ≤ la → w.ownsRow base 3 1 (.slice (some ⟨r i, 0, none⟩) wd wd) wd (Row wd fun k => f (i * wd + k)) ∧ r i ≠ o ∧ r i < w.heap.size
  inj : ∀ i j, lo ≤ i → i < j → j ≤ la → r i ≠ r j
  zero : ∀ x, x < lo * wd → f x = 0

theorem LT.cell {w : World} {base o la wd : Nat} {r f : Nat → Nat} {lo : Nat} (h : LT w base o la wd r f lo) (i : Nat) (h1 : lo ≤ i) (h2 : i ≤ la) : w.cell? ⟨o, i, none⟩ = some (.slice (some ⟨r i, 0, none⟩) wd wd) := by
  obtain ⟨xs, ho, hx⟩ := h.own
  rw [ho.cellAt i (by omega)]
  exact hx i h1 h2

theorem LT.below {w w' : World} {base o la wd : Nat} {r f : Nat → Nat} {lo : Nat} (h : LT w base o la wd r f lo) (hb : Below w.heap.size w w') : LT w' base o la wd r f lo := by
  obtain ⟨xs, ho, hx⟩ := h.own
  refine ⟨⟨xs, own_below ho hb, hx⟩, fun i h1 h2 => ?_, h.inj, h.zero⟩
  obtain ⟨a1, a2, a3⟩ := h.rows i h1 h2
  exact ⟨own_below a1 hb, a2, Nat.lt_of_lt_of_le a3 hb.size⟩

/-- A new row of noughts is laid as row lo. -/
theorem LT.row {w : World} {base o la wd : Nat} {r f : Nat → Nat} {lo g : Nat} (h : LT w base o la wd r f (lo + 1)) (hlo : lo ≤ la) (hg : w.ownsRow base 3 1 (.slice (some ⟨g, 0, none⟩) wd wd) wd (Row wd fun _ => 0)) (hgo : g ≠ o) (hne : ∀ i, lo + 1 ≤ i → i ≤ la → r i ≠ g) :
    LT (w.setCell ⟨o, lo, none⟩ (.slice (some ⟨g, 0, none⟩) wd wd)) base o la wd (fun i => if i = lo then g else r i) f lo ∧ Below base w (w.setCell ⟨o, lo, none⟩ (.slice (some ⟨g, 0, none⟩) wd wd)) := by
  obtain ⟨xs, ho, hx⟩ := h.own
  obtain ⟨s1, s2⟩ := ho.stored lo (.slice (some ⟨g, 0, none⟩) wd wd)
  have hlen : xs.length = la + 1 := by have := ho.1; omega
  have hlt := ho.lt o rfl
  refine ⟨⟨⟨_, s1, fun i h1 h2 => ?_⟩, fun i h1 h2 => ?_, fun i j h1 h2 h3 => ?_, fun x hx => h.zero x ?_⟩, (Below.refl base w).grown s2 (by omega) (by intro k hk; cases hk; omega)⟩
  · by_cases e : i = lo
    · subst e
      rw [List.getElem?_set_self (by omega), if_pos rfl]
    · rw [List.getElem?_set_ne (by omega)]
      show xs[i]? = _
      rw [if_neg e]
      exact hx i (by omega) h2
  · by_cases e : i = lo
    · subst e
      simp only [if_pos]
      refine ⟨?_, hgo, by have := (hg.lt g rfl).2; have := s2.size; omega⟩
      have hz : (Row wd fun k => f (i * wd + k)) = Row wd fun _ => 0 := by
        simp only [Row]
        apply List.map_congr_left
        intro k hk
        rw [h.zero (i * wd + k) (by have := List.mem_range.1 hk; rw [Nat.add_mul]; omega)]
      rw [hz]
      exact own_grown hg s2 (by simp [Value.ownBlock]; exact hgo)
    · simp only [if_neg e]
      obtain ⟨a1, a2, a3⟩ := h.rows i (by omega) h2
      exact ⟨own_grown a1 s2 (by simp [Value.ownBlock]; exact a2), a2, by have := s2.size; omega⟩
  · by_cases e : i = lo
    · subst e
      rw [if_pos rfl, if_neg (by omega)]
      exact fun e => hne j (by omega) h3 e.symm
    · rw [if_neg e, if_neg (by omega)]
      exact h.inj i j (by omega) h2 h3
  · rw [Nat.add_mul]; omega

/-- A number is stored in row lo. -/
theorem LT.put {w : World} {base o la wd : Nat} {r f : Nat → Nat} {lo : Nat} (h : LT w base o la wd r f lo) (hlo : lo ≤ la) (k v : Nat) (hk : k < wd) :
    LT (w.setCell ⟨r lo, k, none⟩ (.int .i64 v)) base o la wd r (fun x => if x = lo * wd + k then v else f x) lo ∧ Below base w (w.setCell ⟨r lo, k, none⟩ (.int .i64 v)) := by
  obtain ⟨xs, ho, hx⟩ := h.own
  obtain ⟨a1, a2, a3⟩ := h.rows lo (Nat.le_refl _) hlo
  obtain ⟨s1, s2⟩ := a1.stored k (.int .i64 v)
  have hlt := a1.lt (r lo) rfl
  rw [Row_set] at s1
  refine ⟨⟨⟨xs, own_grown ho s2 (by simp [Value.ownBlock]; exact fun e => a2 e.symm), hx⟩, fun i h1 h2 => ?_, h.inj, fun x hx => ?_⟩, (Below.refl base w).grown s2 (by omega) (by intro k hk; cases hk; omega)⟩
  · by_cases e : i = lo
    · subst e
      refine ⟨?_, a2, by have := s2.size; omega⟩
      have hz : (Row wd fun x => if i * wd + x = i * wd + k then v else f (i * wd + x)) = Row wd fun x => if x = k then v else f (i * wd + x) := by
        simp only [Row]
        apply List.map_congr_left
        intro x _
        simp
      rw [hz]
      exact s1
    · obtain ⟨b1, b2, b3⟩ := h.rows i h1 h2
      refine ⟨?_, b2, by have := s2.size; omega⟩
      have hz : (Row wd fun x => if i * wd + x = lo * wd + k then v else f (i * wd + x)) = Row wd fun x => f (i * wd + x) := by
        simp only [Row]
        apply List.map_congr_left
        intro x hx
        have hx' := List.mem_range.1 hx
        rw [if_neg]
        intro e2
        exact e (ScoreS.place_inj hx' hk e2).1
      rw [hz]
      exact own_grown b1 s2 (by simp [Value.ownBlock]; exact fun e2 => h.inj lo i (Nat.le_refl _) (by omega) h2 e2.symm)
  · show (if _ then _ else _) = _
    rw [if_neg (by omega)]
    exact h.zero x hx
theorem LT.drewN {w : World} {base o la wd : Nat} {r f : Nat → Nat} {lo : Nat} (h : LT w base o la wd r f lo) (q : Nat) : LT (w.drewN q) base o la wd r f lo :=
  ⟨h.own, h.rows, h.inj, h.zero⟩

end Go.Proofs.YtpcipdkoncmdcaaGreatDoor
namespace Go.Proofs.YtpcipdkoncmdcaaGreatDoor
open Go Go.RowKit
end Go.Proofs.YtpcipdkoncmdcaaGreatDoor
namespace Go.Proofs.YtpcipdkoncmdcaaGreatDoor
open Go Go.RowKit
/-- Is a word no number? -/
def nanB (x : Nat) : Bool := FloatKind.f64.format.order x x != some .eq

/-- A word in its one form. -/
def cn (x : Nat) : Nat := if nanB x then 9221120237041090560 else x

theorem run_bits (x : Nat) (w : World) : (callFunc 39 #[.float .f64 x]).run Tryz.prog w = .ok (.value (.int .u64 x)) w := by
  rw [run_callFunc_extern (e := Extern.MathFloatBits.float64bits) Tryz.func39 (by kernel_rfl) (by kernel_rfl) (by kernel_rfl) (by kernel_rfl)]
  rfl

theorem run_frombits (x : Nat) (w : World) : (callFunc 93 #[.int .u64 x]).run Tryz.prog w = .ok (.value (.float .f64 x)) w := by
  rw [run_callFunc_extern (e := Extern.MathFloatBits.float64frombits) Tryz.func93 (by kernel_rfl) (by kernel_rfl) (by kernel_rfl) (by kernel_rfl)]
  rfl

set_option maxRecDepth 100000 in
theorem refbits_c (x : Nat) (w : World) : Calls Tryz.prog 20 #[.float .f64 x] w fun e w' => e = .returned (.int .u64 (cn x)) ∧ w' = w := by
  have hr := run_bits x
  cases h : nanB x
  · have hc : cn x = x := by simp [cn, h]
    rw [hc]
    have h2 : FloatKind.f64.format.order x x = some .eq := by simpa [nanB] using h
    go_enter Tryz.func20, Tryz.ntmps20
    go_wp2_with fail
    go_ret
    exact ⟨rfl, rfl⟩
  · have hc : cn x = 9221120237041090560 := by simp [cn, h]
    rw [hc]
    have h2 : (FloatKind.f64.format.order x x != some .eq) = true := h
    go_enter Tryz.func20, Tryz.ntmps20
    go_wp2_with fail
    go_ret
    exact ⟨rfl, rfl⟩

set_option maxRecDepth 100000 in
theorem canon_c (x : Nat) (w : World) : Calls Tryz.prog 83 #[.float .f64 x] w fun e w' => e = .returned (.float .f64 (cn x)) ∧ w' = w := by
  have hr : ∀ w, (callFunc 93 #[.int .u64 9221120237041090560]).run Tryz.prog w = .ok (.value (.float .f64 9221120237041090560)) w := run_frombits 9221120237041090560
  cases h : nanB x
  · have hc : cn x = x := by simp [cn, h]
    rw [hc]
    have h2 : FloatKind.f64.format.order x x = some .eq := by simpa [nanB] using h
    go_enter Tryz.func83, Tryz.ntmps83
    go_wp2_with fail
    go_ret
    exact ⟨rfl, rfl⟩
  · have hc : cn x = 9221120237041090560 := by simp [cn, h]
    rw [hc]
    have h2 : (FloatKind.f64.format.order x x != some .eq) = true := h
    go_enter Tryz.func83, Tryz.ntmps83
    go_wp2_with fail
    go_ret
    exact ⟨rfl, rfl⟩

theorem nan_of_rung {x : Nat} (h : 9218868437227405312 < x % 9223372036854775808) : nanB x = true := by
  have hr : ∃ s t, FloatKind.f64.format.read x = .nan s t := by
    refine ⟨x / 9223372036854775808 % 2 == 1, x % 9223372036854775808 - 9218868437227405312, ?_⟩
    show Ieee.double.read x = _
    unfold Ieee.Format.read
    have e1 : Ieee.double.signWeight = 9223372036854775808 := by decide
    have e2 : Ieee.double.binade = 4503599627370496 := by decide
    have e3 : Ieee.double.infRung = 9218868437227405312 := by decide
    simp only [e1, e2, e3]
    rw [if_neg (by omega), if_neg (by omega), if_neg (by omega)]
  obtain ⟨s, t, hr⟩ := hr
  unfold nanB Ieee.Format.order
  rw [hr]; rfl
end Go.Proofs.YtpcipdkoncmdcaaGreatDoor
namespace Go.Proofs.YtpcipdkoncmdcaaGreatDoor
open Go Go.RowKit
theorem xor_all {c : Nat} (h : c < 18446744073709551616) : 18446744073709551615 ^^^ c = 18446744073709551615 - c := by
  have h1 : (BitVec.ofNat 64 c).toNat = c := by rw [BitVec.toNat_ofNat]; exact Nat.mod_eq_of_lt h
  have h2 : (BitVec.allOnes 64 ^^^ BitVec.ofNat 64 c) = ~~~(BitVec.ofNat 64 c) := by
    apply BitVec.eq_of_getElem_eq; intro i hi; simp only [BitVec.getElem_xor, BitVec.getElem_not, BitVec.getElem_allOnes, Bool.true_xor]
  have h3 := congrArg BitVec.toNat h2
  rw [BitVec.toNat_xor, BitVec.toNat_not, h1, BitVec.toNat_allOnes] at h3
  exact h3

theorem or_top {c : Nat} (h : c < 9223372036854775808) : c ||| 9223372036854775808 = c + 9223372036854775808 := by
  have := Nat.two_pow_add_eq_or_of_lt (i := 63) h 1
  rw [Nat.or_comm]
  simp at this
  omega

theorem cn_lt {x : Nat} (h : x < 2 ^ 64) : cn x < 2 ^ 64 := by
  unfold cn; split
  · decide
  · exact h

/-- A number's place in the order. -/
def fkey (x : Nat) : Nat := if 9223372036854775808 ≤ cn x then 18446744073709551615 - cn x else cn x + 9223372036854775808

set_option maxRecDepth 100000 in
theorem key_c (x : Nat) (w : World) (hx : x < 2 ^ 64) : Calls Tryz.prog 71 #[.float .f64 x] w fun e w' => e = .returned (.int .u64 (fkey x)) ∧ w' = w := by
  have hr := run_bits (cn x)
  have hl := cn_lt hx
  have hk : fkey x = if 9223372036854775808 ≤ cn x then 18446744073709551615 - cn x else cn x + 9223372036854775808 := rfl
  generalize fkey x = k at *
  go_enter Tryz.func71, Tryz.ntmps71
  go_wp2_with fail
  refine (canon_c x w).mono ?_
  rintro e w1 ⟨rfl, rfl⟩
  generalize cn x = c at *
  have hs63 : bits .or .u64 (c : Int) 9223372036854775808 = ((c ||| 9223372036854775808 : Nat) : Int) := bits_or_u64_nat c 9223372036854775808 hl (by decide)
  have hx63 : bits .xor .u64 IntKind.u64.max (c : Int) = ((18446744073709551615 ^^^ c : Nat) : Int) := bits_xor_u64_nat 18446744073709551615 c (by decide) hl
  by_cases h : 9223372036854775808 ≤ c
  · rw [if_pos h] at hk
    rw [xor_all hl, ← hk] at hx63
    have hd : ((c : Int) / 9223372036854775808 == 1) = true := by
      rw [show (c : Int) / 9223372036854775808 = ((c / 9223372036854775808 : Nat) : Int) from rfl, show c / 9223372036854775808 = 1 by omega]; rfl
    clear hs63 hk
    go_wp2_with fail
    go_ret
    exact ⟨rfl, rfl⟩
  · rw [if_neg h] at hk
    rw [or_top (by omega), ← hk] at hs63
    have hd : ((c : Int) / 9223372036854775808 == 1) = false := by
      rw [show (c : Int) / 9223372036854775808 = ((c / 9223372036854775808 : Nat) : Int) from rfl, show c / 9223372036854775808 = 0 by omega]; rfl
    clear hx63 hk
    go_wp2_with fail
    go_ret
    exact ⟨rfl, rfl⟩

set_option maxRecDepth 100000 in
theorem compare_c (x y : Nat) (w : World) (hx : x < 2 ^ 64) (hy : y < 2 ^ 64) : Calls Tryz.prog 47 #[.float .f64 x, .float .f64 y] w fun e w' => e = .returned (.int .i64 (if fkey x < fkey y then -1 else if fkey y < fkey x then 1 else 0)) ∧ w' = w := by
  have HX := Lib.hid (fun W => key_c x W hx)
  have HY := Lib.hid (fun W => key_c y W hy)
  generalize fkey x = a at *
  generalize fkey y = b at *
  go_enter Tryz.func47, Tryz.ntmps47
  go_wp2_with fail
  refine (HX.out w).mono ?_
  rintro e w1 ⟨rfl, rfl⟩
  go_wp2_with fail
  refine (HY.out w1).mono ?_
  rintro e w2 ⟨rfl, rfl⟩
  rcases Nat.lt_trichotomy a b with h | h | h
  · have h1 : (a : Int) < b := by omega
    go_wp2_with fail
    go_ret
    exact ⟨ret_i64 (by first | rfl | simp [h]), rfl⟩
  · subst h
    go_wp2_with fail
    go_ret
    exact ⟨ret_i64 (by first | rfl | simp), rfl⟩
  · have h1 : ¬ (a : Int) < b := by omega
    have h2 : (b : Int) < a := by omega
    go_wp2_with fail
    go_ret
    exact ⟨ret_i64 (by first | rfl | (rw [if_neg (by omega), if_pos h])), rfl⟩

end Go.Proofs.YtpcipdkoncmdcaaGreatDoor
namespace Go.Proofs.YtpcipdkoncmdcaaGreatDoor
open Go Go.RowKit
theorem tx_own {w : World} {e : TypeId} {g c : Nat} {t : ByteArray} (h : OwnF w e 1 (.slice (some ⟨g, 0, none⟩) t.size c) t.size (bts t)) : Tx w (.slice (some ⟨g, 0, none⟩) t.size c) t := by
  obtain ⟨a, c', e1, h2, h3, h4⟩ := h.form
  injection e1 with e1 _ e2
  subst e1 e2
  exact ⟨_, _, rfl, h2, h3, (fun h => nomatch h), h4⟩

theorem join_cat (l : List ByteArray) : (⟨(Lib.join (l.map (·.data.toList)) (ByteArray.empty).data.toList).toArray⟩ : ByteArray) = JoinS.cat l := by
  have h : ∀ l : List (List UInt8), Lib.join l [] = l.flatten := by
    intro l
    unfold Lib.join
    induction l with
    | nil => rfl
    | cons a r ih =>
      cases r with
      | nil => simp [List.intercalate]
      | cons b r => simp [List.intercalate] at ih ⊢; exact ih
  unfold JoinS.cat
  have : (ByteArray.empty).data.toList = [] := rfl
  rw [this, h, List.flatMap_def]

theorem Tx.kept {w w' : World} {g c : Nat} {t : ByteArray} {row : Option Nat} (h : Tx w (.slice (some ⟨g, 0, none⟩) t.size c) t) (hg : w.grownBy w' row) (hne : some g ≠ row) : Tx w' (.slice (some ⟨g, 0, none⟩) t.size c) t := by
  obtain ⟨a, c', e, h2, h3, h4, h5⟩ := h
  injection e with e1 _ e2
  subst e1 e2
  refine ⟨_, _, rfl, h2, h3, (fun h => nomatch h), ?_⟩
  rcases h5 with h5 | ⟨b, o, e, hlt, hc⟩
  · exact .inl h5
  · cases e
    exact .inr ⟨g, 0, rfl, Nat.lt_of_lt_of_le hlt hg.size, fun i u hu => (hg.cell_far _ hlt hne).trans (hc i u hu)⟩

theorem ljn_c {w : World} {v : Value} {l : List ByteArray} (h : Tl w v l) (hl : l.length ≤ 100000000) (hz : (JoinS.cat l).size ≤ 1000000000) : Calls Tryz.prog 89 #[v] w fun e w' => ∃ g c, e = .returned (.slice (some ⟨g, 0, none⟩) (JoinS.cat l).size c) ∧ w.heap.size ≤ g ∧ Tx w' (.slice (some ⟨g, 0, none⟩) (JoinS.cat l).size c) (JoinS.cat l) ∧ Below w.heap.size w w' := by
  have HJ : Hid (Calls Tryz.prog 114 #[v, .string ByteArray.empty] w fun e w' => e = .returned (.string (JoinS.cat l)) ∧ Below w.heap.size w w') := by
    obtain ⟨a, c, rfl, h2, h3, h4, h5⟩ := h
    rcases h5 with h5 | ⟨b, o, rfl, hlt, hcell⟩
    · have : l = [] := List.map_eq_nil_iff.1 h5
      subst this
      refine (Tryz.strings_Join_none a c ByteArray.empty w).mono ?_
      rintro e w1 ⟨rfl, rfl⟩
      exact ⟨rfl, Below.refl _ _⟩
    · refine (Tryz.strings_Join b o c l ByteArray.empty w (fun j x hj => hcell j _ (by unfold lrow; rw [List.getElem?_map, hj]; rfl)) hlt (by omega) h2 ?_).mono ?_
      · have h1 : (Lib.join (l.map (·.data.toList)) (ByteArray.empty).data.toList).length = (JoinS.cat l).size := by rw [← join_cat, Lib.size_eq]
        omega
      · rintro e w1 ⟨rfl, hb⟩
        exact ⟨ret_str (join_cat l).symm, hb⟩
  obtain ⟨a0, c0, rfl, -⟩ := h
  generalize JoinS.cat l = t at *
  go_enter Tryz.func89, Tryz.ntmps89
  have HC : Hid (∀ W : World, ∃ c w', (convert 9 52 (.string t)).run Tryz.prog W = .ok (.slice (some ⟨W.heap.size, 0, none⟩) t.size c) w' ∧ Tx w' (.slice (some ⟨W.heap.size, 0, none⟩) t.size c) t ∧ Below W.heap.size W w') := by
    intro W
    obtain ⟨c, w', h1, h2, h3⟩ := own_bytes (P := Tryz.prog) W 9 52 5 t Tryz.underlying9 Tryz.underlying52 Tryz.underlying5 (by simp [maxLen]; omega)
    exact ⟨c, w', h1, tx_own h2, h3⟩
  go_wp2_with (go_at_call 114; refine HJ.out.mono ?_; rintro e w1 ⟨rfl, hb⟩; obtain ⟨c5, w5, hcv, htx, hb5⟩ := HC.out w1; have HTX := Lib.hid htx; clear htx)
  go_ret
  exact ⟨_, _, rfl, hb.size, HTX.out, hb.trans (hb5.mono hb.size)⟩

/-- The bits of minus infinity. -/
def ninf : Nat := 18442240474082181120
theorem cn_le {x : Nat} (h : x < 2 ^ 64) : cn x ≤ 18442240474082181120 := by
  unfold cn
  split
  · decide
  · rename_i hn
    by_cases h1 : 9218868437227405312 < x % 9223372036854775808
    · exact absurd (nan_of_rung h1) hn
    · omega
theorem fkey_ninf {x : Nat} (h : x < 2 ^ 64) : fkey ninf ≤ fkey x := by
  have h1 := cn_le h
  have e : fkey ninf = 4503599627370495 := by kernel_rfl
  rw [e]
  unfold fkey
  split <;> omega
theorem fkey_cn {x y : Nat} (hx : x < 2 ^ 64) (hy : y < 2 ^ 64) (h : fkey x = fkey y) : cn x = cn y := by
  have h1 := cn_le hx
  have h2 := cn_le hy
  unfold fkey at h
  split at h <;> split at h <;> omega
theorem cn_cn (x : Nat) : cn (cn x) = cn x := by
  unfold cn
  by_cases h : nanB x = true
  · rw [if_pos h]; kernel_rfl
  · rw [if_neg h, if_neg h]
theorem fkey_of_cn (x : Nat) : fkey (cn x) = fkey x := by unfold fkey; rw [cn_cn]
end Go.Proofs.YtpcipdkoncmdcaaGreatDoor
namespace Go.Proofs.YtpcipdkoncmdcaaGreatDoor
open Go Go.RowKit
set_option maxRecDepth 100000 in
theorem inf_c (w : World) : Calls Tryz.prog 109 #[.int .i64 (-1)] w fun e w' => e = .returned (.float .f64 ninf) ∧ w' = w := by
  unfold ninf
  have hr : ∀ w : World, (callFunc 93 #[.int .u64 (18442240474082181120 : Int)]).run Tryz.prog w = .ok (.value (.float .f64 18442240474082181120)) w := fun w => run_frombits 18442240474082181120 w
  have d1 : decide ((-1 : Int) ≥ 0) = false := by decide
  have d2 : decide ((0 : Int) ≤ -1) = false := by decide
  go_enter Tryz.func109, Tryz.ntmps109
  go_wp2_with fail
  go_ret
  exact ⟨rfl, rfl⟩

/-- The last of these, from out on. -/
def last (out : Nat) : List Nat → Nat
  | [] => out
  | f :: l => last (if fkey out < fkey f then cn f else out) l
theorem cn_lt64 {x : Nat} (h : x < 2 ^ 64) : cn x < 2 ^ 64 := by have := cn_le h; omega
theorem last_snoc (l : List Nat) : ∀ (out f : Nat), last out (l ++ [f]) = if fkey (last out l) < fkey f then cn f else last out l := by
  induction l with
  | nil => intro out f; rfl
  | cons g l ih => intro out f; exact ih _ _
theorem last_two {a b : Nat} (ha : a < 2 ^ 64) : last ninf [a, b] = if fkey a < fkey b then cn b else cn a := by
  have h1 := fkey_ninf ha
  have h2 : ninf < 2 ^ 64 := by unfold ninf; omega
  have h0 : cn ninf = ninf := by kernel_rfl
  unfold last last last
  by_cases e : fkey ninf < fkey a
  · rw [if_pos e, fkey_of_cn]
  · rw [if_neg e]
    have e2 : fkey ninf = fkey a := by omega
    have e3 := fkey_cn h2 ha e2
    rw [e2, ← e3, h0]

set_option maxRecDepth 100000 in
set_option maxHeartbeats 1000000 in
theorem latest_c {w : World} {a : Option Addr} {c : Nat} {l : List Nat} (h : Sl w a (l.map (Value.float .f64))) (hl : l.length ≤ 1000) (hx : ∀ x ∈ l, x < 2 ^ 64) :
    Calls Tryz.prog 84 #[.slice a l.length c] w fun e w' => e = .returned (.float .f64 (last ninf l)) ∧ w' = w := by
  have hn0 : ninf < 2 ^ 64 := by unfold ninf; omega
  have HI := Lib.hid (inf_c w)
  generalize ninf = nf at *
  have HX := Lib.hid hx
  clear hx
  go_enter Tryz.func84, Tryz.ntmps84
  go_upto_region 2 with (go_at_call 109; refine HI.out.mono ?_; rintro e w1 ⟨rfl, hw⟩; obtain rfl := hw.symm; clear hw)
  go_upto_region 3 with fail
  go_loopw [3, 5, 9] (fun ov _ iv wx => ∃ (k : Nat) (x : Nat), k ≤ l.length ∧ iv = .int .i64 k ∧ ov = .float .f64 x ∧ Hid (last nf (l.take k) = x) ∧ x < 2 ^ 64 ∧ wx = w) (fun _ _ iv _ => (l.length - intOf iv).toNat)
  case atStart => exact ⟨0, nf, Nat.zero_le _, rfl, rfl, rfl, hn0, rfl⟩
  case round =>
    obtain ⟨k, x, hk, rfl, rfl, HLx, hx64, hw⟩ := hrel
    obtain rfl := hw.symm
    clear hw
    by_cases hlt : k < l.length
    · have d1 : decide ((k : Int) < (l.length : Int)) = true := decide_eq_true (by omega)
      have d2 : decide (k < l.length) = true := decide_eq_true hlt
      have dw : IntKind.i64.wrap ((k : Int) + 1) = ((k + 1 : Nat) : Int) := IntWalk.i64_in _ (by omega)
      obtain ⟨b, o, rfl, hbl, hc⟩ := h.at (k := k) (by simpa using hlt)
      have hcell : w.cell? ⟨b, o + k, none⟩ = some (.float .f64 l[k]) := by have := hc k (by simpa using hlt); rw [List.getElem_map] at this; exact this
      clear hc
      have hf := HX.out _ (List.getElem_mem hlt)
      have HS : Hid (last nf (l.take (k + 1)) = if fkey x < fkey l[k] then cn l[k] else x) := by
        show _ = _; rw [List.take_succ_eq_append_getElem hlt, last_snoc, HLx.out]
      generalize l[k] = f at *
      have HC := Lib.hid (compare_c f x w hf hx64)
      have HCN := Lib.hid (canon_c f w)
      have hcf := cn_lt64 hf
      by_cases h1 : fkey x < fkey f
      · have HS2 : Hid (last nf (l.take (k + 1)) = cn f) := by show _ = _; rw [HS.out, if_pos h1]
        have HC2 : Hid (Calls Tryz.prog 47 #[.float .f64 f, .float .f64 x] w fun e w' => e = .returned (.int .i64 1) ∧ w' = w) := by
          have := HC.out
          rwa [if_neg (by omega), if_pos h1] at this
        clear h1 HC HS HLx
        generalize cn f = cf at *
        go_wp2_with (first
          | (go_at_call 47; refine HC2.out.mono ?_; rintro e w2 ⟨rfl, hw⟩; obtain rfl := hw.symm; clear hw)
          | (go_at_call 83; refine HCN.out.mono ?_; rintro e w2 ⟨rfl, hw⟩; obtain rfl := hw.symm; clear hw))
        go_roundw
        case rel => exact ⟨k + 1, cf, hlt, by go_num, rfl, HS2, hcf, trivial⟩
        case measure => simp [intOf]; omega
      · have HS2 : Hid (last nf (l.take (k + 1)) = x) := by show _ = _; rw [HS.out, if_neg h1]
        obtain ⟨z, hz0, HC2⟩ : ∃ z : Int, z ≤ 0 ∧ Hid (Calls Tryz.prog 47 #[.float .f64 f, .float .f64 x] w fun e w' => e = .returned (.int .i64 z) ∧ w' = w) := by
          have := HC.out
          rw [if_neg h1] at this
          exact ⟨_, by split <;> omega, this⟩
        have d3 : decide (z > 0) = false := decide_eq_false (by omega)
        have d4 : decide (0 < z) = false := decide_eq_false (by omega)
        clear h1 HC HS HLx HCN
        go_wp2_with (go_at_call 47; refine HC2.out.mono ?_; rintro e w2 ⟨rfl, hw⟩; obtain rfl := hw.symm; clear hw)
        go_roundw
        case rel => exact ⟨k + 1, x, hlt, by go_num, rfl, HS2, hx64, trivial⟩
        case measure => simp [intOf]; omega
    · have d1 : decide ((k : Int) < (l.length : Int)) = false := decide_eq_false (by omega)
      have d2 : decide (k < l.length) = false := decide_eq_false hlt
      rw [List.take_of_length_le (by omega)] at HLx
      go_wp2_with fail
      go_ret
      exact ⟨by rw [HLx.out]; rfl, rfl⟩
end Go.Proofs.YtpcipdkoncmdcaaGreatDoor
