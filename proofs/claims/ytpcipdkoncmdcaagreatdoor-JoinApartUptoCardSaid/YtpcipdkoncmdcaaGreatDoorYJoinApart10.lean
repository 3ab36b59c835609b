/- Texts of mine, joined: Walk: three lists woven. | The walk of the reference's Sorted. -/
import Derived.Deep.Cut
import Derived.Deep.CutRange
import Derived.Deep.RegionHeld3
import Derived.Laws.AppendOwnNone
import Derived.Test.YtpcipdkoncmdcaaGreatDoorYJoinApart9
namespace Go.Proofs.YtpcipdkoncmdcaaGreatDoor
open Go Go.RowKit
theorem pairs_elem : Tryz.prog.underlying 174 = some (.slice (Tryz.prog.elem 174)) := by have h := Tryz.underlying174; simp [Program.elem, h]
theorem pairs_two (W : World) : (sizeOf (Tryz.prog.elem 174)).run Tryz.prog W = .ok 2 W := by simp [go_sem]
theorem prow_len (l : List (Nat × Nat)) : (prow l).length = l.length * 2 := by
  induction l with
  | nil => rfl
  | cons x l ih => show ([_, _] ++ prow l).length = _; rw [List.length_append, ih, List.length_cons]; simp; omega

/-- The value is a slice of pairs, to be read. -/
def Pv (w : World) (v : Value) (l : List (Nat × Nat)) : Prop := ∃ a c, v = .slice a l.length c ∧ l.length ≤ c ∧ (a = none → c = 0) ∧ Sl w a (prow l)
theorem Pv.of_own {w : World} {base : Nat} {v : Value} {l : List (Nat × Nat)} (h : w.ownsRow base 180 2 v l.length (prow l)) : Pv w v l := by
  obtain ⟨h1, h2⟩ := h
  rcases h2 with ⟨rfl, h0⟩ | ⟨g, cap, cur, rfl, hb, hg, hn, hc, hs, ht⟩
  · have : l = [] := List.eq_nil_of_length_eq_zero h0
    subst this; exact ⟨none, 0, rfl, Nat.le_refl _, fun _ => rfl, .inl rfl⟩
  · refine ⟨_, cap, rfl, hn, (fun h => nomatch h), .inr ⟨g, 0, rfl, (Array.getElem?_eq_some_iff.1 hg).1, fun i u hu => ?_⟩⟩
    rw [← ht, List.getElem?_take] at hu
    split at hu
    · simp only [World.cell?, hg, Nat.zero_add]; rw [← Array.getElem?_toList]; exact hu
    · cases hu
theorem Pv.below {w w' : World} {v : Value} {l : List (Nat × Nat)} (h : Pv w v l) (hb : Below w.heap.size w w') : Pv w' v l := by
  obtain ⟨a, c, h1, h2, h3, h4⟩ := h
  exact ⟨a, c, h1, h2, h3, h4.below hb⟩
/-- The first pair, and the rest. -/
theorem Pv.cons {w : World} {v : Value} {x : Nat × Nat} {l : List (Nat × Nat)} (h : Pv w v (x :: l)) : ∃ g o c, v = .slice (some ⟨g, o, none⟩) (l.length + 1) c ∧ g < w.heap.size ∧ w.rangeAt g o [.int .i64 x.1, .int .i64 x.2] ∧
    ∃ A C, Pv w (.slice A l.length C) l ∧ ∀ W, (Instr.slice 174 (.slice (some ⟨g, o, none⟩) (l.length + 1) c) (some (.int .i64 1)) none none).run Tryz.prog W = .ok (.slice A l.length C) W := by
  obtain ⟨a, c, rfl, h2, h3, h4⟩ := h
  rcases h4 with h4 | ⟨g, o, rfl, hg, hc⟩
  · cases h4
  · refine ⟨g, o, c, rfl, hg, fun j u hu => ?_, ?_⟩
    · refine hc j u ?_
      show ([Value.int .i64 x.1, .int .i64 x.2] ++ prow l)[j]? = _
      rw [List.getElem?_append_left (List.getElem?_eq_some_iff.1 hu).1]; exact hu
    · obtain ⟨A, C, k1, k2, k3, k4, k5⟩ := sl_fromS (n := l.length + 1) pairs_elem pairs_two (c := c) (.inr ⟨g, o, rfl, hg, hc⟩) (by rw [prow_len, List.length_cons]) h2 (by simp) (k := 1) (by omega)
      rw [Nat.add_sub_cancel] at k1 k5
      exact ⟨A, C, ⟨A, C, rfl, k1, k3, by have : (prow (x :: l)).drop (1 * 2) = prow l := rfl; rw [← this]; exact k4⟩, k5⟩

/-- Two pairs stored into new blocks. -/
theorem st_pairs {W : World} {b1 b2 : Nat} {x0 x1 y0 y1 : Nat} (h1 : W.heap[b1]? = some (.cells #[.int .i64 0, .int .i64 0] 180 (0, 0))) (h2 : W.heap[b2]? = some (.cells #[.int .i64 0, .int .i64 0] 180 (0, 0))) (hne : b1 ≠ b2) :
    ∃ W8 W9, (Instr.storeAt 180 (.pointer (some ⟨b1, 0, none⟩)) (.agg #[.int .i64 x0, .int .i64 x1])).run Tryz.prog W = .ok () W8 ∧ (Instr.storeAt 180 (.pointer (some ⟨b2, 0, none⟩)) (.agg #[.int .i64 y0, .int .i64 y1])).run Tryz.prog W8 = .ok () W9 ∧
      W9.heap[b1]? = some (.cells #[.int .i64 x0, .int .i64 x1] 180 (0, 0)) ∧ W9.heap[b2]? = some (.cells #[.int .i64 y0, .int .i64 y1] 180 (0, 0)) ∧ ∀ (B : Nat) (w : World), B ≤ b1 → B ≤ b2 → Below B w W → Below B w W8 ∧ Below B w W9 := by
  obtain ⟨W8, r8, c8, g8⟩ := run_storeB (P := Tryz.prog) (ty := 180) (new := #[.int .i64 x0, .int .i64 x1]) h1 rfl (by kernel_rfl) (by simp; exact ⟨rfl, rfl⟩)
  have h28 : W8.heap[b2]? = some (.cells #[.int .i64 0, .int .i64 0] 180 (0, 0)) := (g8.block b2 (Array.getElem?_eq_some_iff.1 h2).1 (by simp; omega)).trans h2
  obtain ⟨W9, r9, c9, g9⟩ := run_storeB (P := Tryz.prog) (ty := 180) (new := #[.int .i64 y0, .int .i64 y1]) h28 rfl (by kernel_rfl) (by simp; exact ⟨rfl, rfl⟩)
  refine ⟨W8, W9, r8, r9, (g9.block b1 (Array.getElem?_eq_some_iff.1 c8).1 (by simp; omega)).trans c8, c9, fun B w hB1 hB2 hb => ?_⟩
  have hl1 := (Array.getElem?_eq_some_iff.1 h1).1
  have k8 := hb.grown g8 (by omega) fun k hk => by injection hk with hk; subst hk; exact hB1
  exact ⟨k8, k8.grown g9 (by have := g8.size; omega) fun k hk => by injection hk with hk; subst hk; exact hB2⟩
theorem rangeAt_below {w w' : World} {b o : Nat} {cs : List Value} (h : w.rangeAt b o cs) (hl : b < w.heap.size) (hb : Below w.heap.size w w') : w'.rangeAt b o cs := fun j v hv => (hb.cell (p := ⟨b, o + j, none⟩) hl).trans (h j v hv)

theorem LI.grow {F : Nat → Prop} {w0 w w' : World} {q : Nat} {ps : List (JoinS.Pt ByteArray)} {bs os ts : List ByteArray} (h : LI F w0 w q ps bs os ts) (hb : Below w.heap.size w w') : LI F w0 w' q ps bs os ts := by
  obtain ⟨bv, ov, tv, pv, xs, h1, h2, h3, h4⟩ := h
  exact ⟨bv, ov, tv, pv, xs, h1.grow hb, h2, h3, fun b hF => ⟨Nat.lt_of_lt_of_le (h4 b hF).1 hb.size, (h4 b hF).2⟩⟩
theorem LI.below {F : Nat → Prop} {w0 w : World} {q : Nat} {ps : List (JoinS.Pt ByteArray)} {bs os ts : List ByteArray} (h : LI F w0 w q ps bs os ts) : Below w0.heap.size w0 w := by
  obtain ⟨_, _, _, _, _, h1, _⟩ := h
  exact h1.below
/-- New blocks are others'. -/
theorem LI.fresh {F : Nat → Prop} {w0 w w' : World} {q : Nat} {ps : List (JoinS.Pt ByteArray)} {bs os ts : List ByteArray} (h : LI (fun _ => False) w0 w q ps bs os ts) (hb : Below w.heap.size w w') (hF : ∀ b, F b → w.heap.size ≤ b ∧ b < w'.heap.size) : LI F w0 w' q ps bs os ts := by
  obtain ⟨bv, ov, tv, pv, xs, h1, h2, h3, -⟩ := h
  refine ⟨bv, ov, tv, pv, xs, h1.grow hb, h2, h3, fun b hb2 => ⟨(hF b hb2).2, ?_, fun e => ?_, fun z hz => ?_⟩⟩
  · have := h1.lt; have := (hF b hb2).1; omega
  · have := (h1.parts.pvq b e).2.2; have := (hF b hb2).1; omega
  · rcases h1.parts with ⟨rfl, _⟩ | ⟨ys, z', rfl, hz'⟩
    · cases hz
    · rw [List.getLast?_append, List.getLast?_singleton] at hz
      injection hz with hz
      subst hz
      have := (hF b hb2).1
      exact ⟨fun e => by have := hz'.zb.lt e; omega, fun e => by have := hz'.zo.lt e; omega, fun e => by have := hz'.zt.lt e; omega⟩
theorem LI.bare {F : Nat → Prop} {w0 w : World} {q : Nat} {ps : List (JoinS.Pt ByteArray)} {bs os ts : List ByteArray} (h : LI F w0 w q ps bs os ts) : LI (fun _ => False) w0 w q ps bs os ts := by
  obtain ⟨bv, ov, tv, pv, xs, h1, h2, h3, -⟩ := h
  exact ⟨bv, ov, tv, pv, xs, h1, h2, h3, fun _ h => h.elim⟩
theorem LI.start {w : World} {vb vo vt : Value} {b o t : List ByteArray} (hb : Tl w vb b) (ho : Tl w vo o) (ht : Tl w vt t) (lb : b.length ≤ 10000000) (lo : o.length ≤ 10000000) (lt : t.length ≤ 10000000) :
    LI (fun _ => False) w (w.alloc (.cells #[vb, vo, vt, .slice none 0 0] 179 (0, 0))) w.heap.size [] b o t := by
  have hbl : Below w.heap.size w (w.alloc (.cells #[vb, vo, vt, .slice none 0 0] 179 (0, 0))) := (Below.refl _ w).alloc (Nat.le_refl _) _
  have hk : ∀ b, b < w.heap.size → b < w.heap.size → (w.alloc (.cells #[vb, vo, vt, .slice none 0 0] 179 (0, 0))).heap[b]? = w.heap[b]? ∧ b < w.heap.size := fun b h1 _ => ⟨hbl.block b h1, h1⟩
  exact ⟨vb, vo, vt, .slice none 0 0, [], ⟨hbl, Nat.le_refl _, Array.getElem?_push_size, hb.tn.keep hbl.size hk, ho.tn.keep hbl.size hk, ht.tn.keep hbl.size hk, .inl ⟨rfl, rfl⟩⟩, rfl, ⟨by simp; omega, (fun x hx => nomatch hx), lb, lo, lt⟩, fun _ h => h.elim⟩

theorem ld_int (ad : Addr) (v : Value) (W : World) (h : W.cell? ad = some v) : (Instr.loadAt 3 (.pointer (some ad))).run Tryz.prog W = .ok v W := by go_simp
/-- Parts in memory. -/
structure PR (w : World) (pv : Value) (xs : List PtV) : Prop where
  row : OwnG w 182 4 pv xs.length (pvR xs)
  rd : ∀ y ∈ xs, Tl w y.b y.p.b ∧ Tl w y.o y.p.o ∧ Tl w y.t y.p.t
  n : xs.length ≤ 30000000
theorem PR.below {w w' : World} {pv : Value} {xs : List PtV} (h : PR w pv xs) (hb : Below w.heap.size w w') : PR w' pv xs :=
  ⟨h.row.below hb, fun y hy => by obtain ⟨h1, h2, h3⟩ := h.rd y hy; exact ⟨h1.below hb, h2.below hb, h3.below hb⟩, h.n⟩

set_option maxRecDepth 100000 in
set_option maxHeartbeats 4000000 in
theorem weave_c {w : World} {vb vo vt : Value} {b o t : List ByteArray} (hb : Tl w vb b) (ho : Tl w vo o) (ht : Tl w vt t) (lb : b.length ≤ 1000000) (lo : o.length ≤ 1000000) (lt : t.length ≤ 1000000) (h1 : b.length * o.length ≤ 1048576) (h2 : b.length * t.length ≤ 1048576) :
    Calls Tryz.prog 87 #[vb, vo, vt] w fun e w' => ∃ pv xs, e = .returned (.tuple #[pv, .int .i64 0]) ∧ PR w' pv xs ∧ xs.map (·.p) = JoinS.joinAll [] (JoinS.parts b o t) ∧ Below w.heap.size w w' := by
  have HP1 : Hid (Calls Tryz.prog 111 #[vb, vo] w fun e w' => ∃ v, e = .returned (.tuple #[v, .int .i64 0]) ∧ Pv w' v (ScoreS.P 0 0 b o) ∧ Below w.heap.size w w') := by
    obtain ⟨a1, c1, rfl, -, -, -, s1⟩ := hb
    obtain ⟨a2, c2, rfl, -, -, -, s2⟩ := ho
    refine (pairs_c a1 a2 c1 c2 b o w s1 s2 (by omega) (by omega) h1).mono ?_
    rintro e w' ⟨v, rfl, k1, k2⟩
    exact ⟨v, rfl, Pv.of_own k1, k2⟩
  have HP2 : Hid (∀ W, Below w.heap.size w W → Calls Tryz.prog 111 #[vb, vt] W fun e w' => ∃ v, e = .returned (.tuple #[v, .int .i64 0]) ∧ Pv w' v (ScoreS.P 0 0 b t) ∧ Below W.heap.size W w') := by
    intro W hW
    obtain ⟨a1, c1, rfl, -, -, -, s1⟩ := hb.below hW
    obtain ⟨a2, c2, rfl, -, -, -, s2⟩ := ht.below hW
    refine (pairs_c a1 a2 c1 c2 b t W s1 s2 (by omega) (by omega) h2).mono ?_
    rintro e w' ⟨v, rfl, k1, k2⟩
    exact ⟨v, rfl, Pv.of_own k1, k2⟩
  have HS := Lib.hid (fun (W : World) (hW : Below w.heap.size w W) => LI.start (hb.below hW) (ho.below hW) (ht.below hW) (by omega) (by omega) (by omega))
  have fb : vb.oneCell' = true := by obtain ⟨a, c, rfl, -⟩ := hb; rfl
  obtain ⟨ab, cb, (eb : vb = .slice ab b.length cb), -⟩ := hb
  obtain ⟨ao, co, (eo : vo = .slice ao o.length co), -⟩ := ho
  obtain ⟨at_, ct, (et : vt = .slice at_ t.length ct), -⟩ := ht
  subst eb eo et
  clear h1 h2 fb
  go_enter Tryz.func87, Tryz.ntmps87
  go_upto_region 8 with (first
    | (go_at_call 111; refine HP1.out.mono ?_; rintro e w1 ⟨v1, rfl, hp1, hb1⟩; clear HP1)
    | (go_at_call 111; refine (HP2.out _ hb1).mono ?_; rintro e w2 ⟨v2, rfl, hp2, hb2⟩))
  have HLI := Lib.hid (HS.out w2 (hb1.trans (hb2.mono hb1.size)))
  have HPA := Lib.hid (hp1.below hb2)
  have HPB := Lib.hid hp2
  have HB2 := Lib.hid (hb1.trans (hb2.mono hb1.size))
  have HAT := Lib.hid (JoinS.At.start b o t)
  clear hp1 hp2 hb1 hb2 HS HP2
  generalize hW3 : w2.alloc (.cells #[.slice ab b.length cb, .slice ao o.length co, .slice at_ t.length ct, .slice none 0 0] 179) = W3 at *
  have HB3 : Hid (Below w2.heap.size w2 W3) := by show Below _ _ _; rw [← hW3]; exact (Below.refl _ w2).alloc (Nat.le_refl _) _
  clear hW3
  go_upto_region 9 with fail
  go_loopw [8, 10, 12, 13, 14, 15, 16] (fun av bv iv jv kv _ _ wx => ∃ (A B : List (Nat × Nat)) (i j k : Nat) (ps : List (JoinS.Pt ByteArray)), iv = .int .i64 i ∧ jv = .int .i64 j ∧ kv = .int .i64 k ∧ Pv w2 av A ∧ Pv w2 bv B ∧ LI (fun _ => False) w2 wx w2.heap.size ps (b.drop i) (o.drop j) (t.drop k) ∧ JoinS.At b o t ps i j k A B ∧ Below w2.heap.size w2 wx) (fun av bv _ _ _ _ _ _ => lenV av + lenV bv)
  case atStart => exact ⟨_, _, 0, 0, 0, [], rfl, rfl, rfl, HPA.out, HPB.out, HLI.out, HAT.out, HB3.out⟩
  case round =>
    obtain ⟨A, B, i, j, k, ps, rfl, rfl, rfl, hA, hB, hL, hat, hbx⟩ := hrel
    clear HPA HPB HLI HAT HB3
    have HL := Lib.hid hL
    have HBX := Lib.hid hbx
    have HAT := Lib.hid hat
    clear hL hbx hat
    have hcase : (A = [] ∨ B = []) ∨ ∃ x A' y B', A = x :: A' ∧ B = y :: B' := by
      cases A with
      | nil => exact .inl (.inl rfl)
      | cons x A' => cases B with
        | nil => exact .inl (.inr rfl)
        | cons y B' => exact .inr ⟨x, A', y, B', rfl, rfl⟩
    rcases hcase with hend | ⟨x, A', y, B', rfl, rfl⟩
    · have HD := Lib.hid (HAT.out.done hend)
      obtain ⟨aa, ca, rfl, -⟩ := hA
      obtain ⟨ab2, cb2, rfl, -⟩ := hB
      clear HAT HBX
      cases A with
      | nil =>
        clear hend
        go_upto_region 19 with fail
        obtain ⟨bvv, ovv, tvv, pvv, xs, hJ, hps, hBd, -⟩ := (HL.out.grow (below_dN (Below.refl _ wr) 1))
        obtain ⟨ab, cb, (e0 : bvv = .slice ab (b.drop i).length cb), -⟩ := hJ.tb
        subst e0
        obtain ⟨ao, co, (e1 : ovv = .slice ao (o.drop j).length co), -⟩ := hJ.to_
        subst e1
        obtain ⟨at_, ct, (e2 : tvv = .slice at_ (t.drop k).length ct), -⟩ := hJ.tt
        subst e2
        have hs0 : (fun W => W.cell? ⟨w2.heap.size, 0, none⟩ = some (.slice ab (b.drop i).length cb) ∧ W.cell? ⟨w2.heap.size, 1, none⟩ = some (.slice ao (o.drop j).length co) ∧ W.cell? ⟨w2.heap.size, 2, none⟩ = some (.slice at_ (t.drop k).length ct)) (wr.drewN 1) := ⟨hJ.c0, hJ.c1, hJ.c2⟩
        have HADD := Lib.hid (add_c (F := fun _ => False) (w := wr.drewN 1) ⟨_, _, _, _, _, hJ, hps, hBd, fun _ h => h.elim⟩ (Nat.le_refl _) (Nat.le_refl _) (Nat.le_refl _))
        clear hJ hps hBd
        refine wp_region_hz (fun W => W.cell? ⟨w2.heap.size, 0, none⟩ = some (.slice ab (b.drop i).length cb) ∧ W.cell? ⟨w2.heap.size, 1, none⟩ = some (.slice ao (o.drop j).length co) ∧ W.cell? ⟨w2.heap.size, 2, none⟩ = some (.slice at_ (t.drop k).length ct)) (.tk 0 (.tk 1 (.tk 2 (.tk 3 (.tk 4 (.tk 5 (.tk 6 (.tk 7 (.tk 8 (.tk 9 (.tk 10 (.tk 11 (.tk 12 (.tk 13 (.tk 14 (.tk 15 (.fc 16 .nil))))))))))))))))) (by kernel_rfl) (by kernel_rfl) (fun _ _ _ _ _ h => h) ?_
        refine goZ_tk rfl rfl 98 rfl (.pointer (some ⟨w2.heap.size, 0, none⟩)) (fun _ => rfl) ?_; simp only [zT, zA, zB]
        refine goZ_tk rfl rfl 99 rfl (.pointer (some ⟨w2.heap.size, 0, none⟩)) (fun _ => rfl) ?_; simp only [zT, zA, zB]
        refine goZ_tk rfl rfl 100 rfl (.pointer (some ⟨w2.heap.size, 0, none⟩)) (fun _ => rfl) ?_; simp only [zT, zA, zB]
        refine goZ_tk rfl rfl 101 rfl (.pointer (some ⟨w2.heap.size, 0, none⟩)) (fun _ => rfl) ?_; simp only [zT, zA, zB]
        refine goZ_ld rfl rfl 102 rfl 82 _ rfl ⟨w2.heap.size, 0, none⟩ (.slice ab (b.drop i).length cb) rfl (fun W hS => ld_strs _ _ W hS.1) (hs0) ?_; simp only [zT, zA, zB]
        refine goZ_tk rfl rfl 103 rfl (.int .i64 ((b.drop i).length : Int)) (fun _ => by go_simp) ?_; simp only [zT, zA, zB]
        refine goZ_tk rfl rfl 104 rfl (.pointer (some ⟨w2.heap.size, 0, none⟩)) (fun _ => rfl) ?_; simp only [zT, zA, zB]
        refine goZ_tk rfl rfl 105 rfl (.pointer (some ⟨w2.heap.size, 0, none⟩)) (fun _ => rfl) ?_; simp only [zT, zA, zB]
        refine goZ_tk rfl rfl 106 rfl (.pointer (some ⟨w2.heap.size, 1, none⟩)) (fun _ => rfl) ?_; simp only [zT, zA, zB]
        refine goZ_ld rfl rfl 107 rfl 82 _ rfl ⟨w2.heap.size, 1, none⟩ (.slice ao (o.drop j).length co) rfl (fun W hS => ld_strs _ _ W hS.2.1) (hs0) ?_; simp only [zT, zA, zB]
        refine goZ_tk rfl rfl 108 rfl (.int .i64 ((o.drop j).length : Int)) (fun _ => by go_simp) ?_; simp only [zT, zA, zB]
        refine goZ_tk rfl rfl 109 rfl (.pointer (some ⟨w2.heap.size, 0, none⟩)) (fun _ => rfl) ?_; simp only [zT, zA, zB]
        refine goZ_tk rfl rfl 110 rfl (.pointer (some ⟨w2.heap.size, 0, none⟩)) (fun _ => rfl) ?_; simp only [zT, zA, zB]
        refine goZ_tk rfl rfl 111 rfl (.pointer (some ⟨w2.heap.size, 2, none⟩)) (fun _ => rfl) ?_; simp only [zT, zA, zB]
        refine goZ_ld rfl rfl 112 rfl 82 _ rfl ⟨w2.heap.size, 2, none⟩ (.slice at_ (t.drop k).length ct) rfl (fun W hS => ld_strs _ _ W hS.2.2) (hs0) ?_; simp only [zT, zA, zB]
        refine goZ_tk rfl rfl 113 rfl (.int .i64 ((t.drop k).length : Int)) (fun _ => by go_simp) ?_; simp only [zT, zA, zB]
        refine goZ_call (ds' := []) rfl rfl (by kernel_rfl) 114 rfl 112 _ rfl [.pointer (some ⟨w2.heap.size, 0, none⟩), .int .i64 ((b.drop i).length : Int), .int .i64 ((o.drop j).length : Int), .int .i64 ((t.drop k).length : Int)] rfl (enters_of Tryz.func112 (by kernel_rfl) rfl) ((HADD.out).mono ?_)
        rintro e W9 ⟨rfl, hL9, -⟩
        have HL9 := Lib.hid hL9
        clear hL9 hs0
        refine ⟨_, rfl, fun h => absurd rfl h, ?_⟩; simp only [zT, zA, zB]
        refine goZ_end ?_
        rw [List.take_length, List.take_length, List.take_length, HD.out] at HL9
        obtain ⟨bv9, ov9, tv9, pv9, xs9, hJ9, hps9, hBd9, -⟩ := HL9.out
        have c9 := hJ9.c3
        have HJ9 := Lib.hid hJ9
        clear hJ9
        go_wp2_with fail
        go_ret2
        refine ⟨pv9, xs9, rfl, ⟨HJ9.out.parts.row, fun y hy => ?_, by have := hBd9.n; omega⟩, hps9, HB2.out.trans (HJ9.out.below.mono HB2.out.size)⟩
        obtain ⟨k1, k2, k3⟩ := HJ9.out.parts.read y hy
        exact ⟨k1.tl, k2.tl, k3.tl⟩
      | cons x A' =>
        obtain rfl : B = [] := hend.elim (fun h => nomatch h) id
        have ea1 : ((A'.length : Int) + 1 > 0) = True := by simp
        clear hend
        go_upto_region 19 with fail
        obtain ⟨bvv, ovv, tvv, pvv, xs, hJ, hps, hBd, -⟩ := (HL.out.grow (below_dN (Below.refl _ wr) 1))
        obtain ⟨ab, cb, (e0 : bvv = .slice ab (b.drop i).length cb), -⟩ := hJ.tb
        subst e0
        obtain ⟨ao, co, (e1 : ovv = .slice ao (o.drop j).length co), -⟩ := hJ.to_
        subst e1
        obtain ⟨at_, ct, (e2 : tvv = .slice at_ (t.drop k).length ct), -⟩ := hJ.tt
        subst e2
        have hs0 : (fun W => W.cell? ⟨w2.heap.size, 0, none⟩ = some (.slice ab (b.drop i).length cb) ∧ W.cell? ⟨w2.heap.size, 1, none⟩ = some (.slice ao (o.drop j).length co) ∧ W.cell? ⟨w2.heap.size, 2, none⟩ = some (.slice at_ (t.drop k).length ct)) (wr.drewN 1) := ⟨hJ.c0, hJ.c1, hJ.c2⟩
        have HADD := Lib.hid (add_c (F := fun _ => False) (w := wr.drewN 1) ⟨_, _, _, _, _, hJ, hps, hBd, fun _ h => h.elim⟩ (Nat.le_refl _) (Nat.le_refl _) (Nat.le_refl _))
        clear hJ hps hBd
        refine wp_region_hz (fun W => W.cell? ⟨w2.heap.size, 0, none⟩ = some (.slice ab (b.drop i).length cb) ∧ W.cell? ⟨w2.heap.size, 1, none⟩ = some (.slice ao (o.drop j).length co) ∧ W.cell? ⟨w2.heap.size, 2, none⟩ = some (.slice at_ (t.drop k).length ct)) (.tk 0 (.tk 1 (.tk 2 (.tk 3 (.tk 4 (.tk 5 (.tk 6 (.tk 7 (.tk 8 (.tk 9 (.tk 10 (.tk 11 (.tk 12 (.tk 13 (.tk 14 (.tk 15 (.fc 16 .nil))))))))))))))))) (by kernel_rfl) (by kernel_rfl) (fun _ _ _ _ _ h => h) ?_
        refine goZ_tk rfl rfl 98 rfl (.pointer (some ⟨w2.heap.size, 0, none⟩)) (fun _ => rfl) ?_; simp only [zT, zA, zB]
        refine goZ_tk rfl rfl 99 rfl (.pointer (some ⟨w2.heap.size, 0, none⟩)) (fun _ => rfl) ?_; simp only [zT, zA, zB]
        refine goZ_tk rfl rfl 100 rfl (.pointer (some ⟨w2.heap.size, 0, none⟩)) (fun _ => rfl) ?_; simp only [zT, zA, zB]
        refine goZ_tk rfl rfl 101 rfl (.pointer (some ⟨w2.heap.size, 0, none⟩)) (fun _ => rfl) ?_; simp only [zT, zA, zB]
        refine goZ_ld rfl rfl 102 rfl 82 _ rfl ⟨w2.heap.size, 0, none⟩ (.slice ab (b.drop i).length cb) rfl (fun W hS => ld_strs _ _ W hS.1) (hs0) ?_; simp only [zT, zA, zB]
        refine goZ_tk rfl rfl 103 rfl (.int .i64 ((b.drop i).length : Int)) (fun _ => by go_simp) ?_; simp only [zT, zA, zB]
        refine goZ_tk rfl rfl 104 rfl (.pointer (some ⟨w2.heap.size, 0, none⟩)) (fun _ => rfl) ?_; simp only [zT, zA, zB]
        refine goZ_tk rfl rfl 105 rfl (.pointer (some ⟨w2.heap.size, 0, none⟩)) (fun _ => rfl) ?_; simp only [zT, zA, zB]
        refine goZ_tk rfl rfl 106 rfl (.pointer (some ⟨w2.heap.size, 1, none⟩)) (fun _ => rfl) ?_; simp only [zT, zA, zB]
        refine goZ_ld rfl rfl 107 rfl 82 _ rfl ⟨w2.heap.size, 1, none⟩ (.slice ao (o.drop j).length co) rfl (fun W hS => ld_strs _ _ W hS.2.1) (hs0) ?_; simp only [zT, zA, zB]
        refine goZ_tk rfl rfl 108 rfl (.int .i64 ((o.drop j).length : Int)) (fun _ => by go_simp) ?_; simp only [zT, zA, zB]
        refine goZ_tk rfl rfl 109 rfl (.pointer (some ⟨w2.heap.size, 0, none⟩)) (fun _ => rfl) ?_; simp only [zT, zA, zB]
        refine goZ_tk rfl rfl 110 rfl (.pointer (some ⟨w2.heap.size, 0, none⟩)) (fun _ => rfl) ?_; simp only [zT, zA, zB]
        refine goZ_tk rfl rfl 111 rfl (.pointer (some ⟨w2.heap.size, 2, none⟩)) (fun _ => rfl) ?_; simp only [zT, zA, zB]
        refine goZ_ld rfl rfl 112 rfl 82 _ rfl ⟨w2.heap.size, 2, none⟩ (.slice at_ (t.drop k).length ct) rfl (fun W hS => ld_strs _ _ W hS.2.2) (hs0) ?_; simp only [zT, zA, zB]
        refine goZ_tk rfl rfl 113 rfl (.int .i64 ((t.drop k).length : Int)) (fun _ => by go_simp) ?_; simp only [zT, zA, zB]
        refine goZ_call (ds' := []) rfl rfl (by kernel_rfl) 114 rfl 112 _ rfl [.pointer (some ⟨w2.heap.size, 0, none⟩), .int .i64 ((b.drop i).length : Int), .int .i64 ((o.drop j).length : Int), .int .i64 ((t.drop k).length : Int)] rfl (enters_of Tryz.func112 (by kernel_rfl) rfl) ((HADD.out).mono ?_)
        rintro e W9 ⟨rfl, hL9, -⟩
        have HL9 := Lib.hid hL9
        clear hL9 hs0
        refine ⟨_, rfl, fun h => absurd rfl h, ?_⟩; simp only [zT, zA, zB]
        refine goZ_end ?_
        rw [List.take_length, List.take_length, List.take_length, HD.out] at HL9
        obtain ⟨bv9, ov9, tv9, pv9, xs9, hJ9, hps9, hBd9, -⟩ := HL9.out
        have c9 := hJ9.c3
        have HJ9 := Lib.hid hJ9
        clear hJ9
        go_wp2_with fail
        go_ret2
        refine ⟨pv9, xs9, rfl, ⟨HJ9.out.parts.row, fun y hy => ?_, by have := hBd9.n; omega⟩, hps9, HB2.out.trans (HJ9.out.below.mono HB2.out.size)⟩
        obtain ⟨k1, k2, k3⟩ := HJ9.out.parts.read y hy
        exact ⟨k1.tl, k2.tl, k3.tl⟩
    · obtain ⟨x0, x1⟩ := x
      obtain ⟨y0, y1⟩ := y
      obtain ⟨ga, oa, ca, rfl, hga, hra, Aa, Ca, hA2, hrunA⟩ := hA.cons
      obtain ⟨gb, ob, cb2, rfl, hgb, hrb, Ab, Cb, hB2, hrunB⟩ := hB.cons
      have HVA := Lib.hid hA
      have HVB := Lib.hid hB
      have HA2 := Lib.hid hA2
      have HB2' := Lib.hid hB2
      clear hA hB hA2 hB2
      have ea1 : ((A'.length : Int) + 1 > 0) = True := by simp
      have eb1 : ((B'.length : Int) + 1 > 0) = True := by simp
      have ea2 : (0 : Int) < (A'.length : Int) + 1 := by omega
      have eb2 : (0 : Int) < (B'.length : Int) + 1 := by omega
      have HRA : Hid (w2.rangeAt ga oa [.int .i64 x0, .int .i64 x1]) := hra
      have HRB : Hid (w2.rangeAt gb ob [.int .i64 y0, .int .i64 y1]) := hrb
      clear hra hrb
      go_upto_region 10 with fail
      go_cut [15, 16] from 40 to 97 (fun xv yv wx => ∃ bx by_ : Nat, xv = .pointer (some ⟨bx, 0, none⟩) ∧ yv = .pointer (some ⟨by_, 0, none⟩) ∧ Below wr.heap.size wr wx ∧ wx.heap[bx]? = some (.cells #[.int .i64 x0, .int .i64 x1] 180 (0, 0)) ∧ wx.heap[by_]? = some (.cells #[.int .i64 y0, .int .i64 y1] 180 (0, 0)) ∧ wr.heap.size ≤ bx ∧ wr.heap.size ≤ by_)
      case first =>
        refine wp_region_hz (fun W => Below w2.heap.size w2 W) (.tk 0 (.tk 1 (.tk 2 (.tk 3 (.tk 4 (.tk 5 (.br 6 (.fc 7 (.fc 8 (.fc 9 .nil))) 7 (.fc 6 (.fc 8 (.fc 9 .nil)))))))))) (by kernel_rfl) (by kernel_rfl) (fun _ _ _ _ _ h => h) ?_
        have hb0 : Below wr.heap.size wr (wr.drewN 1) := below_dN (Below.refl _ wr) 1
        have hx0 : Below w2.heap.size w2 (wr.drewN 1) := HBX.out.trans (hb0.mono HBX.out.size)
        refine goZ_tk rfl rfl 48 rfl (.slice (some ⟨ga, oa, none⟩) (A'.length + 1) ca) (fun _ => rfl) ?_; simp only [zT, zA, zB]
        refine goZ_tk rfl rfl 49 rfl (.pointer (some ⟨ga, oa, none⟩)) (fun _ => by go_simp) ?_; simp only [zT, zA, zB]
        refine goZ_ld rfl rfl 50 rfl 180 _ rfl ⟨ga, oa, none⟩ (.agg #[.int .i64 x0, .int .i64 x1]) rfl (fun W hS => run_loadAt_mid W ga oa _ [.int .i64 x0, .int .i64 x1] _ (rangeAt_below HRA.out hga hS) Tryz.underlying180 rfl (by kernel_rfl)) (hx0) ?_; simp only [zT, zA, zB]
        refine goZ_tk rfl rfl 51 rfl (.slice (some ⟨gb, ob, none⟩) (B'.length + 1) cb2) (fun _ => rfl) ?_; simp only [zT, zA, zB]
        refine goZ_tk rfl rfl 52 rfl (.pointer (some ⟨gb, ob, none⟩)) (fun _ => by go_simp) ?_; simp only [zT, zA, zB]
        refine goZ_ld rfl rfl 53 rfl 180 _ rfl ⟨gb, ob, none⟩ (.agg #[.int .i64 y0, .int .i64 y1]) rfl (fun W hS => run_loadAt_mid W gb ob _ [.int .i64 y0, .int .i64 y1] _ (rangeAt_below HRB.out hgb hS) Tryz.underlying180 rfl (by kernel_rfl)) (hx0) ?_; simp only [zT, zA, zB]
        have hba : Below wr.heap.size wr ((wr.drewN 1).alloc (.cells #[.int .i64 0, .int .i64 0] 180 (0, 0))) := hb0.alloc (Nat.le_refl _) _
        have hbb : Below wr.heap.size wr (((wr.drewN 1).alloc (.cells #[.int .i64 0, .int .i64 0] 180 (0, 0))).alloc (.cells #[.int .i64 0, .int .i64 0] 180 (0, 0))) := hba.alloc hba.size _
        have hxa := HBX.out.trans (hba.mono HBX.out.size)
        have hxb := HBX.out.trans (hbb.mono HBX.out.size)
        have hsz : ((wr.drewN 1).alloc (.cells #[.int .i64 0, .int .i64 0] 180 (0, 0))).heap.size = wr.heap.size + 1 := by simp
        have hn1 : (((wr.drewN 1).alloc (.cells #[.int .i64 0, .int .i64 0] 180 (0, 0))).alloc (.cells #[.int .i64 0, .int .i64 0] 180 (0, 0))).heap[wr.heap.size]? = some (.cells #[.int .i64 0, .int .i64 0] 180 (0, 0)) := ((Below.refl _ ((wr.drewN 1).alloc (.cells #[.int .i64 0, .int .i64 0] 180 (0, 0)))).alloc (Nat.le_refl _) _ |>.block wr.heap.size (by rw [hsz]; omega)).trans Array.getElem?_push_size
        have hn2 : (((wr.drewN 1).alloc (.cells #[.int .i64 0, .int .i64 0] 180 (0, 0))).alloc (.cells #[.int .i64 0, .int .i64 0] 180 (0, 0))).heap[wr.heap.size + 1]? = some (.cells #[.int .i64 0, .int .i64 0] 180 (0, 0)) := by rw [← hsz]; exact Array.getElem?_push_size
        refine goZ_br ?_ ?_
        · refine goZ_val (ds' := [5, 2]) rfl rfl (by kernel_rfl) 15 rfl (.pointer (some ⟨wr.heap.size, 0, none⟩)) ((wr.drewN 1).alloc (.cells #[.int .i64 0, .int .i64 0] 180 (0, 0))) (by go_simp) (fun _ => hxa) ?_
          simp only [zT, zA, zB]
          refine goZ_val (ds' := [5, 2]) rfl rfl (by kernel_rfl) 16 rfl (.pointer (some ⟨wr.heap.size + 1, 0, none⟩)) (((wr.drewN 1).alloc (.cells #[.int .i64 0, .int .i64 0] 180 (0, 0))).alloc (.cells #[.int .i64 0, .int .i64 0] 180 (0, 0))) (by rw [← hsz]; go_simp) (fun _ => hxb) ?_; simp only [zT, zA, zB]
          obtain ⟨W8, W9, r8, r9, k1, k2, k3⟩ := st_pairs (x0 := x0) (x1 := x1) (y0 := y0) (y1 := y1) hn1 hn2 (by omega)
          have k4 := k3 wr.heap.size wr (by omega) (by omega) hbb
          refine goZ_st (ds' := [5]) rfl rfl (by kernel_rfl) rfl 180 _ _ rfl ⟨wr.heap.size, 0, none⟩ _ rfl rfl W8 r8 (fun _ => HBX.out.trans (k4.1.mono HBX.out.size)) ?_
          refine goZ_st (ds' := []) rfl rfl (by kernel_rfl) rfl 180 _ _ rfl ⟨(wr.heap.size + 1), 0, none⟩ _ rfl rfl W9 r9 (fun h => absurd rfl h) ?_
          refine goZ_end ?_
          go_wp2_with fail
          go_meet
          case rel => exact ⟨_, _, rfl, rfl, k4.2, k1, k2, by omega, by omega⟩
        · refine goZ_val (ds' := [5, 2]) rfl rfl (by kernel_rfl) 16 rfl (.pointer (some ⟨wr.heap.size, 0, none⟩)) ((wr.drewN 1).alloc (.cells #[.int .i64 0, .int .i64 0] 180 (0, 0))) (by go_simp) (fun _ => hxa) ?_
          simp only [zT, zA, zB]
          refine goZ_val (ds' := [5, 2]) rfl rfl (by kernel_rfl) 15 rfl (.pointer (some ⟨wr.heap.size + 1, 0, none⟩)) (((wr.drewN 1).alloc (.cells #[.int .i64 0, .int .i64 0] 180 (0, 0))).alloc (.cells #[.int .i64 0, .int .i64 0] 180 (0, 0))) (by rw [← hsz]; go_simp) (fun _ => hxb) ?_; simp only [zT, zA, zB]
          obtain ⟨W8, W9, r8, r9, k1, k2, k3⟩ := st_pairs (x0 := x0) (x1 := x1) (y0 := y0) (y1 := y1) hn2 hn1 (by omega)
          have k4 := k3 wr.heap.size wr (by omega) (by omega) hbb
          refine goZ_st (ds' := [5]) rfl rfl (by kernel_rfl) rfl 180 _ _ rfl ⟨(wr.heap.size + 1), 0, none⟩ _ rfl rfl W8 r8 (fun _ => HBX.out.trans (k4.1.mono HBX.out.size)) ?_
          refine goZ_st (ds' := []) rfl rfl (by kernel_rfl) rfl 180 _ _ rfl ⟨wr.heap.size, 0, none⟩ _ rfl rfl W9 r9 (fun h => absurd rfl h) ?_
          refine goZ_end ?_
          go_wp2_with fail
          go_meet
          case rel => exact ⟨_, _, rfl, rfl, k4.2, k1, k2, by omega, by omega⟩
      case rest =>
        obtain ⟨bx, by_, rfl, rfl, hbc, kx, ky, nx, ny⟩ := hcut
        have hlx := (Array.getElem?_eq_some_iff.1 kx).1
        have hly := (Array.getElem?_eq_some_iff.1 ky).1
        have HLF : Hid (LI (fun b => b = bx ∨ b = by_) w2 wc w2.heap.size ps (b.drop i) (o.drop j) (t.drop k)) := HL.out.fresh hbc (fun b hF => by
          rcases hF with rfl | rfl
          · exact ⟨nx, hlx⟩
          · exact ⟨ny, hly⟩)
        have HBC : Hid (Below w2.heap.size w2 wc) := HBX.out.trans (hbc.mono HBX.out.size)
        have cx0 : wc.cell? ⟨bx, 0, none⟩ = some (.int .i64 x0) := by simp only [World.cell?, kx]; rfl
        have cy0 : wc.cell? ⟨by_, 0, none⟩ = some (.int .i64 y0) := by simp only [World.cell?, ky]; rfl
        have KX := Lib.hid kx
        have KY := Lib.hid ky
        clear hbc kx ky hlx hly nx ny HL HBX
        rcases Nat.lt_trichotomy x0 y0 with hxy | hxy | hxy
        · have e1 : ((x0 : Int) == (y0 : Int)) = false := beq_eq_false_iff_ne.2 (by omega)
          have e2 : decide ((x0 : Int) ≤ (y0 : Int)) = true := decide_eq_true (by omega)
          have e3 : decide ((y0 : Int) ≤ (x0 : Int)) = false := decide_eq_false (by omega)
          have e4 : decide (x0 ≤ y0) = true := decide_eq_true (by omega)
          have e5 : decide (y0 ≤ x0) = false := decide_eq_false (by omega)
          have HAT2 := Lib.hid (HAT.out.lt hxy)
          clear hxy HAT
          go_wp2_with fail
          go_roundw
          case rel => exact ⟨A', (y0, y1) :: B', i, j, k, ps, rfl, rfl, rfl, HA2.out, HVB.out, HLF.out.bare, HAT2.out, HBC.out⟩
          case measure => simp [lenV]; try omega
        · subst hxy
          have e1 : ((x0 : Int) == (x0 : Int)) = true := by simp
          have e2 : decide ((x0 : Int) ≤ (x0 : Int)) = true := decide_eq_true (by omega)
          have e4 : decide (x0 ≤ x0) = true := decide_eq_true (by omega)
          have HAT2 := Lib.hid (HAT.out.eq rfl)
          obtain ⟨ia1, ia2, ia3, ia4, -⟩ := HAT.out.ia
          obtain ⟨ib1, ib2, ib3, ib4, -⟩ := HAT.out.ib
          simp only at ia1 ia2 ia3 ia4 ib1 ib2 ib3 ib4
          have li := HAT.out.li
          have lj := HAT.out.lj
          have lk := HAT.out.lk
          obtain ⟨m1, hm1⟩ : ∃ m, x0 - i = m := ⟨_, rfl⟩
          obtain ⟨m2, hm2⟩ : ∃ m, x1 - j = m := ⟨_, rfl⟩
          obtain ⟨m3, hm3⟩ : ∃ m, y1 - k = m := ⟨_, rfl⟩
          have d1 : IntKind.i64.wrap ((x0 : Int) - (i : Int)) = (m1 : Int) := by rw [show (x0 : Int) - (i : Int) = (m1 : Int) by omega]; exact IntWalk.i64_in _ (by omega)
          have d2 : IntKind.i64.wrap ((x1 : Int) - (j : Int)) = (m2 : Int) := by rw [show (x1 : Int) - (j : Int) = (m2 : Int) by omega]; exact IntWalk.i64_in _ (by omega)
          have d3 : IntKind.i64.wrap ((y1 : Int) - (k : Int)) = (m3 : Int) := by rw [show (y1 : Int) - (k : Int) = (m3 : Int) by omega]; exact IntWalk.i64_in _ (by omega)
          have d4 : IntKind.i64.wrap ((x0 : Int) + 1) = (x0 : Int) + 1 := IntWalk.i64_in _ (by omega)
          have d5 : IntKind.i64.wrap ((x1 : Int) + 1) = (x1 : Int) + 1 := IntWalk.i64_in _ (by omega)
          have d6 : IntKind.i64.wrap ((y1 : Int) + 1) = (y1 : Int) + 1 := IntWalk.i64_in _ (by omega)
          have HD1 := Lib.hid (add_c HLF.out (i := m1) (j := m2) (k := m3) (by rw [List.length_drop]; omega) (by rw [List.length_drop]; omega) (by rw [List.length_drop]; omega))
          have HD2 : Hid (∀ (W : World) (ps' : List (JoinS.Pt ByteArray)), LI (fun b => b = bx ∨ b = by_) w2 W w2.heap.size ps' ((b.drop i).drop m1) ((o.drop j).drop m2) ((t.drop k).drop m3) → Calls Tryz.prog 112 #[.pointer (some ⟨w2.heap.size, 0, none⟩), .int .i64 1, .int .i64 1, .int .i64 1] W fun e w' => e = .returned (.tuple #[]) ∧ LI (fun b => b = bx ∨ b = by_) w2 w' w2.heap.size (JoinS.join ps' ⟨((b.drop i).drop m1).take 1, ((o.drop j).drop m2).take 1, ((t.drop k).drop m3).take 1⟩) (((b.drop i).drop m1).drop 1) (((o.drop j).drop m2).drop 1) (((t.drop k).drop m3).drop 1) ∧ ∀ b, (b = bx ∨ b = by_) → w'.heap[b]? = W.heap[b]?) := Lib.hid fun W ps' h => add_c h (i := 1) (j := 1) (k := 1) (by rw [List.length_drop, List.length_drop]; omega) (by rw [List.length_drop, List.length_drop]; omega) (by rw [List.length_drop, List.length_drop]; omega)
          have cx1 : wc.cell? ⟨bx, 1, none⟩ = some (.int .i64 x1) := by simp only [World.cell?, KX.out]; rfl
          have cy1 : wc.cell? ⟨by_, 1, none⟩ = some (.int .i64 y1) := by simp only [World.cell?, KY.out]; rfl
          have HM : Hid (m1 = x0 - i ∧ m2 = x1 - j ∧ m3 = y1 - k ∧ i ≤ x0 ∧ j ≤ x1 ∧ k ≤ y1) := ⟨hm1.symm, hm2.symm, hm3.symm, ia1, ia2, ib2⟩
          clear hm1 hm2 hm3 ia1 ia2 ia3 ia4 ib1 ib2 ib3 ib4 li lj lk HAT
          go_upto_region 14 with (first
            | (go_at_call 112; refine HD1.out.mono ?_; rintro e W1 ⟨rfl, hL1, hk1⟩; clear HD1)
            | (go_at_call 112; refine (HD2.out _ _ hL1).mono ?_; rintro e W2 ⟨rfl, hL2, hk2⟩))
          have kx2 : W2.heap[bx]? = some (.cells #[.int .i64 x0, .int .i64 x1] 180 (0, 0)) := (hk2 bx (.inl rfl)).trans ((hk1 bx (.inl rfl)).trans KX.out)
          have ky2 : W2.heap[by_]? = some (.cells #[.int .i64 x0, .int .i64 y1] 180 (0, 0)) := (hk2 by_ (.inr rfl)).trans ((hk1 by_ (.inr rfl)).trans KY.out)
          have HL2 : Hid (LI (fun b => b = bx ∨ b = by_) w2 W2 w2.heap.size _ _ _ _) := hL2
          clear hL1 hL2 hk1 hk2 cx0 cy0 cx1 cy1 KX KY HLF HBC HD2 d1 d2 d3
          refine wp_region_hz (fun W => W.cell? ⟨bx, 0, none⟩ = some (.int .i64 x0) ∧ W.cell? ⟨bx, 1, none⟩ = some (.int .i64 x1) ∧ W.cell? ⟨by_, 1, none⟩ = some (.int .i64 y1)) (.tk 0 (.tk 1 (.tk 2 (.tk 3 (.tk 4 (.tk 5 (.tk 6 (.tk 7 (.tk 8 (.tk 9 (.tk 10 (.tk 11 (.nil))))))))))))) (by kernel_rfl) (by kernel_rfl) (fun _ _ _ _ _ h => h) ?_
          have hs0 : (fun W => W.cell? ⟨bx, 0, none⟩ = some (.int .i64 x0) ∧ W.cell? ⟨bx, 1, none⟩ = some (.int .i64 x1) ∧ W.cell? ⟨by_, 1, none⟩ = some (.int .i64 y1)) (W2.drewN 1) := ⟨by simp only [World.cell?, World.drewN, kx2]; rfl, by simp only [World.cell?, World.drewN, kx2]; rfl, by simp only [World.cell?, World.drewN, ky2]; rfl⟩
          refine goZ_tk rfl rfl 75 rfl (.pointer (some ⟨bx, 0, none⟩)) (fun _ => rfl) ?_; simp only [zT, zA, zB]
          refine goZ_ld rfl rfl 76 rfl 3 _ rfl ⟨bx, 0, none⟩ (.int .i64 x0) rfl (fun W hS => ld_int _ _ W hS.1) (hs0) ?_; simp only [zT, zA, zB]
          refine goZ_tk rfl rfl 77 rfl (.int .i64 ((x0 : Int) + 1)) (fun _ => by go_simp) ?_; simp only [zT, zA, zB]
          refine goZ_tk rfl rfl 78 rfl (.pointer (some ⟨bx, 1, none⟩)) (fun _ => rfl) ?_; simp only [zT, zA, zB]
          refine goZ_ld rfl rfl 79 rfl 3 _ rfl ⟨bx, 1, none⟩ (.int .i64 x1) rfl (fun W hS => ld_int _ _ W hS.2.1) (hs0) ?_; simp only [zT, zA, zB]
          refine goZ_tk rfl rfl 80 rfl (.int .i64 ((x1 : Int) + 1)) (fun _ => by go_simp) ?_; simp only [zT, zA, zB]
          refine goZ_tk rfl rfl 81 rfl (.pointer (some ⟨by_, 1, none⟩)) (fun _ => rfl) ?_; simp only [zT, zA, zB]
          refine goZ_ld rfl rfl 82 rfl 3 _ rfl ⟨by_, 1, none⟩ (.int .i64 y1) rfl (fun W hS => ld_int _ _ W hS.2.2) (hs0) ?_; simp only [zT, zA, zB]
          refine goZ_tk rfl rfl 83 rfl (.int .i64 ((y1 : Int) + 1)) (fun _ => by go_simp) ?_; simp only [zT, zA, zB]
          refine goZ_tk rfl rfl 12 rfl (.int .i64 ((x0 : Int) + 1)) (fun _ => rfl) ?_; simp only [zT, zA, zB]
          refine goZ_tk rfl rfl 13 rfl (.int .i64 ((x1 : Int) + 1)) (fun _ => rfl) ?_; simp only [zT, zA, zB]
          refine goZ_tk rfl rfl 14 rfl (.int .i64 ((y1 : Int) + 1)) (fun _ => rfl) ?_; simp only [zT, zA, zB]
          refine goZ_end ?_
          have cx2 : (W2.drewN 1).cell? ⟨bx, 0, none⟩ = some (.int .i64 x0) := hs0.1
          have cy2 : (W2.drewN 1).cell? ⟨by_, 0, none⟩ = some (.int .i64 x0) := by simp only [World.cell?, World.drewN, ky2]; rfl
          have HL3 := Lib.hid (HL2.out.grow (below_dN (Below.refl _ W2) 1)).bare
          generalize W2.drewN 1 = W5 at *
          clear kx2 ky2 hs0 HL2
          go_wp2_with fail
          go_roundw
          case rel =>
            obtain ⟨e1, e2, e3, e4, e5, e6⟩ := HM.out
            subst e1 e2 e3
            have hat := HAT2.out
            try simp only at hat
            have hl := HL3.out
            have g1 : ((b.drop i).drop (x0 - i)).drop 1 = b.drop (x0 + 1) := by rw [List.drop_drop, List.drop_drop]; congr 1; omega
            have g2 : ((o.drop j).drop (x1 - j)).drop 1 = o.drop (x1 + 1) := by rw [List.drop_drop, List.drop_drop]; congr 1; omega
            have g3 : ((t.drop k).drop (y1 - k)).drop 1 = t.drop (y1 + 1) := by rw [List.drop_drop, List.drop_drop]; congr 1; omega
            rw [g1, g2, g3] at hl
            exact ⟨A', B', x0 + 1, x1 + 1, y1 + 1, _, by simp, by simp, by simp, HA2.out, HB2'.out, hl, hat, hl.below⟩
          case measure => simp [lenV]; try omega
        · have e1 : ((x0 : Int) == (y0 : Int)) = false := beq_eq_false_iff_ne.2 (by omega)
          have e2 : decide ((x0 : Int) ≤ (y0 : Int)) = false := decide_eq_false (by omega)
          have e3 : decide ((y0 : Int) ≤ (x0 : Int)) = true := decide_eq_true (by omega)
          have e4 : decide (x0 ≤ y0) = false := decide_eq_false (by omega)
          have e5 : decide (y0 ≤ x0) = true := decide_eq_true (by omega)
          have HAT2 := Lib.hid (HAT.out.gt hxy)
          clear hxy HAT
          go_wp2_with fail
          go_roundw
          case rel => exact ⟨(x0, x1) :: A', B', i, j, k, ps, rfl, rfl, rfl, HVA.out, HB2'.out, HLF.out.bare, HAT2.out, HBC.out⟩
          case measure => simp [lenV]; try omega
end Go.Proofs.YtpcipdkoncmdcaaGreatDoor
namespace Go.Proofs.YtpcipdkoncmdcaaGreatDoor
open Go Go.RowKit
/-- A slice's end, from i on. -/
theorem Sl.tail {w : World} {b o : Nat} {xs : List Value} (h : Sl w (some ⟨b, o, none⟩) xs) (i : Nat) : Sl w (some ⟨b, o + i, none⟩) (xs.drop i) := by
  have := h.part i xs.length
  rwa [List.take_length] at this

end Go.Proofs.YtpcipdkoncmdcaaGreatDoor
