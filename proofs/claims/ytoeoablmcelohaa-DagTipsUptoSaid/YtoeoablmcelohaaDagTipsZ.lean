/- The law DagTips answers true for all arguments of bulk at most 1048576: the row's statement and its card. Conditions: the row's own (laid tables as the card ties them; bulk). -/
import Derived.Test.YtoeoablmcelohaaZ15
namespace Go.Proofs.Ytoeoablmcelohaa
open Go Go.RowKit Go.Maps Go.Sort
open Classical

set_option maxRecDepth 100000 in
set_option maxHeartbeats 1000000 in
theorem same_c {w : World} {a b : Option Addr} {c d : Nat} {l m : List ByteArray} (ha : Sl w a (trow l)) (hb : Sl w b (trow m)) (hl : l.length ≤ 10000000) :
    Calls Try.prog 14 #[.slice a l.length c, .slice b m.length d] w fun e w' => e = .returned (.bool (decide (l = m))) ∧ Below w.heap.size w w' := by
  have HA := Lib.hid ha
  have HB := Lib.hid hb
  clear ha hb
  go_enter Try.func14, Try.ntmps14
  by_cases hlen : l.length = m.length
  case neg =>
    have hd : ((l.length : Int) == (m.length : Int)) = false := by rw [beq_eq_false_iff_ne]; omega
    have hd2 : ¬ (l.length : Int) = (m.length : Int) := by omega
    go_wp2_with fail
    go_ret
    exact ⟨by rw [decide_eq_false (fun e => hlen (by rw [e]))]; rfl, Below.refl _ _⟩
  case pos =>
    have HLEN := Lib.hid hlen
    rw [← hlen]
    clear hlen
    go_wp2_with fail
    go_loopw [13] (fun iv wx => ∃ i : Nat, i ≤ l.length ∧ iv = .int .i64 i ∧ l.take i = m.take i ∧ Below w.heap.size w wx) (fun iv _ => (l.length - intOf iv).toNat)
    case atStart => exact ⟨0, Nat.zero_le _, rfl, rfl, Below.refl _ _⟩
    case round =>
      obtain ⟨i, hi, rfl, hno, hbw⟩ := hrel
      have HNO := Lib.hid hno
      have HBW := Lib.hid hbw
      by_cases hil : i < l.length
      · have him : i < m.length := by have := HLEN.out; omega
        have hd : decide ((i : Int) < (l.length : Int)) = true := decide_eq_true (by omega)
        obtain ⟨bl, ol, rfl, hbl, hcel⟩ := HA.out.at (k := i) (by rw [trow_len]; exact hil)
        have q0 := hcel i (by rw [trow_len]; exact hil)
        rw [trow_at] at q0
        have q1 := cell_blk q0 (hbw.block bl hbl)
        obtain ⟨bm, om, rfl, hbm, hcem⟩ := HB.out.at (k := i) (by rw [trow_len]; exact him)
        have r0 := hcem i (by rw [trow_len]; exact him)
        rw [trow_at] at r0
        have r1 := cell_blk r0 (hbw.block bm hbm)
        have HTL : Hid (l.take (i + 1) = l.take i ++ [l[i]]) := by show _ = _; rw [List.take_add_one, List.getElem?_eq_getElem hil]; rfl
        have HTM : Hid (m.take (i + 1) = m.take i ++ [m[i]]) := by show _ = _; rw [List.take_add_one, List.getElem?_eq_getElem him]; rfl
        have HEQ : Hid (l = m → l[i] = m[i]) := fun e => by subst e; rfl
        have hi0 : (0 : Int) ≤ i := by omega
        have hi1 : (i : Int) < l.length := by omega
        have hw1 : IntKind.i64.wrap ((i : Int) + 1) = ((i + 1 : Nat) : Int) := IntWalk.i64_in _ (by omega)
        clear q0 hcel r0 hcem hno hbw
        generalize l[i] = s at *
        generalize m[i] = t at *
        clear him
        by_cases hst : s = t
        · subst hst
          have hse : (s.toList == s.toList) = true := beq_self_eq_true _
          go_upto_region 6 with fail
          go_quiet (fail)
          have HB3 := Lib.hid (below_dN HBW.out nq)
          clear q1 r1
          generalize wr.drewN nq = w2 at *
          go_wp2_with fail
          go_roundw
          case rel => exact ⟨i + 1, by omega, by first | rfl | go_num, by rw [HTL.out, HTM.out, HNO.out], HB3.out⟩
          case measure => simp [intOf]; omega
        · have hse := str_eqb hst
          go_upto_region 6 with fail
          go_quiet (fail)
          have HB3 := Lib.hid (below_dN HBW.out nq)
          clear q1 r1
          generalize wr.drewN nq = w2 at *
          go_wp2_with fail
          go_ret
          exact ⟨by rw [decide_eq_false (fun e => hst (HEQ.out e))]; rfl, HB3.out⟩
      · obtain rfl : i = l.length := by omega
        have hd : decide ((l.length : Int) < (l.length : Int)) = false := decide_eq_false (by omega)
        clear hno hbw
        go_wp2_with fail
        go_ret
        have h := HNO.out
        rw [List.take_length, HLEN.out, List.take_length] at h
        exact ⟨by rw [decide_eq_true h]; rfl, HBW.out⟩
/-- .. of rows in blocks of their own. -/
theorem same_tv {w : World} {v u : Value} {l m : List ByteArray} (hv : TV w v l) (hu : TV w u m) (hl : l.length ≤ 10000000) :
    Calls Try.prog 14 #[v, u] w fun e w' => e = .returned (.bool (decide (l = m))) ∧ Below w.heap.size w w' := by
  obtain ⟨a, c, rfl, -, ha⟩ := hv.form
  obtain ⟨b, d, rfl, -, hb⟩ := hu.form
  exact same_c ha hb hl
end Go.Proofs.Ytoeoablmcelohaa
namespace Go.Proofs.Ytoeoablmcelohaa
open Go Go.RowKit Go.Maps Go.Sort
open DagS (Nd nm pars par ids Wf ancS ancL upto Srt)
open Classical

theorem found_len {g : List Nd} {l : List ByteArray} (hd : Srt l) (hf : ∀ x ∈ l, DagS.find g x ≠ none) : l.length ≤ g.length := by
  have hn : l.Nodup := hd.imp fun {a b} h e => by subst e; exact absurd h (List.lt_irrefl _)
  have := nodup_le hn (m := g.map Nd.name) fun x hx => mem_names.2 (by
    have := hf x hx
    cases e : DagS.find g x with
    | none => exact absurd e this
    | some i => rfl)
  rwa [List.length_map] at this
theorem tips_len (g : List Nd) (l : List ByteArray) : (DagS.tipsL g l).length ≤ g.length := found_len (DagS.tips_srt g l) fun _ hx => DagS.tips_there hx
theorem bases_len (g : List Nd) (a b : ByteArray) : (DagS.basesL g a b).length ≤ g.length := tips_len g _
theorem miss_len (g : List Nd) (l m : List ByteArray) : (DagS.missL g l m).length ≤ g.length := by unfold DagS.missL; rw [List.length_map]; exact upto_len _ _
theorem pars_len2 {g : List Nd} (hw : Wf g) (x : ByteArray) : (DagS.parsL g x).length ≤ g.length := by
  unfold DagS.parsL
  cases e : DagS.find g x with
  | none => exact Nat.zero_le _
  | some i =>
    refine found_len (hw.srt i) fun s hs => ?_
    obtain ⟨j, _, e⟩ := hw.back i s hs
    rw [e]; exact fun h => nomatch h

theorem GN.pars {w W : World} {p : Nat} {g : List Nd} (h : GN w W p g) {x : ByteArray} (hx : x.size ≤ 10000000) :
    Calls Try.prog 17 #[.pointer (some ⟨p, 0, none⟩), .string x] W fun e W' => ∃ v, e = .returned v ∧ TV W' v (DagS.parsL g x) ∧ Below W.heap.size W W' := by
  obtain ⟨K, h1, h2, h3⟩ := h
  exact gpars_c h1 hx
theorem same_tt {w : World} {v u : Value} {l : List ByteArray} (hv : TV w v l) (hu : TV w u l) (hl : l.length ≤ 10000000) :
    Calls Try.prog 14 #[v, u] w fun e w' => e = .returned (.bool true) ∧ Below w.heap.size w w' := by
  refine (same_tv hv hu hl).mono ?_
  rintro e w' ⟨rfl, hb⟩
  exact ⟨by rw [decide_eq_true rfl], hb⟩
theorem same_ts {w : World} {v : Value} {a : Option Addr} {c : Nat} {l : List ByteArray} (hv : TV w v l) (hu : Sl w a (trow l)) (hl : l.length ≤ 10000000) :
    Calls Try.prog 14 #[v, .slice a l.length c] w fun e w' => e = .returned (.bool true) ∧ Below w.heap.size w w' := by
  obtain ⟨b, d, rfl, -, hb⟩ := hv.form
  refine (same_c hb hu hl).mono ?_
  rintro e w' ⟨rfl, hb⟩
  exact ⟨by rw [decide_eq_true rfl], hb⟩

theorem same_tn {w : World} {v : Value} {l : List ByteArray} (hv : TV w v l) (hl : l = []) :
    Calls Try.prog 14 #[v, .slice none 0 0] w fun e w' => e = .returned (.bool true) ∧ Below w.heap.size w w' := by
  subst hl
  show Calls _ _ #[v, .slice none ([] : List ByteArray).length 0] _ _
  exact same_ts hv (.nil _ _) (Nat.zero_le _)

/-- An ask and the graphs, as they stay. -/
structure AS (w0 W : World) (p : Nat) (g : List Nd) (va sa ma : Option Addr) (sc mc b3 : Nat) (x y : ByteArray) (l m : List ByteArray) : Prop where
  gn : GN w0 W p g
  gr : GR W va g
  ss : Sl W sa (trow l)
  mm : Sl W ma (trow m)
  blk : W.heap[b3]? = some (.cells #[.string x, .string y, .slice sa l.length sc, .slice ma m.length mc] 48 (0, 0))
section
variable {w0 W W' : World} {p : Nat} {g : List Nd} {va sa ma : Option Addr} {sc mc b3 : Nat} {x y : ByteArray} {l m : List ByteArray}
theorem AS.below (h : AS w0 W p g va sa ma sc mc b3 x y l m) (hb : Below W.heap.size W W') : AS w0 W' p g va sa ma sc mc b3 x y l m :=
  ⟨h.gn.below hb, h.gr.below hb, h.ss.below hb, h.mm.below hb, (hb.block _ (Array.getElem?_eq_some_iff.1 h.blk).1).trans h.blk⟩
theorem AS.c0 (h : AS w0 W p g va sa ma sc mc b3 x y l m) : W.cell? ⟨b3, 0, none⟩ = some (.string x) := by simp only [World.cell?, h.blk]; rfl
theorem AS.c1 (h : AS w0 W p g va sa ma sc mc b3 x y l m) : W.cell? ⟨b3, 1, none⟩ = some (.string y) := by simp only [World.cell?, h.blk]; rfl
theorem AS.c2 (h : AS w0 W p g va sa ma sc mc b3 x y l m) : W.cell? ⟨b3, 2, none⟩ = some (.slice sa l.length sc) := by simp only [World.cell?, h.blk]; rfl
theorem AS.c3 (h : AS w0 W p g va sa ma sc mc b3 x y l m) : W.cell? ⟨b3, 3, none⟩ = some (.slice ma m.length mc) := by simp only [World.cell?, h.blk]; rfl
end

end Go.Proofs.Ytoeoablmcelohaa
namespace Go.Proofs.Ytoeoablmcelohaa
open Go Go.RowKit Go.Maps Go.Sort
open DagS (Nd nm pars par ids Wf ancS ancL upto Srt)
open Classical

/-- The graphs and a list, as they stay. -/
structure LS (w0 W : World) (p : Nat) (g : List Nd) (va la : Option Addr) (L : List ByteArray) : Prop where
  gn : GN w0 W p g
  gr : GR W va g
  sl : Sl W la (trow L)
section
variable {w0 W W' : World} {p : Nat} {g : List Nd} {va la : Option Addr} {L : List ByteArray}
theorem LS.below (h : LS w0 W p g va la L) (hb : Below W.heap.size W W') : LS w0 W' p g va la L := ⟨h.gn.below hb, h.gr.below hb, h.sl.below hb⟩
theorem LS.at (h : LS w0 W p g va la L) {i : Nat} (hi : i < L.length) : ∃ b o, la = some ⟨b, o, none⟩ ∧ W.cell? ⟨b, o + i, none⟩ = some (.string L[i]) := by
  obtain ⟨bl, ol, e, hbl, hcel⟩ := h.sl.at (k := i) (by rw [trow_len]; exact hi)
  have q0 := hcel i (by rw [trow_len]; exact hi)
  rw [trow_at] at q0
  exact ⟨bl, ol, e, q0⟩
end
theorem take_ex {L : List ByteArray} {P : ByteArray → Prop} {i : Nat} (hi : i < L.length) : (∃ s ∈ L.take (i + 1), P s) ↔ ((∃ s ∈ L.take i, P s) ∨ P L[i]) := by
  rw [List.take_add_one, List.getElem?_eq_getElem hi]
  constructor
  · rintro ⟨s, hs, h⟩
    rcases List.mem_append.1 hs with hs | hs
    · exact .inl ⟨s, hs, h⟩
    · have : s = L[i] := by simpa using hs
      rw [← this]; exact .inr h
  · rintro (⟨s, hs, h⟩ | h)
    · exact ⟨s, List.mem_append.2 (.inl hs), h⟩
    · exact ⟨_, List.mem_append.2 (.inr (by simp)), h⟩

theorem same_one {W : World} {la : Option Addr} {lc : Nat} {L : List ByteArray} {b : ByteArray} (hs : Sl W la (trow L)) (hl : L.length ≤ 10000000) (h : L = [b]) :
    Calls Try.prog 14 #[.slice la L.length lc, .slice (some ⟨W.heap.size, 0, none⟩) 1 1] (W.alloc (.cells #[.string b] 9)) fun e W' => e = .returned (.bool true) ∧ Below W.heap.size W W' := by
  have hbA : Below W.heap.size W (W.alloc (.cells #[.string b] 9)) := (Below.refl _ W).alloc (Nat.le_refl _) _
  refine (same_c (m := [b]) (hs.below hbA) (sl_new W [.string b] 9 (0, 0)) hl).mono ?_
  rintro e W' ⟨rfl, hb⟩
  exact ⟨by rw [decide_eq_true h], hbA.trans (hb.mono hbA.size)⟩

set_option maxRecDepth 100000 in
set_option maxHeartbeats 4000000 in
theorem lawbases_c {w : World} {na : Option Addr} {nc : Nat} {ns : List Nd} (hn : GR w na ns) (hl : ns.length ≤ 1048576) (hok : ∀ n ∈ ns, NdOk n) {a b : ByteArray} (ha : a.size ≤ 10000000) (hb : b.size ≤ 10000000) :
    Calls Try.prog 4 #[.slice na ns.length nc, .string a, .string b] w fun e w' => e = .returned (.bool true) ∧ Below w.heap.size w w' := by
  have HAW := Lib.hid (awake_c w)
  have HN := Lib.hid hn
  have HOK := Lib.hid hok
  clear hn hok
  go_enter Try.func4, Try.ntmps4
  go_upto_region 3 with (go_at_call 9; refine HAW.out.mono ?_; rintro e w1 ⟨rfl, hb1⟩)
  have HB1 := Lib.hid hb1
  clear hb1 HAW
  by_cases h1 : ns.length ≤ 60
  case neg =>
    have d1 : decide ((ns.length : Int) > 60) = true := decide_eq_true (by omega)
    go_wp2_with fail
    go_ret
    exact ⟨rfl, HB1.out⟩
  case pos =>
    have d1 : decide ((ns.length : Int) > 60) = false := decide_eq_false (by omega)
    have HBU := Lib.hid (built_c (c := nc) (HN.out.below HB1.out) h1 HOK.out)
    go_upto_region 8 with (go_at_call 10; refine HBU.out.mono ?_; rintro e w3 ⟨p, v, rfl, hg, hv⟩)
    have hg60 := bld_len ns ns.length (Nat.le_refl _)
    rw [List.take_length] at hg60
    have HG := Lib.hid hg
    have HWF := Lib.hid hg.wf
    obtain ⟨va, vc, rfl, hr⟩ := hv.form
    have HR := Lib.hid hr
    clear hg hv hr HBU d1 HN HOK
    generalize bld ns = g at *
    go_upto_region 9 with (go_at_call 13; refine (HG.out.bases ha hb).mono ?_; rintro e w4 ⟨v4, rfl, hv4, hb4⟩)
    have HAP : Hid (∀ x ∈ DagS.basesL g a b, ∀ y ∈ DagS.basesL g a b, x ≠ y → ¬ DagS.Comes g x y) := fun x hx y hy hne => DagS.tips_apart hx hy hne
    have HIN : Hid (∀ x ∈ DagS.basesL g a b, DagS.Comes g a x ∧ DagS.Comes g b x ∧ x.size ≤ 10000000) := fun x hx => by
      have h := HWF.out.mem_both.1 (DagS.mem_tips.1 hx).1
      obtain ⟨i, e⟩ : ∃ i, DagS.find g x = some i := by
        cases e : DagS.find g x with
        | none => exact absurd e (DagS.tips_there hx)
        | some i => exact ⟨i, rfl⟩
      exact ⟨h.1, h.2, by rw [← DagS.find_nm e]; exact HG.out.sz (DagS.find_lt e)⟩
    have HUP : Hid (∀ x, DagS.Comes g a x → DagS.Comes g b x → ∃ s ∈ DagS.basesL g a b, DagS.Comes g s x) := fun x h1 h2 => HWF.out.tip_above (HWF.out.mem_both.2 ⟨h1, h2⟩) h1.right
    have HOF : Hid (DagS.Comes g a b → DagS.basesL g a b = [b]) := HWF.out.bases_of
    have hll : (DagS.basesL g a b).length ≤ 1000 := by have := bases_len g a b; omega
    obtain ⟨la, lc, rfl, -, hs4⟩ := hv4.form
    have HA : Hid (LS w1 w4 p g va la (DagS.basesL g a b)) := ⟨HG.out.below hb4, HR.out.below hb4, hs4⟩
    have HBB := Lib.hid (HG.out.below hb4)
    have HSB : Hid (∀ W v, TV W v (DagS.basesL g b a) → TV W v (DagS.basesL g a b)) := fun W v h => by rw [HWF.out.bases_swap]; exact h
    clear hv4 hb4 hs4 HR HG
    generalize DagS.basesL g a b = L at *
    obtain ⟨t, ht⟩ : ∃ t, decide (DagS.Comes g a b) = t := ⟨_, rfl⟩
    have HL2 : Hid (t = true → L = [b]) := fun e => HOF.out (of_decide_eq_true (ht.trans e))
    clear HOF
    cases t
    all_goals
      go_upto_region 11 with (first
        | (go_at_call 13; refine (HBB.out.bases hb ha).mono ?_; rintro e w5 ⟨v5, rfl, hv5, hb5⟩; have HV5 := Lib.hid (HSB.out _ _ hv5); have HA := Lib.hid (HA.out.below hb5); clear hv5 hb5)
        | (go_at_call 14; obtain ⟨qa, qc, rfl, -, hq5⟩ := HV5.out.form; refine (same_c HA.out.sl hq5 (by omega)).mono ?_; rintro e w6 ⟨rfl, hb6⟩; have hsm : decide (L = L) = true := decide_eq_true rfl; have HA := Lib.hid (HA.out.below hb6); clear hb6 HV5 hq5)
        | (go_at_call 12; refine (HA.out.gn.comes ha hb).mono ?_; rintro e w7 ⟨rfl, hb7⟩; have HA := Lib.hid (HA.out.below hb7); clear hb7)
        | (go_at_call 14; refine (same_one HA.out.sl (by omega) (HL2.out (by simp))).mono ?_; rintro e w8 ⟨rfl, hb8⟩; have HA := Lib.hid (HA.out.below hb8); clear hb8))
      go_wp2_with fail
      go_loopw [59] (fun iv wx => ∃ i : Nat, i ≤ L.length ∧ iv = .int .i64 i ∧ LS w1 wx p g va la L) (fun iv _ => (L.length - intOf iv).toNat)
      case atStart => exact ⟨0, Nat.zero_le _, rfl, HA.out⟩
      case round =>
        clear HA
        obtain ⟨i, hi, rfl, ha1⟩ := hrel
        have HA := Lib.hid ha1
        clear ha1
        by_cases hil : i < L.length
        · have hd : decide ((i : Int) < (L.length : Int)) = true := decide_eq_true (by omega)
          obtain ⟨bl, ol, rfl, q1⟩ := HA.out.at hil
          have HX := Lib.hid (HIN.out _ (List.getElem_mem hil))
          have HXY : Hid (∀ y ∈ L, L[i] ≠ y → ¬ DagS.Comes g L[i] y) := fun y hy hne => HAP.out _ (List.getElem_mem hil) y hy hne
          have hi0 : (0 : Int) ≤ i := by omega
          have hi1 : (i : Int) < L.length := by omega
          have hw1 : IntKind.i64.wrap ((i : Int) + 1) = ((i + 1 : Nat) : Int) := IntWalk.i64_in _ (by omega)
          generalize L[i] = x at *
          have e1 : decide (DagS.Comes g a x) = true := decide_eq_true HX.out.1
          have e2 : decide (DagS.Comes g b x) = true := decide_eq_true HX.out.2.1
          have hxs := HX.out.2.2
          have HCa := HA
          go_wp2_with (first
            | (go_at_call 12; refine (HCa.out.gn.comes ha hxs).mono ?_; rintro e w9 ⟨rfl, hb9⟩; have HA := Lib.hid (HA.out.below hb9); clear hb9 HCa)
            | (go_at_call 12; refine (HA.out.gn.comes hb hxs).mono ?_; rintro e w10 ⟨rfl, hb10⟩; have HA := Lib.hid (HA.out.below hb10); clear hb10))
          clear e1 e2 q1
          go_loopw [77] (fun jv wx => ∃ j : Nat, j ≤ L.length ∧ jv = .int .i64 j ∧ LS w1 wx p g va (some ⟨bl, ol, none⟩) L) (fun jv _ => (L.length - intOf jv).toNat)
          case atStart => exact ⟨0, Nat.zero_le _, rfl, HA.out⟩
          case round =>
            clear HA
            obtain ⟨j, hj, rfl, ha2⟩ := hrel
            have HA := Lib.hid ha2
            clear ha2
            by_cases hjl : j < L.length
            · have hdj : decide ((j : Int) < (L.length : Int)) = true := decide_eq_true (by omega)
              obtain ⟨bl2, ol2, e5, q2⟩ := HA.out.at hjl
              injection e5 with e5
              injection e5 with e5 e6
              subst e5 e6
              have HY := Lib.hid (HXY.out _ (List.getElem_mem hjl))
              have hys := (HIN.out _ (List.getElem_mem hjl)).2.2
              have hj0 : (0 : Int) ≤ j := by omega
              have hj1 : (j : Int) < L.length := by omega
              have hw2 : IntKind.i64.wrap ((j : Int) + 1) = ((j + 1 : Nat) : Int) := IntWalk.i64_in _ (by omega)
              generalize L[j] = y at *
              by_cases hxy : x = y
              · subst hxy
                have hse : (x.toList == x.toList) = true := beq_self_eq_true _
                go_wp2_with fail
                go_roundw
                case rel => exact ⟨j + 1, by omega, by first | rfl | go_num, HA.out⟩
                case measure => simp [intOf]; omega
              · have hse := str_eqb hxy
                have e3 : decide (DagS.Comes g x y) = false := decide_eq_false (HY.out hxy)
                go_wp2_with (go_at_call 12; refine (HA.out.gn.comes hxs hys).mono ?_; rintro e w11 ⟨rfl, hb11⟩; have HA := Lib.hid (HA.out.below hb11); clear hb11)
                go_roundw
                case rel => exact ⟨j + 1, by omega, by first | rfl | go_num, HA.out⟩
                case measure => simp [intOf]; omega
            · obtain rfl : j = L.length := by omega
              have hdj : decide ((L.length : Int) < (L.length : Int)) = false := decide_eq_false (by omega)
              go_wp2_with fail
              go_roundw
              case rel => exact ⟨i + 1, by omega, by first | rfl | go_num, HA.out⟩
              case measure => simp [intOf]; omega
        · obtain rfl : i = L.length := by omega
          have hd : decide ((L.length : Int) < (L.length : Int)) = false := decide_eq_false (by omega)
          go_wp2_with fail
          clear hd hil hi
          go_loopw [94] (fun iv wx => ∃ i : Nat, i ≤ g.length ∧ iv = .int .i64 i ∧ LS w1 wx p g va la L) (fun iv _ => (g.length - intOf iv).toNat)
          case atStart => exact ⟨0, Nat.zero_le _, rfl, HA.out⟩
          case round =>
            clear HA
            obtain ⟨i, hi, rfl, ha3⟩ := hrel
            have HA := Lib.hid ha3
            clear ha3
            by_cases hil : i < g.length
            · have hd : decide ((i : Int) < (g.length : Int)) = true := decide_eq_true (by omega)
              obtain ⟨ab, ao, pa, pc, rfl, hab, q0, q1, -⟩ := HA.out.gr.at hil
              have hns := HA.out.gn.sz hil
              rw [DagS.nm_get hil] at hns
              have hi0 : (0 : Int) ≤ (i : Int) := by omega
              have hi1 : (i : Int) < g.length := by omega
              have hw1 : IntKind.i64.wrap ((i : Int) + 1) = ((i + 1 : Nat) : Int) := IntWalk.i64_in _ (by omega)
              have HNX := Lib.hid (HUP.out g[i].name)
              generalize g[i] = n at *
              have hbA : Below wr.heap.size wr (wr.alloc (.cells #[.string n.name, .slice pa n.pars.length pc] 36)) := (Below.refl _ wr).alloc (Nat.le_refl _) _
              have f8 : (wr.alloc (.cells #[.string n.name, .slice pa n.pars.length pc] 36)).heap[wr.heap.size]? = some (.cells #[.string n.name, .slice pa n.pars.length pc] 36 (0, 0)) := Array.getElem?_push_size
              have HA := Lib.hid (HA.out.below hbA)
              clear hbA
              go_upto_region 26 with fail
              generalize hwb : wr.heap.size = wb at *
              generalize wr.alloc (.cells #[.string n.name, .slice pa n.pars.length pc] 36) = W8 at *
              clear hwb q0 q1
              have c8 : W8.cell? ⟨wb, 0, none⟩ = some (.string n.name) := by simp only [World.cell?, f8]; rfl
              have F8 := Lib.hid f8
              have hl8 := (Array.getElem?_eq_some_iff.1 f8).1
              clear f8
              by_cases ca : DagS.Comes g a n.name
              case neg =>
                have e1 : decide (DagS.Comes g a n.name) = false := decide_eq_false ca
                go_wp2_with (go_at_call 12; refine (HA.out.gn.comes ha hns).mono ?_; rintro e w12 ⟨rfl, hb12⟩; have HA := Lib.hid (HA.out.below hb12); clear hb12)
                go_roundw
                case rel => exact ⟨i + 1, by omega, by first | rfl | go_num, HA.out⟩
                case measure => simp [intOf]; omega
              case pos =>
                have e1 : decide (DagS.Comes g a n.name) = true := decide_eq_true ca
                have HCa := HA
                by_cases cb : DagS.Comes g b n.name
                case neg =>
                  have e2 : decide (DagS.Comes g b n.name) = false := decide_eq_false cb
                  go_wp2_with (first
                    | (go_at_call 12; refine (HCa.out.gn.comes ha hns).mono ?_; rintro e w12 ⟨rfl, hb12⟩; have HA := Lib.hid (HA.out.below hb12); have c8 := cell_blk c8 (hb12.block wb hl8); clear hb12 HCa)
                    | (go_at_call 12; refine (HA.out.gn.comes hb hns).mono ?_; rintro e w13 ⟨rfl, hb13⟩; have HA := Lib.hid (HA.out.below hb13); clear hb13))
                  go_roundw
                  case rel => exact ⟨i + 1, by omega, by first | rfl | go_num, HA.out⟩
                  case measure => simp [intOf]; omega
                case pos =>
                  have e2 : decide (DagS.Comes g b n.name) = true := decide_eq_true cb
                  have HEX := Lib.hid (HNX.out ca cb)
                  go_wp2_with (first
                    | (go_at_call 12; refine (HCa.out.gn.comes ha hns).mono ?_; rintro e w12 ⟨rfl, hb12⟩; have HA := Lib.hid (HA.out.below hb12); have F8 : Hid (w12.heap[wb]? = _) := (hb12.block wb hl8).trans F8.out; have c8 := cell_blk c8 (hb12.block wb hl8); clear hb12 HCa)
                    | (go_at_call 12; refine (HA.out.gn.comes hb hns).mono ?_; rintro e w13 ⟨rfl, hb13⟩; have HA := Lib.hid (HA.out.below hb13); have F8 : Hid (w13.heap[wb]? = _) := (hb13.block wb (Array.getElem?_eq_some_iff.1 F8.out).1).trans F8.out; clear hb13))
                  clear c8 e1 e2 ca cb
                  go_loopw [17, 114] (fun fv jv wx => ∃ j : Nat, j ≤ L.length ∧ jv = .int .i64 j ∧ fv = .bool (decide (∃ s ∈ L.take j, DagS.Comes g s n.name)) ∧ LS w1 wx p g (some ⟨ab, ao, none⟩) la L ∧ wx.heap[wb]? = some (.cells #[.string n.name, .slice pa n.pars.length pc] 36 (0, 0))) (fun _ jv _ => (L.length - intOf jv).toNat)
                  case atStart => exact ⟨0, Nat.zero_le _, rfl, by rw [decide_eq_false (fun ⟨s, hs, _⟩ => by rw [List.take_zero] at hs; cases hs)], HA.out, F8.out⟩
                  case round =>
                    clear HA F8
                    obtain ⟨j, hj, rfl, rfl, ha4, f9⟩ := hrel
                    have HA := Lib.hid ha4
                    have F9 := Lib.hid f9
                    have c9 : wr.cell? ⟨wb, 0, none⟩ = some (.string n.name) := by simp only [World.cell?, f9]; rfl
                    clear ha4 f9
                    by_cases hjl : j < L.length
                    · have hdj : decide ((j : Int) < (L.length : Int)) = true := decide_eq_true (by omega)
                      obtain ⟨bl2, ol2, rfl, q2⟩ := HA.out.at hjl
                      have hys := (HIN.out _ (List.getElem_mem hjl)).2.2
                      have HTE := Lib.hid (take_ex (P := fun s => DagS.Comes g s n.name) hjl)
                      have hj0 : (0 : Int) ≤ j := by omega
                      have hj1 : (j : Int) < L.length := by omega
                      have hw2 : IntKind.i64.wrap ((j : Int) + 1) = ((j + 1 : Nat) : Int) := IntWalk.i64_in _ (by omega)
                      generalize L[j] = y at *
                      by_cases hex : ∃ s ∈ L.take j, DagS.Comes g s n.name
                      · rw [decide_eq_true hex]
                        go_wp2_with fail
                        go_roundw
                        case rel => exact ⟨j + 1, by omega, by first | rfl | go_num, by rw [decide_eq_true (HTE.out.2 (.inl hex))], HA.out, F9.out⟩
                        case measure => simp [intOf]; omega
                      · rw [decide_eq_false hex]
                        go_wp2_with (go_at_call 12; refine (HA.out.gn.comes hys hns).mono ?_; rintro e w14 ⟨rfl, hb14⟩; have HA := Lib.hid (HA.out.below hb14); have F9 : Hid (w14.heap[wb]? = _) := (hb14.block wb (Array.getElem?_eq_some_iff.1 F9.out).1).trans F9.out; clear hb14)
                        go_roundw
                        case rel => exact ⟨j + 1, by omega, by first | rfl | go_num, congrArg Value.bool (decide_eq_decide.2 (HTE.out.trans ⟨fun h => h.resolve_left hex, .inr⟩).symm), HA.out, F9.out⟩
                        case measure => simp [intOf]; omega
                    · obtain rfl : j = L.length := by omega
                      have hdj : decide ((L.length : Int) < (L.length : Int)) = false := decide_eq_false (by omega)
                      rw [List.take_length, decide_eq_true HEX.out]
                      go_wp2_with fail
                      go_roundw
                      case rel => exact ⟨i + 1, by omega, by first | rfl | go_num, HA.out⟩
                      case measure => simp [intOf]; omega
            · obtain rfl : i = g.length := by omega
              have hd : decide ((g.length : Int) < (g.length : Int)) = false := decide_eq_false (by omega)
              go_wp2_with fail
              go_ret
              exact ⟨rfl, HB1.out.trans (HA.out.gn.b.mono HB1.out.size)⟩
end Go.Proofs.Ytoeoablmcelohaa
namespace Go.Proofs.Ytoeoablmcelohaa
open Go Go.RowKit Go.Maps Go.Sort
open DagS (Nd nm pars par ids Wf ancS ancL upto Srt)
open Classical

/-- .. and the texts that came in. -/
structure TS (w0 W : World) (p : Nat) (g : List Nd) (va la : Option Addr) (L : List ByteArray) (sa : Option Addr) (l : List ByteArray) : Prop where
  ls : LS w0 W p g va la L
  ss : Sl W sa (trow l)
theorem TS.below {w0 W W' : World} {p : Nat} {g : List Nd} {va la : Option Addr} {L : List ByteArray} {sa : Option Addr} {l : List ByteArray} (h : TS w0 W p g va la L sa l) (hb : Below W.heap.size W W') : TS w0 W' p g va la L sa l := ⟨h.ls.below hb, h.ss.below hb⟩
theorem TS.at {w0 W : World} {p : Nat} {g : List Nd} {va la : Option Addr} {L : List ByteArray} {sa : Option Addr} {l : List ByteArray} (h : TS w0 W p g va la L sa l) {i : Nat} (hi : i < l.length) : ∃ b o, sa = some ⟨b, o, none⟩ ∧ W.cell? ⟨b, o + i, none⟩ = some (.string l[i]) := by
  obtain ⟨bl, ol, e, hbl, hcel⟩ := h.ss.at (k := i) (by rw [trow_len]; exact hi)
  have q0 := hcel i (by rw [trow_len]; exact hi)
  rw [trow_at] at q0
  exact ⟨bl, ol, e, q0⟩

set_option maxRecDepth 100000 in
set_option maxHeartbeats 4000000 in
theorem lawtips_c {w : World} {na : Option Addr} {nc : Nat} {ns : List Nd} (hn : GR w na ns) (hl : ns.length ≤ 1048576) (hok : ∀ n ∈ ns, NdOk n) {sa : Option Addr} {sc : Nat} {l : List ByteArray} (hs : Sl w sa (trow l)) (hsl : l.length ≤ 9000000) (hsz : ∀ s ∈ l, s.size ≤ 10000000) :
    Calls Try.prog 6 #[.slice na ns.length nc, .slice sa l.length sc] w fun e w' => e = .returned (.bool true) ∧ Below w.heap.size w w' := by
  have HAW := Lib.hid (awake_c w)
  have HN := Lib.hid hn
  have HOK := Lib.hid hok
  have HS := Lib.hid hs
  have HSZ := Lib.hid hsz
  clear hn hok hs hsz
  go_enter Try.func6, Try.ntmps6
  go_upto_region 3 with (go_at_call 9; refine HAW.out.mono ?_; rintro e w1 ⟨rfl, hb1⟩)
  have HB1 := Lib.hid hb1
  clear hb1 HAW
  have hcase : 60 < ns.length ∨ (ns.length ≤ 60 ∧ 30 < l.length) ∨ (ns.length ≤ 60 ∧ l.length ≤ 30) := by omega
  rcases hcase with h1 | ⟨h1, h2⟩ | ⟨h1, h2⟩
  · have d1 : decide ((ns.length : Int) > 60) = true := decide_eq_true (by omega)
    go_wp2_with fail
    go_ret
    exact ⟨rfl, HB1.out⟩
  · have d1 : decide ((ns.length : Int) > 60) = false := decide_eq_false (by omega)
    have d2 : decide ((l.length : Int) > 30) = true := decide_eq_true (by omega)
    go_wp2_with fail
    go_ret
    exact ⟨rfl, HB1.out⟩
  · have d1 : decide ((ns.length : Int) > 60) = false := decide_eq_false (by omega)
    have d2 : decide ((l.length : Int) > 30) = false := decide_eq_false (by omega)
    have HBU := Lib.hid (built_c (c := nc) (HN.out.below HB1.out) h1 HOK.out)
    go_upto_region 8 with (go_at_call 10; refine HBU.out.mono ?_; rintro e w3 ⟨p, v, rfl, hg, hv⟩)
    have hg60 := bld_len ns ns.length (Nat.le_refl _)
    rw [List.take_length] at hg60
    have HS3 := Lib.hid ((HS.out.below HB1.out).below hg.b)
    have HG := Lib.hid hg
    have HWF := Lib.hid hg.wf
    obtain ⟨va, vc, rfl, hr⟩ := hv.form
    have HR := Lib.hid hr
    clear hg hv hr HBU d1 d2 HN HOK HS
    generalize bld ns = g at *
    go_upto_region 9 with (go_at_call 18; refine (HG.out.tips HS3.out hsl HSZ.out).mono ?_; rintro e w4 ⟨v4, rfl, hv4, hb4⟩)
    have HAP : Hid (∀ x ∈ DagS.tipsL g l, ∀ y ∈ DagS.tipsL g l, x ≠ y → ¬ DagS.Comes g x y) := fun x hx y hy hne => DagS.tips_apart hx hy hne
    have HIN : Hid (∀ x ∈ DagS.tipsL g l, DagS.find g x ≠ none ∧ x.size ≤ 10000000) := fun x hx => by
      obtain ⟨i, e⟩ : ∃ i, DagS.find g x = some i := by
        cases e : DagS.find g x with
        | none => exact absurd e (DagS.tips_there hx)
        | some i => exact ⟨i, rfl⟩
      exact ⟨DagS.tips_there hx, by rw [← DagS.find_nm e]; exact HG.out.sz (DagS.find_lt e)⟩
    have HUP : Hid (∀ x ∈ l, DagS.find g x ≠ none → ∃ s ∈ DagS.tipsL g l, DagS.Comes g s x) := fun x h1 h2 => HWF.out.tip_above h1 h2
    have HSR := Lib.hid (DagS.tips_srt g l)
    have HTT : Hid (DagS.tipsL g (DagS.tipsL g l) = DagS.tipsL g l) := DagS.tips_tips
    have hll : (DagS.tipsL g l).length ≤ 1000 := by have := tips_len g l; omega
    obtain ⟨la, lc, rfl, -, hs4⟩ := hv4.form
    have HA : Hid (TS w1 w4 p g va la (DagS.tipsL g l) sa l) := ⟨⟨HG.out.below hb4, HR.out.below hb4, hs4⟩, HS3.out.below hb4⟩
    clear hv4 hb4 hs4 HR HG HS3
    generalize DagS.tipsL g l = L at *
    go_wp2_with fail
    go_loopw [41] (fun iv wx => ∃ i : Nat, i ≤ L.length ∧ iv = .int .i64 i ∧ TS w1 wx p g va la L sa l) (fun iv _ => (L.length - intOf iv).toNat)
    case atStart => exact ⟨0, Nat.zero_le _, rfl, HA.out⟩
    case round =>
      clear HA
      obtain ⟨i, hi, rfl, ha1⟩ := hrel
      have HA := Lib.hid ha1
      clear ha1
      by_cases hil : i < L.length
      · have hd : decide ((i : Int) < (L.length : Int)) = true := decide_eq_true (by omega)
        obtain ⟨bl, ol, rfl, q1⟩ := HA.out.ls.at hil
        have HX := Lib.hid (HIN.out _ (List.getElem_mem hil))
        have HXY : Hid (∀ y ∈ L, L[i] ≠ y → ¬ DagS.Comes g L[i] y) := fun y hy hne => HAP.out _ (List.getElem_mem hil) y hy hne
        have HPR : Hid (∀ k (hk : k < L.length), i = k + 1 → DagS.less L[k] L[i]) := fun k hk e => List.pairwise_iff_getElem.1 HSR.out k i hk hil (by omega)
        have hi0 : (0 : Int) ≤ i := by omega
        have hi1 : (i : Int) < L.length := by omega
        have hw1 : IntKind.i64.wrap ((i : Int) + 1) = ((i + 1 : Nat) : Int) := IntWalk.i64_in _ (by omega)
        generalize L[i] = x at *
        have hxs := HX.out.2
        have HFI := Lib.hid (fun W (h : GR W va g) => find_c (c := vc) h (by omega) x)
        have dn : decide (nix (DagS.find g x) < 0) = false := decide_eq_false (mt nix_neg.1 HX.out.1)
        generalize nix (DagS.find g x) = z at *
        rcases Nat.eq_zero_or_pos i with e0 | e0
        · have d0 : decide ((i : Int) > 0) = false := decide_eq_false (by omega)
          have hn0 : ¬ 0 < i := by omega
          clear e0
          go_upto_region 14 with (go_at_call 11; refine (HFI.out _ HA.out.ls.gr).mono ?_; rintro e w9 ⟨rfl, hw9⟩; obtain rfl := hw9.symm)
          clear d0 dn hn0
          clear q1
          go_wp2_with fail
          go_loopw [65] (fun jv wx => ∃ j : Nat, j ≤ L.length ∧ jv = .int .i64 j ∧ TS w1 wx p g va (some ⟨bl, ol, none⟩) L sa l) (fun jv _ => (L.length - intOf jv).toNat)
          case atStart => exact ⟨0, Nat.zero_le _, rfl, HA.out⟩
          case round =>
            clear HA
            obtain ⟨j, hj, rfl, ha2⟩ := hrel
            have HA := Lib.hid ha2
            clear ha2
            by_cases hjl : j < L.length
            · have hdj : decide ((j : Int) < (L.length : Int)) = true := decide_eq_true (by omega)
              obtain ⟨bl2, ol2, e5, q2⟩ := HA.out.ls.at hjl
              injection e5 with e5
              injection e5 with e5 e6
              subst e5 e6
              have HY := Lib.hid (HXY.out _ (List.getElem_mem hjl))
              have hys := (HIN.out _ (List.getElem_mem hjl)).2
              have hj0 : (0 : Int) ≤ j := by omega
              have hj1 : (j : Int) < L.length := by omega
              have hw2 : IntKind.i64.wrap ((j : Int) + 1) = ((j + 1 : Nat) : Int) := IntWalk.i64_in _ (by omega)
              generalize L[j] = y at *
              by_cases hxy : x = y
              · subst hxy
                have hse : (x.toList == x.toList) = true := beq_self_eq_true _
                go_wp2_with fail
                go_roundw
                case rel => exact ⟨j + 1, by omega, by first | rfl | go_num, HA.out⟩
                case measure => simp [intOf]; omega
              · have hse := str_eqb hxy
                have e3 : decide (DagS.Comes g x y) = false := decide_eq_false (HY.out hxy)
                go_wp2_with (go_at_call 12; refine (HA.out.ls.gn.comes hxs hys).mono ?_; rintro e w11 ⟨rfl, hb11⟩; have HA := Lib.hid (HA.out.below hb11); clear hb11)
                go_roundw
                case rel => exact ⟨j + 1, by omega, by first | rfl | go_num, HA.out⟩
                case measure => simp [intOf]; omega
            · obtain rfl : j = L.length := by omega
              have hdj : decide ((L.length : Int) < (L.length : Int)) = false := decide_eq_false (by omega)
              go_wp2_with fail
              go_roundw
              case rel => exact ⟨i + 1, by omega, by first | rfl | go_num, HA.out⟩
              case measure => simp [intOf]; omega
        · have d0 : decide ((i : Int) > 0) = true := decide_eq_true (by omega)
          obtain ⟨k, hk⟩ : ∃ k, i = k + 1 := ⟨i - 1, by omega⟩
          have hkl : k < L.length := by omega
          obtain ⟨bl3, ol3, e5, q3⟩ := HA.out.ls.at hkl
          injection e5 with e5
          injection e5 with e5 e6
          subst e5 e6
          have hlt := HPR.out k hkl hk
          have hbt : Op.bytesLess L[k].toList x.toList = true := by rw [less_iff]; exact decide_eq_true hlt
          have hwm : IntKind.i64.wrap ((i : Int) - 1) = (k : Int) := by
            rw [show ((i : Int) - 1) = (k : Int) by omega]
            exact IntWalk.i64_in _ (by omega)
          have hk0 : (0 : Int) ≤ (k : Int) := by omega
          have hk1 : (k : Int) < L.length := by omega
          generalize L[k] = u at *
          clear hk hlt
          have e00 : 0 < i := e0
          go_upto_region 14 with (go_at_call 11; refine (HFI.out _ HA.out.ls.gr).mono ?_; rintro e w9 ⟨rfl, hw9⟩; obtain rfl := hw9.symm)
          clear d0 dn hbt hwm hk0 hk1 q3
          clear q1
          go_wp2_with fail
          go_loopw [65] (fun jv wx => ∃ j : Nat, j ≤ L.length ∧ jv = .int .i64 j ∧ TS w1 wx p g va (some ⟨bl, ol, none⟩) L sa l) (fun jv _ => (L.length - intOf jv).toNat)
          case atStart => exact ⟨0, Nat.zero_le _, rfl, HA.out⟩
          case round =>
            clear HA
            obtain ⟨j, hj, rfl, ha2⟩ := hrel
            have HA := Lib.hid ha2
            clear ha2
            by_cases hjl : j < L.length
            · have hdj : decide ((j : Int) < (L.length : Int)) = true := decide_eq_true (by omega)
              obtain ⟨bl2, ol2, e5, q2⟩ := HA.out.ls.at hjl
              injection e5 with e5
              injection e5 with e5 e6
              subst e5 e6
              have HY := Lib.hid (HXY.out _ (List.getElem_mem hjl))
              have hys := (HIN.out _ (List.getElem_mem hjl)).2
              have hj0 : (0 : Int) ≤ j := by omega
              have hj1 : (j : Int) < L.length := by omega
              have hw2 : IntKind.i64.wrap ((j : Int) + 1) = ((j + 1 : Nat) : Int) := IntWalk.i64_in _ (by omega)
              generalize L[j] = y at *
              by_cases hxy : x = y
              · subst hxy
                have hse : (x.toList == x.toList) = true := beq_self_eq_true _
                go_wp2_with fail
                go_roundw
                case rel => exact ⟨j + 1, by omega, by first | rfl | go_num, HA.out⟩
                case measure => simp [intOf]; omega
              · have hse := str_eqb hxy
                have e3 : decide (DagS.Comes g x y) = false := decide_eq_false (HY.out hxy)
                go_wp2_with (go_at_call 12; refine (HA.out.ls.gn.comes hxs hys).mono ?_; rintro e w11 ⟨rfl, hb11⟩; have HA := Lib.hid (HA.out.below hb11); clear hb11)
                go_roundw
                case rel => exact ⟨j + 1, by omega, by first | rfl | go_num, HA.out⟩
                case measure => simp [intOf]; omega
            · obtain rfl : j = L.length := by omega
              have hdj : decide ((L.length : Int) < (L.length : Int)) = false := decide_eq_false (by omega)
              go_wp2_with fail
              go_roundw
              case rel => exact ⟨i + 1, by omega, by first | rfl | go_num, HA.out⟩
              case measure => simp [intOf]; omega
      · obtain rfl : i = L.length := by omega
        have hd : decide ((L.length : Int) < (L.length : Int)) = false := decide_eq_false (by omega)
        go_wp2_with fail
        clear hd hil hi
        go_loopw [82] (fun iv wx => ∃ i : Nat, i ≤ l.length ∧ iv = .int .i64 i ∧ TS w1 wx p g va la L sa l) (fun iv _ => (l.length - intOf iv).toNat)
        case atStart => exact ⟨0, Nat.zero_le _, rfl, HA.out⟩
        case round =>
          clear HA
          obtain ⟨i, hi, rfl, ha3⟩ := hrel
          have HA := Lib.hid ha3
          clear ha3
          by_cases hil : i < l.length
          · have hd : decide ((i : Int) < (l.length : Int)) = true := decide_eq_true (by omega)
            obtain ⟨ab, ao, rfl, q0⟩ := HA.out.at hil
            have hns := HSZ.out _ (List.getElem_mem hil)
            have hi0 : (0 : Int) ≤ (i : Int) := by omega
            have hi1 : (i : Int) < l.length := by omega
            have hw1 : IntKind.i64.wrap ((i : Int) + 1) = ((i + 1 : Nat) : Int) := IntWalk.i64_in _ (by omega)
            have HNX := Lib.hid (HUP.out _ (List.getElem_mem hil))
            generalize l[i] = n at *
            have HFI := Lib.hid (fun W (h : GR W va g) => find_c (c := vc) h (by omega) n)
            have HNI : Hid (decide (nix (DagS.find g n) < 0) = decide (DagS.find g n = none)) := decide_eq_decide.2 nix_neg
            have hni := HNI.out
            generalize nix (DagS.find g n) = z at *
            go_wp2_with (go_at_call 11; refine (HFI.out _ HA.out.ls.gr).mono ?_; rintro e w9 ⟨rfl, hw9⟩; obtain rfl := hw9.symm)
            clear q0 HFI hni
            go_loopw [15, 92] (fun fv jv wx => ∃ j : Nat, j ≤ L.length ∧ jv = .int .i64 j ∧ fv = .bool (decide (DagS.find g n = none ∨ ∃ s ∈ L.take j, DagS.Comes g s n)) ∧ TS w1 wx p g va la L (some ⟨ab, ao, none⟩) l) (fun _ jv _ => (L.length - intOf jv).toNat)
            case atStart => exact ⟨0, Nat.zero_le _, rfl, congrArg Value.bool (by first | exact HNI.out.trans (decide_eq_decide.2 ⟨.inl, fun h => h.resolve_right fun ⟨s, hs, _⟩ => by rw [List.take_zero] at hs; cases hs⟩) | exact decide_eq_decide.2 ⟨.inl, fun h => h.resolve_right fun ⟨s, hs, _⟩ => by rw [List.take_zero] at hs; cases hs⟩), HA.out⟩
            case round =>
              clear HA
              obtain ⟨j, hj, rfl, rfl, ha4⟩ := hrel
              have HA := Lib.hid ha4
              clear ha4
              by_cases hjl : j < L.length
              · have hdj : decide ((j : Int) < (L.length : Int)) = true := decide_eq_true (by omega)
                obtain ⟨bl2, ol2, rfl, q2⟩ := HA.out.ls.at hjl
                have hys := (HIN.out _ (List.getElem_mem hjl)).2
                have HTE := Lib.hid (take_ex (P := fun s => DagS.Comes g s n) hjl)
                have hj0 : (0 : Int) ≤ j := by omega
                have hj1 : (j : Int) < L.length := by omega
                have hw2 : IntKind.i64.wrap ((j : Int) + 1) = ((j + 1 : Nat) : Int) := IntWalk.i64_in _ (by omega)
                generalize L[j] = y at *
                by_cases hex : DagS.find g n = none ∨ ∃ s ∈ L.take j, DagS.Comes g s n
                · rw [decide_eq_true hex]
                  go_wp2_with fail
                  go_roundw
                  case rel => exact ⟨j + 1, by omega, by first | rfl | go_num, by rw [decide_eq_true (hex.imp id fun h => HTE.out.2 (.inl h))], HA.out⟩
                  case measure => simp [intOf]; omega
                · rw [decide_eq_false hex]
                  go_wp2_with (go_at_call 12; refine (HA.out.ls.gn.comes hys hns).mono ?_; rintro e w14 ⟨rfl, hb14⟩; have HA := Lib.hid (HA.out.below hb14); clear hb14)
                  go_roundw
                  case rel => exact ⟨j + 1, by omega, by first | rfl | go_num, congrArg Value.bool (decide_eq_decide.2 ⟨fun h => .inr (HTE.out.2 (.inr h)), fun h => (HTE.out.1 (h.resolve_left fun e => hex (.inl e))).resolve_left fun e => hex (.inr e)⟩), HA.out⟩
                  case measure => simp [intOf]; omega
              · obtain rfl : j = L.length := by omega
                have hdj : decide ((L.length : Int) < (L.length : Int)) = false := decide_eq_false (by omega)
                have hall : DagS.find g n = none ∨ ∃ s ∈ L, DagS.Comes g s n := by
                  by_cases e : DagS.find g n = none
                  · exact .inl e
                  · exact .inr (HNX.out e)
                rw [List.take_length, decide_eq_true hall]
                clear hall
                go_wp2_with fail
                go_roundw
                case rel => exact ⟨i + 1, by omega, by first | rfl | go_num, HA.out⟩
                case measure => simp [intOf]; omega
          · obtain rfl : i = l.length := by omega
            have hd : decide ((l.length : Int) < (l.length : Int)) = false := decide_eq_false (by omega)
            have hLz : ∀ s ∈ L, s.size ≤ 10000000 := fun s hs => (HIN.out s hs).2
            have hLl : L.length ≤ 9000000 := by omega
            have hL2 : L.length ≤ 10000000 := by omega
            go_wp2_with (first
              | (go_at_call 18; refine (HA.out.ls.gn.tips HA.out.ls.sl hLl hLz).mono ?_; rintro e w15 ⟨v15, rfl, hv15, hb15⟩; have HA := Lib.hid (HA.out.below hb15); have HV : Hid (TV w15 v15 L) := (by rw [HTT.out] at hv15; exact hv15); clear hb15 hv15)
              | (go_at_call 14; refine (same_ts HV.out HA.out.ls.sl hL2).mono ?_; rintro e w16 ⟨rfl, hb16⟩; have HA := Lib.hid (HA.out.below hb16); clear hb16))
            go_ret
            exact ⟨rfl, HB1.out.trans (HA.out.ls.gn.b.mono HB1.out.size)⟩
end Go.Proofs.Ytoeoablmcelohaa
namespace Go.Proofs.Ytoeoablmcelohaa.dagTips
open Go.ChangeShapes Go.WideShapes Go.ChangeAt Go.RowKit
open Go.WideMaps Go.WideElems
open Go.ChangeMaps (open_string shut_string)

theorem reads (os : Os) {H : Type} (enc : TypeId × Value → H) : ∃ places, DataW.whole enc Try.prog ((laidWorld os).forCall (fun _ _ => 0) ⟨#[], #[Value.slice none 0 0, .slice none 0 0], []⟩).memory Try.f6.params.toList Rows.dagTipsSpec.vars false (#[Value.slice none 0 0, .slice none 0 0] : Array Value).toList 8 = some ([.nil, .nil], [], places) :=
  ⟨[], by kernel_rfl⟩

set_option maxRecDepth 100000 in
theorem contract (H : Type) (enc : TypeId × Value → H) (W : World) (base : Nat) (args : Array Value) (ds : List (DataW H)) (p : List MemPlace)
    (hval : ∀ (j : Nat) t v, Try.f6.params[j]? = some t → args[j]? = some v → Value.okWide Try.prog W .any base t v)
    (hA : DataW.TrodAll enc Try.prog W 0 (fun _ => true) true Try.f6.params.toList args.toList ds p) (hk : Rows.uptoSmall H ds = true) (_hL : laidMetH Try.prog Rows.dagTipsUptoRow.laid W) (_hshape : W.ShapedOpen Try.prog) :
    Calls Try.prog 6 args W fun e W' => e = .returned (.bool true) ∧ Below W.heap.size W W' := by
  rw [Try.params6] at hA hval
  obtain ⟨v0, vs0, d0, ds0, p0, q0, hargs0, rfl, rfl, h0, r0⟩ := trodAll_cons hA
  obtain ⟨v1, vs1, d1, ds1, p1, q1, hargs1, rfl, rfl, h1, r1⟩ := trodAll_cons r0
  obtain ⟨rfl, rfl, rfl⟩ := trodAll_nil r1
  rw [hargs1] at hargs0
  obtain rfl : args = #[v0, v1] := by cases args; simp_all
  have k0 := bulk_mem hk (d := d0) (by simp)
  obtain ⟨a0, c0, x0, rfl, g0, l0, z0⟩ := open_nds (hval 0 22 v0 rfl rfl) h0 k0
  have k1 := bulk_mem hk (d := d1) (by simp)
  obtain ⟨a1, c1, x1, rfl, lc1, l1, z1, sl1⟩ := open_strs (hval 1 32 v1 rfl rfl) h1 k1
  exact lawtips_c g0 l0 z0 sl1 (by omega) (fun s hs => Nat.le_trans (z1 s hs) (by decide))

set_option maxRecDepth 100000 in
theorem lifted (os : Os) (started : os.Started) (H : Type) (enc : TypeId × Value → H) (F : Stop.Interp) :
    ReturnsInHanded {} Try.checked os 6 .any ((Rows.OpenSpec.upto Rows.dagTipsSpec).preRow enc Try.prog Try.f6 Rows.dagTipsUptoRow.domain false Rows.dagTipsUptoRow.laid) (((Rows.OpenSpec.upto Rows.dagTipsSpec).at F).post enc Try.prog Try.f6 false true false false) := by
  obtain ⟨places, hx⟩ := reads os enc
  refine law_lifted (laid := Rows.dagTipsUptoRow.laid) started Try.func6 (by kernel_rfl) rfl rfl ?_ (by kernel_rfl) ?_ ?_ ?_
  · intro ds h
    match ds, h with
    | [_, _], _ => rfl
  · rw [Try.params6]
    intro t ht
    have ht : t ∈ [22, 32] := ht
    simp only [List.mem_cons, List.mem_nil_iff, or_false] at ht
    rcases ht with rfl | rfl <;> exact ⟨by kernel_rfl, of_decide_eq_true (by kernel_rfl)⟩
  · exact witness_row_at (enc := enc) (C := Try.checked) false (laidWorld os) #[Value.slice none 0 0, .slice none 0 0] rfl (by kernel_rfl) (by kernel_rfl) (by kernel_rfl)
      (OpenSpec.preRow_of_cond 8 hx (by kernel_rfl) (fun k hk => by cases hk; kernel_rfl) (by kernel_rfl) (laid_met os _))
  · exact contract H enc

theorem saidUpto : Rows.DagTipsUptoSaid :=
  OpenClaim.holds_of_cond 6 Try.f6 rfl rfl rfl rfl rfl rfl rfl ⟨rfl, rfl, rfl, rfl, rfl⟩ rfl rfl rfl rfl rfl (by kernel_rfl) Try.func6 (by kernel_rfl)
    (of_decide_eq_true (by kernel_rfl)) (by unfold Func.isWrapper; rw [if_neg (by decide +kernel)]; exact ⟨rfl, rfl⟩)
    (fun os started H enc _ F => by rw [OpenClaim.pre_eq_preRow]; exact lifted os started H enc F)

end Go.Proofs.Ytoeoablmcelohaa.dagTips
