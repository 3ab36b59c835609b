/- The law DagGrows answers true for all arguments of bulk at most 1048576: the row's statement and its card. Conditions: the row's own (laid tables as the card ties them; bulk). -/
import Derived.Test.YtoeoablmcelohaaZ15
namespace Go.Proofs.Ytoeoablmcelohaa
open Go Go.RowKit Go.Maps Go.Sort
open Classical

set_option maxRecDepth 100000 in
set_option maxHeartbeats 1000000 in
theorem same_c {w : World} {a b : Option Addr} {c d : Nat} {l m : List ByteArray} (ha : Sl w a (trow l)) (hb : Sl w b (trow m)) (hl : l.length ≤ 10000000) :
    Calls Try.prog 14 #[.slice a l.length c, .slice b m.length d] w fun e w' => e = .returned (.bool (decide (l = m))) ∧ Below w.heap.size w w' := by
  have HA := Lib.hid ha
  have HB := Lib.hid hb
  clear ha hb
  go_enter Try.func14, Try.ntmps14
  by_cases hlen : l.length = m.length
  case neg =>
    have hd : ((l.length : Int) == (m.length : Int)) = false := by rw [beq_eq_false_iff_ne]; omega
    have hd2 : ¬ (l.length : Int) = (m.length : Int) := by omega
    go_wp2_with fail
    go_ret
    exact ⟨by rw [decide_eq_false (fun e => hlen (by rw [e]))]; rfl, Below.refl _ _⟩
  case pos =>
    have HLEN := Lib.hid hlen
    rw [← hlen]
    clear hlen
    go_wp2_with fail
    go_loopw [13] (fun iv wx => ∃ i : Nat, i ≤ l.length ∧ iv = .int .i64 i ∧ l.take i = m.take i ∧ Below w.heap.size w wx) (fun iv _ => (l.length - intOf iv).toNat)
    case atStart => exact ⟨0, Nat.zero_le _, rfl, rfl, Below.refl _ _⟩
    case round =>
      obtain ⟨i, hi, rfl, hno, hbw⟩ := hrel
      have HNO := Lib.hid hno
      have HBW := Lib.hid hbw
      by_cases hil : i < l.length
      · have him : i < m.length := by have := HLEN.out; omega
        have hd : decide ((i : Int) < (l.length : Int)) = true := decide_eq_true (by omega)
        obtain ⟨bl, ol, rfl, hbl, hcel⟩ := HA.out.at (k := i) (by rw [trow_len]; exact hil)
        have q0 := hcel i (by rw [trow_len]; exact hil)
        rw [trow_at] at q0
        have q1 := cell_blk q0 (hbw.block bl hbl)
        obtain ⟨bm, om, rfl, hbm, hcem⟩ := HB.out.at (k := i) (by rw [trow_len]; exact him)
        have r0 := hcem i (by rw [trow_len]; exact him)
        rw [trow_at] at r0
        have r1 := cell_blk r0 (hbw.block bm hbm)
        have HTL : Hid (l.take (i + 1) = l.take i ++ [l[i]]) := by show _ = _; rw [List.take_add_one, List.getElem?_eq_getElem hil]; rfl
        have HTM : Hid (m.take (i + 1) = m.take i ++ [m[i]]) := by show _ = _; rw [List.take_add_one, List.getElem?_eq_getElem him]; rfl
        have HEQ : Hid (l = m → l[i] = m[i]) := fun e => by subst e; rfl
        have hi0 : (0 : Int) ≤ i := by omega
        have hi1 : (i : Int) < l.length := by omega
        have hw1 : IntKind.i64.wrap ((i : Int) + 1) = ((i + 1 : Nat) : Int) := IntWalk.i64_in _ (by omega)
        clear q0 hcel r0 hcem hno hbw
        generalize l[i] = s at *
        generalize m[i] = t at *
        clear him
        by_cases hst : s = t
        · subst hst
          have hse : (s.toList == s.toList) = true := beq_self_eq_true _
          go_upto_region 6 with fail
          go_quiet (fail)
          have HB3 := Lib.hid (below_dN HBW.out nq)
          clear q1 r1
          generalize wr.drewN nq = w2 at *
          go_wp2_with fail
          go_roundw
          case rel => exact ⟨i + 1, by omega, by first | rfl | go_num, by rw [HTL.out, HTM.out, HNO.out], HB3.out⟩
          case measure => simp [intOf]; omega
        · have hse := str_eqb hst
          go_upto_region 6 with fail
          go_quiet (fail)
          have HB3 := Lib.hid (below_dN HBW.out nq)
          clear q1 r1
          generalize wr.drewN nq = w2 at *
          go_wp2_with fail
          go_ret
          exact ⟨by rw [decide_eq_false (fun e => hst (HEQ.out e))]; rfl, HB3.out⟩
      · obtain rfl : i = l.length := by omega
        have hd : decide ((l.length : Int) < (l.length : Int)) = false := decide_eq_false (by omega)
        clear hno hbw
        go_wp2_with fail
        go_ret
        have h := HNO.out
        rw [List.take_length, HLEN.out, List.take_length] at h
        exact ⟨by rw [decide_eq_true h]; rfl, HBW.out⟩
/-- .. of rows in blocks of their own. -/
theorem same_tv {w : World} {v u : Value} {l m : List ByteArray} (hv : TV w v l) (hu : TV w u m) (hl : l.length ≤ 10000000) :
    Calls Try.prog 14 #[v, u] w fun e w' => e = .returned (.bool (decide (l = m))) ∧ Below w.heap.size w w' := by
  obtain ⟨a, c, rfl, -, ha⟩ := hv.form
  obtain ⟨b, d, rfl, -, hb⟩ := hu.form
  exact same_c ha hb hl
end Go.Proofs.Ytoeoablmcelohaa
namespace Go.Proofs.Ytoeoablmcelohaa
open Go Go.RowKit Go.Maps Go.Sort
open DagS (Nd nm pars par ids Wf ancS ancL upto Srt)
open Classical

theorem found_len {g : List Nd} {l : List ByteArray} (hd : Srt l) (hf : ∀ x ∈ l, DagS.find g x ≠ none) : l.length ≤ g.length := by
  have hn : l.Nodup := hd.imp fun {a b} h e => by subst e; exact absurd h (List.lt_irrefl _)
  have := nodup_le hn (m := g.map Nd.name) fun x hx => mem_names.2 (by
    have := hf x hx
    cases e : DagS.find g x with
    | none => exact absurd e this
    | some i => rfl)
  rwa [List.length_map] at this
theorem tips_len (g : List Nd) (l : List ByteArray) : (DagS.tipsL g l).length ≤ g.length := found_len (DagS.tips_srt g l) fun _ hx => DagS.tips_there hx
theorem bases_len (g : List Nd) (a b : ByteArray) : (DagS.basesL g a b).length ≤ g.length := tips_len g _
theorem miss_len (g : List Nd) (l m : List ByteArray) : (DagS.missL g l m).length ≤ g.length := by unfold DagS.missL; rw [List.length_map]; exact upto_len _ _
theorem pars_len2 {g : List Nd} (hw : Wf g) (x : ByteArray) : (DagS.parsL g x).length ≤ g.length := by
  unfold DagS.parsL
  cases e : DagS.find g x with
  | none => exact Nat.zero_le _
  | some i =>
    refine found_len (hw.srt i) fun s hs => ?_
    obtain ⟨j, _, e⟩ := hw.back i s hs
    rw [e]; exact fun h => nomatch h

theorem GN.pars {w W : World} {p : Nat} {g : List Nd} (h : GN w W p g) {x : ByteArray} (hx : x.size ≤ 10000000) :
    Calls Try.prog 17 #[.pointer (some ⟨p, 0, none⟩), .string x] W fun e W' => ∃ v, e = .returned v ∧ TV W' v (DagS.parsL g x) ∧ Below W.heap.size W W' := by
  obtain ⟨K, h1, h2, h3⟩ := h
  exact gpars_c h1 hx
theorem same_tt {w : World} {v u : Value} {l : List ByteArray} (hv : TV w v l) (hu : TV w u l) (hl : l.length ≤ 10000000) :
    Calls Try.prog 14 #[v, u] w fun e w' => e = .returned (.bool true) ∧ Below w.heap.size w w' := by
  refine (same_tv hv hu hl).mono ?_
  rintro e w' ⟨rfl, hb⟩
  exact ⟨by rw [decide_eq_true rfl], hb⟩
theorem same_ts {w : World} {v : Value} {a : Option Addr} {c : Nat} {l : List ByteArray} (hv : TV w v l) (hu : Sl w a (trow l)) (hl : l.length ≤ 10000000) :
    Calls Try.prog 14 #[v, .slice a l.length c] w fun e w' => e = .returned (.bool true) ∧ Below w.heap.size w w' := by
  obtain ⟨b, d, rfl, -, hb⟩ := hv.form
  refine (same_c hb hu hl).mono ?_
  rintro e w' ⟨rfl, hb⟩
  exact ⟨by rw [decide_eq_true rfl], hb⟩

theorem same_tn {w : World} {v : Value} {l : List ByteArray} (hv : TV w v l) (hl : l = []) :
    Calls Try.prog 14 #[v, .slice none 0 0] w fun e w' => e = .returned (.bool true) ∧ Below w.heap.size w w' := by
  subst hl
  show Calls _ _ #[v, .slice none ([] : List ByteArray).length 0] _ _
  exact same_ts hv (.nil _ _) (Nat.zero_le _)

/-- An ask and the graphs, as they stay. -/
structure AS (w0 W : World) (p : Nat) (g : List Nd) (va sa ma : Option Addr) (sc mc b3 : Nat) (x y : ByteArray) (l m : List ByteArray) : Prop where
  gn : GN w0 W p g
  gr : GR W va g
  ss : Sl W sa (trow l)
  mm : Sl W ma (trow m)
  blk : W.heap[b3]? = some (.cells #[.string x, .string y, .slice sa l.length sc, .slice ma m.length mc] 48 (0, 0))
section
variable {w0 W W' : World} {p : Nat} {g : List Nd} {va sa ma : Option Addr} {sc mc b3 : Nat} {x y : ByteArray} {l m : List ByteArray}
theorem AS.below (h : AS w0 W p g va sa ma sc mc b3 x y l m) (hb : Below W.heap.size W W') : AS w0 W' p g va sa ma sc mc b3 x y l m :=
  ⟨h.gn.below hb, h.gr.below hb, h.ss.below hb, h.mm.below hb, (hb.block _ (Array.getElem?_eq_some_iff.1 h.blk).1).trans h.blk⟩
theorem AS.c0 (h : AS w0 W p g va sa ma sc mc b3 x y l m) : W.cell? ⟨b3, 0, none⟩ = some (.string x) := by simp only [World.cell?, h.blk]; rfl
theorem AS.c1 (h : AS w0 W p g va sa ma sc mc b3 x y l m) : W.cell? ⟨b3, 1, none⟩ = some (.string y) := by simp only [World.cell?, h.blk]; rfl
theorem AS.c2 (h : AS w0 W p g va sa ma sc mc b3 x y l m) : W.cell? ⟨b3, 2, none⟩ = some (.slice sa l.length sc) := by simp only [World.cell?, h.blk]; rfl
theorem AS.c3 (h : AS w0 W p g va sa ma sc mc b3 x y l m) : W.cell? ⟨b3, 3, none⟩ = some (.slice ma m.length mc) := by simp only [World.cell?, h.blk]; rfl
end

end Go.Proofs.Ytoeoablmcelohaa
namespace Go.Proofs.Ytoeoablmcelohaa
open Go Go.RowKit Go.Maps Go.Sort
open DagS (Nd nm pars par ids Wf ancS ancL upto Srt)
open Classical

/-- The new node's name. -/
def nNew : ByteArray := ⟨#[97, 32, 110, 101, 119, 32, 111, 110, 101]⟩

theorem nNew_list : nNew.toList = [97, 32, 110, 101, 119, 32, 111, 110, 101] := by rw [Lib.toList_data]; rfl
theorem ne_new {a : ByteArray} (h : ¬ a.toList = [97, 32, 110, 101, 119, 32, 111, 110, 101]) : a ≠ nNew := fun e => h (by rw [e]; exact nNew_list)
section
variable {w W : World} {p : Nat} {g : List Nd} {a b c : ByteArray}
theorem GN.tips3 (h : GN w W p g) (ha : a.size ≤ 10000000) (hb : b.size ≤ 10000000) (hc : c.size ≤ 10000000) :
    Calls Try.prog 18 #[.pointer (some ⟨p, 0, none⟩), .slice (some ⟨W.heap.size, 0, none⟩) 3 3] (W.alloc (.cells #[.string a, .string b, .string c] 9)) fun e W' => ∃ v, e = .returned v ∧ TV W' v (DagS.tipsL g [a, b, c]) ∧ Below W.heap.size W W' := by
  have hbA : Below W.heap.size W (W.alloc (.cells #[.string a, .string b, .string c] 9)) := (Below.refl _ W).alloc (Nat.le_refl _) _
  refine ((h.below hbA).tips (l := [a, b, c]) (sl_new W [.string a, .string b, .string c] 9 (0, 0)) (Nat.le_trans (Nat.le_refl 3) (by decide)) (fun s hs => ?_)).mono ?_
  · rcases List.mem_cons.1 hs with rfl | hs
    · exact ha
    · rcases List.mem_cons.1 hs with rfl | hs
      · exact hb
      · rw [List.mem_singleton] at hs; rw [hs]; exact hc
  · rintro e W' ⟨v, rfl, hv, hbb⟩
    exact ⟨v, rfl, hv, hbA.trans (hbb.mono hbA.size)⟩
theorem GN.miss2 (h : GN w W p g) (ha : a.size ≤ 10000000) (hb : b.size ≤ 10000000) (hc : c.size ≤ 10000000) :
    Calls Try.prog 16 #[.pointer (some ⟨p, 0, none⟩), .slice (some ⟨W.heap.size, 0, none⟩) 2 2, .slice (some ⟨W.heap.size + 1, 0, none⟩) 1 1] ((W.alloc (.cells #[.string a, .string b] 9)).alloc (.cells #[.string c] 9)) fun e W' => ∃ v, e = .returned v ∧ TV W' v (DagS.missL g [a, b] [c]) ∧ Below W.heap.size W W' := by
  have hbA : Below W.heap.size W (W.alloc (.cells #[.string a, .string b] 9)) := (Below.refl _ W).alloc (Nat.le_refl _) _
  have hbB := hbA.alloc hbA.size (.cells #[.string c] 9)
  have hs1 : Sl ((W.alloc (.cells #[.string a, .string b] 9)).alloc (.cells #[.string c] 9)) (some ⟨W.heap.size, 0, none⟩) (trow [a, b]) := (sl_new W [.string a, .string b] 9 (0, 0)).below ((Below.refl _ _).alloc (Nat.le_refl _) _)
  have hs2 : Sl ((W.alloc (.cells #[.string a, .string b] 9)).alloc (.cells #[.string c] 9)) (some ⟨W.heap.size + 1, 0, none⟩) (trow [c]) := by
    have := sl_new (W.alloc (.cells #[.string a, .string b] 9)) [.string c] 9 (0, 0)
    rwa [World.size_alloc] at this
  refine ((h.below hbB).miss (l := [a, b]) (m := [c]) hs1 (Nat.le_trans (Nat.le_refl 2) (by decide)) (fun s hs => ?_) hs2 (Nat.le_trans (Nat.le_refl 1) (by decide)) (fun s hs => ?_)).mono ?_
  · rcases List.mem_cons.1 hs with rfl | hs
    · exact ha
    · rw [List.mem_singleton] at hs; rw [hs]; exact hb
  · rw [List.mem_singleton] at hs; rw [hs]; exact hc
  · rintro e W' ⟨v, rfl, hv, hbb⟩
    exact ⟨v, rfl, hv, hbB.trans (hbb.mono hbB.size)⟩
end

set_option maxRecDepth 100000 in
set_option maxHeartbeats 4000000 in
theorem grows_c {w : World} {na : Option Addr} {nc : Nat} {ns : List Nd} (hn : GR w na ns) (hl : ns.length ≤ 1048576) (hok : ∀ n ∈ ns, NdOk n) {pa : Option Addr} {pc : Nat} {ps : List ByteArray} (hp : Sl w pa (trow ps)) (hpl : ps.length ≤ 9000000) (hpz : ∀ s ∈ ps, s.size ≤ 10000000)
    {a b c : ByteArray} (ha : a.size ≤ 10000000) (hb : b.size ≤ 10000000) (hc : c.size ≤ 10000000) :
    Calls Try.prog 7 #[.slice na ns.length nc, .slice pa ps.length pc, .agg #[.string a, .string b, .string c]] w fun e w' => e = .returned (.bool true) ∧ Below w.heap.size w w' := by
  have hb0 : Below w.heap.size w (w.alloc (.cells #[.string a, .string b, .string c] 23)) := (Below.refl _ w).alloc (Nat.le_refl _) _
  have f0 : (w.alloc (.cells #[.string a, .string b, .string c] 23)).heap[w.heap.size]? = some (.cells #[.string a, .string b, .string c] 23 (0, 0)) := Array.getElem?_push_size
  have HB0 := Lib.hid hb0
  have HN := Lib.hid (hn.below hb0)
  have HP := Lib.hid (hp.below hb0)
  have HOK := Lib.hid hok
  have HPZ := Lib.hid hpz
  have F0 := Lib.hid f0
  clear hb0 hn hok f0 hp hpz
  go_enter Try.func7, Try.ntmps7
  go_upto_region 1 with fail
  generalize w.alloc (.cells #[.string a, .string b, .string c] 23) = W0 at *
  have HAW := Lib.hid (awake_c W0)
  go_upto_region 3 with (go_at_call 9; refine HAW.out.mono ?_; rintro e w1 ⟨rfl, hb1⟩)
  have hl0 := (Array.getElem?_eq_some_iff.1 F0.out).1
  have F1 := Lib.hid ((hb1.block _ hl0).trans F0.out)
  have HB1 := Lib.hid hb1
  clear hb1 HAW hl0
  have hcase : 50 < ns.length ∨ (ns.length ≤ 50 ∧ 20 < ps.length) ∨ (ns.length ≤ 50 ∧ ps.length ≤ 20) := by omega
  rcases hcase with h1 | ⟨h1, h2⟩ | ⟨h1, h2⟩
  · have d1 : decide ((ns.length : Int) > 50) = true := decide_eq_true (by omega)
    go_wp2_with fail
    go_ret
    exact ⟨rfl, HB0.out.trans (HB1.out.mono HB0.out.size)⟩
  · have d1 : decide ((ns.length : Int) > 50) = false := decide_eq_false (by omega)
    have d2 : decide ((ps.length : Int) > 20) = true := decide_eq_true (by omega)
    go_wp2_with fail
    go_ret
    exact ⟨rfl, HB0.out.trans (HB1.out.mono HB0.out.size)⟩
  · have d1 : decide ((ns.length : Int) > 50) = false := decide_eq_false (by omega)
    have d2 : decide ((ps.length : Int) > 20) = false := decide_eq_false (by omega)
    have HBU := Lib.hid (built_c (c := nc) (HN.out.below HB1.out) (by omega) HOK.out)
    have HBV : Hid (∀ W, Below w1.heap.size w1 W → Calls Try.prog 10 #[.slice na ns.length nc] W fun e w' => ∃ p v, e = .returned (.tuple #[.pointer (some ⟨p, 0, none⟩), v, .bool true]) ∧ GN W w' p (bld ns) ∧ GV w' v (bld ns)) := fun W hW => built_c ((HN.out.below HB1.out).below hW) (by omega) HOK.out
    go_upto_region 6 with (go_at_call 10; refine HBU.out.mono ?_; rintro e w3 ⟨p1, v1, rfl, hg1, hv1⟩)
    have HB2 := Lib.hid hg1.b
    have HBW := Lib.hid (HBV.out w3 hg1.b)
    have HG1 := Lib.hid hg1
    have HV1 := Lib.hid hv1
    clear HBU HBV hg1 hv1
    go_upto_region 9 with (go_at_call 10; refine HBW.out.mono ?_; rintro e w4 ⟨p2, v2, rfl, hg2, hv2⟩)
    clear hv2 HBW
    have HG2 := Lib.hid hg2
    clear hg2
    have hg60 := bld_len ns ns.length (Nat.le_refl _)
    rw [List.take_length] at hg60
    have HWF := Lib.hid HG1.out.wf
    have HB3 : Hid (Below w.heap.size w w3) := HB0.out.trans ((HB1.out.trans (HB2.out.mono HB1.out.size)).mono HB0.out.size)
    have F3 : Hid (w3.heap[w.heap.size]? = some (.cells #[.string a, .string b, .string c] 23 (0, 0))) := (HB2.out.block _ (Array.getElem?_eq_some_iff.1 F1.out).1).trans F1.out
    have HP3 : Hid (Sl w3 pa (trow ps)) := (HP.out.below HB1.out).below HB2.out
    clear HB2 F1 HP HB1 F0 HB0 HN HOK d1 d2
    generalize bld ns = g at *
    obtain ⟨va, vc, rfl, hr1⟩ := HV1.out.form
    have HR1 := Lib.hid hr1
    clear hr1 HV1
    have HAD := Lib.hid (HG2.out.add (x := nNew) (by omega) (by decide) (pc := pc) (HP3.out.below HG2.out.b) hpl HPZ.out)
    clear HG2
    by_cases hz : (DagS.add g nNew ps).2 = 0
    case neg =>
      have HNO := Lib.hid (DagS.add_no hz (by omega))
      obtain ⟨z, hzz⟩ : ∃ z, (DagS.add g nNew ps).2 = z := ⟨_, rfl⟩
      rw [hzz] at HAD hz
      have hze : (z == 0) = false := by rw [beq_eq_false_iff_ne]; exact hz
      clear hzz
      have HFI := fun W (hW : Below w3.heap.size w3 W) => find_c (c := vc) (HR1.out.below hW) (by omega) nNew
      have HFJ : Hid (∀ W, Below w3.heap.size w3 W → _) := HFI
      clear HFI
      by_cases hf : DagS.find g nNew = none
      · have hpp : ps ≠ [] := HNO.out.resolve_left fun h => h hf
        have hp0 : 0 < ps.length := List.length_pos_iff.2 hpp
        have d4 : decide ((ps.length : Int) > 0) = true := decide_eq_true (by omega)
        rw [hf] at HFJ
        have d3 : decide (nix none ≥ 0) = false := rfl
        clear HNO
        generalize nix none = y at *
        go_wp2_with (first
          | (go_at_call 19; refine HAD.out.mono ?_; rintro e w5 ⟨rfl, hg5, -⟩)
          | (go_at_call 11; refine (HFJ.out _ hg5.b).mono ?_; rintro e w6 ⟨rfl, hw6⟩; obtain rfl := hw6.symm))
        go_ret
        exact ⟨rfl, HB3.out.trans (hg5.b.mono HB3.out.size)⟩
      · have d3 : decide (nix (DagS.find g nNew) ≥ 0) = true := decide_eq_true (by have := mt nix_neg.1 hf; omega)
        clear HNO
        generalize nix (DagS.find g nNew) = y at *
        go_wp2_with (first
          | (go_at_call 19; refine HAD.out.mono ?_; rintro e w5 ⟨rfl, hg5, -⟩)
          | (go_at_call 11; refine (HFJ.out _ hg5.b).mono ?_; rintro e w6 ⟨rfl, hw6⟩; obtain rfl := hw6.symm))
        go_ret
        exact ⟨rfl, HB3.out.trans (hg5.b.mono HB3.out.size)⟩
    case pos =>
      obtain ⟨k1, k2, k3⟩ := DagS.add_ok hz
      rw [hz, k3] at HAD
      have HWF2 : Hid (Wf (g ++ [⟨nNew, DagS.withA [] ps⟩])) := by
        have := HWF.out.add nNew ps
        rw [k3] at this
        exact this
      have HK1 := Lib.hid k1
      have HK2 : Hid (∀ p ∈ ps, DagS.find g p ≠ none) := k2
      clear hz k1 k2 k3
      go_upto_region 11 with (go_at_call 19; refine HAD.out.mono ?_; rintro e w5 ⟨rfl, hg5, -⟩)
      have HG5 := Lib.hid hg5
      clear hg5 HAD
      go_wp2_with fail
      go_loopw [60] (fun iv wx => ∃ i : Nat, i ≤ ps.length ∧ iv = .int .i64 i ∧ GN w3 wx p2 (g ++ [⟨nNew, DagS.withA [] ps⟩])) (fun iv _ => (ps.length - intOf iv).toNat)
      case atStart => exact ⟨0, Nat.zero_le _, rfl, HG5.out⟩
      case round =>
        clear HG5
        obtain ⟨i, hi, rfl, hg6⟩ := hrel
        have HG6 := Lib.hid hg6
        clear hg6
        by_cases hil : i < ps.length
        · have hd : decide ((i : Int) < (ps.length : Int)) = true := decide_eq_true (by omega)
          obtain ⟨bl, ol, rfl, hbl, hcel⟩ := HP3.out.at (k := i) (by rw [trow_len]; exact hil)
          have q0 := hcel i (by rw [trow_len]; exact hil)
          rw [trow_at] at q0
          have q1 := cell_blk q0 (HG6.out.b.block bl hbl)
          have hxs := HPZ.out _ (List.getElem_mem hil)
          have HNC := Lib.hid (HWF.out.new_comes (l := ps) HK1.out (List.getElem_mem hil) (HK2.out _ (List.getElem_mem hil)))
          have hi0 : (0 : Int) ≤ i := by omega
          have hi1 : (i : Int) < ps.length := by omega
          have hw1 : IntKind.i64.wrap ((i : Int) + 1) = ((i + 1 : Nat) : Int) := IntWalk.i64_in _ (by omega)
          clear q0 hcel
          generalize ps[i] = x at *
          generalize hgg : g ++ [⟨nNew, DagS.withA [] ps⟩] = g' at *
          have hnn : nNew.size ≤ 10000000 := by decide
          have e1 : decide (DagS.Comes g' nNew x) = true := decide_eq_true HNC.out.1
          have e2 : decide (DagS.Comes g' x nNew) = false := decide_eq_false HNC.out.2
          have HBE := Lib.hid (HWF2.out.bases_of HNC.out.1)
          go_wp2_with (first
            | (go_at_call 12; refine (HG6.out.comes hnn hxs).mono ?_; rintro e w7 ⟨rfl, hb7⟩; have HG7 := Lib.hid (HG6.out.below hb7); clear hb7 HG6)
            | (go_at_call 12; refine (HG7.out.comes hxs hnn).mono ?_; rintro e w8 ⟨rfl, hb8⟩; have HG8 := Lib.hid (HG7.out.below hb8); clear hb8 HG7)
            | (go_at_call 13; refine (HG8.out.bases hnn hxs).mono ?_; rintro e w9 ⟨v9, rfl, hv9, hb9⟩; have HG9 := Lib.hid (HG8.out.below hb9); have HV9 : Hid (TV w9 v9 [x]) := (by rw [HBE.out] at hv9; exact hv9); clear hb9 hv9 HG8)
            | (go_at_call 14; refine (same_ts (OwnG.alloc HV9.out _) (sl_new _ [.string x] 9 (0, 0)) (l := [x]) (Nat.le_trans (Nat.le_refl 1) (by decide))).mono ?_; rintro e w10 ⟨rfl, hb10⟩; have HG10 := Lib.hid ((HG9.out.alloc _).below hb10); clear hb10 HG9))
          go_roundw
          case rel => exact ⟨i + 1, by omega, by first | rfl | go_num, HG10.out⟩
          case measure => simp [intOf]; omega
        · obtain rfl : i = ps.length := by omega
          have hd : decide ((ps.length : Int) < (ps.length : Int)) = false := decide_eq_false (by omega)
          have f5 := (HG6.out.b.block _ (Array.getElem?_eq_some_iff.1 F3.out).1).trans F3.out
          have q0 : wr.cell? ⟨w.heap.size, 0, none⟩ = some (.string a) := by simp only [World.cell?, f5]; rfl
          have q1 : wr.cell? ⟨w.heap.size, 1, none⟩ = some (.string b) := by simp only [World.cell?, f5]; rfl
          have q2 : wr.cell? ⟨w.heap.size, 2, none⟩ = some (.string c) := by simp only [World.cell?, f5]; rfl
          clear f5
          go_upto_region 17 with fail
          go_quiet (fail)
          have HG7 := Lib.hid (HG6.out.below (below_dN (Below.refl _ wr) nq))
          clear q0 q1 q2 HG6
          generalize wr.drewN nq = w7 at *
          by_cases ea : a.toList = [97, 32, 110, 101, 119, 32, 111, 110, 101]
          · have qa : (a.toList == [97, 32, 110, 101, 119, 32, 111, 110, 101]) = true := by rw [ea]; rfl
            go_wp2_with fail
            go_ret
            exact ⟨rfl, HB3.out.trans (HG7.out.b.mono HB3.out.size)⟩
          · by_cases eb : b.toList = [97, 32, 110, 101, 119, 32, 111, 110, 101]
            · have qa : (a.toList == [97, 32, 110, 101, 119, 32, 111, 110, 101]) = false := beq_eq_false_iff_ne.2 ea
              have qb : (b.toList == [97, 32, 110, 101, 119, 32, 111, 110, 101]) = true := by rw [eb]; rfl
              go_wp2_with fail
              go_ret
              exact ⟨rfl, HB3.out.trans (HG7.out.b.mono HB3.out.size)⟩
            · by_cases ec : c.toList = [97, 32, 110, 101, 119, 32, 111, 110, 101]
              · have qa : (a.toList == [97, 32, 110, 101, 119, 32, 111, 110, 101]) = false := beq_eq_false_iff_ne.2 ea
                have qb : (b.toList == [97, 32, 110, 101, 119, 32, 111, 110, 101]) = false := beq_eq_false_iff_ne.2 eb
                have qc : (c.toList == [97, 32, 110, 101, 119, 32, 111, 110, 101]) = true := by rw [ec]; rfl
                go_wp2_with fail
                go_ret
                exact ⟨rfl, HB3.out.trans (HG7.out.b.mono HB3.out.size)⟩
              · have qa : (a.toList == [97, 32, 110, 101, 119, 32, 111, 110, 101]) = false := beq_eq_false_iff_ne.2 ea
                have qb : (b.toList == [97, 32, 110, 101, 119, 32, 111, 110, 101]) = false := beq_eq_false_iff_ne.2 eb
                have qc : (c.toList == [97, 32, 110, 101, 119, 32, 111, 110, 101]) = false := beq_eq_false_iff_ne.2 ec
                have na := ne_new ea
                have nb := ne_new eb
                have nc2 := ne_new ec
                have HBM := Lib.hid (HWF.out.bases_more HWF2.out HK1.out (a := a) (b := b) na nb)
                have HTM : Hid (DagS.tipsL (g ++ [⟨nNew, DagS.withA [] ps⟩]) [a, b, c] = DagS.tipsL g [a, b, c]) := HWF.out.tips_more HK1.out fun s hs => by
                  rcases List.mem_cons.1 hs with rfl | hs
                  · exact na
                  · rcases List.mem_cons.1 hs with rfl | hs
                    · exact nb
                    · rw [List.mem_singleton] at hs; rw [hs]; exact nc2
                have HMM : Hid (DagS.missL (g ++ [⟨nNew, DagS.withA [] ps⟩]) [a, b] [c] = DagS.missL g [a, b] [c]) := HWF.out.miss_more (fun s hs => by
                  rcases List.mem_cons.1 hs with rfl | hs
                  · exact na
                  · rw [List.mem_singleton] at hs; rw [hs]; exact nb) (fun s hs => by rw [List.mem_singleton] at hs; rw [hs]; exact nc2)
                have hcm : decide (DagS.Comes (g ++ [⟨nNew, DagS.withA [] ps⟩]) a b) = decide (DagS.Comes g a b) := decide_eq_decide.2 (HWF.out.comes_more HK1.out na)
                have hlb : (DagS.basesL g a b).length ≤ 10000000 := by have := bases_len g a b; omega
                have hlt : (DagS.tipsL g [a, b, c]).length ≤ 10000000 := by have := tips_len g [a, b, c]; omega
                have hlm : (DagS.missL g [a, b] [c]).length ≤ 10000000 := by have := miss_len g [a, b] [c]; omega
                obtain ⟨t, ht⟩ : ∃ t, decide (DagS.Comes g a b) = t := ⟨_, rfl⟩
                rw [ht] at hcm
                generalize hgg : g ++ [⟨nNew, DagS.withA [] ps⟩] = g' at *
                clear hgg na nb nc2 ea eb ec
                have HGa := HG1
                have HGb := HG1
                have HGc := HG1
                have HGd := HG1
                cases t
                all_goals
                  go_wp2_with (first
                    | (go_at_call 13; refine ((HGa.out.below HG7.out.b).bases ha hb).mono ?_; rintro e w8 ⟨v8, rfl, hv8, hb8⟩; have HG7 := Lib.hid (HG7.out.below hb8); have HV := Lib.hid hv8; clear hb8 hv8 HGa)
                    | (go_at_call 13; refine (HG7.out.bases ha hb).mono ?_; rintro e w9 ⟨v9, rfl, hv9, hb9⟩; have HG7 := Lib.hid (HG7.out.below hb9); have HV := Lib.hid (HV.out.below hb9); have HU : Hid (TV w9 v9 (DagS.basesL g a b)) := (by rw [HBM.out] at hv9; exact hv9); clear hb9 hv9)
                    | (go_at_call 14; refine (same_tt HV.out HU.out (by assumption)).mono ?_; rintro e w10 ⟨rfl, hb10⟩; have HG7 := Lib.hid (HG7.out.below hb10); clear hb10 HV HU)
                    | (go_at_call 12; refine ((HGb.out.below HG7.out.b).comes ha hb).mono ?_; rintro e w11 ⟨rfl, hb11⟩; have HG7 := Lib.hid (HG7.out.below hb11); clear hb11 HGb)
                    | (go_at_call 12; refine (HG7.out.comes ha hb).mono ?_; rintro e w12 ⟨rfl, hb12⟩; have HG7 := Lib.hid (HG7.out.below hb12); clear hb12)
                    | (go_at_call 18; refine (GN.tips3 (HGc.out.below HG7.out.b) ha hb hc).mono ?_; rintro e w13 ⟨v13, rfl, hv13, hb13⟩; have HG7 := Lib.hid (HG7.out.below hb13); have HV := Lib.hid hv13; clear hb13 hv13 HGc)
                    | (go_at_call 18; refine (GN.tips3 HG7.out ha hb hc).mono ?_; rintro e w14 ⟨v14, rfl, hv14, hb14⟩; have HG7 := Lib.hid (HG7.out.below hb14); have HV := Lib.hid (HV.out.below hb14); have HU : Hid (TV w14 v14 (DagS.tipsL g [a, b, c])) := (by rw [HTM.out] at hv14; exact hv14); clear hb14 hv14)
                    | (go_at_call 16; refine (GN.miss2 (HGd.out.below HG7.out.b) ha hb hc).mono ?_; rintro e w15 ⟨v15, rfl, hv15, hb15⟩; have HG7 := Lib.hid (HG7.out.below hb15); have HV := Lib.hid hv15; clear hb15 hv15 HGd)
                    | (go_at_call 16; refine (GN.miss2 HG7.out ha hb hc).mono ?_; rintro e w16 ⟨v16, rfl, hv16, hb16⟩; have HG7 := Lib.hid (HG7.out.below hb16); have HV := Lib.hid (HV.out.below hb16); have HU : Hid (TV w16 v16 (DagS.missL g [a, b] [c])) := (by rw [HMM.out] at hv16; exact hv16); clear hb16 hv16))
                  go_ret
                  exact ⟨rfl, HB3.out.trans (HG7.out.b.mono HB3.out.size)⟩
end Go.Proofs.Ytoeoablmcelohaa
namespace Go.Proofs.Ytoeoablmcelohaa.dagGrows
open Go.ChangeShapes Go.WideShapes Go.ChangeAt Go.RowKit
open Go.WideMaps Go.WideElems
open Go.ChangeMaps (open_string shut_string)

theorem reads (os : Os) {H : Type} (enc : TypeId × Value → H) : ∃ places, DataW.whole enc Try.prog ((laidWorld os).forCall (fun _ _ => 0) ⟨#[], #[Value.slice none 0 0, .slice none 0 0, .agg #[.string ByteArray.empty, .string ByteArray.empty, .string ByteArray.empty]], []⟩).memory Try.f7.params.toList Rows.dagGrowsSpec.vars false (#[Value.slice none 0 0, .slice none 0 0, .agg #[.string ByteArray.empty, .string ByteArray.empty, .string ByteArray.empty]] : Array Value).toList 8 = some ([.nil, .nil, .agg [.lit (.string []), .lit (.string []), .lit (.string [])]], [], places) :=
  ⟨[], by kernel_rfl⟩

set_option maxRecDepth 100000 in
theorem contract (H : Type) (enc : TypeId × Value → H) (W : World) (base : Nat) (args : Array Value) (ds : List (DataW H)) (p : List MemPlace)
    (hval : ∀ (j : Nat) t v, Try.f7.params[j]? = some t → args[j]? = some v → Value.okWide Try.prog W .any base t v)
    (hA : DataW.TrodAll enc Try.prog W 0 (fun _ => true) true Try.f7.params.toList args.toList ds p) (hk : Rows.uptoSmall H ds = true) (_hL : laidMetH Try.prog Rows.dagGrowsUptoRow.laid W) (_hshape : W.ShapedOpen Try.prog) :
    Calls Try.prog 7 args W fun e W' => e = .returned (.bool true) ∧ Below W.heap.size W W' := by
  rw [Try.params7] at hA hval
  obtain ⟨v0, vs0, d0, ds0, p0, q0, hargs0, rfl, rfl, h0, r0⟩ := trodAll_cons hA
  obtain ⟨v1, vs1, d1, ds1, p1, q1, hargs1, rfl, rfl, h1, r1⟩ := trodAll_cons r0
  obtain ⟨v2, vs2, d2, ds2, p2, q2, hargs2, rfl, rfl, h2, r2⟩ := trodAll_cons r1
  obtain ⟨rfl, rfl, rfl⟩ := trodAll_nil r2
  rw [hargs2] at hargs1
  rw [hargs1] at hargs0
  obtain rfl : args = #[v0, v1, v2] := by cases args; simp_all
  have k0 := bulk_mem hk (d := d0) (by simp)
  obtain ⟨a0, c0, x0, rfl, g0, l0, z0⟩ := open_nds (hval 0 22 v0 rfl rfl) h0 k0
  have k1 := bulk_mem hk (d := d1) (by simp)
  obtain ⟨a1, c1, x1, rfl, lc1, l1, z1, sl1⟩ := open_strs (hval 1 32 v1 rfl rfl) h1 k1
  have k2 := bulk_mem hk (d := d2) (by simp)
  obtain ⟨x2, y2, u2, rfl, wx2, wy2, wu2⟩ := open_str3 Try.underlying23 (by kernel_rfl) (by kernel_rfl) Try.underlying9 (hval 2 23 v2 rfl rfl) h2 k2
  exact grows_c g0 l0 z0 sl1 (by omega) (fun s hs => Nat.le_trans (z1 s hs) (by decide)) wx2 wy2 wu2

set_option maxRecDepth 100000 in
theorem lifted (os : Os) (started : os.Started) (H : Type) (enc : TypeId × Value → H) (F : Stop.Interp) :
    ReturnsInHanded {} Try.checked os 7 .any ((Rows.OpenSpec.upto Rows.dagGrowsSpec).preRow enc Try.prog Try.f7 Rows.dagGrowsUptoRow.domain false Rows.dagGrowsUptoRow.laid) (((Rows.OpenSpec.upto Rows.dagGrowsSpec).at F).post enc Try.prog Try.f7 false true false false) := by
  obtain ⟨places, hx⟩ := reads os enc
  refine law_lifted (laid := Rows.dagGrowsUptoRow.laid) started Try.func7 (by kernel_rfl) rfl rfl ?_ (by kernel_rfl) ?_ ?_ ?_
  · intro ds h
    match ds, h with
    | [_, _, _], _ => rfl
  · rw [Try.params7]
    intro t ht
    have ht : t ∈ [22, 32, 23] := ht
    simp only [List.mem_cons, List.mem_nil_iff, or_false] at ht
    rcases ht with rfl | rfl | rfl <;> exact ⟨by kernel_rfl, of_decide_eq_true (by kernel_rfl)⟩
  · exact witness_row_at (enc := enc) (C := Try.checked) false (laidWorld os) #[Value.slice none 0 0, .slice none 0 0, .agg #[.string ByteArray.empty, .string ByteArray.empty, .string ByteArray.empty]] rfl (by kernel_rfl) (by kernel_rfl) (by kernel_rfl)
      (OpenSpec.preRow_of_cond 8 hx (by kernel_rfl) (fun k hk => by cases hk; kernel_rfl) (by kernel_rfl) (laid_met os _))
  · exact contract H enc

theorem saidUpto : Rows.DagGrowsUptoSaid :=
  OpenClaim.holds_of_cond 7 Try.f7 rfl rfl rfl rfl rfl rfl rfl ⟨rfl, rfl, rfl, rfl, rfl⟩ rfl rfl rfl rfl rfl (by kernel_rfl) Try.func7 (by kernel_rfl)
    (of_decide_eq_true (by kernel_rfl)) (by unfold Func.isWrapper; rw [if_neg (by decide +kernel)]; exact ⟨rfl, rfl⟩)
    (fun os started H enc _ F => by rw [OpenClaim.pre_eq_preRow]; exact lifted os started H enc F)

end Go.Proofs.Ytoeoablmcelohaa.dagGrows
