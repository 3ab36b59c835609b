/- Texts of mine, joined: slices.ContainsFunc over texts. | Walks over graphs: Tips. | Graphs of the laws' own: kept apart; awake. | Walks over the laws: awake. | Walks over the laws: built. -/
import Derived.Test.YtoeoablmcelohaaZ13
namespace Go.Proofs.Ytoeoablmcelohaa
open Go Go.RowKit Go.Maps Go.Sort
open DagS (Nd nm pars par ids Wf ancS ancL upto)
open Classical

set_option maxRecDepth 100000 in
set_option maxHeartbeats 1000000 in
theorem index_c {w : World} {fid : Nat} {lb : Array Value} {P : ByteArray → Prop} {a : Option Addr} {c : Nat} {l : List ByteArray} (hf : Sl w a (trow l)) (hl : l.length ≤ 9000000) (eg : ∀ args w, (callFunc fid args).run Try.prog w = .ok (.enter fid args) w)
    (hc : ∀ W, Below w.heap.size w W → ∀ s ∈ l, Calls Try.prog fid (#[.string s] ++ lb) W fun e W' => e = .returned (.bool (decide (P s))) ∧ Below W.heap.size W W') :
    Calls Try.prog 50 #[.slice a l.length c, .func (.func fid) #[] lb] w fun e w' => (∃ z : Int, e = .returned (.int .i64 z) ∧ (z ≥ 0 ↔ ∃ s ∈ l, P s)) ∧ Below w.heap.size w w' := by
  have HF := Lib.hid hf
  have HC : Hid (∀ W, Below w.heap.size w W → ∀ s ∈ l, Calls Try.prog fid (#[.string s] ++ lb) W fun e W' => e = .returned (.bool (decide (P s))) ∧ Below W.heap.size W W') := hc
  clear hf hc
  go_enter Try.func50, Try.ntmps50
  go_wp2_with fail
  go_loopw [8] (fun iv wx => ∃ i : Nat, i ≤ l.length ∧ iv = .int .i64 i ∧ (∀ s ∈ l.take i, ¬ P s) ∧ Below w.heap.size w wx) (fun iv _ => (l.length - intOf iv).toNat)
  case atStart => exact ⟨0, Nat.zero_le _, rfl, fun s hs => (nomatch hs), Below.refl _ _⟩
  case round =>
    obtain ⟨i, hi, rfl, hno, hb⟩ := hrel
    have HNO : Hid (∀ s ∈ l.take i, ¬ P s) := hno
    have HB := Lib.hid hb
    by_cases hil : i < l.length
    · have hd : decide ((i : Int) < (l.length : Int)) = true := decide_eq_true (by omega)
      obtain ⟨bl, ol, rfl, hbl, hcel⟩ := HF.out.at (k := i) (by rw [trow_len]; exact hil)
      have q0 := hcel i (by rw [trow_len]; exact hil)
      rw [trow_at] at q0
      have q1 := cell_blk q0 (hb.block bl hbl)
      have HCL := Lib.hid (HC.out wr hb _ (List.getElem_mem hil))
      have HTK : Hid (l.take (i + 1) = l.take i ++ [l[i]]) := by show _ = _; rw [List.take_add_one, List.getElem?_eq_getElem hil]; rfl
      have HME : Hid (l[i] ∈ l) := List.getElem_mem hil
      have hi0 : (0 : Int) ≤ i := by omega
      have hi1 : (i : Int) < l.length := by omega
      have hw1 : IntKind.i64.wrap ((i : Int) + 1) = ((i + 1 : Nat) : Int) := IntWalk.i64_in _ (by omega)
      clear q0 hcel hno hb
      generalize l[i] = s at *
      by_cases hp : P s
      · rw [decide_eq_true hp] at HCL
        go_wp2_with (go_at_fn fid; refine HCL.out.mono ?_; rintro e w2 ⟨rfl, hb2⟩)
        go_ret
        exact ⟨⟨_, rfl, ⟨fun _ => ⟨s, HME.out, hp⟩, fun _ => by omega⟩⟩, HB.out.trans (hb2.mono HB.out.size)⟩
      · rw [decide_eq_false hp] at HCL
        go_wp2_with (go_at_fn fid; refine HCL.out.mono ?_; rintro e w2 ⟨rfl, hb2⟩)
        go_roundw
        case rel =>
          refine ⟨i + 1, by omega, by first | rfl | go_num, fun z hz => ?_, HB.out.trans (hb2.mono HB.out.size)⟩
          rw [HTK.out, List.mem_append, List.mem_singleton] at hz
          rcases hz with hz | rfl
          · exact HNO.out z hz
          · exact hp
        case measure => simp [intOf]; omega
    · obtain rfl : i = l.length := by omega
      have hd : decide ((l.length : Int) < (l.length : Int)) = false := decide_eq_false (by omega)
      clear hno hb
      go_wp2_with fail
      go_ret
      have h := HNO.out
      rw [List.take_length] at h
      exact ⟨⟨_, rfl, ⟨fun h => by omega, fun ⟨s, h1, h2⟩ => absurd h2 (h s h1)⟩⟩, HB.out⟩

set_option maxRecDepth 100000 in
theorem cont_c {w : World} {fid : Nat} {lb : Array Value} {P : ByteArray → Prop} {a : Option Addr} {c : Nat} {l : List ByteArray} (hf : Sl w a (trow l)) (hl : l.length ≤ 9000000) (eg : ∀ args w, (callFunc fid args).run Try.prog w = .ok (.enter fid args) w)
    (hc : ∀ W, Below w.heap.size w W → ∀ s ∈ l, Calls Try.prog fid (#[.string s] ++ lb) W fun e W' => e = .returned (.bool (decide (P s))) ∧ Below W.heap.size W W') :
    Calls Try.prog 38 #[.slice a l.length c, .func (.func fid) #[] lb] w fun e w' => e = .returned (.bool (decide (∃ s ∈ l, P s))) ∧ Below w.heap.size w w' := by
  have HC := Lib.hid (index_c (c := c) hf hl eg hc)
  clear hf hc eg
  go_enter Try.func38, Try.ntmps38
  go_wp2_with (go_at_call 50; refine HC.out.mono ?_; rintro e w1 ⟨⟨z, rfl, hz⟩, hb⟩)
  go_ret
  exact ⟨rfl, hb⟩

set_option maxRecDepth 100000 in
/-- Tips' function value: another name that comes from this one. -/
theorem tipf_c {K : Nat → Prop} {w : World} {p : Nat} {g : List Nd} (hG : GM K w p g) {s n : ByteArray} (hs : s.size ≤ 10000000) (hn : n.size ≤ 10000000) {b7 b2 : Nat} (h7 : w.cell? ⟨b7, 0, none⟩ = some (.string n)) (h2 : w.cell? ⟨b2, 0, none⟩ = some (.pointer (some ⟨p, 0, none⟩))) :
    Calls Try.prog 39 #[.string s, .pointer (some ⟨b7, 0, none⟩), .pointer (some ⟨b2, 0, none⟩)] w fun e w' => e = .returned (.bool (decide (s ≠ n ∧ DagS.Comes g s n))) ∧ Below w.heap.size w w' := by
  have HC := Lib.hid (gcomes_c hG hs hn)
  clear hG
  go_enter Try.func39, Try.ntmps39
  by_cases hne : s = n
  · subst hne
    have hd : (s.toList == s.toList) = true := beq_self_eq_true _
    go_wp2_with fail
    go_ret
    refine ⟨?_, Below.refl _ _⟩
    rw [decide_eq_false (fun h => h.1 rfl)]
    rfl
  · have hd := str_eqb hne
    go_wp2_with (go_at_call 12; refine HC.out.mono ?_; rintro e w1 ⟨rfl, hb⟩)
    go_ret
    refine ⟨?_, hb⟩
    have h3 : decide (s ≠ n ∧ DagS.Comes g s n) = decide (DagS.Comes g s n) := decide_eq_decide.2 ⟨fun h => h.2, fun h => ⟨hne, h⟩⟩
    rw [h3]
    rfl
end Go.Proofs.Ytoeoablmcelohaa
namespace Go.Proofs.Ytoeoablmcelohaa
open Go Go.RowKit Go.Maps Go.Sort
open DagS (Nd nm pars par ids Wf ancS ancL upto Srt Tip tipsL)
open Classical

theorem tip_step {g : List Nd} {l : List ByteArray} {i : Nat} (hi : i < l.length) : (l.take (i + 1)).filter (fun x => decide (Tip g l x)) = (l.take i).filter (fun x => decide (Tip g l x)) ++ (if Tip g l l[i] then [l[i]] else []) := by
  rw [List.take_add_one, List.getElem?_eq_getElem hi, List.filter_append]
  congr 1
  by_cases h : Tip g l l[i]
  · simp [h]
  · simp [h]
theorem tip_iff {g : List Nd} {l : List ByteArray} {n : ByteArray} (hn : n ∈ l) (hf : DagS.find g n ≠ none) : Tip g l n ↔ ¬ ∃ s ∈ l, s ≠ n ∧ DagS.Comes g s n := by
  unfold DagS.Tip
  constructor
  · rintro ⟨_, _, h⟩ ⟨s, hs, h1, h2⟩
    exact (h s hs).elim h1 fun h => h h2
  · intro h
    exact ⟨hn, hf, fun y hy => Classical.byContradiction fun hh => h ⟨y, hy, fun e => hh (.inl e), Classical.byContradiction fun h2 => hh (.inr h2)⟩⟩

set_option maxRecDepth 100000 in
set_option maxHeartbeats 2000000 in
theorem gtips_c {K : Nat → Prop} {w : World} {p : Nat} {g : List Nd} (hG : GM K w p g) {fa : Option Addr} {fc : Nat} {l : List ByteArray} (hf : Sl w fa (trow l)) (hl : l.length ≤ 9000000) (hz : ∀ s ∈ l, s.size ≤ 10000000) :
    Calls Try.prog 18 #[.pointer (some ⟨p, 0, none⟩), .slice fa l.length fc] w fun e w' => ∃ v, e = .returned v ∧ TV w' v (tipsL g l) ∧ Below w.heap.size w w' := by
  have hb0 : Below w.heap.size w (w.alloc (.cells #[.pointer (some ⟨p, 0, none⟩)] 25)) := (Below.refl _ w).alloc (Nat.le_refl _) _
  have hbx : (w.alloc (.cells #[.pointer (some ⟨p, 0, none⟩)] 25)).heap[w.heap.size]? = some (.cells #[.pointer (some ⟨p, 0, none⟩)] 25 (0, 0)) := Array.getElem?_push_size
  have hs0 : (w.alloc (.cells #[.pointer (some ⟨p, 0, none⟩)] 25)).heap.size = w.heap.size + 1 := by simp
  have HF := Lib.hid (hf.below hb0)
  have HG := Lib.hid (hG.below hb0)
  have HB0 := Lib.hid hb0
  have HBX := Lib.hid hbx
  have HS0 := Lib.hid hs0
  have HZ : Hid (∀ s ∈ l, s.size ≤ 10000000) := hz
  clear hG hf hb0 hbx hs0 hz
  go_enter Try.func18, Try.ntmps18
  go_upto_region 1 with fail
  generalize w.alloc (.cells #[.pointer (some ⟨p, 0, none⟩)] 25) = W0 at *
  go_wp2_with fail
  go_loopw [5, 12] (fun ov iv wx => ∃ i : Nat, i ≤ l.length ∧ iv = .int .i64 i ∧ (∃ o : List ByteArray, o = (l.take i).filter (fun x => decide (Tip g l x)) ∧ wx.ownsRow W0.heap.size 9 1 ov o.length (trow o)) ∧ Below W0.heap.size W0 wx) (fun _ iv _ => (l.length - intOf iv).toNat)
  case atStart => exact ⟨0, Nat.zero_le _, rfl, ⟨[], by rw [List.take_zero]; rfl, World.ownsRow_nil _ _ _ _⟩, Below.refl _ _⟩
  case round =>
    obtain ⟨i, hi, rfl, ⟨o, ho, hrow⟩, hb⟩ := hrel
    have HB := Lib.hid hb
    have HROW := Lib.hid hrow
    have HO := Lib.hid ho
    have hol : o.length ≤ l.length := by rw [ho]; exact Nat.le_trans (List.length_filter_le _ _) (by rw [List.length_take]; omega)
    by_cases hil : i < l.length
    · have hd : decide ((i : Int) < (l.length : Int)) = true := decide_eq_true (by omega)
      obtain ⟨bl, ol, rfl, hbl, hcel⟩ := HF.out.at (k := i) (by rw [trow_len]; exact hil)
      have q0 := hcel i (by rw [trow_len]; exact hil)
      rw [trow_at] at q0
      have q1 := cell_blk q0 (hb.block bl hbl)
      have HTS := Lib.hid (tip_step (g := g) hil)
      have HME : Hid (l[i] ∈ l) := List.getElem_mem hil
      have hns := HZ.out _ (List.getElem_mem hil)
      have hi0 : (0 : Int) ≤ i := by omega
      have hi1 : (i : Int) < l.length := by omega
      have hw1 : IntKind.i64.wrap ((i : Int) + 1) = ((i + 1 : Nat) : Int) := IntWalk.i64_in _ (by omega)
      clear q0 hcel hb ho hrow
      generalize l[i] = n at *
      have hbA : Below wr.heap.size wr (wr.alloc (.cells #[.string n] 9)) := (Below.refl _ wr).alloc (Nat.le_refl _) _
      have hb0A := HB.out.trans (hbA.mono HB.out.size)
      have f7 : (wr.alloc (.cells #[.string n] 9)).heap[wr.heap.size]? = some (.cells #[.string n] 9 (0, 0)) := Array.getElem?_push_size
      have f2 : (wr.alloc (.cells #[.string n] 9)).heap[w.heap.size]? = some (.cells #[.pointer (some ⟨p, 0, none⟩)] 25 (0, 0)) := (hb0A.block _ (by have := HS0.out; omega)).trans HBX.out
      have c7 : (wr.alloc (.cells #[.string n] 9)).cell? ⟨wr.heap.size, 0, none⟩ = some (.string n) := by simp only [World.cell?, f7]; rfl
      have c2 : (wr.alloc (.cells #[.string n] 9)).cell? ⟨w.heap.size, 0, none⟩ = some (.pointer (some ⟨p, 0, none⟩)) := by simp only [World.cell?, f2]; rfl
      obtain ⟨m1, m2, φ, hB, -⟩ := HG.out.below hb0A
      have c0 := hB.c0
      obtain ⟨y0, hth⟩ : ∃ v, ∀ q, (Instr.lookup 60 (.map (some m1)) (.string n) true).run Try.prog ((wr.alloc (.cells #[.string n] 9)).drewN q) = .ok (.tuple #[v, .bool (DagS.find g n).isSome]) ((wr.alloc (.cells #[.string n] 9)).drewN q) := ⟨_, fun q => by
        have := (hB.mp.drewN q).look_ok n (name_max hns)
        rw [show (pF φ g n).isSome = (DagS.find g n).isSome from Option.isSome_map] at this
        exact this⟩
      have HBA := Lib.hid hbA
      have F7 := Lib.hid f7
      have F2 := Lib.hid f2
      clear hb0A hbA f7 f2 hB
      cases hfn : DagS.find g n with
      | none =>
        have HFN := Lib.hid hfn
        rw [hfn] at hth
        have hth : ∀ q, (Instr.lookup 60 (.map (some m1)) (.string n) true).run Try.prog ((wr.alloc (.cells #[.string n] 9)).drewN q) = .ok (.tuple #[y0, .bool false]) ((wr.alloc (.cells #[.string n] 9)).drewN q) := hth
        clear hfn
        go_upto_region 5 with fail
        generalize wr.alloc (.cells #[.string n] 9) = W1 at *
        go_quiet (fail)
        go_wp2_with fail
        go_roundw
        case rel =>
          refine ⟨i + 1, by omega, by first | rfl | go_num, ⟨o, ?_, ?_⟩, HB.out.trans ((below_dN HBA.out nq).mono HB.out.size)⟩
          · rw [HTS.out, if_neg (fun h => h.2.1 HFN.out), List.append_nil]; exact HO.out
          · exact own_keep HROW.out fun k e => HBA.out.block k (HROW.out.lt k e).2
        case measure => simp [intOf]; omega
      | some j =>
        have HFN := Lib.hid hfn
        rw [hfn] at hth
        have hth : ∀ q, (Instr.lookup 60 (.map (some m1)) (.string n) true).run Try.prog ((wr.alloc (.cells #[.string n] 9)).drewN q) = .ok (.tuple #[y0, .bool true]) ((wr.alloc (.cells #[.string n] 9)).drewN q) := hth
        clear hfn
        go_upto_region 5 with fail
        generalize wr.alloc (.cells #[.string n] 9) = W1 at *
        go_quiet (fail)
        have hB1 : Below wr.heap.size wr (W1.drewN nq) := below_dN HBA.out nq
        have f7 : (W1.drewN nq).heap[wr.heap.size]? = some (.cells #[.string n] 9 (0, 0)) := F7.out
        have f2 : (W1.drewN nq).heap[w.heap.size]? = some (.cells #[.pointer (some ⟨p, 0, none⟩)] 25 (0, 0)) := F2.out
        clear c7 c2 c0 hth F7 F2 HBA
        generalize W1.drewN nq = W2 at *
        have hl7 := (Array.getElem?_eq_some_iff.1 f7).1
        have hl2 := (Array.getElem?_eq_some_iff.1 f2).1
        have hB02 := HB.out.trans (hB1.mono HB.out.size)
        obtain ⟨P, hP⟩ : ∃ P : ByteArray → Prop, ∀ s, P s ↔ (s ≠ n ∧ DagS.Comes g s n) := ⟨fun s => s ≠ n ∧ DagS.Comes g s n, fun _ => Iff.rfl⟩
        have HCF := Lib.hid (cont_c (c := fc) (lb := #[.pointer (some ⟨wr.heap.size, 0, none⟩), .pointer (some ⟨w.heap.size, 0, none⟩)]) (P := P) (HF.out.below hB02) hl (enters_of Try.func39 (by kernel_rfl) rfl) fun W hW s hs => by
          have g7 : W.cell? ⟨wr.heap.size, 0, none⟩ = some (.string n) := by simp only [World.cell?, hW.block _ hl7, f7]; rfl
          have g2 : W.cell? ⟨w.heap.size, 0, none⟩ = some (.pointer (some ⟨p, 0, none⟩)) := by simp only [World.cell?, hW.block _ hl2, f2]; rfl
          refine Calls.mono (tipf_c (HG.out.below (hB02.trans (hW.mono hB02.size))) (HZ.out s hs) hns g7 g2) ?_
          rintro e W' ⟨rfl, h⟩
          exact ⟨congrArg (fun b => Ending.returned (.bool b)) (decide_eq_decide.2 (hP s).symm), h⟩)
        obtain ⟨t, ht⟩ : ∃ t, decide (∃ s ∈ l, P s) = t := ⟨_, rfl⟩
        rw [ht] at HCF
        have HT := Lib.hid ht
        have HTI : Hid (Tip g l n ↔ ¬ ∃ s ∈ l, P s) := (tip_iff HME.out (by rw [HFN.out]; exact fun e => by cases e)).trans (not_congr ⟨fun ⟨s, h1, h2⟩ => ⟨s, h1, (hP s).2 h2⟩, fun ⟨s, h1, h2⟩ => ⟨s, h1, (hP s).1 h2⟩⟩)
        clear hP
        have HB02 := Lib.hid hB02
        have HB1 := Lib.hid hB1
        have F7 := Lib.hid f7
        have HL7 := Lib.hid hl7
        clear ht hB02 hB1 f7 f2 hl7 hl2
        cases t with
        | true =>
          go_wp2_with (go_at_call 38; refine HCF.out.mono ?_; rintro e w3 ⟨rfl, hb3⟩)
          go_roundw
          case rel =>
            refine ⟨i + 1, by omega, by first | rfl | go_num, ⟨o, ?_, ?_⟩, HB02.out.trans (hb3.mono HB02.out.size)⟩
            · rw [HTS.out, if_neg (fun h => HTI.out.1 h (of_decide_eq_true HT.out)), List.append_nil]; exact HO.out
            · exact own_keep HROW.out fun k e => (hb3.block k (Nat.lt_of_lt_of_le (HROW.out.lt k e).2 HB1.out.size)).trans (HB1.out.block k (HROW.out.lt k e).2)
          case measure => simp [intOf]; omega
        | false =>
          go_upto_region 7 with (go_at_call 38; refine HCF.out.mono ?_; rintro e w3 ⟨rfl, hb3⟩)
          have c7 : w3.cell? ⟨wr.heap.size, 0, none⟩ = some (.string n) := by simp only [World.cell?, hb3.block _ HL7.out, F7.out]; rfl
          have hbC : Below w3.heap.size w3 (w3.alloc (.cells #[.string n] 9)) := (Below.refl _ w3).alloc (Nat.le_refl _) _
          have hb03 := HB02.out.trans (hb3.mono HB02.out.size)
          have hb0C := hb03.trans (hbC.mono hb03.size)
          have hrow2 : (w3.alloc (.cells #[.string n] 9)).ownsRow W0.heap.size 9 1 u5 o.length (trow o) := own_keep HROW.out fun k e => (hbC.block k (Nat.lt_of_lt_of_le (HROW.out.lt k e).2 (Nat.le_trans HB1.out.size hb3.size))).trans ((hb3.block k (Nat.lt_of_lt_of_le (HROW.out.lt k e).2 HB1.out.size)).trans (HB1.out.block k (HROW.out.lt k e).2))
          have hsx := sl_new w3 [.string n] 9 (0, 0)
          have hbs := hb0C.size
          have hll : o.length + [n].length ≤ 20000000 := by rw [List.length_singleton]; omega
          have HB0C := Lib.hid hb0C
          have HROW2 := Lib.hid hrow2
          clear hbC hb03 hb0C hb3
          go_wp2_with (at_builtin; refine wp_appR rfl _ _ rfl rfl hrow2 hbs (l := [n]) rfl hsx (fun e => by cases e) hll ?_; intro v5 w5 ho5 hg5 hn5)
          go_roundw
          case rel =>
            refine ⟨i + 1, by omega, by first | rfl | go_num, ⟨o ++ [n], ?_, ?_⟩, HB0C.out.grown hg5 HB0C.out.size fun k e => (HROW2.out.lt k e).1⟩
            · rw [HTS.out, if_pos (HTI.out.2 (of_decide_eq_false HT.out)), ← HO.out]
            · rw [List.length_append, trow_append]; exact ho5
          case measure => simp [intOf]; omega
    · obtain rfl : i = l.length := by omega
      have hd : decide ((l.length : Int) < (l.length : Int)) = false := decide_eq_false (by omega)
      have hso := Lib.hid (gsort_c hrow (by omega))
      clear hb ho hrow
      go_upto_region 10 with (go_at_call 32; refine hso.out.mono ?_; rintro e w3 ⟨rfl, s, hp, hord, ho2, hg2⟩)
      have ho3 : w3.ownsRow W0.heap.size 9 1 u5 s.length (trow s) := by rw [hp.length_eq]; exact ho2
      have HCO := Lib.hid (gcomp_c ho3 hord (by rw [hp.length_eq]; omega))
      have HB3 := Lib.hid (HB.out.grown hg2 HB.out.size fun k e => (HROW.out.lt k e).1)
      have HP := Lib.hid hp
      have HO3 := Lib.hid ho3
      clear ho3 ho2 hg2 hp hord
      go_wp2_with (go_at_call 40; refine HCO.out.mono ?_; rintro e w4 ⟨v', s', rfl, hsr, hms, ho4, hov, hfm, hg4⟩)
      go_ret
      have hfin := HB3.out.grown hg4 HB3.out.size fun k e => (HO3.out.lt k e).1
      refine ⟨_, rfl, ?_, HB0.out.trans (hfin.mono HB0.out.size)⟩
      have := OwnG.of_own ho4
      unfold TV
      rw [DagS.srt_ext (DagS.tips_srt g l) hsr fun x => by
        rw [DagS.mem_tips, hms, HP.out.mem_iff, HO.out, List.take_length, List.mem_filter, decide_eq_true_iff]
        exact ⟨fun h => ⟨h.1, h⟩, fun h => h.2⟩]
      exact this
end Go.Proofs.Ytoeoablmcelohaa
namespace Go.Proofs.Ytoeoablmcelohaa
open Go Go.RowKit Go.Maps Go.Sort
open DagS (Nd nm pars par ids Wf ancS ancL upto Srt nA nB nX nY nZ nZZ g1 g2 g3 g4)
open Classical

/-- Nothing but maps turned. -/
def OnlyM (w w' : World) : Prop := Only (fun k => ∃ es clock, w.heap[k]? = some (.map es clock)) w w'
theorem Only.m {K : Nat → Prop} {w w' : World} (h : Only (Km K w) w w') : OnlyM w w' := h.mono fun _ hk _ => hk.2
theorem sl_m {w w' : World} {a : Option Addr} {xs : List Value} (h : Sl w a xs) (ho : OnlyM w w') : Sl w' a xs := by
  rcases h with h | ⟨b, o, ha, hlt, hc⟩
  · exact .inl h
  · cases xs with
    | nil => exact .inl rfl
    | cons x xs =>
      have h0 := hc 0 x rfl
      have hb : w'.heap[b]? = w.heap[b]? := ho.block b hlt fun ⟨es, clock, e⟩ => by simp [World.cell?, e] at h0
      refine .inr ⟨b, o, ha, Nat.lt_of_lt_of_le hlt ho.size, fun i u hu => ?_⟩
      rw [← hc i u hu]
      simp only [World.cell?, hb]
theorem OwnG.m {w w' : World} {e : TypeId} {size : Nat} {v : Value} {n : Nat} {xs : List Value} (h : OwnG w e size v n xs) (ho : OnlyM w w') : OwnG w' e size v n xs :=
  h.block fun k hk => ho.block k (h.lt hk) fun ⟨es, clock, e⟩ => by
    obtain ⟨cur, h2⟩ := h.tag hk
    rw [h2] at e; cases e
theorem GV.m {w w' : World} {v : Value} {g : List Nd} (h : GV w v g) (ho : OnlyM w w') : GV w' v g := by
  obtain ⟨ps, h1, h2, h3⟩ := h
  exact ⟨ps, h1, h2.m ho, fun i hi hi' => sl_m (h3 i hi hi') ho⟩

/-- A graph of the program's, built since w. -/
def GN (w W : World) (p : Nat) (g : List Nd) : Prop := ∃ K, GM K W p g ∧ (∀ k, K k → w.heap.size ≤ k) ∧ Below w.heap.size w W
section
variable {w W W' : World} {p : Nat} {g : List Nd}
theorem GN.b (h : GN w W p g) : Below w.heap.size w W := by obtain ⟨_, _, _, hb⟩ := h; exact hb
theorem GN.wf (h : GN w W p g) : Wf g := by obtain ⟨_, h, _⟩ := h; exact h.wf
theorem GN.len (h : GN w W p g) : g.length ≤ 1000 := by obtain ⟨_, h, _⟩ := h; exact h.len
theorem GN.sz (h : GN w W p g) {i : Nat} (hi : i < g.length) : (nm g i).size ≤ 10000000 := by obtain ⟨_, h, _⟩ := h; exact h.sz hi
theorem GN.below (h : GN w W p g) (hb : Below W.heap.size W W') : GN w W' p g := by
  obtain ⟨K, h1, h2, h3⟩ := h
  exact ⟨K, h1.below hb, h2, h3.trans (hb.mono h3.size)⟩
theorem GN.alloc (h : GN w W p g) (o : Obj) : GN w (W.alloc o) p g := h.below ((Below.refl _ W).alloc (Nat.le_refl _) _)
theorem GN.comes (h : GN w W p g) {x y : ByteArray} (hx : x.size ≤ 10000000) (hy : y.size ≤ 10000000) :
    Calls Try.prog 12 #[.pointer (some ⟨p, 0, none⟩), .string x, .string y] W fun e W' => e = .returned (.bool (decide (DagS.Comes g x y))) ∧ Below W.heap.size W W' := by
  obtain ⟨K, h1, h2, h3⟩ := h
  exact gcomes_c h1 hx hy
theorem GN.glen (h : GN w W p g) : Calls Try.prog 26 #[.pointer (some ⟨p, 0, none⟩)] W fun e W' => e = .returned (.int .i64 g.length) ∧ W' = W := by
  obtain ⟨K, h1, h2, h3⟩ := h
  exact glen_c h1
theorem GN.bases (h : GN w W p g) {x y : ByteArray} (hx : x.size ≤ 10000000) (hy : y.size ≤ 10000000) :
    Calls Try.prog 13 #[.pointer (some ⟨p, 0, none⟩), .string x, .string y] W fun e W' => ∃ v, e = .returned v ∧ TV W' v (DagS.basesL g x y) ∧ Below W.heap.size W W' := by
  obtain ⟨K, h1, h2, h3⟩ := h
  exact gbases_c h1 hx hy
theorem GN.anc (h : GN w W p g) {fa : Option Addr} {fc : Nat} {l : List ByteArray} (hf : Sl W fa (trow l)) (hl : l.length ≤ 9000000) (hz : ∀ s ∈ l, s.size ≤ 10000000) :
    Calls Try.prog 15 #[.pointer (some ⟨p, 0, none⟩), .slice fa l.length fc] W fun e W' => ∃ v, e = .returned v ∧ TV W' v (ancL g l) ∧ Below W.heap.size W W' := by
  obtain ⟨K, h1, h2, h3⟩ := h
  exact ganc_c h1 hf hl hz
theorem GN.tips (h : GN w W p g) {fa : Option Addr} {fc : Nat} {l : List ByteArray} (hf : Sl W fa (trow l)) (hl : l.length ≤ 9000000) (hz : ∀ s ∈ l, s.size ≤ 10000000) :
    Calls Try.prog 18 #[.pointer (some ⟨p, 0, none⟩), .slice fa l.length fc] W fun e W' => ∃ v, e = .returned v ∧ TV W' v (DagS.tipsL g l) ∧ Below W.heap.size W W' := by
  obtain ⟨K, h1, h2, h3⟩ := h
  exact gtips_c h1 hf hl hz
theorem GN.miss (h : GN w W p g) {fa : Option Addr} {fc : Nat} {l : List ByteArray} (hf : Sl W fa (trow l)) (hl : l.length ≤ 9000000) (hz : ∀ s ∈ l, s.size ≤ 10000000) {ga : Option Addr} {gc : Nat} {m : List ByteArray} (hg : Sl W ga (trow m)) (hgl : m.length ≤ 9000000) (hgz : ∀ s ∈ m, s.size ≤ 10000000) :
    Calls Try.prog 16 #[.pointer (some ⟨p, 0, none⟩), .slice fa l.length fc, .slice ga m.length gc] W fun e W' => ∃ v, e = .returned v ∧ TV W' v (DagS.missL g l m) ∧ Below W.heap.size W W' := by
  obtain ⟨K, h1, h2, h3⟩ := h
  exact gmiss_c h1 hf hl hz hg hgl hgz
theorem GN.add (h : GN w W p g) (hgl : g.length < 1000) {x : ByteArray} (hx : x.size ≤ 10000000) {pa : Option Addr} {pc : Nat} {l : List ByteArray} (hp : Sl W pa (trow l)) (hl : l.length ≤ 9000000) (hz : ∀ s ∈ l, s.size ≤ 10000000) :
    Calls Try.prog 19 #[.pointer (some ⟨p, 0, none⟩), .string x, .slice pa l.length pc] W fun e W' => e = .returned (.int .i64 (DagS.add g x l).2) ∧ GN w W' p (DagS.add g x l).1 ∧ OnlyM W W' := by
  obtain ⟨K, h1, h2, h3⟩ := h
  refine (gadd_c h1 hgl hx hp hl hz).mono ?_
  rintro e W' ⟨rfl, q1, q2⟩
  refine ⟨rfl, ⟨_, q1, fun k hk => hk.elim (h2 k) fun h => Nat.le_trans h3.size h.1, ?_⟩, q2.m⟩
  exact ⟨q2.os.trans h3.os, q2.tape.trans h3.tape, q2.output.trans h3.output, Nat.le_trans h3.size q2.size, fun k hk => by
    rw [q2.block k (Nat.lt_of_lt_of_le hk h3.size) fun e => by have := h2 k e.1; omega]
    exact h3.block k hk⟩
end
theorem nnew_c {w W : World} (hb : Below w.heap.size w W) : Calls Try.prog 25 #[] W fun e W' => ∃ p, e = .returned (.pointer (some ⟨p, 0, none⟩)) ∧ GN w W' p [] ∧ Below W.heap.size W W' := by
  refine (gnew_c W).mono ?_
  rintro e W' ⟨p, rfl, h1, h2⟩
  exact ⟨p, rfl, ⟨_, h1, fun k hk => Nat.le_trans hb.size hk.1, hb.trans (h2.mono hb.size)⟩, h2⟩

section
variable {w W : World} {p : Nat}
theorem ad1 (h : GN w W p []) : Calls Try.prog 19 #[.pointer (some ⟨p, 0, none⟩), .string nA, .slice none 0 0] W fun e W' => e = .returned (.int .i64 0) ∧ GN w W' p g1 := by
  refine (h.add (x := nA) (l := []) (pa := none) (pc := 0) (by decide) (by decide) (Sl.nil _ _) (by decide) (fun s h => nomatch h)).mono ?_
  rw [DagS.a1]; exact fun e W' h => ⟨h.1, h.2.1⟩
theorem ad2 (h : GN w W p g1) : Calls Try.prog 19 #[.pointer (some ⟨p, 0, none⟩), .string nB, .slice none 0 0] W fun e W' => e = .returned (.int .i64 0) ∧ GN w W' p g2 := by
  refine (h.add (x := nB) (l := []) (pa := none) (pc := 0) (by decide) (by decide) (Sl.nil _ _) (by decide) (fun s h => nomatch h)).mono ?_
  rw [DagS.a2]; exact fun e W' h => ⟨h.1, h.2.1⟩
theorem ad3 (h : GN w W p g2) {a : Addr} (hs : Sl W (some a) (trow [nB, nA])) : Calls Try.prog 19 #[.pointer (some ⟨p, 0, none⟩), .string nX, .slice (some a) 2 2] W fun e W' => e = .returned (.int .i64 0) ∧ GN w W' p g3 := by
  refine (h.add (x := nX) (l := [nB, nA]) (pa := some a) (pc := 2) (by decide) (by decide) hs (by decide) (fun s h => by
    rcases List.mem_cons.1 h with rfl | h
    · decide
    · rw [List.mem_singleton] at h; subst h; decide)).mono ?_
  rw [DagS.a3]; exact fun e W' h => ⟨h.1, h.2.1⟩
theorem ad4 (h : GN w W p g3) {a : Addr} (hs : Sl W (some a) (trow [nA, nB])) : Calls Try.prog 19 #[.pointer (some ⟨p, 0, none⟩), .string nY, .slice (some a) 2 2] W fun e W' => e = .returned (.int .i64 0) ∧ GN w W' p g4 := by
  refine (h.add (x := nY) (l := [nA, nB]) (pa := some a) (pc := 2) (by decide) (by decide) hs (by decide) (fun s h => by
    rcases List.mem_cons.1 h with rfl | h
    · decide
    · rw [List.mem_singleton] at h; subst h; decide)).mono ?_
  rw [DagS.a4]; exact fun e W' h => ⟨h.1, h.2.1⟩
theorem ad5 (h : GN w W p g4) : Calls Try.prog 19 #[.pointer (some ⟨p, 0, none⟩), .string nX, .slice none 0 0] W fun e W' => e = .returned (.int .i64 5) ∧ GN w W' p g4 := by
  refine (h.add (x := nX) (l := []) (pa := none) (pc := 0) (by decide) (by decide) (Sl.nil _ _) (by decide) (fun s h => nomatch h)).mono ?_
  rw [DagS.a5]; exact fun e W' h => ⟨h.1, h.2.1⟩
theorem ad6 (h : GN w W p g4) {a : Addr} (hs : Sl W (some a) (trow [nZZ])) : Calls Try.prog 19 #[.pointer (some ⟨p, 0, none⟩), .string nZ, .slice (some a) 1 1] W fun e W' => e = .returned (.int .i64 4) ∧ GN w W' p g4 := by
  refine (h.add (x := nZ) (l := [nZZ]) (pa := some a) (pc := 1) (by decide) (by decide) hs (by decide) (fun s h => by
    rw [List.mem_singleton] at h; subst h; decide)).mono ?_
  rw [DagS.a6]; exact fun e W' h => ⟨h.1, h.2.1⟩
theorem bs4 (h : GN w W p g4) : Calls Try.prog 13 #[.pointer (some ⟨p, 0, none⟩), .string nX, .string nY] W fun e W' => ∃ b o c, e = .returned (.slice (some ⟨b, o, none⟩) 2 c) ∧ W'.cell? ⟨b, o, none⟩ = some (.string nA) ∧ GN w W' p g4 := by
  refine (h.bases (x := nX) (y := nY) (by decide) (by decide)).mono ?_
  rintro e W' ⟨v, rfl, hv, hb⟩
  rw [DagS.bases_xy] at hv
  obtain ⟨a, c, rfl, -, hs⟩ := hv.form
  obtain ⟨b, o, rfl, -, hc⟩ := hs.at (k := 0) (by decide)
  exact ⟨b, o, c, rfl, hc 0 (by decide), h.below hb⟩
theorem cxa (h : GN w W p g4) : Calls Try.prog 12 #[.pointer (some ⟨p, 0, none⟩), .string nX, .string nA] W fun e W' => e = .returned (.bool true) ∧ GN w W' p g4 := by
  refine (h.comes (x := nX) (y := nA) (by decide) (by decide)).mono ?_
  rintro e W' ⟨rfl, hb⟩
  exact ⟨by rw [decide_eq_true (DagS.cX.2 (.inr (.inl rfl)))], h.below hb⟩
theorem cax (h : GN w W p g4) : Calls Try.prog 12 #[.pointer (some ⟨p, 0, none⟩), .string nA, .string nX] W fun e W' => e = .returned (.bool false) ∧ GN w W' p g4 := by
  refine (h.comes (x := nA) (y := nX) (by decide) (by decide)).mono ?_
  rintro e W' ⟨rfl, hb⟩
  exact ⟨by rw [decide_eq_false (fun h => absurd (DagS.cA.1 h) (by decide))], h.below hb⟩
theorem ln4 (h : GN w W p g4) : Calls Try.prog 26 #[.pointer (some ⟨p, 0, none⟩)] W fun e W' => e = .returned (.int .i64 4) ∧ W' = W := h.glen
end
end Go.Proofs.Ytoeoablmcelohaa
namespace Go.Proofs.Ytoeoablmcelohaa
open Go Go.RowKit Go.Maps Go.Sort
open DagS (Nd nm pars par ids Wf ancS ancL upto Srt nA nB nX nY nZ nZZ g1 g2 g3 g4)
open Classical

set_option maxRecDepth 100000 in
set_option maxHeartbeats 2000000 in
theorem awake_c (w : World) : Calls Try.prog 9 #[] w fun e w' => e = .returned (.bool true) ∧ Below w.heap.size w w' := by
  have HN := Lib.hid (nnew_c (Below.refl w.heap.size w))
  go_enter Try.func9, Try.ntmps9
  go_upto_region 2 with (go_at_call 25; refine HN.out.mono ?_; rintro e w1 ⟨p, rfl, hg0, -⟩)
  clear HN
  have H0 := Lib.hid hg0
  clear hg0
  go_upto_region 4 with (first
    | (go_at_call 19; refine (ad1 H0.out).mono ?_; rintro e w2 ⟨rfl, hg1⟩; have H1 := Lib.hid hg1; clear hg1 H0)
    | (go_at_call 19; refine (ad2 H1.out).mono ?_; rintro e w3 ⟨rfl, hg2⟩; have H2 := Lib.hid hg2; clear hg2 H1)
    | (go_at_call 19; refine (ad3 (H2.out.alloc (.cells #[.string nB, .string nA] 9)) (sl_new _ [.string nB, .string nA] 9 (0, 0))).mono ?_; rintro e w4 ⟨rfl, hg3⟩; have H3 := Lib.hid hg3; clear hg3 H2)
    | (go_at_call 19; refine (ad4 (H3.out.alloc (.cells #[.string nA, .string nB] 9)) (sl_new _ [.string nA, .string nB] 9 (0, 0))).mono ?_; rintro e w5 ⟨rfl, hg4⟩; have H4 := Lib.hid hg4; clear hg4 H3)
    | (go_at_call 19; refine (ad5 H4.out).mono ?_; rintro e w6 ⟨rfl, hg5⟩; have H5 := Lib.hid hg5; clear hg5 H4)
    | (go_at_call 19; refine (ad6 (H5.out.alloc (.cells #[.string nZZ] 9)) (sl_new _ [.string nZZ] 9 (0, 0))).mono ?_; rintro e w7 ⟨rfl, hg6⟩; have H6 := Lib.hid hg6; clear hg6 H5))
  go_upto_region 5 with (go_at_call 13; refine (bs4 H6.out).mono ?_; rintro e w8 ⟨b, o, c, rfl, hcl, hg7⟩; have H7 := Lib.hid hg7; clear hg7 H6)
  have htl : nA.toList = [97] := by rw [Lib.toList_data]; rfl
  go_wp2_with (first
    | (go_at_call 12; refine (cxa H7.out).mono ?_; rintro e w9 ⟨rfl, hg8⟩; have H8 := Lib.hid hg8; clear hg8 H7)
    | (go_at_call 12; refine (cax H8.out).mono ?_; rintro e w10 ⟨rfl, hg9⟩; have H9 := Lib.hid hg9; clear hg9 H8)
    | (go_at_call 26; refine (ln4 H9.out).mono ?_; rintro e w11 ⟨rfl, rfl⟩))
  go_ret
  exact ⟨rfl, H9.out.b⟩
end Go.Proofs.Ytoeoablmcelohaa
namespace Go.Proofs.Ytoeoablmcelohaa
open Go Go.RowKit Go.Maps Go.Sort
open DagS (Nd nm pars par ids Wf ancS ancL upto Srt)
open Classical

/-- The graph of raw nodes. -/
noncomputable def bld (ns : List Nd) : List Nd := ns.foldl (fun g n => (DagS.add g n.name n.pars).1) []
theorem bld_take {ns : List Nd} {i : Nat} (hi : i < ns.length) : bld (ns.take (i + 1)) = (DagS.add (bld (ns.take i)) ns[i].name ns[i].pars).1 := by
  unfold bld
  rw [List.take_succ_eq_append_getElem hi, List.foldl_append]; rfl
theorem add_len (g : List Nd) (s : ByteArray) (l : List ByteArray) : (DagS.add g s l).1.length ≤ g.length + 1 := by
  unfold DagS.add
  split
  · exact Nat.le_succ _
  · split
    · exact Nat.le_succ _
    · split
      · exact Nat.le_succ _
      · simp
theorem bld_len (ns : List Nd) : ∀ i, i ≤ ns.length → (bld (ns.take i)).length ≤ i
  | 0, _ => by rw [List.take_zero]; exact Nat.le_refl _
  | i + 1, h => by
    rw [bld_take h]
    have := add_len (bld (ns.take i)) ns[i].name ns[i].pars
    have := bld_len ns i (by omega)
    omega
/-- Raw nodes as they came in. -/
structure NdOk (n : Nd) : Prop where
  nm : n.name.size ≤ 10000000
  len : n.pars.length ≤ 9000000
  ps : ∀ s ∈ n.pars, s.size ≤ 10000000

set_option maxRecDepth 100000 in
set_option maxHeartbeats 2000000 in
theorem built_c {w : World} {a : Option Addr} {c : Nat} {ns : List Nd} (hn : GR w a ns) (hl : ns.length ≤ 60) (hok : ∀ n ∈ ns, NdOk n) :
    Calls Try.prog 10 #[.slice a ns.length c] w fun e w' => ∃ p v, e = .returned (.tuple #[.pointer (some ⟨p, 0, none⟩), v, .bool true]) ∧ GN w w' p (bld ns) ∧ GV w' v (bld ns) := by
  have HNW := Lib.hid (nnew_c (Below.refl w.heap.size w))
  have HR := Lib.hid hn
  have HOK := Lib.hid hok
  clear hn hok
  go_enter Try.func10, Try.ntmps10
  go_upto_region 5 with (go_at_call 25; refine HNW.out.mono ?_; rintro e w1 ⟨p, rfl, hg0, -⟩)
  have HG0 := Lib.hid hg0
  clear hg0 HNW
  go_wp2_with fail
  go_loopw [6, 16] (fun vv iv wx => ∃ i : Nat, i ≤ ns.length ∧ iv = .int .i64 i ∧ GN w wx p (bld (ns.take i)) ∧ GV wx vv (bld (ns.take i))) (fun _ iv _ => (ns.length - intOf iv).toNat)
  case atStart => exact ⟨0, Nat.zero_le _, rfl, HG0.out, GV.nil _⟩
  case round =>
    obtain ⟨i, hi, rfl, hg, hv⟩ := hrel
    have hlen := bld_len ns i hi
    have HG := Lib.hid hg
    have HV := Lib.hid hv
    clear hg hv
    by_cases hil : i < ns.length
    · have hd : decide ((i : Int) < (ns.length : Int)) = true := decide_eq_true (by omega)
      have HBT := Lib.hid (bld_take hil)
      have hoi := HOK.out _ (List.getElem_mem hil)
      obtain ⟨ab, ao, pa, pc, rfl, hab, q0, q1, hsp⟩ := (HR.out.below HG.out.b).at hil
      have b1 : (0 : Int) ≤ (i : Int) := by omega
      have b2 : (i : Int) < ns.length := by omega
      have hw : IntKind.i64.wrap ((i : Int) + 1) = ((i + 1 : Nat) : Int) := IntWalk.i64_in _ (by omega)
      generalize ns[i] = n at *
      generalize bld (ns.take i) = g at *
      have hbA : Below wr.heap.size wr (wr.alloc (.cells #[.string n.name, .slice pa n.pars.length pc] 56)) := (Below.refl _ wr).alloc (Nat.le_refl _) _
      have f8 : (wr.alloc (.cells #[.string n.name, .slice pa n.pars.length pc] 56)).heap[wr.heap.size]? = some (.cells #[.string n.name, .slice pa n.pars.length pc] 56 (0, 0)) := Array.getElem?_push_size
      have HRA := Lib.hid (radd_c (HV.out.below hbA) (by omega) n.name (pc := pc) (hsp.below hbA) hoi.len)
      have HSP := Lib.hid (hsp.below hbA)
      have HG1 := Lib.hid (HG.out.below hbA)
      have HHO := Lib.hid hoi
      clear hsp hbA HG HV
      go_upto_region 8 with fail
      generalize wr.alloc (.cells #[.string n.name, .slice pa n.pars.length pc] 56) = W1 at *
      have hl8 := (Array.getElem?_eq_some_iff.1 f8).1
      have c80 : W1.cell? ⟨wr.heap.size, 0, none⟩ = some (.string n.name) := by simp only [World.cell?, f8]; rfl
      have c81 : W1.cell? ⟨wr.heap.size, 1, none⟩ = some (.slice pa n.pars.length pc) := by simp only [World.cell?, f8]; rfl
      clear q0 q1
      go_upto_region 10 with (go_at_call 27; refine HRA.out.mono ?_; rintro e w2 ⟨v2, rfl, hv2, hb2⟩)
      have d80 := cell_blk c80 (hb2.block _ hl8)
      have d81 := cell_blk c81 (hb2.block _ hl8)
      have HGA := Lib.hid ((HG1.out.below hb2).add (by omega) HHO.out.nm (pc := pc) (HSP.out.below hb2) HHO.out.len HHO.out.ps)
      have HV2 := Lib.hid hv2
      clear c80 c81 hv2 hb2 HRA hoi f8
      obtain ⟨z, hz⟩ : ∃ z, (DagS.add g n.name n.pars).2 = z := ⟨_, rfl⟩
      rw [hz] at HGA
      rw [hz]
      clear hz
      go_wp2_with (go_at_call 19; refine HGA.out.mono ?_; rintro e w3 ⟨rfl, hg3, hm3⟩)
      go_roundw
      case rel => exact ⟨i + 1, by omega, by first | rfl | go_num, by rw [HBT.out]; exact hg3, by rw [HBT.out]; exact HV2.out.m hm3⟩
      case measure => simp [intOf]; omega
    · obtain rfl : i = ns.length := by omega
      have hd : decide ((ns.length : Int) < (ns.length : Int)) = false := decide_eq_false (by omega)
      rw [List.take_length] at HG HV
      obtain ⟨va, vc, rfl, -⟩ := HV.out.form
      have HLN := Lib.hid HG.out.glen
      go_wp2_with (go_at_call 26; refine HLN.out.mono ?_; rintro e w3 ⟨rfl, rfl⟩)
      refine bodyPost_ret (results_tmp3 rfl _ _ _) rfl ?_
      exact ⟨p, _, rfl, HG.out, HV.out⟩
end Go.Proofs.Ytoeoablmcelohaa
