/- Texts of mine, joined: Walks over the document's answer: Missing, Tips, Bases. | Walks over the document's answer: Bases. -/
import Derived.Test.YtoeoablmcelohaaZ11
namespace Go.Proofs.Ytoeoablmcelohaa
open Go Go.RowKit
open DagS (Nd nm pars par ids Wf ancS ancL upto withA withS)
open Classical

set_option maxRecDepth 100000 in
set_option maxHeartbeats 1000000 in
theorem rmiss_c {w : World} {a : Option Addr} {c : Nat} {g : List Nd} (h : GR w a g) (hl : g.length ≤ 1000) (hw : Wf g) {fa : Option Addr} {fc : Nat} {l : List ByteArray} (hf : Sl w fa (trow l)) (hfl : l.length ≤ 9000000) {ga : Option Addr} {gc : Nat} {m : List ByteArray} (hg : Sl w ga (trow m)) (hgl : m.length ≤ 9000000) :
    Calls Try.prog 24 #[.slice a g.length c, .slice fa l.length fc, .slice ga m.length gc] w fun e w' => ∃ v, e = .returned v ∧ TV w' v (DagS.missL g l m) ∧ Below w.heap.size w w' := by
  have HR := Lib.hid h
  have HRE := Lib.hid (reached_c (c := c) (fc := fc) h hl hw hf hfl)
  have HRF := Lib.hid (fun (W : World) (hb : Below w.heap.size w W) => reached_c (c := c) (fc := gc) (h.below hb) hl hw (hg.below hb) hgl)
  clear h hf hw hg
  go_enter Try.func24, Try.ntmps24
  go_wp2_with (first
    | (go_at_call 43; refine HRE.out.mono ?_; rintro e w0 ⟨b, cs, rfl, ha, hb0⟩; have HRE := ())
    | (go_at_call 43; refine (HRF.out _ hb0).mono ?_; rintro e w1 ⟨b', cs', rfl, ha', hb1⟩))
  have HA := Lib.hid (ha.below hb1)
  have HA' := Lib.hid ha'
  have HB := Lib.hid (hb0.trans (hb1.mono hb0.size))
  clear ha hb1 hb0 ha' HRF
  obtain ⟨P, hP⟩ : ∃ P : Nat → Prop, (fun i => ancS g l i ∧ ¬ ancS g m i) = P := ⟨_, rfl⟩
  have HP : Hid (∀ i, P i ↔ ancS g l i ∧ ¬ ancS g m i) := fun i => by rw [← hP]
  have HML : Hid (DagS.missL g l m = (upto g.length P).map (nm g)) := by show _ = _; rw [← hP]; rfl
  clear hP
  go_loopw [9, 10] (fun ov iv wx => ∃ i : Nat, i ≤ g.length ∧ iv = .int .i64 i ∧ TV wx ov ((upto i P).map (nm g)) ∧ New w1.heap.size ov ∧ Below w1.heap.size w1 wx) (fun _ iv _ => (g.length - intOf iv).toNat)
  case atStart => exact ⟨0, Nat.zero_le _, rfl, TV.nil _, New.nil _, Below.refl _ _⟩
  case round =>
    obtain ⟨i, hi, rfl, ho, hn, hb2⟩ := hrel
    have HO := Lib.hid ho
    have HN := Lib.hid hn
    have HB2 := Lib.hid hb2
    clear ho hn hb2
    by_cases hil : i < g.length
    · have hd : decide ((i : Int) < (g.length : Int)) = true := decide_eq_true (by omega)
      obtain ⟨b1, o1, pa, pc, rfl, hbl, q0, -, -⟩ := HR.out.at hil
      have p0 := ((HB.out.trans (HB2.out.mono HB.out.size)).cell (p := ⟨b1, o1 + i * 2, none⟩) hbl).trans q0
      have hc := (HA.out.below HB2.out).c i hil
      have hc' := (HA'.out.below HB2.out).c i hil
      have hnm := DagS.nm_get hil
      have hsx := upto_succ i P
      have hlen := upto_len i P
      obtain ⟨t, ht⟩ : ∃ t, decide (ancS g l i) = t := ⟨_, rfl⟩
      rw [ht] at hc
      obtain ⟨u, hu⟩ : ∃ u, decide (ancS g m i) = u := ⟨_, rfl⟩
      rw [hu] at hc'
      have hi0 : (0 : Int) ≤ i := by omega
      have hi1 : (i : Int) < g.length := by omega
      have hw1 : IntKind.i64.wrap ((i : Int) + 1) = ((i + 1 : Nat) : Int) := IntWalk.i64_in _ (by omega)
      generalize g[i] = x at *
      clear q0
      by_cases hp : P i
      · have hp2 := (HP.out i).1 hp
        obtain rfl : true = t := by rw [← ht]; exact (decide_eq_true hp2.1).symm
        obtain rfl : false = u := by rw [← hu]; exact (decide_eq_false hp2.2).symm
        have HX : Hid ((upto (i + 1) P).map (nm g) = (upto i P).map (nm g) ++ [x.name]) := by
          show _ = _
          rw [hsx, if_pos hp, List.map_append, List.map_singleton, hnm]
        clear hsx ht hnm hu hp hp2
        obtain ⟨L, hL⟩ : ∃ L, (upto i P).map (nm g) = L := ⟨_, rfl⟩
        have hLl : L.length ≤ 1000 := by rw [← hL, List.length_map]; omega
        rw [hL] at HX HO
        clear hL hlen
        obtain ⟨hm1, hm2⟩ := text_max (n := L.length) (by omega)
        have ho2 := OwnG.alloc HO.out (.cells #[.string x.name] 9)
        go_wp2_with (at_builtin; refine wp_appG rfl _ _ _ _ rfl textElem rfl rfl ho2 rfl (Src.ofNew (P := Try.prog) (w := wr) (tx := 32) (e := 9) Try.underlying32 (show [Value.string x.name].length = 1 from rfl) (by intro u hu; simp at hu; subst hu; rfl)) hm1 hm2 ?_; intro v4 w4 ho4 hg4 hv4)
        have hb4 : Below w1.heap.size w1 w4 := (HB2.out.alloc HB2.out.size _).grown hg4 (HB2.out.alloc HB2.out.size _).size HN.out
        have HB4 := Lib.hid hb4
        have HN4 : Hid (New w1.heap.size v4) := fun k hk => by
          rcases hv4 k hk with e | e
          · exact HN.out k e
          · have := HB2.out.size; simp at e; omega
        have HO4 : Hid (TV w4 v4 ((upto (i + 1) P).map (nm g))) := by
          show OwnG _ _ _ _ _ _
          rw [HX.out, List.length_append, List.length_singleton, trow_append]
          exact ho4
        clear hb4 ho4 hg4 hv4
        go_wp2_with fail
        go_roundw
        case rel => exact ⟨i + 1, by omega, by first | rfl | go_num, HO4.out, HN4.out, HB4.out⟩
        case measure => simp [intOf]; omega
      · have HX : Hid ((upto (i + 1) P).map (nm g) = (upto i P).map (nm g)) := by
          show _ = _
          rw [hsx, if_neg hp, List.append_nil]
        have htu : t = false ∨ u = true := by
          by_cases h1 : ancS g l i
          · by_cases h2 : ancS g m i
            · exact .inr (by rw [← hu]; exact decide_eq_true h2)
            · exact absurd ((HP.out i).2 ⟨h1, h2⟩) hp
          · exact .inl (by rw [← ht]; exact decide_eq_false h1)
        clear hsx ht hnm hu hp
        rcases htu with rfl | rfl
        · go_wp2_with fail
          go_roundw
          case rel => exact ⟨i + 1, by omega, by first | rfl | go_num, by rw [HX.out]; exact HO.out, HN.out, HB2.out⟩
          case measure => simp [intOf]; omega
        · cases t
          all_goals
            go_wp2_with fail
            go_roundw
            case rel => exact ⟨i + 1, by omega, by first | rfl | go_num, by rw [HX.out]; exact HO.out, HN.out, HB2.out⟩
            case measure => simp [intOf]; omega
    · obtain rfl : i = g.length := by omega
      have hd : decide ((g.length : Int) < (g.length : Int)) = false := decide_eq_false (by omega)
      go_wp2_with fail
      go_ret
      exact ⟨_, rfl, by rw [HML.out]; exact HO.out, HB.out.trans (HB2.out.mono HB.out.size)⟩

/-- One of l from which, of its first k, no other one comes. -/
def TipTo (g : List Nd) (l : List ByteArray) (x : ByteArray) (k : Nat) : Prop := DagS.find g x ≠ none ∧ ∀ y ∈ l.take k, y = x ∨ ¬ DagS.Comes g y x
theorem tipTo_succ {g : List Nd} {l : List ByteArray} {x : ByteArray} {k : Nat} (h : k < l.length) : TipTo g l x (k + 1) ↔ TipTo g l x k ∧ (l[k] = x ∨ ¬ DagS.Comes g l[k] x) := by
  unfold TipTo
  rw [List.take_add_one, List.getElem?_eq_getElem h]
  simp only [Option.toList_some, List.mem_append, List.mem_singleton]
  constructor
  · rintro ⟨h1, h2⟩
    exact ⟨⟨h1, fun y hy => h2 y (.inl hy)⟩, h2 _ (.inr rfl)⟩
  · rintro ⟨⟨h1, h2⟩, h3⟩
    exact ⟨h1, fun y hy => hy.elim (h2 y) fun e => e ▸ h3⟩
theorem tipTo_all {g : List Nd} {l : List ByteArray} {x : ByteArray} (h : x ∈ l) : TipTo g l x l.length ↔ DagS.Tip g l x := by
  unfold TipTo DagS.Tip
  rw [List.take_length]
  exact ⟨fun hh => ⟨h, hh.1, hh.2⟩, fun hh => ⟨hh.2.1, hh.2.2⟩⟩

set_option maxRecDepth 100000 in
set_option maxHeartbeats 2000000 in
theorem rtips_c {w : World} {a : Option Addr} {c : Nat} {g : List Nd} (h : GR w a g) (hl : g.length ≤ 1000) (hw : Wf g) {fa : Option Addr} {fc : Nat} {l : List ByteArray} (hf : Sl w fa (trow l)) (hfl : l.length ≤ 9000000) :
    Calls Try.prog 23 #[.slice a g.length c, .slice fa l.length fc] w fun e w' => ∃ v, e = .returned v ∧ TV w' v (DagS.tipsL g l) ∧ Below w.heap.size w w' := by
  have HR := Lib.hid h
  have HF := Lib.hid hf
  have HFI := Lib.hid (fun (W : World) (hb : Below w.heap.size w W) (s : ByteArray) => find_c (c := c) (h.below hb) (by omega) s)
  have HCO := Lib.hid (fun (W : World) (hb : Below w.heap.size w W) (x y : ByteArray) => rcomes_c (c := c) (h.below hb) hl hw x y)
  clear h hf hw
  go_enter Try.func23, Try.ntmps23
  go_wp2_with fail
  go_loopw [5, 6] (fun ov iv wx => ∃ i : Nat, i ≤ l.length ∧ iv = .int .i64 i ∧ TV wx ov (withA [] ((l.take i).filter fun x => decide (DagS.Tip g l x))) ∧ New w.heap.size ov ∧ Below w.heap.size w wx) (fun _ iv _ => (l.length - intOf iv).toNat)
  case atStart => exact ⟨0, Nat.zero_le _, rfl, TV.nil _, New.nil _, Below.refl _ _⟩
  case round =>
    obtain ⟨i, hi, rfl, ho, hn, hb2⟩ := hrel
    have HO := Lib.hid ho
    have HN := Lib.hid hn
    have HB2 := Lib.hid hb2
    clear ho hn hb2
    by_cases hil : i < l.length
    · have hd : decide ((i : Int) < (l.length : Int)) = true := decide_eq_true (by omega)
      obtain ⟨b, o, rfl, hbl, hcel⟩ := HF.out.at (k := i) (by rw [trow_len]; exact hil)
      have q0 := hcel i (by rw [trow_len]; exact hil)
      rw [trow_at] at q0
      have p0 := (HB2.out.cell (p := ⟨b, o + i, none⟩) hbl).trans q0
      have hmem := List.getElem_mem hil
      have htk : l.take (i + 1) = l.take i ++ [l[i]] := by rw [List.take_add_one, List.getElem?_eq_getElem hil]; rfl
      have HTK := Lib.hid htk
      have HM := Lib.hid hmem
      have HCEL : Hid (∀ (k : Nat) (hk : k < l.length), w.cell? ⟨b, o + k, none⟩ = some (.string l[k])) := fun k hk => by
        have := hcel k (by rw [trow_len]; exact hk)
        rwa [trow_at] at this
      clear hcel htk hmem
      generalize l[i] = x at *
      have HQ0 := Lib.hid q0
      have hi0 : (0 : Int) ≤ i := by omega
      have hi1 : (i : Int) < l.length := by omega
      have hw1 : IntKind.i64.wrap ((i : Int) + 1) = ((i + 1 : Nat) : Int) := IntWalk.i64_in _ (by omega)
      have HFX := Lib.hid (HFI.out wr HB2.out x)
      have hdz : decide (nix (DagS.find g x) ≥ 0) = decide (TipTo g l x 0) := by
        rw [decide_eq_decide]
        unfold TipTo
        rw [List.take_zero]
        constructor
        · exact fun h => ⟨mt nix_neg.2 (by omega), fun y hy => (nomatch hy)⟩
        · exact fun h => by have := mt nix_neg.1 h.1; omega
      have hdz' : decide (0 ≤ nix (DagS.find g x)) = decide (TipTo g l x 0) := hdz
      generalize nix (DagS.find g x) = z at *
      clear q0
      go_wp2_with (go_at_call 11; refine HFX.out.mono ?_; rintro e w' ⟨rfl, hw'⟩; obtain rfl := hw'.symm)
      clear hdz hdz' HFX
      go_loopw [7, 8] (fun tv kv wx => ∃ k : Nat, k ≤ l.length ∧ kv = .int .i64 k ∧ tv = .bool (decide (TipTo g l x k)) ∧ Below wr.heap.size wr wx) (fun _ kv _ => (l.length - intOf kv).toNat)
      case atStart => exact ⟨0, Nat.zero_le _, rfl, rfl, Below.refl _ _⟩
      case round =>
        obtain ⟨k, hk, rfl, rfl, hb3⟩ := hrel
        have HB3 := Lib.hid hb3
        clear hb3
        obtain ⟨t, ht⟩ : ∃ t, decide (TipTo g l x k) = t := ⟨_, rfl⟩
        rw [ht]
        by_cases hkl : k < l.length
        · have hdk : decide ((k : Int) < (l.length : Int)) = true := decide_eq_true (by omega)
          have hsu := tipTo_succ (g := g) (x := x) hkl
          have hck := HCEL.out k hkl
          generalize l[k] = y at *
          have hw2 : IntKind.i64.wrap ((k : Int) + 1) = ((k + 1 : Nat) : Int) := IntWalk.i64_in _ (by omega)
          have hk0 : (0 : Int) ≤ k := by omega
          have hk1 : (k : Int) < l.length := by omega
          have HWX : Hid (Below w.heap.size w wr) := by first | exact HB2.out.trans (HB3.out.mono HB2.out.size) | exact HB2.out
          have f0 : ∀ p, (bw wr p).cell? ⟨b, o + i, none⟩ = some (.string x) := fun p => ((HWX.out.trans ((bw_below wr p).mono HWX.out.size)).cell (p := ⟨b, o + i, none⟩) hbl).trans HQ0.out
          have f1 : ∀ p, (bw wr p).cell? ⟨b, o + k, none⟩ = some (.string y) := fun p => ((HWX.out.trans ((bw_below wr p).mono HWX.out.size)).cell (p := ⟨b, o + k, none⟩) hbl).trans hck
          have HCC := Lib.hid (fun p => calls_bw (HCO.out (bw wr p) (HWX.out.trans ((bw_below wr p).mono HWX.out.size)) y x))
          have HSU := Lib.hid hsu
          have HT := Lib.hid ht
          clear hsu ht hck
          obtain ⟨u, hu⟩ : ∃ u, decide (DagS.Comes g y x) = u := ⟨_, rfl⟩
          rw [hu] at HCC
          have HU := Lib.hid hu
          clear hu
          go_wp2_with fail
          cases t with
          | false =>
            refine wp_region_bw (by kernel_rfl) (by kernel_rfl) ?_
            iterate 2 quiet_step (fail)
            iterate 22 go_big_quiet_skip
            iterate 2 quiet_step (fail)
            refine wpQuiet_nil ?_
            rintro Wn ⟨pn, hWn⟩
            have hbx : Hid (Below wr.heap.size wr Wn) := by rw [hWn]; exact bw_below _ _
            clear hWn f0 f1
            go_wp2_with fail
            go_roundw
            case rel =>
              refine ⟨k + 1, by omega, by first | rfl | go_num, ?_, HB3.out.trans (hbx.out.mono HB3.out.size)⟩
              rw [decide_eq_false (fun h => of_decide_eq_false HT.out (HSU.out.1 h).1)]
            case measure => simp [intOf]; omega
          | true =>
            have HTP : Hid (TipTo g l x k) := of_decide_eq_true HT.out
            by_cases hxy : y = x
            · subst hxy
              refine wp_region_bw (by kernel_rfl) (by kernel_rfl) ?_
              iterate 12 quiet_step (fail)
              iterate 11 go_big_quiet_skip
              iterate 3 quiet_step (fail)
              refine wpQuiet_nil ?_
              rintro Wn ⟨pn, hWn⟩
              have hbx : Hid (Below wr.heap.size wr Wn) := by rw [hWn]; exact bw_below _ _
              clear hWn f0 f1
              go_wp2_with fail
              go_roundw
              case rel =>
                refine ⟨k + 1, by omega, by first | rfl | go_num, ?_, HB3.out.trans (hbx.out.mono HB3.out.size)⟩
                rw [decide_eq_true (HSU.out.2 ⟨HTP.out, .inl rfl⟩)]
              case measure => simp [intOf]; omega
            · have hne := str_eqb hxy
              refine wp_region_bw (by kernel_rfl) (by kernel_rfl) ?_
              iterate 21 quiet_step (fail)
              quiet_step (exact HCC.out _)
              iterate 4 quiet_step (fail)
              refine wpQuiet_nil ?_
              rintro Wn ⟨pn, hWn⟩
              have hbx : Hid (Below wr.heap.size wr Wn) := by rw [hWn]; exact bw_below _ _
              have hres : Hid (decide (TipTo g l x (k + 1)) = !u) := by
                show _ = _
                rw [← HU.out]
                by_cases hc : DagS.Comes g y x
                · rw [decide_eq_true hc]
                  exact decide_eq_false fun h => ((HSU.out.1 h).2).elim hxy fun h => h hc
                · rw [decide_eq_false hc]
                  exact decide_eq_true (HSU.out.2 ⟨HTP.out, .inr hc⟩)
              clear hWn f0 f1
              go_wp2_with fail
              go_roundw
              case rel =>
                refine ⟨k + 1, by omega, by first | rfl | go_num, ?_, HB3.out.trans (hbx.out.mono HB3.out.size)⟩
                rw [hres.out]
              case measure => simp [intOf]; omega
        · obtain rfl : k = l.length := by omega
          have hdk : decide ((l.length : Int) < (l.length : Int)) = false := decide_eq_false (by omega)
          have htip := tipTo_all (g := g) HM.out
          have htl := Nat.le_trans (withA_len [] ((l.take i).filter fun x => decide (DagS.Tip g l x))) (Nat.add_le_add_left (Nat.le_trans (List.length_filter_le _ _) (List.length_take_le _ _)) _)
          have HBX : Hid (Below w.heap.size w wr) := by first | exact HB2.out.trans (HB3.out.mono HB2.out.size) | exact HB2.out
          have HOX := Lib.hid (HO.out.below HB3.out)
          have p0 := (HBX.out.cell (p := ⟨b, o + i, none⟩) hbl).trans HQ0.out
          cases t with
          | true =>
            have HX : Hid (withA [] ((l.take (i + 1)).filter fun x => decide (DagS.Tip g l x)) = withS (withA [] ((l.take i).filter fun x => decide (DagS.Tip g l x))) x) := by
              show _ = _
              rw [HTK.out, List.filter_append, List.filter_cons_of_pos (by simpa using htip.1 (of_decide_eq_true ht)), List.filter_nil, withA_snoc]
            generalize withA [] ((l.take i).filter fun x => decide (DagS.Tip g l x)) = L at *
            have HWC := Lib.hid (with_c HOX.out (by have : ([] : List ByteArray).length = 0 := rfl; omega) x)
            clear ht htip htl
            go_wp2_with (go_at_call 45; refine HWC.out.mono ?_; rintro e w5 ⟨v5, rfl, ho5, hn5, hb5⟩)
            go_roundw
            case rel =>
              refine ⟨i + 1, by omega, by first | rfl | go_num, ?_, fun k hk => ?_, HBX.out.trans (hb5.mono HBX.out.size)⟩
              · rw [HX.out]; exact ho5
              · rcases hn5 k hk with e | e
                · exact HN.out k e
                · exact Nat.le_trans HBX.out.size e
            case measure => simp [intOf]; omega
          | false =>
            have HX : Hid (withA [] ((l.take (i + 1)).filter fun x => decide (DagS.Tip g l x)) = withA [] ((l.take i).filter fun x => decide (DagS.Tip g l x))) := by
              show _ = _
              rw [HTK.out, List.filter_append, List.filter_cons_of_neg (by simpa using mt htip.2 (of_decide_eq_false ht)), List.filter_nil, List.append_nil]
            clear ht htip htl
            go_wp2_with fail
            go_roundw
            case rel => exact ⟨i + 1, by omega, by first | rfl | go_num, by rw [HX.out]; exact HOX.out, HN.out, HBX.out⟩
            case measure => simp [intOf]; omega
    · obtain rfl : i = l.length := by omega
      have hd : decide ((l.length : Int) < (l.length : Int)) = false := decide_eq_false (by omega)
      go_wp2_with fail
      go_ret
      rw [List.take_length] at HO
      exact ⟨_, rfl, HO.out, HB2.out⟩
end Go.Proofs.Ytoeoablmcelohaa
namespace Go.Proofs.Ytoeoablmcelohaa
open Go Go.RowKit
open DagS (Nd nm pars par ids Wf ancS ancL upto withA withS bothL)
open Classical

theorem anc_len (g : List Nd) (l : List ByteArray) : (ancL g l).length ≤ g.length := by
  unfold ancL
  rw [List.length_map]
  exact upto_len _ _

set_option maxRecDepth 100000 in
set_option maxHeartbeats 1000000 in
theorem rbases_c {w : World} {a : Option Addr} {c : Nat} {g : List Nd} (h : GR w a g) (hl : g.length ≤ 1000) (hw : Wf g) (x y : ByteArray) :
    Calls Try.prog 22 #[.slice a g.length c, .string x, .string y] w fun e w' => ∃ v, e = .returned v ∧ TV w' v (DagS.basesL g x y) ∧ Below w.heap.size w w' := by
  have HAN : Hid (∀ (W : World), Below w.heap.size w W → ∀ s : ByteArray, Calls Try.prog 20 #[.slice a g.length c, .slice (some ⟨W.heap.size, 0, none⟩) 1 1] (W.alloc (.cells #[.string s] 9)) fun e w' => ∃ v, e = .returned v ∧ TV w' v (ancL g [s]) ∧ New (W.alloc (.cells #[.string s] 9)).heap.size v ∧ Below (W.alloc (.cells #[.string s] 9)).heap.size (W.alloc (.cells #[.string s] 9)) w') := by
    intro W hb s
    have h9 : [s].length ≤ 9000000 := Nat.le_trans (Nat.le_refl 1) (by omega)
    have := ranc_c (c := c) (fc := 1) (h.below (hb.alloc hb.size (.cells #[.string s] 9))) hl hw (l := [s]) (sl_new W [.string s] 9 (0, 0)) h9
    exact this
  have HTI : Hid (∀ (W : World), Below w.heap.size w W → ∀ (fa : Option Addr) (fc : Nat) (l : List ByteArray), Sl W fa (trow l) → l.length ≤ 1000 → Calls Try.prog 23 #[.slice a g.length c, .slice fa l.length fc] W fun e w' => ∃ v, e = .returned v ∧ TV w' v (DagS.tipsL g l) ∧ Below W.heap.size W w') := by
    intro W hb fa fc l hf hl2
    exact rtips_c (h.below hb) hl hw hf (by omega)
  have HLA : Hid ((ancL g [x]).length ≤ 1000) := Nat.le_trans (anc_len _ _) hl
  have HLB : Hid ((ancL g [y]).length ≤ 1000) := Nat.le_trans (anc_len _ _) hl
  have HBO : Hid (bothL g x y = (ancL g [x]).filter fun s => decide (s ∈ ancL g [y])) := by show _ = _; rfl
  have HBS : Hid (DagS.basesL g x y = DagS.tipsL g (bothL g x y)) := by show _ = _; rfl
  clear h hw
  have HAX := Lib.hid (HAN.out w (Below.refl _ _) x)
  go_enter Try.func22, Try.ntmps22
  go_wp2_with (first
    | (go_at_call 20; refine HAX.out.mono ?_; clear HAX; rintro e w1 ⟨v, rfl, hv, -, hb1⟩; have hb01 := ((Below.refl _ w).alloc (Nat.le_refl _) (.cells #[.string x] 9)).trans (hb1.mono (by simp)); have HAY := Lib.hid (HAN.out w1 hb01 y))
    | (go_at_call 20; refine HAY.out.mono ?_; clear HAY; rintro e w2 ⟨v2, rfl, hv2, -, hb2⟩))
  have hb12 := ((Below.refl _ w1).alloc (Nat.le_refl _) (.cells #[.string y] 9)).trans (hb2.mono (by simp))
  have HB := Lib.hid (hb01.trans (hb12.mono hb01.size))
  obtain ⟨va, vc, rfl, -, hs⟩ := (hv.below hb12).form
  obtain ⟨ua, uc, rfl, -, hs2⟩ := hv2.form
  clear HAN
  generalize ancL g [x] = A at *
  generalize ancL g [y] = B at *
  generalize bothL g x y = BO at *
  have HS := Lib.hid hs
  have HS2 := Lib.hid hs2
  clear hv hv2 hb1 hb01 hb2 hb12 hs hs2
  go_loopw [9, 10] (fun ov iv wx => ∃ i : Nat, i ≤ A.length ∧ iv = .int .i64 i ∧ TV wx ov ((A.take i).filter fun s => decide (s ∈ B)) ∧ New w2.heap.size ov ∧ Below w2.heap.size w2 wx) (fun _ iv _ => (A.length - intOf iv).toNat)
  case atStart => exact ⟨0, Nat.zero_le _, rfl, TV.nil _, New.nil _, Below.refl _ _⟩
  case round =>
    obtain ⟨i, hi, rfl, ho, hn, hb2⟩ := hrel
    have HO := Lib.hid ho
    have HN := Lib.hid hn
    have HB2 := Lib.hid hb2
    have hla := HLA.out
    have hlb := HLB.out
    clear ho hn hb2
    by_cases hil : i < A.length
    · have hd : decide ((i : Int) < (A.length : Int)) = true := decide_eq_true (by omega)
      obtain ⟨b, o, rfl, hbl, hcel⟩ := HS.out.at (k := i) (by rw [trow_len]; exact hil)
      have q0 := (HB2.out.cell (p := ⟨b, o + i, none⟩) hbl).trans (hcel i (by rw [trow_len]; exact hil))
      rw [trow_at] at q0
      have htk : A.take (i + 1) = A.take i ++ [A[i]] := by rw [List.take_add_one, List.getElem?_eq_getElem hil]; rfl
      have HTK := Lib.hid htk
      clear htk hcel
      generalize A[i] = z at *
      have HIN := Lib.hid (in_c (c := uc) (HS2.out.below HB2.out) (by omega) z)
      have hi0 : (0 : Int) ≤ i := by omega
      have hi1 : (i : Int) < A.length := by omega
      have hw1 : IntKind.i64.wrap ((i : Int) + 1) = ((i + 1 : Nat) : Int) := IntWalk.i64_in _ (by omega)
      have hlen := List.length_filter_le (fun s => decide (s ∈ B)) (A.take i)
      rw [List.length_take] at hlen
      obtain ⟨t, ht⟩ : ∃ t, decide (z ∈ B) = t := ⟨_, rfl⟩
      rw [ht] at HIN
      cases t with
      | true =>
        have HX : Hid (((A.take (i + 1)).filter fun s => decide (s ∈ B)) = ((A.take i).filter fun s => decide (s ∈ B)) ++ [z]) := by
          show _ = _
          rw [HTK.out, List.filter_append, List.filter_cons_of_pos (p := fun s => decide (s ∈ B)) ht, List.filter_nil]
        clear ht
        obtain ⟨L, hL⟩ : ∃ L, ((A.take i).filter fun s => decide (s ∈ B)) = L := ⟨_, rfl⟩
        rw [hL] at HX HO hlen
        clear hL
        obtain ⟨hm1, hm2⟩ := text_max (n := L.length) (by omega)
        have ho2 := OwnG.alloc HO.out (.cells #[.string z] 9)
        go_wp2_with (first
          | (go_at_call 44; refine HIN.out.mono ?_; rintro e w' ⟨rfl, hw'⟩; obtain rfl := hw'.symm)
          | (at_builtin; refine wp_appG rfl _ _ _ _ rfl textElem rfl rfl ho2 rfl (Src.ofNew (P := Try.prog) (w := wr) (tx := 32) (e := 9) Try.underlying32 (show [Value.string z].length = 1 from rfl) (by intro u hu; simp at hu; subst hu; rfl)) hm1 hm2 ?_; intro v4 w4 ho4 hg4 hv4))
        have hb4 : Below w2.heap.size w2 w4 := (HB2.out.alloc HB2.out.size _).grown hg4 (HB2.out.alloc HB2.out.size _).size HN.out
        have HB4 := Lib.hid hb4
        have HN4 : Hid (New w2.heap.size v4) := fun k hk => by
          rcases hv4 k hk with e | e
          · exact HN.out k e
          · have := HB2.out.size; simp at e; omega
        have HO4 : Hid (TV w4 v4 ((A.take (i + 1)).filter fun s => decide (s ∈ B))) := by
          show OwnG _ _ _ _ _ _
          rw [HX.out, List.length_append, List.length_singleton, trow_append]
          exact ho4
        clear hb4 ho4 hg4 hv4
        go_wp2_with fail
        go_roundw
        case rel => exact ⟨i + 1, by omega, by first | rfl | go_num, HO4.out, HN4.out, HB4.out⟩
        case measure => simp [intOf]; omega
      | false =>
        have HX : Hid (((A.take (i + 1)).filter fun s => decide (s ∈ B)) = ((A.take i).filter fun s => decide (s ∈ B))) := by
          show _ = _
          rw [HTK.out, List.filter_append, List.filter_cons_of_neg (p := fun s => decide (s ∈ B)) (by rw [ht]; exact Bool.false_ne_true), List.filter_nil, List.append_nil]
        clear ht
        go_wp2_with (go_at_call 44; refine HIN.out.mono ?_; rintro e w' ⟨rfl, hw'⟩; obtain rfl := hw'.symm)
        go_roundw
        case rel => exact ⟨i + 1, by omega, by first | rfl | go_num, by rw [HX.out]; exact HO.out, HN.out, HB2.out⟩
        case measure => simp [intOf]; omega
    · obtain rfl : i = A.length := by omega
      have hd : decide ((A.length : Int) < (A.length : Int)) = false := decide_eq_false (by omega)
      have hO := HO.out
      rw [List.take_length, ← HBO.out] at hO
      obtain ⟨oa, oc, rfl, -, hos⟩ := hO.form
      have hbl : BO.length ≤ 1000 := by rw [HBO.out]; exact Nat.le_trans (List.length_filter_le _ _) hla
      have HTT := Lib.hid (HTI.out wr (HB.out.trans (HB2.out.mono HB.out.size)) oa oc BO hos hbl)
      rw [← HBS.out] at HTT
      have HBX : Hid (Below w.heap.size w wr) := HB.out.trans (HB2.out.mono HB.out.size)
      clear hO hos HTI
      go_wp2_with (go_at_call 23; refine HTT.out.mono ?_; rintro e w5 ⟨v5, rfl, ho5, hb5⟩)
      go_ret
      exact ⟨_, rfl, ho5, HBX.out.trans (hb5.mono HBX.out.size)⟩
end Go.Proofs.Ytoeoablmcelohaa
