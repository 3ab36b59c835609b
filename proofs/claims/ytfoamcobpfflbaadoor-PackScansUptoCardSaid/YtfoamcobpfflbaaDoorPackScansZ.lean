/- The law PackScans answers true for all arguments of bulk at most 1048576: the row's statement and its card. Conditions: the row's own (laid tables as the card ties them; bulk). -/
import Derived.Test.YtfoamcobpfflbaaDoorZ36
namespace Go.Proofs.YtfoamcobpfflbaaDoor
open Go Go.RowKit Go.Maps
open VfsS (St)

set_option maxRecDepth 100000 in
theorem bytes_to {w : World} {a : Option Addr} {c n m : Nat} (hm : m ≤ c) : (Instr.slice 43 (.slice a n c) none (some (.int .i64 (m : Int))) none).run Tryd.prog w = .ok (.slice a m c) w := by
  have ht : Tryd.prog.underlying 43 = some (.slice (Tryd.prog.elem 43)) := Tryd.underlying43
  have hsz : ∀ W, (sizeOf (Tryd.prog.elem 43)).run Tryd.prog W = .ok 1 W := fun W => by simp [go_sem]
  have h0 : (0 : Int) ≤ (m : Int) := by omega
  have h1 : (m : Int) ≤ (c : Int) := by omega
  rw [run_slice_h w _ _ _ _ ht _ _ h0 h1, hsz]
  cases a <;> simp [Result.andThen, sliced, Addr.add]

set_option maxRecDepth 100000 in
set_option maxHeartbeats 1000000 in
theorem lawScans_c (a : Option Addr) (c : Nat) (b : ByteArray) (w : World) (hg : Gl w) (sl : Sl w a (byteCells b)) (hl : b.size ≤ 1048576) (hc : CapOk a b.size c) :
    Calls Tryd.prog 4 #[.slice a b.size c] w fun e w' => e = .returned (.bool true) ∧ Below w.heap.size w w' := by
  rw [nb_ba] at sl
  have hbt := bl_lt b
  rw [← bl_len] at hl hc ⊢
  generalize bl b = L at *
  obtain ⟨hc1, hc2, hc3⟩ := hc
  go_enter Tryd.func4, Tryd.ntmps4
  go_upto_region 3 with (go_at_call 13; refine (awake15_c _ hg).mono ?_; rintro e w0 ⟨rfl, hb0⟩)
  have HB0 := Lib.hid hb0
  have hs0 := sl.below hb0
  clear hb0 sl
  go_upto_if 12 with fail
  go_cut [0] from 8 (fun v0 wx => ∃ B : List Nat, v0 = .slice a B.length c ∧ Sl w0 a (nb B) ∧ (∀ x ∈ B, x < 256) ∧ B.length ≤ 1500 ∧ B.length ≤ c ∧ wx = w0)
  case first =>
    by_cases hbig : 1500 < L.length
    · have hd : decide ((L.length : Int) > 1500) = true := decide_eq_true (by omega)
      have hd' : decide ((1500 : Int) < (L.length : Int)) = true := decide_eq_true (by omega)
      have hto : ∀ W, (Instr.slice 43 (.slice a L.length c) none (some (.int .i64 1500)) none).run Tryd.prog W = .ok (.slice a 1500 c) W := fun W => bytes_to (m := 1500) (by omega)
      go_wp2_with fail
      go_meet
      case rel =>
        have hl15 : (L.take 1500).length = 1500 := by rw [List.length_take]; omega
        refine ⟨L.take 1500, by rw [hl15], ?_, fun x hx => hbt x (List.mem_of_mem_take hx), by omega, by omega, rfl⟩
        have := hs0.take 1500
        rwa [show (nb L).take 1500 = nb (L.take 1500) by unfold nb; rw [List.map_take]] at this
    · have hd : decide ((L.length : Int) > 1500) = false := decide_eq_false (by omega)
      have hd' : decide ((1500 : Int) < (L.length : Int)) = false := decide_eq_false (by omega)
      go_wp2_with fail
      go_meet
      case rel => exact ⟨L, rfl, hs0, hbt, by omega, hc1, rfl⟩
  case rest =>
    obtain ⟨B, rfl, hsB, hBb, hBl, hBc, rfl⟩ := hcut
    have HSC := Lib.hid (scan_c (c := c) hsB hBb (by omega) hBc hc2 hc3)
    have HSB := Lib.hid hsB
    have HBB := Lib.hid hBb
    clear hsB hBb hs0 hbt hc1 hl
    go_upto_region 6 with (go_at_call 38; refine HSC.out.mono ?_; rintro e w3 ⟨v3, ps, rfl, hP3, hps⟩)
    have hc9 := run_str_of (P := Tryd.prog) Tryd.underlying43 Tryd.underlying5 Tryd.underlying9 (b := ofL B) (by rw [byteCells_ofL HBB.out]; exact HSB.out.below hP3.b) c
    rw [ofL_size] at hc9
    have hrs := rscan_c (w := w3) (ofL B) (by rw [ofL_size]; omega)
    rw [bl_ofL HBB.out] at hrs
    have HRS := Lib.hid hrs
    clear hrs
    go_upto_region 7 with (go_at_call 39; refine HRS.out.mono ?_; rintro e w4 ⟨v4, rfl, hR4⟩)
    obtain ⟨a3, c3, rfl, -, -, hs3⟩ := hP3.r.form
    obtain ⟨a4, c4, rfl, -, -, hs4⟩ := hR4.r.form
    have hs3 := hs3.below hR4.b
    have hq4 : ∀ q ∈ ps, PrtOk w4 q := fun q hq => (hP3.q q hq).below hR4.b
    have hbo : Hid (Below w.heap.size w w4) := (HB0.out.trans (hP3.b.mono HB0.out.size)).trans (hR4.b.mono (HB0.out.trans (hP3.b.mono HB0.out.size)).size)
    have hpl : ps.length ≤ 1500 := by have := PackS.scan_len HBB.out; rw [← hps, List.length_map] at this; omega
    rw [← hps] at hs4 ⊢
    rw [← hps] at hR4
    have hlen : (ps.map fun q => q.2.2).length = ps.length := List.length_map _
    have HLN := Lib.hid hlen
    rw [hlen]
    clear hP3 hR4 HSC HRS hc9 hlen hps
    go_wp2_with fail
    go_loopw [38] (fun iv wx => ∃ i : Nat, i ≤ ps.length ∧ iv = .int .i64 i ∧ Below w4.heap.size w4 wx) (fun iv _ => (ps.length - intOf iv).toNat)
    case atStart => exact ⟨0, Nat.zero_le _, rfl, Below.refl _ _⟩
    case round =>
      obtain ⟨i, hi, rfl, hbr⟩ := hrel
      by_cases hil : i < ps.length
      · have hd : decide ((i : Int) < (ps.length : Int)) = true := decide_eq_true (by omega)
        obtain ⟨x, o, rfl, hx, hcx⟩ := hs3.at (k := i) (by rw [prow_len]; exact hil)
        obtain ⟨y, o2, rfl, hy, hcy⟩ := hs4.at (k := i) (by unfold srow; rw [List.length_map, List.length_map]; exact hil)
        have hci := hcx i (by rw [prow_len]; exact hil)
        have hpe : (prow ps)[i]'(by rw [prow_len]; exact hil) = .slice ps[i].1 ps[i].2.2.length ps[i].2.1 := by unfold prow; rw [List.getElem_map]
        rw [hpe] at hci
        have hcj := hcy i (by unfold srow; rw [List.length_map, List.length_map]; exact hil)
        have hpj : (srow (ps.map fun q => q.2.2))[i]'(by unfold srow; rw [List.length_map, List.length_map]; exact hil) = .string (ofL ps[i].2.2) := by unfold srow; rw [List.getElem_map, List.getElem_map]
        rw [hpj] at hcj
        have hq := hq4 ps[i] (List.getElem_mem hil)
        have HQ := Lib.hid hq
        generalize ps[i] = part at *
        obtain ⟨pa, pc, pl⟩ := part
        simp only at hci hcj
        have HS12 : Hid (∀ W, Below w4.heap.size w4 W → W.cell? ⟨x, o + i, none⟩ = some (.slice pa pl.length pc) ∧ W.cell? ⟨y, o2 + i, none⟩ = some (.string (ofL pl)) ∧ (convert 43 9 (.slice pa pl.length pc)).run Tryd.prog W = .ok (.string (ofL pl)) W) := fun W hb => by
          refine ⟨(hb.cell (p := ⟨x, o + i, none⟩) hx).trans hci, (hb.cell (p := ⟨y, o2 + i, none⟩) hy).trans hcj, ?_⟩
          have := run_str_of (P := Tryd.prog) Tryd.underlying43 Tryd.underlying5 Tryd.underlying9 (b := ofL pl) (w := W) (by rw [byteCells_ofL HQ.out.2]; exact (HQ.out.below hb).sl) pc
          rwa [ofL_size] at this
        have hcmp : ((ofL pl).toList == (ofL pl).toList) = true := beq_self_eq_true _
        have HBD : Hid (Below w4.heap.size w4 wr.drew) := hbr.trans (below_dN ((Below.refl _ wr).mono hbr.size) 1)
        have hw1 : IntKind.i64.wrap ((i : Int) + 1) = ((i + 1 : Nat) : Int) := IntWalk.i64_in _ (by omega)
        have b0 : (0 : Int) ≤ (i : Int) := by omega
        have b1 : (i : Int) < (ps.length : Int) := by omega
        clear hq hci hcj hpe hpj hcx hcy hbr
        go_wp2_with fail
        go_region_held3 (fun W => W.cell? ⟨x, o + i, none⟩ = some (.slice pa pl.length pc) ∧ W.cell? ⟨y, o2 + i, none⟩ = some (.string (ofL pl)) ∧ (convert 43 9 (.slice pa pl.length pc)).run Tryd.prog W = .ok (.string (ofL pl)) W)
          (first | exact HS12.out _ HBD.out | go_keep) (first | fail)
        all_goals
          go_wp2_with fail
          go_roundw
          case rel => exact ⟨i + 1, by omega, by first | rfl | go_num, HBD.out⟩
          case measure => simp [intOf]; omega
      · have hd : decide ((i : Int) < (ps.length : Int)) = false := decide_eq_false (by omega)
        go_wp2_with fail
        go_ret
        exact ⟨rfl, hbo.out.trans (hbr.mono hbo.out.size)⟩
end Go.Proofs.YtfoamcobpfflbaaDoor
namespace Go.Proofs.YtfoamcobpfflbaaDoor.packScans
open Go.ChangeShapes Go.WideShapes Go.ChangeAt Go.RowKit
open Go.WideMaps Go.WideElems
open Go.ChangeMaps (open_string shut_string)

theorem reads (os : Os) {H : Type} (enc : TypeId × Value → H) : ∃ places, DataW.whole enc Tryd.prog ((laidWorld os).forCall (fun _ _ => 0) ⟨#[], #[Value.slice none 0 0], []⟩).memory Tryd.f4.params.toList Rows.packScansSpec.vars false (#[Value.slice none 0 0] : Array Value).toList 8 = some ([.nil], [], places) :=
  ⟨[], by kernel_rfl⟩

set_option maxRecDepth 100000 in
theorem contract (H : Type) (enc : TypeId × Value → H) (W : World) (base : Nat) (args : Array Value) (ds : List (DataW H)) (p : List MemPlace)
    (hval : ∀ (j : Nat) t v, Tryd.f4.params[j]? = some t → args[j]? = some v → Value.okWide Tryd.prog W .any base t v)
    (hA : DataW.TrodAll enc Tryd.prog W 0 (fun _ => true) true Tryd.f4.params.toList args.toList ds p) (hk : Rows.uptoSmall H ds = true) (_hL : laidMetH Tryd.prog Rows.packScansUptoRow.laid W) (hshape : W.ShapedOpen Tryd.prog) :
    Calls Tryd.prog 4 args W fun e W' => e = .returned (.bool true) ∧ Below W.heap.size W W' := by
  rw [Tryd.params4] at hA hval
  obtain ⟨v0, vs0, d0, ds0, p0, q0, hargs0, rfl, rfl, h0, r0⟩ := trodAll_cons hA
  obtain ⟨rfl, rfl, rfl⟩ := trodAll_nil r0
  obtain rfl : args = #[v0] := by cases args; simp_all
  have k0 := bulk_mem hk (d := d0) (by simp)
  obtain ⟨a0, c0, x0, rfl, l0, sl0, cp0⟩ := open_bytes2 Tryd.underlying43 (by kernel_rfl) Tryd.underlying5 (hval 0 43 v0 rfl rfl) h0 k0
  exact lawScans_c a0 c0 x0 W (gl_of_shaped hshape) sl0 l0 cp0

set_option maxRecDepth 100000 in
theorem lifted (os : Os) (started : os.Started) (H : Type) (enc : TypeId × Value → H) (F : Stop.Interp) :
    ReturnsInHanded {} Tryd.checked os 4 .any ((Rows.OpenSpec.upto Rows.packScansSpec).preRow enc Tryd.prog Tryd.f4 Rows.packScansUptoRow.domain false Rows.packScansUptoRow.laid) (((Rows.OpenSpec.upto Rows.packScansSpec).at F).post enc Tryd.prog Tryd.f4 false true false false) := by
  obtain ⟨places, hx⟩ := reads os enc
  refine law_lifted (laid := Rows.packScansUptoRow.laid) started Tryd.func4 (by kernel_rfl) rfl rfl ?_ (by kernel_rfl) ?_ ?_ ?_
  · intro ds h
    match ds, h with
    | [_], _ => rfl
  · rw [Tryd.params4]
    intro t ht
    have ht : t ∈ [43] := ht
    simp only [List.mem_cons, List.mem_nil_iff, or_false] at ht
    rcases ht with rfl <;> exact ⟨by kernel_rfl, of_decide_eq_true (by kernel_rfl)⟩
  · exact witness_row_at (enc := enc) (C := Tryd.checked) false (laidWorld os) #[Value.slice none 0 0] rfl (by kernel_rfl) (by kernel_rfl) (by kernel_rfl)
      (OpenSpec.preRow_of_cond 8 hx (by kernel_rfl) (fun k hk => by cases hk; kernel_rfl) (by kernel_rfl) (laid_met os _))
  · exact contract H enc

theorem saidUpto : Rows.PackScansUptoSaid :=
  OpenClaim.holds_of_cond 4 Tryd.f4 rfl rfl rfl rfl rfl rfl rfl ⟨rfl, rfl, rfl, rfl, rfl⟩ rfl rfl rfl rfl rfl (by kernel_rfl) Tryd.func4 (by kernel_rfl)
    (of_decide_eq_true (by kernel_rfl)) (by unfold Func.isWrapper; rw [if_neg (by decide +kernel)]; exact ⟨rfl, rfl⟩)
    (fun os started H enc _ F => by rw [OpenClaim.pre_eq_preRow]; exact lifted os started H enc F)

theorem plain (f : FuncId) (fn : Func) (hf : Tryd.pinned.checked.prog.funcNamed "towline/towlinelaw15.PackScans" = some f) (hfn : Tryd.pinned.checked.prog.funcs[f]? = some fn) :
    false = Tryd.pinned.checked.prog.looks [] ∧ ∀ (j : Nat) t, fn.params[j]? = some t → Tryd.pinned.checked.prog.wantsStandIn t = false := by
  obtain rfl : f = 4 := Option.some.inj ((show Tryd.prog.funcNamed "towline/towlinelaw15.PackScans" = some 4 by kernel_rfl).symm.trans hf) |>.symm
  obtain rfl : fn = Tryd.f4 := (Option.some.inj (Tryd.func4.symm.trans hfn)).symm
  refine ⟨by kernel_rfl, fun j t ht => ?_⟩
  rw [Tryd.params4] at ht
  have ht : t ∈ [43] := by simpa using Array.mem_of_getElem? ht
  simp only [List.mem_cons, List.mem_nil_iff, or_false] at ht
  rcases ht with rfl <;> exact (show Tryd.prog.wantsStandIn _ = false by kernel_rfl)

theorem cardUpto : Rows.PackScansUptoCardSaid :=
  Claim7.holds_tied_plain_at .later [] _ _ _ _ saidUpto (fun _ h => by cases h) (by kernel_rfl) (fun _ h => by cases h) packScansUpto_row_tie rfl ⟨rfl, rfl⟩ (by kernel_rfl) rfl plain (by kernel_rfl)
end Go.Proofs.YtfoamcobpfflbaaDoor.packScans
