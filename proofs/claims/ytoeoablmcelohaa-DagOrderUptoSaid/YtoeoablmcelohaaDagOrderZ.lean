/- The law DagOrder answers true for all arguments of bulk at most 1048576: the row's statement and its card. Conditions: the row's own (laid tables as the card ties them; bulk). -/
import Derived.Test.YtoeoablmcelohaaZ15
namespace Go.Proofs.Ytoeoablmcelohaa
open Go Go.RowKit Go.Maps Go.Sort
open DagS (Nd nm pars par ids Wf ancS ancL upto Srt)
open Classical

theorem order_key {g : List Nd} (hw : Wf g) (a b c : ByteArray) :
    (decide (nix (DagS.find g a) ≥ 0) = false ∧ decide (DagS.Comes g a a) = false ∧ decide (DagS.Comes g a b) = false) ∨
    (decide (nix (DagS.find g a) ≥ 0) = true ∧ decide (DagS.Comes g a a) = true ∧ decide (DagS.Comes g a b) = false) ∨
    (decide (nix (DagS.find g a) ≥ 0) = true ∧ decide (DagS.Comes g a a) = true ∧ decide (DagS.Comes g a b) = true ∧ decide (DagS.Comes g b a) = false ∧ decide (DagS.Comes g b c) = false) ∨
    (decide (nix (DagS.find g a) ≥ 0) = true ∧ decide (DagS.Comes g a a) = true ∧ decide (DagS.Comes g a b) = true ∧ decide (DagS.Comes g b a) = false ∧ decide (DagS.Comes g b c) = true ∧ decide (DagS.Comes g a c) = true) ∨
    (decide (nix (DagS.find g a) ≥ 0) = true ∧ decide (DagS.Comes g a a) = true ∧ decide (DagS.Comes g a b) = true ∧ decide (DagS.Comes g b a) = true ∧ a = b ∧ decide (DagS.Comes g b c) = false) ∨
    (decide (nix (DagS.find g a) ≥ 0) = true ∧ decide (DagS.Comes g a a) = true ∧ decide (DagS.Comes g a b) = true ∧ decide (DagS.Comes g b a) = true ∧ a = b ∧ decide (DagS.Comes g b c) = true ∧ decide (DagS.Comes g a c) = true) := by
  by_cases hf : DagS.find g a = none
  · refine .inl ⟨decide_eq_false (by have := nix_neg.2 hf; omega), decide_eq_false fun h => h.left hf, decide_eq_false fun h => h.left hf⟩
  · refine .inr ?_
    have h1 : decide (nix (DagS.find g a) ≥ 0) = true := decide_eq_true (by have := mt nix_neg.1 hf; omega)
    have h2 : decide (DagS.Comes g a a) = true := decide_eq_true (DagS.comes_refl.2 hf)
    by_cases hx : DagS.Comes g a b
    · refine .inr ?_
      by_cases hr : DagS.Comes g b a
      · refine .inr (.inr ?_)
        by_cases hy : DagS.Comes g b c
        · exact .inr ⟨h1, h2, decide_eq_true hx, decide_eq_true hr, hw.comes_anti hx hr, decide_eq_true hy, decide_eq_true (hx.trans hy)⟩
        · exact .inl ⟨h1, h2, decide_eq_true hx, decide_eq_true hr, hw.comes_anti hx hr, decide_eq_false hy⟩
      · by_cases hy : DagS.Comes g b c
        · exact .inr (.inl ⟨h1, h2, decide_eq_true hx, decide_eq_false hr, decide_eq_true hy, decide_eq_true (hx.trans hy)⟩)
        · exact .inl ⟨h1, h2, decide_eq_true hx, decide_eq_false hr, decide_eq_false hy⟩
    · exact .inl ⟨h1, h2, decide_eq_false hx⟩

set_option maxRecDepth 100000 in
set_option maxHeartbeats 2000000 in
theorem order_c {w : World} {na : Option Addr} {nc : Nat} {ns : List Nd} (hn : GR w na ns) (hl : ns.length ≤ 1048576) (hok : ∀ n ∈ ns, NdOk n) {a b c : ByteArray} (ha : a.size ≤ 10000000) (hb : b.size ≤ 10000000) (hc : c.size ≤ 10000000) :
    Calls Try.prog 3 #[.slice na ns.length nc, .agg #[.string a, .string b, .string c]] w fun e w' => e = .returned (.bool true) ∧ Below w.heap.size w w' := by
  have hb0 : Below w.heap.size w (w.alloc (.cells #[.string a, .string b, .string c] 23)) := (Below.refl _ w).alloc (Nat.le_refl _) _
  have f0 : (w.alloc (.cells #[.string a, .string b, .string c] 23)).heap[w.heap.size]? = some (.cells #[.string a, .string b, .string c] 23 (0, 0)) := Array.getElem?_push_size
  have HB0 := Lib.hid hb0
  have HN := Lib.hid (hn.below hb0)
  have HOK := Lib.hid hok
  have F0 := Lib.hid f0
  clear hb0 hn hok f0
  go_enter Try.func3, Try.ntmps3
  go_upto_region 1 with fail
  generalize w.alloc (.cells #[.string a, .string b, .string c] 23) = W0 at *
  have HAW := Lib.hid (awake_c W0)
  go_upto_region 3 with (go_at_call 9; refine HAW.out.mono ?_; rintro e w1 ⟨rfl, hb1⟩)
  have hl0 := (Array.getElem?_eq_some_iff.1 F0.out).1
  have f1 := (hb1.block _ hl0).trans F0.out
  have q0 : w1.cell? ⟨w.heap.size, 0, none⟩ = some (.string a) := by simp only [World.cell?, f1]; rfl
  have q1 : w1.cell? ⟨w.heap.size, 1, none⟩ = some (.string b) := by simp only [World.cell?, f1]; rfl
  have q2 : w1.cell? ⟨w.heap.size, 2, none⟩ = some (.string c) := by simp only [World.cell?, f1]; rfl
  have HB1 := Lib.hid hb1
  clear f1 hb1 HAW hl0
  go_quiet (fail)
  have HB2 : Hid (Below W0.heap.size W0 (w1.drewN nq)) := below_dN HB1.out nq
  clear q0 q1 q2 HB1
  generalize w1.drewN nq = w2 at *
  by_cases hl60 : ns.length ≤ 60
  · have hd : decide ((ns.length : Int) > 60) = false := decide_eq_false (by omega)
    have hd' : decide ((60 : Int) < (ns.length : Int)) = false := hd
    have HBU := Lib.hid (built_c (c := nc) (HN.out.below HB2.out) hl60 HOK.out)
    go_upto_region 7 with (go_at_call 10; refine HBU.out.mono ?_; rintro e w3 ⟨p, v, rfl, hg, hv⟩)
    have hg60 := bld_len ns ns.length (Nat.le_refl _)
    rw [List.take_length] at hg60
    have HG := Lib.hid hg
    have HK := order_key hg.wf a b c
    obtain ⟨va, vc, rfl, hr⟩ := hv.form
    have HFI := Lib.hid (find_c (c := vc) hr (by omega) a)
    clear hg hv hr HBU
    generalize bld ns = g at *
    rcases HK with ⟨h1, h2, h3⟩ | ⟨h1, h2, h3⟩ | ⟨h1, h2, h3, h4, h5⟩ | ⟨h1, h2, h3, h4, h5, h6⟩ | ⟨h1, h2, h3, h4, rfl, h5⟩ | ⟨h1, h2, h3, h4, rfl, h5, h6⟩
    all_goals
      have h1' : decide (0 ≤ nix (DagS.find g a)) = decide (nix (DagS.find g a) ≥ 0) := rfl
      rw [h1] at h1'
      generalize nix (DagS.find g a) = z at *
      have htt : (a.toList == a.toList) = true := beq_self_eq_true _
      go_wp2_with (first
        | (go_at_call 11; refine HFI.out.mono ?_; rintro e w4 ⟨rfl, hw4⟩; obtain rfl := hw4.symm)
        | (go_at_call 12; refine Calls.mono (GN.comes HG.out (by assumption) (by assumption)) ?_; rintro e w5 ⟨rfl, hb5⟩; have HG := Lib.hid (HG.out.below hb5); clear hb5))
      go_ret
      have hfin := HB2.out.trans (HG.out.b.mono HB2.out.size)
      exact ⟨by first | rfl | simp_all, HB0.out.trans (hfin.mono HB0.out.size)⟩
  · have hd : decide ((ns.length : Int) > 60) = true := decide_eq_true (by omega)
    have hd' : decide ((60 : Int) < (ns.length : Int)) = true := hd
    go_wp2_with fail
    go_ret
    exact ⟨rfl, HB0.out.trans (HB2.out.mono HB0.out.size)⟩
end Go.Proofs.Ytoeoablmcelohaa
namespace Go.Proofs.Ytoeoablmcelohaa.dagOrder
open Go.ChangeShapes Go.WideShapes Go.ChangeAt Go.RowKit
open Go.WideMaps Go.WideElems
open Go.ChangeMaps (open_string shut_string)

theorem reads (os : Os) {H : Type} (enc : TypeId × Value → H) : ∃ places, DataW.whole enc Try.prog ((laidWorld os).forCall (fun _ _ => 0) ⟨#[], #[Value.slice none 0 0, .agg #[.string ByteArray.empty, .string ByteArray.empty, .string ByteArray.empty]], []⟩).memory Try.f3.params.toList Rows.dagOrderSpec.vars false (#[Value.slice none 0 0, .agg #[.string ByteArray.empty, .string ByteArray.empty, .string ByteArray.empty]] : Array Value).toList 8 = some ([.nil, .agg [.lit (.string []), .lit (.string []), .lit (.string [])]], [], places) :=
  ⟨[], by kernel_rfl⟩

set_option maxRecDepth 100000 in
theorem contract (H : Type) (enc : TypeId × Value → H) (W : World) (base : Nat) (args : Array Value) (ds : List (DataW H)) (p : List MemPlace)
    (hval : ∀ (j : Nat) t v, Try.f3.params[j]? = some t → args[j]? = some v → Value.okWide Try.prog W .any base t v)
    (hA : DataW.TrodAll enc Try.prog W 0 (fun _ => true) true Try.f3.params.toList args.toList ds p) (hk : Rows.uptoSmall H ds = true) (_hL : laidMetH Try.prog Rows.dagOrderUptoRow.laid W) (_hshape : W.ShapedOpen Try.prog) :
    Calls Try.prog 3 args W fun e W' => e = .returned (.bool true) ∧ Below W.heap.size W W' := by
  rw [Try.params3] at hA hval
  obtain ⟨v0, vs0, d0, ds0, p0, q0, hargs0, rfl, rfl, h0, r0⟩ := trodAll_cons hA
  obtain ⟨v1, vs1, d1, ds1, p1, q1, hargs1, rfl, rfl, h1, r1⟩ := trodAll_cons r0
  obtain ⟨rfl, rfl, rfl⟩ := trodAll_nil r1
  rw [hargs1] at hargs0
  obtain rfl : args = #[v0, v1] := by cases args; simp_all
  have k0 := bulk_mem hk (d := d0) (by simp)
  obtain ⟨a0, c0, x0, rfl, g0, l0, z0⟩ := open_nds (hval 0 22 v0 rfl rfl) h0 k0
  have k1 := bulk_mem hk (d := d1) (by simp)
  obtain ⟨x1, y1, u1, rfl, wx1, wy1, wu1⟩ := open_str3 Try.underlying23 (by kernel_rfl) (by kernel_rfl) Try.underlying9 (hval 1 23 v1 rfl rfl) h1 k1
  exact order_c g0 l0 z0 wx1 wy1 wu1

set_option maxRecDepth 100000 in
theorem lifted (os : Os) (started : os.Started) (H : Type) (enc : TypeId × Value → H) (F : Stop.Interp) :
    ReturnsInHanded {} Try.checked os 3 .any ((Rows.OpenSpec.upto Rows.dagOrderSpec).preRow enc Try.prog Try.f3 Rows.dagOrderUptoRow.domain false Rows.dagOrderUptoRow.laid) (((Rows.OpenSpec.upto Rows.dagOrderSpec).at F).post enc Try.prog Try.f3 false true false false) := by
  obtain ⟨places, hx⟩ := reads os enc
  refine law_lifted (laid := Rows.dagOrderUptoRow.laid) started Try.func3 (by kernel_rfl) rfl rfl ?_ (by kernel_rfl) ?_ ?_ ?_
  · intro ds h
    match ds, h with
    | [_, _], _ => rfl
  · rw [Try.params3]
    intro t ht
    have ht : t ∈ [22, 23] := ht
    simp only [List.mem_cons, List.mem_nil_iff, or_false] at ht
    rcases ht with rfl | rfl <;> exact ⟨by kernel_rfl, of_decide_eq_true (by kernel_rfl)⟩
  · exact witness_row_at (enc := enc) (C := Try.checked) false (laidWorld os) #[Value.slice none 0 0, .agg #[.string ByteArray.empty, .string ByteArray.empty, .string ByteArray.empty]] rfl (by kernel_rfl) (by kernel_rfl) (by kernel_rfl)
      (OpenSpec.preRow_of_cond 8 hx (by kernel_rfl) (fun k hk => by cases hk; kernel_rfl) (by kernel_rfl) (laid_met os _))
  · exact contract H enc

theorem saidUpto : Rows.DagOrderUptoSaid :=
  OpenClaim.holds_of_cond 3 Try.f3 rfl rfl rfl rfl rfl rfl rfl ⟨rfl, rfl, rfl, rfl, rfl⟩ rfl rfl rfl rfl rfl (by kernel_rfl) Try.func3 (by kernel_rfl)
    (of_decide_eq_true (by kernel_rfl)) (by unfold Func.isWrapper; rw [if_neg (by decide +kernel)]; exact ⟨rfl, rfl⟩)
    (fun os started H enc _ F => by rw [OpenClaim.pre_eq_preRow]; exact lifted os started H enc F)

end Go.Proofs.Ytoeoablmcelohaa.dagOrder
