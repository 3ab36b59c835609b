/- The law VfsRoom answers true for all arguments of bulk at most 1048576: the row's statement and its card. Conditions: the row's own (laid tables as the card ties them; bulk). -/
import Derived.Test.YtfoamcobpfflbaaDoorVfsRmW
import Derived.Test.YtfoamcobpfflbaaDoorKitP
import Derived.Test.YtfoamcobpfflbaaDoorVfsBase
namespace Go.Proofs.YtfoamcobpfflbaaDoor.vfsRoom
open Go.ChangeShapes Go.WideShapes Go.ChangeAt Go.RowKit
open Go.WideMaps Go.WideElems
open Go.ChangeMaps (open_string shut_string)

theorem reads (os : Os) {H : Type} (enc : TypeId × Value → H) : ∃ places, DataW.whole enc Tryd.prog ((laidWorld os).forCall (fun _ _ => 0) ⟨#[], #[Value.int .i64 0, .slice none 0 0], []⟩).memory Tryd.f8.params.toList Rows.vfsRoomSpec.vars false (#[Value.int .i64 0, .slice none 0 0] : Array Value).toList 8 = some ([.lit (.int .i64 0), .nil], [], places) :=
  ⟨[], by kernel_rfl⟩

set_option maxRecDepth 100000 in
theorem contract (H : Type) (enc : TypeId × Value → H) (W : World) (base : Nat) (args : Array Value) (ds : List (DataW H)) (p : List MemPlace)
    (hval : ∀ (j : Nat) t v, Tryd.f8.params[j]? = some t → args[j]? = some v → Value.okWide Tryd.prog W .any base t v)
    (hA : DataW.TrodAll enc Tryd.prog W 0 (fun _ => true) true Tryd.f8.params.toList args.toList ds p) (hk : Rows.uptoSmall H ds = true) (_hL : laidMetH Tryd.prog Rows.vfsRoomUptoRow.laid W) (hshape : W.ShapedOpen Tryd.prog) :
    Calls Tryd.prog 8 args W fun e W' => e = .returned (.bool true) ∧ Below W.heap.size W W' := by
  rw [Tryd.params8] at hA hval
  obtain ⟨v0, vs0, d0, ds0, p0, q0, hargs0, rfl, rfl, h0, r0⟩ := trodAll_cons hA
  obtain ⟨v1, vs1, d1, ds1, p1, q1, hargs1, rfl, rfl, h1, r1⟩ := trodAll_cons r0
  obtain ⟨rfl, rfl, rfl⟩ := trodAll_nil r1
  rw [hargs1] at hargs0
  obtain rfl : args = #[v0, v1] := by cases args; simp_all
  have k0 := bulk_mem hk (d := d0) (by simp)
  obtain ⟨x0, rfl, rfl, rfl, w0⟩ := open_int Tryd.underlying3 (hval 0 3 v0 rfl rfl) h0
  have k1 := bulk_mem hk (d := d1) (by simp)
  obtain ⟨a1, c1, x1, rfl, l1, w1, sl1⟩ := open_row Tryd.prog Tryd.underlying89 (by kernel_rfl) (Value.int .i64) (fun z => -9223372036854775808 ≤ z ∧ z ≤ 9223372036854775807) (fun n u y h => by obtain ⟨b, e, _, hw⟩ := DataW.trod_int Tryd.underlying3 h; exact ⟨b, (List.cons.inj e).1, i64_wf hw⟩) (hval 1 89 v1 rfl rfl) h1 k1
  exact lawRoom_c x0 a1 c1 x1 W (gl_of_shaped hshape) sl1 (by omega) w1

set_option maxRecDepth 100000 in
theorem lifted (os : Os) (started : os.Started) (H : Type) (enc : TypeId × Value → H) (F : Stop.Interp) :
    ReturnsInHanded {} Tryd.checked os 8 .any ((Rows.OpenSpec.upto Rows.vfsRoomSpec).preRow enc Tryd.prog Tryd.f8 Rows.vfsRoomUptoRow.domain false Rows.vfsRoomUptoRow.laid) (((Rows.OpenSpec.upto Rows.vfsRoomSpec).at F).post enc Tryd.prog Tryd.f8 false true false false) := by
  obtain ⟨places, hx⟩ := reads os enc
  refine law_lifted (laid := Rows.vfsRoomUptoRow.laid) started Tryd.func8 (by kernel_rfl) rfl rfl ?_ (by kernel_rfl) ?_ ?_ ?_
  · intro ds h
    match ds, h with
    | [_, _], _ => rfl
  · rw [Tryd.params8]
    intro t ht
    have ht : t ∈ [3, 89] := ht
    simp only [List.mem_cons, List.mem_nil_iff, or_false] at ht
    rcases ht with rfl | rfl <;> exact ⟨by kernel_rfl, of_decide_eq_true (by kernel_rfl)⟩
  · exact witness_row_at (enc := enc) (C := Tryd.checked) false (laidWorld os) #[Value.int .i64 0, .slice none 0 0] rfl (by kernel_rfl) (by kernel_rfl) (by kernel_rfl)
      (OpenSpec.preRow_of_cond 8 hx (by kernel_rfl) (fun k hk => by cases hk; kernel_rfl) (by kernel_rfl) (laid_met os _))
  · exact contract H enc

theorem saidUpto : Rows.VfsRoomUptoSaid :=
  OpenClaim.holds_of_cond 8 Tryd.f8 rfl rfl rfl rfl rfl rfl rfl ⟨rfl, rfl, rfl, rfl, rfl⟩ rfl rfl rfl rfl rfl (by kernel_rfl) Tryd.func8 (by kernel_rfl)
    (of_decide_eq_true (by kernel_rfl)) (by unfold Func.isWrapper; rw [if_neg (by decide +kernel)]; exact ⟨rfl, rfl⟩)
    (fun os started H enc _ F => by rw [OpenClaim.pre_eq_preRow]; exact lifted os started H enc F)

theorem plain (f : FuncId) (fn : Func) (hf : Tryd.pinned.checked.prog.funcNamed "towline/towlinelaw14.VfsRoom" = some f) (hfn : Tryd.pinned.checked.prog.funcs[f]? = some fn) :
    false = Tryd.pinned.checked.prog.looks [] ∧ ∀ (j : Nat) t, fn.params[j]? = some t → Tryd.pinned.checked.prog.wantsStandIn t = false := by
  obtain rfl : f = 8 := Option.some.inj ((show Tryd.prog.funcNamed "towline/towlinelaw14.VfsRoom" = some 8 by kernel_rfl).symm.trans hf) |>.symm
  obtain rfl : fn = Tryd.f8 := (Option.some.inj (Tryd.func8.symm.trans hfn)).symm
  refine ⟨by kernel_rfl, fun j t ht => ?_⟩
  rw [Tryd.params8] at ht
  have ht : t ∈ [3, 89] := by simpa using Array.mem_of_getElem? ht
  simp only [List.mem_cons, List.mem_nil_iff, or_false] at ht
  rcases ht with rfl | rfl <;> exact (show Tryd.prog.wantsStandIn _ = false by kernel_rfl)

theorem cardUpto : Rows.VfsRoomUptoCardSaid :=
  Claim7.holds_tied_plain_at .later [] _ _ _ _ saidUpto (fun _ h => by cases h) (by kernel_rfl) (fun _ h => by cases h) vfsRoomUpto_row_tie rfl ⟨rfl, rfl⟩ (by kernel_rfl) rfl plain (by kernel_rfl)
end Go.Proofs.YtfoamcobpfflbaaDoor.vfsRoom
