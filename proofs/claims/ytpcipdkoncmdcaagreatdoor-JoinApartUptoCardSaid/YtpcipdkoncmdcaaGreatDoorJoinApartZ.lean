/- The law JoinApart answers true for all arguments of bulk at most 1048576: the row's statement and its card. Conditions: the row's own (laid tables as the card ties them; bulk). -/
import Derived.Test.YtpcipdkoncmdcaaGreatDoorYJoinApart30
namespace Go.Proofs.YtpcipdkoncmdcaaGreatDoor
open Go Go.ChangeShapes Go.WideShapes Go.ChangeAt Go.RowKit

section
variable {H : Type} {enc : TypeId × Value → H} {W : World}
set_option maxRecDepth 100000 in
theorem opn_change : Opn enc Tryz.prog W 75 Ch chC (fun c b => (OkId c.old.id ∧ c.old.stamp < 2 ^ 64 ∧ c.old.path.size < b) ∧ OkId c.new.id ∧ c.new.stamp < 2 ^ 64 ∧ c.new.path.size < b) := by
  intro n cs x h
  obtain ⟨xs, m, -, hx, hl, hxl, hf⟩ := DataW.trod_struct Tryz.underlying75 h
  have hxl : xs.length = 3 := hxl
  rcases xs with _ | ⟨x0, _ | ⟨x1, _ | ⟨x2, _ | ⟨x3, l⟩⟩⟩⟩
  · simp at hxl
  · simp at hxl
  · simp at hxl
  · obtain ⟨k, e0, b0⟩ := opn_i64 (W := W) Tryz.underlying3 m _ x0 (hf 0 _ rfl)
    obtain ⟨f, e1, b1⟩ := opn_file (W := W) m _ x1 (hf 1 _ rfl)
    obtain ⟨g, e2, b2⟩ := opn_file (W := W) m _ x2 (hf 2 _ rfl)
    have hcl : cs.length = 69 := hl.trans (by kernel_rfl)
    have k0 : (Tryz.prog).cellsOf 3 = 1 := by kernel_rfl
    have k1 : (Tryz.prog).cellsOf 56 = 34 := by kernel_rfl
    have e0 : (cs.drop 0).take 1 = [.int .i64 k] := by rw [← k0]; exact e0
    have e1 : (cs.drop 1).take 34 = fiC f := by rw [← k1]; exact e1
    have e2 : (cs.drop 35).take 34 = fiC g := by rw [← k1]; exact e2
    have hcs : cs = chC ⟨k, f, g⟩ := by
      have a1 : cs = (cs.drop 0).take 1 ++ ((cs.drop 1).take 34 ++ (cs.drop 35).take 34) := by
        rw [List.take_of_length_le (l := cs.drop 35) (by rw [List.length_drop]; omega), show cs.drop 35 = (cs.drop 1).drop 34 by rw [List.drop_drop], List.take_append_drop, List.drop_zero, List.take_append_drop]
      rw [a1, e0, e1, e2]; rfl
    have hb : Rows.uptoBulk x.1 = Rows.uptoBulk x0.1 + (Rows.uptoBulk x1.1 + (Rows.uptoBulk x2.1 + 0)) + 1 := by
      rw [hx]; simp only [Rows.uptoBulk, Rows.uptoBulkAll, List.map_cons, List.map_nil]
    exact ⟨⟨k, f, g⟩, hcs, ⟨b1.1, b1.2.1, by have := b1.2.2; show f.path.size < _; omega⟩, b2.1, b2.2.1, by have := b2.2.2; show g.path.size < _; omega⟩
  · simp at hxl
instance : Inhabited Ch := ⟨⟨0, zF, zF⟩⟩
theorem change_mono : ∀ (c : Ch) (a b : Nat), a ≤ b → ((OkId c.old.id ∧ c.old.stamp < 2 ^ 64 ∧ c.old.path.size < a) ∧ OkId c.new.id ∧ c.new.stamp < 2 ^ 64 ∧ c.new.path.size < a) → (OkId c.old.id ∧ c.old.stamp < 2 ^ 64 ∧ c.old.path.size < b) ∧ OkId c.new.id ∧ c.new.stamp < 2 ^ 64 ∧ c.new.path.size < b := fun _ _ _ hab h => ⟨⟨h.1.1, h.1.2.1, Nat.lt_of_lt_of_le h.1.2.2 hab⟩, h.2.1, h.2.2.1, Nat.lt_of_lt_of_le h.2.2.2 hab⟩
set_option maxRecDepth 100000 in
/-- Changes. -/
theorem open_changes {base : Nat} {v : Value} {d : DataW H} {p : List MemPlace} (hv : Value.okWide Tryz.prog W .any base 70 v) (h : DataW.Trod enc Tryz.prog W 0 (fun _ => true) true 70 v d p) (hk : Rows.uptoBulk d ≤ 1048576) : ∃ l, CS W v l ∧ l.length ≤ 1048576 := by
  obtain ⟨a0, len, cap, rfl⟩ := okWide_slice Tryz.underlying70 hv
  obtain ⟨⟨a, c, l⟩, e, h1, -, h3, -, h5⟩ := (opn_slice (enc := enc) (W := W) Tryz.underlying70 (k := 69) (by kernel_rfl) (by decide) change_mono (fun _ => 0) (fun _ _ _ => Nat.zero_le _) opn_change).arg h
  have e := (List.cons.inj e).1
  rw [e]
  have h3 : l.length < Rows.uptoBulk d := h3
  have h1 : Sl W a (l.flatMap chC) := h1
  refine ⟨l, ⟨⟨a, c, rfl, h1⟩, fun f hf => ?_, by omega⟩, by omega⟩
  obtain ⟨⟨i1, i2, i3⟩, j1, j2, j3⟩ := h5 f hf
  exact ⟨⟨i1, i2, by omega⟩, j1, j2, by omega⟩
set_option maxRecDepth 100000 in
/-- Files, their room told. -/
theorem open_room {base : Nat} {v : Value} {d : DataW H} {p : List MemPlace} (hv : Value.okWide Tryz.prog W .any base 22 v) (h : DataW.Trod enc Tryz.prog W 0 (fun _ => true) true 22 v d p) (hk : Rows.uptoBulk d ≤ 1048576) : ∃ l, FT W v l ∧ l.length ≤ 1048576 := by
  obtain ⟨l, hl, hn⟩ := open_files hv h hk
  refine ⟨l, ⟨hl, ?_⟩, hn⟩
  obtain ⟨a, c, rfl, hs⟩ := hl.sl
  refine ⟨a, c, rfl, ?_⟩
  simp only [Value.okWide, Tryz.underlying22, Cell.okWide] at hv
  unfold Cell.ok at hv
  rw [Tryz.underlying22] at hv
  cases a with
  | none =>
    cases hL : l.length with
    | zero => exact Nat.zero_le _
    | succ n => rw [hL] at hv; exact hv.elim
  | some ad => exact hv.1
end
end Go.Proofs.YtpcipdkoncmdcaaGreatDoor
namespace Go.Proofs.YtpcipdkoncmdcaaGreatDoor.joinApart
open Go.ChangeShapes Go.WideShapes Go.ChangeAt Go.RowKit
open Go.WideMaps Go.WideElems
open Go.ChangeMaps (open_string shut_string)

theorem reads (os : Os) {H : Type} (enc : TypeId × Value → H) : ∃ places, DataW.whole enc Tryz.prog ((laidWorld os).forCall (fun _ _ => 0) ⟨#[], #[Value.slice none 0 0, .slice none 0 0, .slice none 0 0], []⟩).memory Tryz.f9.params.toList Rows.joinApartSpec.vars false (#[Value.slice none 0 0, .slice none 0 0, .slice none 0 0] : Array Value).toList 8 = some ([.nil, .nil, .nil], [], places) :=
  ⟨[], by kernel_rfl⟩

set_option maxRecDepth 100000 in
theorem contract (H : Type) (enc : TypeId × Value → H) (W : World) (base : Nat) (args : Array Value) (ds : List (DataW H)) (p : List MemPlace)
    (hval : ∀ (j : Nat) t v, Tryz.f9.params[j]? = some t → args[j]? = some v → Value.okWide Tryz.prog W .any base t v)
    (hA : DataW.TrodAll enc Tryz.prog W 0 (fun _ => true) true Tryz.f9.params.toList args.toList ds p) (hk : Rows.uptoSmall H ds = true) (_hL : laidMetH Tryz.prog Rows.joinApartUptoRow.laid W) (hshape : W.ShapedOpen Tryz.prog) :
    Calls Tryz.prog 9 args W fun e W' => e = .returned (.bool true) ∧ Below W.heap.size W W' := by
  rw [Tryz.params9] at hA hval
  obtain ⟨v0, vs0, d0, ds0, p0, q0, hargs0, rfl, rfl, h0, r0⟩ := trodAll_cons hA
  obtain ⟨v1, vs1, d1, ds1, p1, q1, hargs1, rfl, rfl, h1, r1⟩ := trodAll_cons r0
  obtain ⟨v2, vs2, d2, ds2, p2, q2, hargs2, rfl, rfl, h2, r2⟩ := trodAll_cons r1
  obtain ⟨rfl, rfl, rfl⟩ := trodAll_nil r2
  rw [hargs2] at hargs1
  rw [hargs1] at hargs0
  obtain rfl : args = #[v0, v1, v2] := by cases args; simp_all
  have k0 := bulk_mem hk (d := d0) (by simp)
  obtain ⟨_, ft0, n0⟩ := open_room (hval 0 22 v0 rfl rfl) h0 k0
  have k1 := bulk_mem hk (d := d1) (by simp)
  obtain ⟨_, cs1, n1⟩ := open_changes (hval 1 70 v1 rfl rfl) h1 k1
  have k2 := bulk_mem hk (d := d2) (by simp)
  obtain ⟨_, cs2, n2⟩ := open_changes (hval 2 70 v2 rfl rfl) h2 k2
  exact apart_c ft0 cs1 cs2 (by omega) (by omega) (gl_of_shaped hshape)

set_option maxRecDepth 100000 in
theorem lifted (os : Os) (started : os.Started) (H : Type) (enc : TypeId × Value → H) (F : Stop.Interp) :
    ReturnsInHanded {} Tryz.checked os 9 .any ((Rows.OpenSpec.upto Rows.joinApartSpec).preRow enc Tryz.prog Tryz.f9 Rows.joinApartUptoRow.domain false Rows.joinApartUptoRow.laid) (((Rows.OpenSpec.upto Rows.joinApartSpec).at F).post enc Tryz.prog Tryz.f9 false true false false) := by
  obtain ⟨places, hx⟩ := reads os enc
  refine law_lifted (laid := Rows.joinApartUptoRow.laid) started Tryz.func9 (by kernel_rfl) rfl rfl ?_ (by kernel_rfl) ?_ ?_ ?_
  · intro ds h
    match ds, h with
    | [_, _, _], _ => rfl
  · rw [Tryz.params9]
    intro t ht
    have ht : t ∈ [22, 70, 70] := ht
    simp only [List.mem_cons, List.mem_nil_iff, or_false] at ht
    rcases ht with rfl | rfl | rfl <;> exact ⟨by kernel_rfl, of_decide_eq_true (by kernel_rfl)⟩
  · exact witness_row_at (enc := enc) (C := Tryz.checked) false (laidWorld os) #[Value.slice none 0 0, .slice none 0 0, .slice none 0 0] rfl (by kernel_rfl) (by kernel_rfl) (by kernel_rfl)
      (OpenSpec.preRow_of_cond 8 hx (by kernel_rfl) (fun k hk => by cases hk; kernel_rfl) (by kernel_rfl) (laid_met os _))
  · exact contract H enc

theorem saidUpto : Rows.JoinApartUptoSaid :=
  OpenClaim.holds_of_cond 9 Tryz.f9 rfl rfl rfl rfl rfl rfl rfl ⟨rfl, rfl, rfl, rfl, rfl⟩ rfl rfl rfl rfl rfl (by kernel_rfl) Tryz.func9 (by kernel_rfl)
    (of_decide_eq_true (by kernel_rfl)) (by unfold Func.isWrapper; rw [if_neg (by decide +kernel)]; exact ⟨rfl, rfl⟩)
    (fun os started H enc _ F => by rw [OpenClaim.pre_eq_preRow]; exact lifted os started H enc F)

theorem plain (f : FuncId) (fn : Func) (hf : Tryz.pinned.checked.prog.funcNamed "towline/towlinelaw13.JoinApart" = some f) (hfn : Tryz.pinned.checked.prog.funcs[f]? = some fn) :
    false = Tryz.pinned.checked.prog.looks [] ∧ ∀ (j : Nat) t, fn.params[j]? = some t → Tryz.pinned.checked.prog.wantsStandIn t = false := by
  obtain rfl : f = 9 := Option.some.inj ((show Tryz.prog.funcNamed "towline/towlinelaw13.JoinApart" = some 9 by kernel_rfl).symm.trans hf) |>.symm
  obtain rfl : fn = Tryz.f9 := (Option.some.inj (Tryz.func9.symm.trans hfn)).symm
  refine ⟨by kernel_rfl, fun j t ht => ?_⟩
  rw [Tryz.params9] at ht
  have ht : t ∈ [22, 70, 70] := by simpa using Array.mem_of_getElem? ht
  simp only [List.mem_cons, List.mem_nil_iff, or_false] at ht
  rcases ht with rfl | rfl | rfl <;> exact (show Tryz.prog.wantsStandIn _ = false by kernel_rfl)

theorem cardUpto : Rows.JoinApartUptoCardSaid :=
  Claim7.holds_tied_plain_at .later [] _ _ _ _ saidUpto (fun _ h => by cases h) (by kernel_rfl) (fun _ h => by cases h) joinApartUpto_row_tie rfl ⟨rfl, rfl⟩ (by kernel_rfl) rfl plain (by kernel_rfl)
end Go.Proofs.YtpcipdkoncmdcaaGreatDoor.joinApart
