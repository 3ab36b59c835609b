/- What the rows of this seat share: the tables in the witness's world, the bulk's bound. -/
import Derived.Test.YtfoamcobpfflbaaDoorVfsAwW
import Derived.Test.YtfoamcobpfflbaaDoorCards
import Derived.Test.YtfoamcobpfflbaaDoorTie
import Derived.ProofKit
import Derived.OpenShut
import Derived.Deep.DeepHandedRow
import Derived.Lib.LaidTab
import Derived.Lib.LaidU8
namespace Go.Proofs.YtfoamcobpfflbaaDoor

theorem gl_of_shaped {W : World} (h : W.ShapedOpen Tryd.prog) : Gl W := by
  obtain ⟨m, hm⟩ := Tryd.laysM146.s1_3 W h
  have hm : W.cell? ⟨0, 0, none⟩ = some (.int .i64 m) := hm
  exact ⟨⟨m, hm⟩, World.block_lt_of_cell? W _ hm⟩

open Go.ChangeShapes Go.WideShapes Go.ChangeAt Go.RowKit

/-- The cells of the two listed tables. -/
def acceptCells : Array Value := (List.flatten ((List.range 16).map fun i => [Value.int .u8 (Lib.accLo i : Int), Value.int .u8 (Lib.accHi i : Int)])).toArray
def firstCells : Array Value := ((List.range 256).map fun c => Value.int .u8 (Lib.firstT c : Int)).toArray

def lay1 (n : Nat) (cs : Array Value) (w : World) : World :=
  { w with heap := w.heap.modify n fun
      | .cells _ t frozen => .cells cs t frozen
      | o => o }

noncomputable def laidWorld (os : Os) : World := lay1 2 acceptCells (lay1 1 firstCells (World.holding Tryd.prog os ⟨#[], #[], []⟩))
theorem laid_met (os : Os) (args : Array Value) : laidMet Tryd.prog Rows.vfsRenameUptoRow.laid ((laidWorld os).forCall (fun _ _ => 0) ⟨#[], args, []⟩).memory :=
  laidMet_of_run' 300 (by kernel_rfl) (by kernel_rfl)


/-- Arguments read behind the call as they read before it. -/
theorem trodAll_below {H : Type} {enc : TypeId × Value → H} {P : Program} (hl : laidOutB P = true) {W W' : World} (hb : Below W.heap.size W W') : ∀ (ts : List TypeId) (vs : List Value) (ds : List (DataW H)) (ps : List MemPlace),
    (∀ t ∈ ts, P.readableRec t = true ∧ t < P.types.size) → DataW.TrodAll enc P W 0 (fun _ => true) true ts vs ds ps → (∀ x ∈ ps, x.block < W.heap.size) → DataW.TrodAll enc P W' 0 (fun b => decide (b < W.heap.size)) true ts vs ds ps
  | [], vs, ds, ps, _, h, _ => by obtain ⟨rfl, rfl, rfl⟩ := trodAll_nil h; exact trodAll_mk0
  | t :: ts, vs, ds, ps, ht, h, hlt => by
    obtain ⟨v, vs', d, ds', p, q, rfl, rfl, rfl, h1, h2⟩ := trodAll_cons h
    obtain ⟨hr, hrow⟩ := ht t (by simp)
    exact trodAll_cons_mk (hb.trod hl hr hrow h1 fun x hx => hlt x (by simp [hx])) (trodAll_below hl hb ts vs' ds' q (fun t' h' => ht t' (by simp [h'])) h2 fun x hx => hlt x (by simp [hx]))

theorem trodAll_length {H : Type} {enc : TypeId × Value → H} {P : Program} {W : World} {base : Nat} {sp : Nat → Bool} {hd : Bool} : ∀ (ts : List TypeId) (vs : List Value) (ds : List (DataW H)) (ps : List MemPlace), DataW.TrodAll enc P W base sp hd ts vs ds ps → ds.length = ts.length
  | [], vs, ds, ps, h => by obtain ⟨rfl, rfl, rfl⟩ := trodAll_nil h; rfl
  | t :: ts, vs, ds, ps, h => by
    obtain ⟨v, vs', d, ds', p, q, rfl, rfl, rfl, h1, h2⟩ := trodAll_cons h
    simp [trodAll_length ts vs' ds' q h2]

set_option maxRecDepth 100000 in
/-- A law's row: from what the call comes to. -/
theorem law_lifted {f : FuncId} {fn : Func} {spec : ChangeSpec} {laid : List (String × DataW Unit)} {os : Os} {H : Type} {enc : TypeId × Value → H} {F : Stop.Interp} (started : os.Started)
    (hfn : Tryd.prog.funcs[f]? = some fn) (noInit : Tryd.prog.inits.idxOf? f = none) (hr : fn.resultTypes = #[4]) (hv : spec.vars = [])
    (hspec : ∀ ds : List (DataW H), ds.length = fn.params.toList.length → spec.fn H ds = { results := [.lit (.bool true)], args := ds })
    (hlay : laidOutB Tryd.prog = true) (hread : ∀ t ∈ fn.params.toList, Tryd.prog.readableRec t = true ∧ t < Tryd.prog.types.size)
    (witness : ∃ (w : World) (tape : Tape) (i : Input), w.os = os ∧ (w.forCall tape i).Shaped Tryd.checked.prog ∧ i.vars = [] ∧ Input.okWide Tryd.checked.prog (w.forCall tape i) .any w.heap.size f i ∧
      (Rows.OpenSpec.upto spec).preRow enc Tryd.checked.prog fn [] false laid (w.forCall tape i).memory i.args ∧ ({} : Assume).holds Tryd.checked.prog (lone (Frame.enter Tryd.checked.prog f i.args .normal) [] (w.forCall tape i)))
    (contract : ∀ (W : World) (base : Nat) (args : Array Value) (ds : List (DataW H)) (p : List MemPlace),
      (∀ (j : Nat) t v, fn.params[j]? = some t → args[j]? = some v → Value.okWide Tryd.prog W .any base t v) →
      DataW.TrodAll enc Tryd.prog W 0 (fun _ => true) true fn.params.toList args.toList ds p → Rows.uptoSmall H ds = true → laidMetH Tryd.prog laid W → W.ShapedOpen Tryd.prog →
      Calls Tryd.prog f args W fun e W' => e = .returned (.bool true) ∧ Below W.heap.size W W') :
    ReturnsInHanded {} Tryd.checked os f .any ((Rows.OpenSpec.upto spec).preRow enc Tryd.prog fn [] false laid) (((Rows.OpenSpec.upto spec).at F).post enc Tryd.prog fn false true false false) := by
  refine returnsInHanded_of_row (C := Tryd.checked) (s := Rows.OpenSpec.upto spec) (by kernel_rfl) started noInit hfn witness ?_
  intro W base args ds gs before hval hW _ hcond _ hL hshape _
  have hW' := hW
  obtain ⟨p, q, hA, hV, rfl, hfz, hnd⟩ := hW
  have hA : DataW.TrodAll enc Tryd.prog W 0 (fun _ => true) true fn.params.toList args.toList ds p := hA
  have hV : DataW.TrodVars enc Tryd.checked.prog W (fun x => true) spec.vars gs q := hV
  rw [hv] at hV
  obtain ⟨rfl, rfl⟩ := trodVars_none hV
  have hk := hcond _ rfl
  rw [List.append_nil] at hk
  refine (contract W base args ds p hval hA hk hL hshape).mono fun e W' ⟨he, hb⟩ => ?_
  subst he
  have hlt : ∀ x ∈ p, x.block < W.heap.size := fun x hx => hW'.lt x (by simpa using hx)
  have e1 : spec.fn H (ds ++ []) = { results := [.lit (.bool true)], args := ds } := by rw [List.append_nil]; exact hspec ds (trodAll_length _ _ _ _ hA)
  refine ⟨_, rfl, ds, [], p ++ [], [], p, [], hW', ?_, ?_, ?_, hb.frame _, fun h => by cases h⟩
  · show DataW.TrodAll enc Tryd.prog W' _ _ _ fn.resultTypes.toList _ (spec.fn H (ds ++ [])).results []
    rw [e1, hr]
    exact trodAll_cons_mk (shut_bool Tryd.underlying4 _) trodAll_mk0
  · show DataW.TrodAll enc Tryd.prog W' _ _ _ fn.params.toList _ (spec.fn H (ds ++ [])).args p
    rw [e1]
    exact trodAll_below hlay hb _ _ _ _ hread hA hlt
  · show DataW.TrodVars enc Tryd.prog W' _ spec.vars (spec.fn H (ds ++ [])).vars []
    rw [e1, hv]
    rfl

theorem bulk_one {H : Type} (d : DataW H) : 1 ≤ Rows.uptoBulk d := by
  cases d with
  | lit l => cases l <;> simp [Rows.uptoBulk]
  | nil => simp [Rows.uptoBulk]
  | ptr d => simp [Rows.uptoBulk]
  | slice elems spare => simp [Rows.uptoBulk]
  | agg parts => simp [Rows.uptoBulk]
  | iface t d => simp [Rows.uptoBulk]
  | map entries => simp [Rows.uptoBulk]
  | held h => simp [Rows.uptoBulk]

theorem bulk_part {H : Type} {d : DataW H} {l : List (DataW H)} (h : d ∈ l) : Rows.uptoBulk d ≤ Rows.uptoBulkAll l := by
  induction l with
  | nil => cases h
  | cons x r ih =>
    simp only [Rows.uptoBulkAll]
    cases List.mem_cons.1 h with
    | inl e => subst e; omega
    | inr e => have := ih e; omega

theorem bulk_length {H : Type} (l : List (DataW H)) : l.length ≤ Rows.uptoBulkAll l := by
  induction l with
  | nil => simp [Rows.uptoBulkAll]
  | cons x r ih => have := bulk_one x; simp only [Rows.uptoBulkAll, List.length_cons]; omega

theorem bulk_str {H : Type} (s : ByteArray) : Rows.uptoBulk (DataW.lit (H := H) (.string s.data.toList)) = s.size + 1 := by
  rw [Lib.size_eq]; simp only [Rows.uptoBulk]

theorem bulk_bound {H : Type} {l : List (DataW H)} (hk : Rows.uptoSmall H l = true) : Rows.uptoBulkAll l ≤ 1048576 := of_decide_eq_true hk

theorem bulk_mem {H : Type} {d : DataW H} {l : List (DataW H)} (hk : Rows.uptoSmall H l = true) (h : d ∈ l) : Rows.uptoBulk d ≤ 1048576 := Nat.le_trans (bulk_part h) (bulk_bound hk)

set_option maxRecDepth 100000 in
open Go.ChangeMaps (open_string) in
/-- A slice of texts that came in. -/
theorem open_strs {H : Type} {enc : TypeId × Value → H} {W : World} {base : Nat} {v : Value} {d : DataW H} {p : List MemPlace} (hv : Value.okWide Tryd.prog W .any base 42 v)
    (h : DataW.Trod enc Tryd.prog W 0 (fun _ => true) true 42 v d p) (hk : Rows.uptoBulk d ≤ 1048576) :
    ∃ (a : Option Addr) (c : Nat) (ss : List ByteArray), v = .slice a ss.length c ∧ ss.length ≤ c ∧ ss.length + (ss.map fun b => b.size + 1).sum ≤ 4194304 ∧ (∀ s ∈ ss, s.size ≤ 1048576) ∧ Sl W a (ss.map Value.string) := by
  obtain ⟨a0, len, cap, rfl⟩ := okWide_slice Tryd.underlying42 hv
  obtain ⟨fuel, hf⟩ := h
  rcases open_strings Tryd.underlying42 Tryd.underlying9 (by kernel_rfl) hf with ⟨hcs, hx⟩ | ⟨a, len', cap', ss, hcs, _, hl, hm, hz, hx, hcell, hws⟩
  · simp [Value.cells] at hcs
    obtain ⟨rfl, rfl, rfl⟩ := hcs
    exact ⟨none, 0, [], rfl, by simp, by simp, by simp, .nil _ _⟩
  · simp [Value.cells] at hcs
    obtain ⟨rfl, rfl, rfl⟩ := hcs
    simp at hz
    have hd : d = .slice (strs (ss.take len)) (strs (ss.drop len)) := congrArg Prod.fst hx
    subst hd
    simp only [Rows.uptoBulk] at hk
    have hlt : (ss.take len).length = len := by rw [List.length_take]; omega
    have hall : ∀ (l : List ByteArray) (s : ByteArray), s ∈ l → s.size + 1 ≤ Rows.uptoBulkAll (strs (H := H) l) := by
      intro l s hs
      have : (DataW.lit (H := H) (.string s.data.toList)) ∈ strs (H := H) l := by
        unfold strs; exact List.mem_map.2 ⟨s, hs, rfl⟩
      have := bulk_part this
      rw [bulk_str] at this
      exact this
    have hlen := bulk_length (strs (H := H) (ss.take len))
    have hsl : (strs (H := H) (ss.take len)).length = len := by unfold strs; rw [List.length_map, hlt]
    have hsum : ∀ l : List ByteArray, (l.map fun b => b.size + 1).sum = Rows.uptoBulkAll (strs (H := H) l) := by
      intro l
      induction l with
      | nil => rfl
      | cons x l ih =>
        have e : strs (H := H) (x :: l) = .lit (.string x.data.toList) :: strs l := rfl
        rw [e, Rows.uptoBulkAll, bulk_str, ← ih]; simp
    have hs2 := hsum (ss.take len)
    refine ⟨some a, cap, ss.take len, by rw [hlt], by rw [hlt]; omega, by rw [hlt, hs2]; omega, fun s hs => by have := hall _ s hs; omega, ?_⟩
    by_cases h0 : len = 0
    · subst h0; simp [Sl]
    · have h1 := hcell 0 (by omega)
      have hsp : a.spot = none := cell_spot (b := a.block) (o := a.off) (by simpa [Addr.add] using h1)
      obtain ⟨b, o, sp⟩ := a
      simp at hsp
      subst hsp
      refine .inr ⟨b, o, rfl, World.block_lt_of_cell? W _ h1, fun i u hu => ?_⟩
      have hi : i < len := by
        have := (List.getElem?_eq_some_iff.1 hu).1
        rw [List.length_map, hlt] at this; exact this
      have h2 := hcell i (by omega)
      rw [Addr.add_lit] at h2
      rw [h2]
      rw [List.getElem?_map, List.getElem?_take, if_pos hi] at hu
      rw [List.getD_eq_getElem?_getD]
      rw [List.getElem?_eq_getElem (by omega)] at hu ⊢
      simpa using hu
end Go.Proofs.YtfoamcobpfflbaaDoor
