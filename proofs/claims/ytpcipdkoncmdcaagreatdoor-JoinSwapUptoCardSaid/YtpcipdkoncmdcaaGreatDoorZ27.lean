/- Texts of mine, joined: What the rows of this seat share: the tables in the witness's world, the bulk's bound. | Slices of one-cell elements that came in, opened: of words and of whole numbers. | []byte, [2]int and [3]int that came in, opened. | What came in, opened by its type: slices of whatever, structs field by field. Of every program. | Arrays and floats that came in, opened by their type. Of every program. -/
import Derived.Test.YtpcipdkoncmdcaaGreatDoorCards
import Derived.Test.YtpcipdkoncmdcaaGreatDoorTie
import Derived.ProofKit
import Derived.OpenShut
import Derived.Deep.DeepHandedRow
import Derived.Lib.LaidTab
import Derived.Lib.LaidU8
import Derived.Deep.Slices
import Derived.Laws.IdiomArrays
import Derived.Test.YtpcipdkoncmdcaaGreatDoorZ26
namespace Go.Proofs.YtpcipdkoncmdcaaGreatDoor

theorem gl_of_shaped {W : World} (h : W.ShapedOpen Tryz.prog) : Gl W := by
  obtain ⟨m, hm⟩ := Tryz.laysM146.s1_3 W h
  have hm : W.cell? ⟨1, 0, none⟩ = some (.int .i64 m) := hm
  exact ⟨⟨m, hm⟩, World.block_lt_of_cell? W _ hm⟩

open Go.ChangeShapes Go.WideShapes Go.ChangeAt Go.RowKit

/-- The cells of the two listed tables. -/
def acceptCells : Array Value := (List.flatten ((List.range 16).map fun i => [Value.int .u8 (Lib.accLo i : Int), Value.int .u8 (Lib.accHi i : Int)])).toArray
def firstCells : Array Value := ((List.range 256).map fun c => Value.int .u8 (Lib.firstT c : Int)).toArray

def lay1 (n : Nat) (cs : Array Value) (w : World) : World :=
  { w with heap := w.heap.modify n fun
      | .cells _ t frozen => .cells cs t frozen
      | o => o }

noncomputable def laidWorld (os : Os) : World := lay1 3 acceptCells (lay1 2 firstCells (World.holding Tryz.prog os ⟨#[], #[], []⟩))
theorem laid_met (os : Os) (args : Array Value) : laidMet Tryz.prog Rows.joinTimesUptoRow.laid ((laidWorld os).forCall (fun _ _ => 0) ⟨#[], args, []⟩).memory :=
  laidMet_of_run' 300 (by kernel_rfl) (by kernel_rfl)


/-- Arguments read behind the call as they read before it. -/
theorem trodAll_below {H : Type} {enc : TypeId × Value → H} {P : Program} (hl : laidOutB P = true) {W W' : World} (hb : Below W.heap.size W W') : ∀ (ts : List TypeId) (vs : List Value) (ds : List (DataW H)) (ps : List MemPlace),
    (∀ t ∈ ts, P.readableRec t = true ∧ t < P.types.size) → DataW.TrodAll enc P W 0 (fun _ => true) true ts vs ds ps → (∀ x ∈ ps, x.block < W.heap.size) → DataW.TrodAll enc P W' 0 (fun b => decide (b < W.heap.size)) true ts vs ds ps
  | [], vs, ds, ps, _, h, _ => by obtain ⟨rfl, rfl, rfl⟩ := trodAll_nil h; exact trodAll_mk0
  | t :: ts, vs, ds, ps, ht, h, hlt => by
    obtain ⟨v, vs', d, ds', p, q, rfl, rfl, rfl, h1, h2⟩ := trodAll_cons h
    obtain ⟨hr, hrow⟩ := ht t (by simp)
    exact trodAll_cons_mk (hb.trod hl hr hrow h1 fun x hx => hlt x (by simp [hx])) (trodAll_below hl hb ts vs' ds' q (fun t' h' => ht t' (by simp [h'])) h2 fun x hx => hlt x (by simp [hx]))

theorem trodAll_length {H : Type} {enc : TypeId × Value → H} {P : Program} {W : World} {base : Nat} {sp : Nat → Bool} {hd : Bool} : ∀ (ts : List TypeId) (vs : List Value) (ds : List (DataW H)) (ps : List MemPlace), DataW.TrodAll enc P W base sp hd ts vs ds ps → ds.length = ts.length
  | [], vs, ds, ps, h => by obtain ⟨rfl, rfl, rfl⟩ := trodAll_nil h; rfl
  | t :: ts, vs, ds, ps, h => by
    obtain ⟨v, vs', d, ds', p, q, rfl, rfl, rfl, h1, h2⟩ := trodAll_cons h
    simp [trodAll_length ts vs' ds' q h2]

set_option maxRecDepth 100000 in
/-- A law's row: from what the call comes to. -/
theorem law_lifted {f : FuncId} {fn : Func} {spec : ChangeSpec} {laid : List (String × DataW Unit)} {os : Os} {H : Type} {enc : TypeId × Value → H} {F : Stop.Interp} (started : os.Started)
    (hfn : Tryz.prog.funcs[f]? = some fn) (noInit : Tryz.prog.inits.idxOf? f = none) (hr : fn.resultTypes = #[4]) (hv : spec.vars = [])
    (hspec : ∀ ds : List (DataW H), ds.length = fn.params.toList.length → spec.fn H ds = { results := [.lit (.bool true)], args := ds })
    (hlay : laidOutB Tryz.prog = true) (hread : ∀ t ∈ fn.params.toList, Tryz.prog.readableRec t = true ∧ t < Tryz.prog.types.size)
    (witness : ∃ (w : World) (tape : Tape) (i : Input), w.os = os ∧ (w.forCall tape i).Shaped Tryz.checked.prog ∧ i.vars = [] ∧ Input.okWide Tryz.checked.prog (w.forCall tape i) .any w.heap.size f i ∧
      (Rows.OpenSpec.upto spec).preRow enc Tryz.checked.prog fn [] false laid (w.forCall tape i).memory i.args ∧ ({} : Assume).holds Tryz.checked.prog (lone (Frame.enter Tryz.checked.prog f i.args .normal) [] (w.forCall tape i)))
    (contract : ∀ (W : World) (base : Nat) (args : Array Value) (ds : List (DataW H)) (p : List MemPlace),
      (∀ (j : Nat) t v, fn.params[j]? = some t → args[j]? = some v → Value.okWide Tryz.prog W .any base t v) →
      DataW.TrodAll enc Tryz.prog W 0 (fun _ => true) true fn.params.toList args.toList ds p → Rows.uptoSmall H ds = true → laidMetH Tryz.prog laid W → W.ShapedOpen Tryz.prog →
      Calls Tryz.prog f args W fun e W' => e = .returned (.bool true) ∧ Below W.heap.size W W') :
    ReturnsInHanded {} Tryz.checked os f .any ((Rows.OpenSpec.upto spec).preRow enc Tryz.prog fn [] false laid) (((Rows.OpenSpec.upto spec).at F).post enc Tryz.prog fn false true false false) := by
  refine returnsInHanded_of_row (C := Tryz.checked) (s := Rows.OpenSpec.upto spec) (by kernel_rfl) started noInit hfn witness ?_
  intro W base args ds gs before hval hW _ hcond _ hL hshape _
  have hW' := hW
  obtain ⟨p, q, hA, hV, rfl, hfz, hnd⟩ := hW
  have hA : DataW.TrodAll enc Tryz.prog W 0 (fun _ => true) true fn.params.toList args.toList ds p := hA
  have hV : DataW.TrodVars enc Tryz.checked.prog W (fun x => true) spec.vars gs q := hV
  rw [hv] at hV
  obtain ⟨rfl, rfl⟩ := trodVars_none hV
  have hk := hcond _ rfl
  rw [List.append_nil] at hk
  refine (contract W base args ds p hval hA hk hL hshape).mono fun e W' ⟨he, hb⟩ => ?_
  subst he
  have hlt : ∀ x ∈ p, x.block < W.heap.size := fun x hx => hW'.lt x (by simpa using hx)
  have e1 : spec.fn H (ds ++ []) = { results := [.lit (.bool true)], args := ds } := by rw [List.append_nil]; exact hspec ds (trodAll_length _ _ _ _ hA)
  refine ⟨_, rfl, ds, [], p ++ [], [], p, [], hW', ?_, ?_, ?_, hb.frame _, fun h => by cases h⟩
  · show DataW.TrodAll enc Tryz.prog W' _ _ _ fn.resultTypes.toList _ (spec.fn H (ds ++ [])).results []
    rw [e1, hr]
    exact trodAll_cons_mk (shut_bool Tryz.underlying4 _) trodAll_mk0
  · show DataW.TrodAll enc Tryz.prog W' _ _ _ fn.params.toList _ (spec.fn H (ds ++ [])).args p
    rw [e1]
    exact trodAll_below hlay hb _ _ _ _ hread hA hlt
  · show DataW.TrodVars enc Tryz.prog W' _ spec.vars (spec.fn H (ds ++ [])).vars []
    rw [e1, hv]
    rfl

theorem bulk_one {H : Type} (d : DataW H) : 1 ≤ Rows.uptoBulk d := by
  cases d with
  | lit l => cases l <;> simp [Rows.uptoBulk]
  | nil => simp [Rows.uptoBulk]
  | ptr d => simp [Rows.uptoBulk]
  | slice elems spare => simp [Rows.uptoBulk]
  | agg parts => simp [Rows.uptoBulk]
  | iface t d => simp [Rows.uptoBulk]
  | map entries => simp [Rows.uptoBulk]
  | held h => simp [Rows.uptoBulk]

theorem bulk_part {H : Type} {d : DataW H} {l : List (DataW H)} (h : d ∈ l) : Rows.uptoBulk d ≤ Rows.uptoBulkAll l := by
  induction l with
  | nil => cases h
  | cons x r ih =>
    simp only [Rows.uptoBulkAll]
    cases List.mem_cons.1 h with
    | inl e => subst e; omega
    | inr e => have := ih e; omega

theorem bulk_length {H : Type} (l : List (DataW H)) : l.length ≤ Rows.uptoBulkAll l := by
  induction l with
  | nil => simp [Rows.uptoBulkAll]
  | cons x r ih => have := bulk_one x; simp only [Rows.uptoBulkAll, List.length_cons]; omega

theorem bulk_str {H : Type} (s : ByteArray) : Rows.uptoBulk (DataW.lit (H := H) (.string s.data.toList)) = s.size + 1 := by
  rw [Lib.size_eq]; simp only [Rows.uptoBulk]

theorem bulk_bound {H : Type} {l : List (DataW H)} (hk : Rows.uptoSmall H l = true) : Rows.uptoBulkAll l ≤ 1048576 := of_decide_eq_true hk

theorem bulk_mem {H : Type} {d : DataW H} {l : List (DataW H)} (hk : Rows.uptoSmall H l = true) (h : d ∈ l) : Rows.uptoBulk d ≤ 1048576 := Nat.le_trans (bulk_part h) (bulk_bound hk)

set_option maxRecDepth 100000 in
open Go.ChangeMaps (open_string) in
/-- A slice of texts that came in. -/
theorem open_strs {H : Type} {enc : TypeId × Value → H} {W : World} {base : Nat} {v : Value} {d : DataW H} {p : List MemPlace} (hv : Value.okWide Tryz.prog W .any base 82 v)
    (h : DataW.Trod enc Tryz.prog W 0 (fun _ => true) true 82 v d p) (hk : Rows.uptoBulk d ≤ 1048576) :
    ∃ (a : Option Addr) (c : Nat) (ss : List ByteArray), v = .slice a ss.length c ∧ ss.length ≤ c ∧ ss.length + (ss.map fun b => b.size + 1).sum ≤ 4194304 ∧ (∀ s ∈ ss, s.size ≤ 1048576) ∧ Sl W a (ss.map Value.string) := by
  obtain ⟨a0, len, cap, rfl⟩ := okWide_slice Tryz.underlying82 hv
  obtain ⟨fuel, hf⟩ := h
  rcases open_strings Tryz.underlying82 Tryz.underlying9 (by kernel_rfl) hf with ⟨hcs, hx⟩ | ⟨a, len', cap', ss, hcs, _, hl, hm, hz, hx, hcell, hws⟩
  · simp [Value.cells] at hcs
    obtain ⟨rfl, rfl, rfl⟩ := hcs
    exact ⟨none, 0, [], rfl, by simp, by simp, by simp, .nil _ _⟩
  · simp [Value.cells] at hcs
    obtain ⟨rfl, rfl, rfl⟩ := hcs
    simp at hz
    have hd : d = .slice (strs (ss.take len)) (strs (ss.drop len)) := congrArg Prod.fst hx
    subst hd
    simp only [Rows.uptoBulk] at hk
    have hlt : (ss.take len).length = len := by rw [List.length_take]; omega
    have hall : ∀ (l : List ByteArray) (s : ByteArray), s ∈ l → s.size + 1 ≤ Rows.uptoBulkAll (strs (H := H) l) := by
      intro l s hs
      have : (DataW.lit (H := H) (.string s.data.toList)) ∈ strs (H := H) l := by
        unfold strs; exact List.mem_map.2 ⟨s, hs, rfl⟩
      have := bulk_part this
      rw [bulk_str] at this
      exact this
    have hlen := bulk_length (strs (H := H) (ss.take len))
    have hsl : (strs (H := H) (ss.take len)).length = len := by unfold strs; rw [List.length_map, hlt]
    have hsum : ∀ l : List ByteArray, (l.map fun b => b.size + 1).sum = Rows.uptoBulkAll (strs (H := H) l) := by
      intro l
      induction l with
      | nil => rfl
      | cons x l ih =>
        have e : strs (H := H) (x :: l) = .lit (.string x.data.toList) :: strs l := rfl
        rw [e, Rows.uptoBulkAll, bulk_str, ← ih]; simp
    have hs2 := hsum (ss.take len)
    refine ⟨some a, cap, ss.take len, by rw [hlt], by rw [hlt]; omega, by rw [hlt, hs2]; omega, fun s hs => by have := hall _ s hs; omega, ?_⟩
    by_cases h0 : len = 0
    · subst h0; simp [Sl]
    · have h1 := hcell 0 (by omega)
      have hsp : a.spot = none := cell_spot (b := a.block) (o := a.off) (by simpa [Addr.add] using h1)
      obtain ⟨b, o, sp⟩ := a
      simp at hsp
      subst hsp
      refine .inr ⟨b, o, rfl, World.block_lt_of_cell? W _ h1, fun i u hu => ?_⟩
      have hi : i < len := by
        have := (List.getElem?_eq_some_iff.1 hu).1
        rw [List.length_map, hlt] at this; exact this
      have h2 := hcell i (by omega)
      rw [Addr.add_lit] at h2
      rw [h2]
      rw [List.getElem?_map, List.getElem?_take, if_pos hi] at hu
      rw [List.getD_eq_getElem?_getD]
      rw [List.getElem?_eq_getElem (by omega)] at hu ⊢
      simpa using hu
end Go.Proofs.YtpcipdkoncmdcaaGreatDoor
namespace Go.Proofs.YtpcipdkoncmdcaaGreatDoor
open Go Go.ChangeShapes Go.WideShapes Go.ChangeAt Go.RowKit

theorem trod_float {P : Program} {H : Type} {enc : TypeId × Value → H} {w : World} {base : Nat} {spare : Nat → Bool} {held : Bool} {fuel : Nat} {t : TypeId} {cs : List Value} {x : DataW H × List MemPlace} {k : FloatKind}
    (ht : P.underlying t = some (.float k)) (h : DataW.trod enc P w base spare held fuel t cs = some x) : ∃ n, cs = [.float k n] ∧ x = (.lit (.float k n), []) ∧ (Lit.float k n).wf = true := by
  cases fuel with
  | zero => simp [DataW.trod] at h
  | succ n =>
    unfold DataW.trod at h
    rw [ht] at h
    split at h <;> simp_all

theorem int_wf {k : IntKind} {n a b : Int} (h : (Lit.int k n).wf = true) (ha : a = k.min) (hb : k.max = b) : a ≤ n ∧ n ≤ b := by
  simp only [Lit.wf, Bool.and_eq_true, decide_eq_true_eq] at h
  omega

/-- A slice of one-cell elements that came in, each of which is opened by X. -/
theorem open_row {α : Type} [Inhabited α] (P : Program) {H : Type} {enc : TypeId × Value → H} {W : World} {base : Nat} {v : Value} {d : DataW H} {p : List MemPlace} {t e : TypeId} (ht : P.underlying t = some (.slice e)) (hc : P.cellsOf e = 1) (f : α → Value) (ok : α → Prop)
    (X : ∀ (n : Nat) (u : Value) (x : DataW H × List MemPlace), DataW.trod enc P W 0 (fun _ => true) true n e [u] = some x → ∃ y, u = f y ∧ ok y)
    (hv : Value.okWide P W .any base t v) (h : DataW.Trod enc P W 0 (fun _ => true) true t v d p) (hk : Rows.uptoBulk d ≤ 1048576) :
    ∃ (a : Option Addr) (c : Nat) (xs : List α), v = .slice a xs.length c ∧ xs.length ≤ 1048576 ∧ (∀ y ∈ xs, ok y) ∧ Sl W a (xs.map f) := by
  obtain ⟨a0, len, cap, rfl⟩ := okWide_slice ht hv
  obtain ⟨fuel, hf⟩ := h
  rcases Go.Deep.open_slice1 ht hc hf with ⟨hcs, hx⟩ | ⟨a, len', cap', m, n, V, D, Pl, hcs, _, hl, hm, hmm, hx, hcell⟩
  · simp [Value.cells] at hcs
    obtain ⟨rfl, rfl, rfl⟩ := hcs
    exact ⟨none, 0, [], rfl, by simp, by simp, .nil _ _⟩
  · simp [Value.cells] at hcs
    obtain ⟨rfl, rfl, rfl⟩ := hcs
    simp at hmm
    have each : ∀ i, i < len → ∃ y : α, V i = f y ∧ ok y := fun i hi => X n (V i) _ (hcell i (by omega)).2
    obtain ⟨T, hT⟩ := Go.Deep.choose_lt each
    have hd : d = .slice ((List.range len).map D) ((List.range (m - len)).map fun j => D (len + j)) := congrArg Prod.fst hx
    rw [hd] at hk
    simp only [Rows.uptoBulk] at hk
    have hlen := bulk_length ((List.range len).map D)
    rw [List.length_map, List.length_range] at hlen
    refine ⟨some a, cap, (List.range len).map T, by simp, by simp; omega, fun y hy => ?_, ?_⟩
    · obtain ⟨i, hi, rfl⟩ := List.mem_map.1 hy
      exact (hT i (List.mem_range.1 hi)).2
    · by_cases h0 : len = 0
      · subst h0; exact .inl rfl
      · have h1 := (hcell 0 (by omega)).1
        have hsp : a.spot = none := cell_spot (b := a.block) (o := a.off) (by simpa [Addr.add] using h1)
        obtain ⟨b, o, sp⟩ := a
        simp at hsp
        subst hsp
        refine .inr ⟨b, o, rfl, World.block_lt_of_cell? W _ h1, fun i u hu => ?_⟩
        have hi : i < len := by
          have := (List.getElem?_eq_some_iff.1 hu).1
          simpa using this
        have h2 := (hcell i (by omega)).1
        rw [Addr.add_lit] at h2
        rw [h2, (hT i hi).1]
        rw [List.getElem?_map, List.getElem?_map, List.getElem?_range hi] at hu
        exact hu
end Go.Proofs.YtpcipdkoncmdcaaGreatDoor
namespace Go.Proofs.YtpcipdkoncmdcaaGreatDoor
open Go Go.ChangeShapes Go.WideShapes Go.ChangeAt Go.RowKit

theorem i64_wf {n : Int} (h : (Lit.int .i64 n).wf = true) : -9223372036854775808 ≤ n ∧ n ≤ 9223372036854775807 := int_wf h (by decide) (by decide)

theorem open_bytes {P : Program} {H : Type} {enc : TypeId × Value → H} {W : World} {base : Nat} {v : Value} {d : DataW H} {p : List MemPlace} {t e : TypeId} (ht : P.underlying t = some (.slice e)) (hc : P.cellsOf e = 1) (he : P.underlying e = some (.int .u8))
    (hv : Value.okWide P W .any base t v) (h : DataW.Trod enc P W 0 (fun _ => true) true t v d p) (hk : Rows.uptoBulk d ≤ 1048576) :
    ∃ (a : Option Addr) (c : Nat) (x : ByteArray), v = .slice a x.size c ∧ x.size ≤ 1048576 ∧ Sl W a (byteCells x) := by
  obtain ⟨a, c, xs, rfl, hl, hw, hs⟩ := open_row P ht hc (Value.int .u8) (fun z => 0 ≤ z ∧ z ≤ 255) (fun n u y h => by
    obtain ⟨b, e1, _, hw⟩ := DataW.trod_int he h
    exact ⟨b, (List.cons.inj e1).1, int_wf hw (by decide) (by decide)⟩) hv h hk
  have hsz : (strOfNums xs).size = xs.length := strOfNums_size xs
  refine ⟨a, c, strOfNums xs, by rw [hsz], by rw [hsz]; exact hl, ?_⟩
  have : byteCells (strOfNums xs) = xs.map (Value.int .u8) := by
    unfold byteCells
    rw [strOfNums_data, List.map_map]
    refine List.map_congr_left fun z hz => ?_
    have := hw z hz
    show Value.int .u8 ((UInt8.ofNat z.toNat).toNat : Int) = Value.int .u8 z
    congr 1
    rw [UInt8.toNat_ofNat', Nat.mod_eq_of_lt (by omega)]
    omega
  rw [this]
  exact hs

theorem arr2 {α : Type} {cs : Array α} (h : cs.size = 2) : ∃ c0 c1, cs = #[c0, c1] := by
  obtain ⟨l⟩ := cs
  match l, h with
  | [c0, c1], _ => exact ⟨c0, c1, rfl⟩
theorem arr3 {α : Type} {cs : Array α} (h : cs.size = 3) : ∃ c0 c1 c2, cs = #[c0, c1, c2] := by
  obtain ⟨l⟩ := cs
  match l, h with
  | [c0, c1, c2], _ => exact ⟨c0, c1, c2, rfl⟩

theorem arr_okWide {P : Program} {W : World} {base n : Nat} {v : Value} {t e : TypeId} (ht : P.underlying t = some (.array n e)) (hv : Value.okWide P W .any base t v) : ∃ cs, v = .agg cs ∧ cs.size = P.cellsOf t := by
  simp only [Value.okWide, ht] at hv
  obtain ⟨cs, h1, h2, _⟩ := hv
  exact ⟨cs, h1, h2⟩

theorem open_int2 {P : Program} {H : Type} {enc : TypeId × Value → H} {W : World} {base : Nat} {v : Value} {d : DataW H} {p : List MemPlace} {t e : TypeId} (ht : P.underlying t = some (.array 2 e)) (hc : P.cellsOf e = 1) (hC : P.cellsOf t = 2) (he : P.underlying e = some (.int .i64))
    (hv : Value.okWide P W .any base t v) (h : DataW.Trod enc P W 0 (fun _ => true) true t v d p) :
    ∃ n0 n1 : Int, v = .agg #[.int .i64 n0, .int .i64 n1] ∧ (-9223372036854775808 ≤ n0 ∧ n0 ≤ 9223372036854775807) ∧ (-9223372036854775808 ≤ n1 ∧ n1 ≤ 9223372036854775807) := by
  obtain ⟨cs, rfl, hsz⟩ := arr_okWide ht hv
  obtain ⟨c0, c1, rfl⟩ := arr2 (hsz.trans hC)
  obtain ⟨fuel, hf⟩ := h
  obtain ⟨xs, m, -, -, -, hl, hel⟩ := DataW.trod_array ht hf
  have g : ∀ (i : Nat) (c : Value), i < 2 → ([c0, c1] : List Value)[i]? = some c → ∃ n : Int, c = .int .i64 n ∧ (-9223372036854775808 ≤ n ∧ n ≤ 9223372036854775807) := by
    intro i c hi hci
    have h1 := hel i hi
    have hx : ∃ y, xs[i]? = some y := ⟨_, List.getElem?_eq_getElem (by rw [hl]; exact hi)⟩
    obtain ⟨y, hy⟩ := hx
    have e1 : ((Value.cells (.agg #[c0, c1])).toList.drop (i * P.cellsOf e)).take (P.cellsOf e) = [c] := by
      rw [hc, Nat.mul_one]
      match i, hi, hci with
      | 0, _, h => simp at h; subst h; rfl
      | 1, _, h => simp at h; subst h; rfl
    rw [hy, e1] at h1
    obtain ⟨b, e2, -, hw⟩ := DataW.trod_int he h1
    exact ⟨b, (List.cons.inj e2).1, i64_wf hw⟩
  obtain ⟨n0, rfl, b0⟩ := g 0 c0 (by omega) rfl
  obtain ⟨n1, rfl, b1⟩ := g 1 c1 (by omega) rfl
  exact ⟨n0, n1, rfl, b0, b1⟩

theorem open_int3 {P : Program} {H : Type} {enc : TypeId × Value → H} {W : World} {base : Nat} {v : Value} {d : DataW H} {p : List MemPlace} {t e : TypeId} (ht : P.underlying t = some (.array 3 e)) (hc : P.cellsOf e = 1) (hC : P.cellsOf t = 3) (he : P.underlying e = some (.int .i64))
    (hv : Value.okWide P W .any base t v) (h : DataW.Trod enc P W 0 (fun _ => true) true t v d p) :
    ∃ n0 n1 n2 : Int, v = .agg #[.int .i64 n0, .int .i64 n1, .int .i64 n2] ∧ (-9223372036854775808 ≤ n0 ∧ n0 ≤ 9223372036854775807) ∧ (-9223372036854775808 ≤ n1 ∧ n1 ≤ 9223372036854775807) ∧ (-9223372036854775808 ≤ n2 ∧ n2 ≤ 9223372036854775807) := by
  obtain ⟨cs, rfl, hsz⟩ := arr_okWide ht hv
  obtain ⟨c0, c1, c2, rfl⟩ := arr3 (hsz.trans hC)
  obtain ⟨fuel, hf⟩ := h
  obtain ⟨xs, m, -, -, -, hl, hel⟩ := DataW.trod_array ht hf
  have g : ∀ (i : Nat) (c : Value), i < 3 → ([c0, c1, c2] : List Value)[i]? = some c → ∃ n : Int, c = .int .i64 n ∧ (-9223372036854775808 ≤ n ∧ n ≤ 9223372036854775807) := by
    intro i c hi hci
    have h1 := hel i hi
    have hx : ∃ y, xs[i]? = some y := ⟨_, List.getElem?_eq_getElem (by rw [hl]; exact hi)⟩
    obtain ⟨y, hy⟩ := hx
    have e1 : ((Value.cells (.agg #[c0, c1, c2])).toList.drop (i * P.cellsOf e)).take (P.cellsOf e) = [c] := by
      rw [hc, Nat.mul_one]
      match i, hi, hci with
      | 0, _, h => simp at h; subst h; rfl
      | 1, _, h => simp at h; subst h; rfl
      | 2, _, h => simp at h; subst h; rfl
    rw [hy, e1] at h1
    obtain ⟨b, e2, -, hw⟩ := DataW.trod_int he h1
    exact ⟨b, (List.cons.inj e2).1, i64_wf hw⟩
  obtain ⟨n0, rfl, b0⟩ := g 0 c0 (by omega) rfl
  obtain ⟨n1, rfl, b1⟩ := g 1 c1 (by omega) rfl
  obtain ⟨n2, rfl, b2⟩ := g 2 c2 (by omega) rfl
  exact ⟨n0, n1, n2, rfl, b0, b1, b2⟩
end Go.Proofs.YtpcipdkoncmdcaaGreatDoor
namespace Go.Proofs.YtpcipdkoncmdcaaGreatDoor
open Go Go.ChangeShapes Go.WideShapes Go.ChangeAt Go.RowKit

/-- Whatever is read at type e is one of α, in the cells f. -/
def Opn {H : Type} (enc : TypeId × Value → H) (P : Program) (W : World) (e : TypeId) (α : Type) (f : α → List Value) (ok : α → Nat → Prop) : Prop :=
  ∀ (n : Nat) (cs : List Value) (x : DataW H × List MemPlace), DataW.trod enc P W 0 (fun _ => true) true n e cs = some x → ∃ y : α, cs = f y ∧ ok y (Rows.uptoBulk x.1)

section
variable {H : Type} {enc : TypeId × Value → H} {P : Program} {W : World}

theorem flat_at {α : Type} (f : α → List Value) (k : Nat) : ∀ (l : List α), (∀ y ∈ l, (f y).length = k) → ∀ (i : Nat) (hi : i < l.length) (j : Nat), j < k → (l.flatMap f)[i * k + j]? = (f l[i])[j]?
  | [], _, i, hi, _, _ => by simp at hi
  | y :: l, h, 0, _, j, hj => by
    rw [List.flatMap_cons, Nat.zero_mul, Nat.zero_add, List.getElem?_append_left (by rw [h y (by simp)]; exact hj)]; rfl
  | y :: l, h, i + 1, hi, j, hj => by
    rw [List.flatMap_cons, List.getElem?_append_right (by rw [h y (by simp), Nat.succ_mul]; omega), h y (by simp), show (i + 1) * k + j - k = i * k + j by rw [Nat.succ_mul]; omega]
    exact flat_at f k l (fun z hz => h z (by simp [hz])) i (by simpa using hi) j hj
theorem flat_len {α : Type} (f : α → List Value) (k : Nat) : ∀ (l : List α), (∀ y ∈ l, (f y).length = k) → (l.flatMap f).length = l.length * k
  | [], _ => by simp
  | y :: l, h => by rw [List.flatMap_cons, List.length_append, h y (by simp), flat_len f k l (fun z hz => h z (by simp [hz])), List.length_cons, Nat.succ_mul]; omega

theorem bulk_all {α : Type} {ok : α → Nat → Prop} (hmono : ∀ y a b, a ≤ b → ok y a → ok y b) (D : Nat → DataW H) (T : Nat → α) : ∀ l : List Nat, (∀ i ∈ l, ok (T i) (Rows.uptoBulk (D i))) →
    l.length ≤ Rows.uptoBulkAll (l.map D) ∧ ∀ y ∈ l.map T, ok y (Rows.uptoBulkAll (l.map D))
  | [], _ => ⟨Nat.zero_le _, fun y h => by cases h⟩
  | i :: l, h => by
    obtain ⟨h1, h2⟩ := bulk_all hmono D T l (fun j hj => h j (by simp [hj]))
    have e := bulk_one (D i)
    have e2 : Rows.uptoBulkAll ((i :: l).map D) = Rows.uptoBulk (D i) + Rows.uptoBulkAll (l.map D) := by rw [List.map_cons, Rows.uptoBulkAll]
    rw [e2, List.length_cons]
    refine ⟨by omega, fun y hy => ?_⟩
    rw [List.map_cons, List.mem_cons] at hy
    rcases hy with rfl | hy
    · exact hmono _ _ _ (by omega) (h i (by simp))
    · exact hmono _ _ _ (by omega) (h2 y hy)

/-- The sum of sizes over a list is within its bulk. -/
theorem bulk_sum {α : Type} (g : α → Nat) (D : Nat → DataW H) (T : Nat → α) : ∀ l : List Nat, (∀ i ∈ l, g (T i) ≤ Rows.uptoBulk (D i)) → ((l.map T).map g).sum ≤ Rows.uptoBulkAll (l.map D)
  | [], _ => by simp
  | i :: l, h => by
    have h1 := bulk_sum g D T l (fun j hj => h j (by simp [hj]))
    have h2 := h i (by simp)
    have e2 : Rows.uptoBulkAll ((i :: l).map D) = Rows.uptoBulk (D i) + Rows.uptoBulkAll (l.map D) := by rw [List.map_cons, Rows.uptoBulkAll]
    rw [e2]
    simp only [List.map_cons, List.sum_cons]
    omega

/-- A slice. -/
theorem opn_slice {α : Type} [Inhabited α] {t e : TypeId} {k : Nat} (ht : P.underlying t = some (.slice e)) (hc : P.cellsOf e = k) (hk0 : 0 < k) {f : α → List Value} {ok : α → Nat → Prop} (hmono : ∀ y a b, a ≤ b → ok y a → ok y b) (g : α → Nat) (hg : ∀ y b, ok y b → g y ≤ b)
    (X : Opn enc P W e α f ok) : Opn enc P W t (Option Addr × Nat × List α) (fun y => [.slice y.1 y.2.2.length y.2.1]) (fun y b => Sl W y.1 (y.2.2.flatMap f) ∧ (∀ z ∈ y.2.2, (f z).length = k) ∧ y.2.2.length < b ∧ (y.2.2.map g).sum < b ∧ ∀ z ∈ y.2.2, ok z b) := by
  intro fuel cs x hf
  rcases Go.Deep.open_slice ht hf with ⟨hcs, hx⟩ | ⟨a, len, cap, m, n, D, Pl, hcs, -, hl, -, hmm, hx, hcell⟩
  · subst hcs
    have hb : 0 < Rows.uptoBulk x.1 := by rw [hx]; simp [Rows.uptoBulk]
    exact ⟨(none, 0, []), rfl, .nil _ _, (fun z hz => nomatch hz), hb, hb, (fun z hz => nomatch hz)⟩
  · subst hcs
    simp only [if_true] at hmm
    rw [hc] at hcell
    have each : ∀ i, i < len → ∃ y : α, ok y (Rows.uptoBulk (D i)) ∧ (f y).length = k ∧ ∀ j, j < k → W.cell? ((a.add (i * k)).add j) = (f y)[j]? := by
      intro i hi
      obtain ⟨cs', h1, h2⟩ := hcell i (by omega)
      obtain ⟨y, hy, hok⟩ := X n cs' _ h2
      obtain ⟨_, h3, h4⟩ := World.cells?_some h1
      subst hy
      exact ⟨y, hok, h3, h4⟩
    obtain ⟨T, hT⟩ := Go.Deep.choose_lt each
    have hd : x.1 = .slice ((List.range len).map D) ((List.range (m - len)).map fun j => D (len + j)) := congrArg Prod.fst hx
    obtain ⟨k1, k2⟩ := bulk_all hmono D T (List.range len) (fun i hi => (hT i (List.mem_range.1 hi)).1)
    have k3 := bulk_sum g D T (List.range len) (fun i hi => hg _ _ (hT i (List.mem_range.1 hi)).1)
    have hb : Rows.uptoBulkAll ((List.range len).map D) < Rows.uptoBulk x.1 := by rw [hd]; simp only [Rows.uptoBulk]; omega
    have hlen : ∀ z ∈ (List.range len).map T, (f z).length = k := fun z hz => by
      obtain ⟨i, hi, rfl⟩ := List.mem_map.1 hz
      exact (hT i (List.mem_range.1 hi)).2.1
    rw [List.length_range] at k1
    refine ⟨(some a, cap, (List.range len).map T), by simp, ?_, hlen, by simp; omega, by show (((List.range len).map T).map g).sum < _; omega, fun z hz => hmono _ _ _ (by omega) (k2 z hz)⟩
    by_cases h0 : len = 0
    · subst h0; exact .inl rfl
    · have h1 := (hT 0 (by omega)).2.2 0 hk0
      have h2 := (hT 0 (by omega)).2.1
      rw [List.getElem?_eq_getElem (by omega)] at h1
      have hsp : a.spot = none := cell_spot (b := a.block) (o := a.off) (by simpa [Addr.add] using h1)
      obtain ⟨b, o, sp⟩ := a
      simp at hsp
      subst hsp
      have hbl : b < W.heap.size := by
        have := World.block_lt_of_cell? W _ h1
        simpa [Addr.add] using this
      refine .inr ⟨b, o, rfl, hbl, fun i u hu => ?_⟩
      have hi : i < len * k := by
        have := (List.getElem?_eq_some_iff.1 hu).1
        rw [flat_len f k _ hlen, List.length_map, List.length_range] at this
        exact this
      have hq : i / k < len := Nat.div_lt_of_lt_mul (by rw [Nat.mul_comm]; exact hi)
      have hr : i % k < k := Nat.mod_lt _ hk0
      have hir : i / k * k + i % k = i := by rw [Nat.mul_comm]; exact Nat.div_add_mod i k
      have h5 := flat_at f k _ hlen (i / k) (by rw [List.length_map, List.length_range]; exact hq) (i % k) hr
      rw [hir, hu, List.getElem_map, List.getElem_range] at h5
      have h6 := (hT (i / k) hq).2.2 (i % k) hr
      rw [Addr.add_lit, Addr.add_lit, Nat.add_assoc, hir] at h6
      rw [h6, ← h5]

/-- .. the slice of an argument. -/
theorem Opn.arg {α : Type} {t : TypeId} {f : α → List Value} {ok : α → Nat → Prop} (X : Opn enc P W t α f ok) {v : Value} {d : DataW H} {p : List MemPlace} (h : DataW.Trod enc P W 0 (fun _ => true) true t v d p) : ∃ y : α, v.cells.toList = f y ∧ ok y (Rows.uptoBulk d) := by
  obtain ⟨fuel, hf⟩ := h
  exact X fuel _ _ hf

theorem opn_str {t : TypeId} (ht : P.underlying t = some .string) : Opn enc P W t ByteArray (fun s => [.string s]) (fun s b => s.size < b) := by
  intro n cs x h
  obtain ⟨s, h1, h2, _⟩ := DataW.trod_string ht h
  exact ⟨s, h1, by rw [h2]; rw [bulk_str]; omega⟩
theorem opn_i64 {t : TypeId} (ht : P.underlying t = some (.int .i64)) : Opn enc P W t Int (fun n => [.int .i64 n]) (fun n b => 0 < b ∧ -9223372036854775808 ≤ n ∧ n ≤ 9223372036854775807) := by
  intro n cs x h
  obtain ⟨s, h1, h2, h3⟩ := DataW.trod_int ht h
  exact ⟨s, h1, by rw [h2]; simp [Rows.uptoBulk], i64_wf h3⟩
theorem opn_bool {t : TypeId} (ht : P.underlying t = some .bool) : Opn enc P W t Bool (fun b => [.bool b]) (fun _ b => 0 < b) := by
  intro n cs x h
  obtain ⟨s, h1, h2⟩ := DataW.trod_bool ht h
  exact ⟨s, h1, by rw [h2]; simp [Rows.uptoBulk]⟩

theorem byteCells_len (x : ByteArray) : (byteCells x).length = x.size := by
  unfold byteCells; rw [List.length_map, Array.length_toList]; rfl

/-- Bytes: a slice of them. -/
theorem opn_bytes {t e : TypeId} (ht : P.underlying t = some (.slice e)) (hc : P.cellsOf e = 1) (he : P.underlying e = some (.int .u8)) :
    Opn enc P W t (Option Addr × Nat × ByteArray) (fun y => [.slice y.1 y.2.2.size y.2.1]) (fun y b => Sl W y.1 (byteCells y.2.2) ∧ y.2.2.size < b) := by
  have X : Opn enc P W e UInt8 (fun c => [.int .u8 (c.toNat : Int)]) (fun _ b => 0 < b) := by
    intro n cs x h
    obtain ⟨z, h1, h2, h3⟩ := DataW.trod_int he h
    have := int_wf h3 (show (0 : Int) = IntKind.u8.min by decide) (show IntKind.u8.max = (255 : Int) by decide)
    refine ⟨UInt8.ofNat z.toNat, ?_, by rw [h2]; simp [Rows.uptoBulk]⟩
    rw [h1]
    show [Value.int .u8 z] = [Value.int .u8 ((UInt8.ofNat z.toNat).toNat : Int)]
    rw [UInt8.toNat_ofNat', Nat.mod_eq_of_lt (by omega)]
    congr 2
    omega
  intro n cs x h
  obtain ⟨⟨a, c, l⟩, h1, h2, -, h4, -⟩ := opn_slice ht hc (by omega) (fun _ a b hab h => by omega) (fun _ => 0) (fun _ _ _ => Nat.zero_le _) X n cs x h
  have e1 : byteCells ⟨l.toArray⟩ = l.flatMap fun c => [Value.int .u8 (c.toNat : Int)] := by
    unfold byteCells
    rw [List.map_eq_flatMap]
  have e2 : (⟨l.toArray⟩ : ByteArray).size = l.length := by simp [ByteArray.size]
  refine ⟨(a, c, ⟨l.toArray⟩), ?_, ?_, ?_⟩
  · rw [h1]; simp only [e2]
  · show Sl W a (byteCells ⟨l.toArray⟩)
    rw [e1]; exact h2
  · show (⟨l.toArray⟩ : ByteArray).size < _
    rw [e2]; exact h4
end
end Go.Proofs.YtpcipdkoncmdcaaGreatDoor
namespace Go.Proofs.YtpcipdkoncmdcaaGreatDoor
open Go Go.ChangeShapes Go.WideShapes Go.ChangeAt Go.RowKit

section
variable {H : Type} {enc : TypeId × Value → H} {P : Program} {W : World}
theorem opn_f64 {t : TypeId} (ht : P.underlying t = some (.float .f64)) : Opn enc P W t Nat (fun n => [.float .f64 n]) (fun n b => 0 < b ∧ n < 2 ^ 64) := by
  intro n cs x h
  obtain ⟨z, h1, h2, h3⟩ := trod_float ht h
  exact ⟨z, h1, by rw [h2]; simp [Rows.uptoBulk], of_decide_eq_true (show decide (z < 2 ^ 64) = true from h3)⟩
theorem opn_u8 {t : TypeId} (ht : P.underlying t = some (.int .u8)) : Opn enc P W t Nat (fun n => [.int .u8 (n : Int)]) (fun n b => 0 < b ∧ n < 256) := by
  intro n cs x h
  obtain ⟨z, h1, h2, h3⟩ := DataW.trod_int ht h
  have := int_wf h3 (show (0 : Int) = IntKind.u8.min by decide) (show IntKind.u8.max = (255 : Int) by decide)
  refine ⟨z.toNat, ?_, by rw [h2]; simp [Rows.uptoBulk], by omega⟩
  rw [h1]; congr 2; omega
theorem list_ext_flat {α : Type} {f : α → List Value} {k : Nat} (hk0 : 0 < k) {cs : List Value} {l : List α} {n : Nat} (hn : l.length = n) (hc : cs.length = n * k) (hl : ∀ y ∈ l, (f y).length = k) (h : ∀ i (hi : i < l.length), (cs.drop (i * k)).take k = f l[i]) : cs = l.flatMap f := by
  apply List.ext_getElem?
  intro i
  by_cases hi : i < n * k
  · have hq : i / k < l.length := by rw [hn]; exact Nat.div_lt_of_lt_mul (by rw [Nat.mul_comm]; exact hi)
    have hr : i % k < k := Nat.mod_lt _ hk0
    have hir : i / k * k + i % k = i := by rw [Nat.mul_comm]; exact Nat.div_add_mod i k
    have h1 := flat_at f k l hl (i / k) hq (i % k) hr
    rw [hir] at h1
    rw [h1, ← h _ hq, List.getElem?_take, if_pos hr, List.getElem?_drop, hir]
  · rw [List.getElem?_eq_none (by omega), List.getElem?_eq_none (by rw [flat_len f k l hl, hn]; omega)]
/-- An array. -/
theorem opn_arr {α : Type} [Inhabited α] {t e : TypeId} {n k : Nat} (ht : P.underlying t = some (.array n e)) (hc : P.cellsOf e = k) (hC : P.cellsOf t = n * k) (hk0 : 0 < k) {f : α → List Value} {ok : α → Nat → Prop} (hmono : ∀ y a b, a ≤ b → ok y a → ok y b) (g : α → Nat) (hg : ∀ y b, ok y b → g y ≤ b)
    (X : Opn enc P W e α f ok) : Opn enc P W t (List α) (fun l => l.flatMap f) (fun l b => l.length = n ∧ (∀ z ∈ l, (f z).length = k) ∧ (l.map g).sum < b ∧ ∀ z ∈ l, ok z b) := by
  intro fuel cs x h
  obtain ⟨xs, m, -, hx, hcl, hl, hel⟩ := DataW.trod_array ht h
  rw [hC] at hcl
  rw [hc] at hel
  have each : ∀ i, i < n → ∃ y : α, (cs.drop (i * k)).take k = f y ∧ ok y (Rows.uptoBulk (xs.getD i (.nil, [])).1) ∧ (f y).length = k := by
    intro i hi
    have h1 := hel i hi
    have h2 : xs[i]? = some (xs.getD i (.nil, [])) := by rw [List.getD_eq_getElem?_getD, List.getElem?_eq_getElem (by omega)]; rfl
    rw [h2] at h1
    obtain ⟨y, hy, hok⟩ := X m _ _ h1
    refine ⟨y, hy, hok, ?_⟩
    rw [← hy, List.length_take, List.length_drop, hcl]
    have : (i + 1) * k ≤ n * k := Nat.mul_le_mul_right _ hi
    rw [Nat.add_mul, Nat.one_mul] at this
    omega
  obtain ⟨T, hT⟩ := Go.Deep.choose_lt each
  have hlen : ∀ z ∈ (List.range n).map T, (f z).length = k := fun z hz => by
    obtain ⟨i, hi, rfl⟩ := List.mem_map.1 hz
    exact (hT i (List.mem_range.1 hi)).2.2
  have hD : xs.map Prod.fst = (List.range n).map fun i => (xs.getD i (.nil, [])).1 := by
    apply List.ext_getElem?
    intro i
    by_cases hi : i < n
    · rw [List.getElem?_map, List.getElem?_map, List.getElem?_range hi, List.getElem?_eq_getElem (by omega)]
      simp [List.getD_eq_getElem?_getD, List.getElem?_eq_getElem (show i < xs.length by omega)]
    · rw [List.getElem?_eq_none (by simp; omega), List.getElem?_eq_none (by simp; omega)]
  have hd : Rows.uptoBulk x.1 = Rows.uptoBulkAll ((List.range n).map fun i => (xs.getD i (.nil, [])).1) + 1 := by rw [hx, ← hD]; simp only [Rows.uptoBulk]
  obtain ⟨k1, k2⟩ := bulk_all hmono (fun i => (xs.getD i (.nil, [])).1) T (List.range n) (fun i hi => (hT i (List.mem_range.1 hi)).2.1)
  have k3 := bulk_sum g (fun i => (xs.getD i (.nil, [])).1) T (List.range n) (fun i hi => hg _ _ (hT i (List.mem_range.1 hi)).2.1)
  refine ⟨(List.range n).map T, ?_, by simp, hlen, by omega, fun z hz => hmono _ _ _ (by omega) (k2 z hz)⟩
  refine list_ext_flat hk0 (by simp) hcl hlen (fun i hi => ?_)
  rw [List.getElem_map, List.getElem_range]
  exact (hT i (by simpa using hi)).1
end
end Go.Proofs.YtpcipdkoncmdcaaGreatDoor
