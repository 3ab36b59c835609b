/- Texts of mine, joined: A pack beside its file system: the file system's own calls; the benches' first question: the walk. | What the rows of this seat share: the tables in the witness's world, the bulk's bound. | Slices of one-cell elements that came in, opened: of words and of whole numbers. -/
import Derived.Test.YtfoamcobpfflbaaDoorCards
import Derived.Test.YtfoamcobpfflbaaDoorTie
import Derived.ProofKit
import Derived.OpenShut
import Derived.Deep.DeepHandedRow
import Derived.Lib.LaidTab
import Derived.Lib.LaidU8
import Derived.Deep.Slices
import Derived.Test.YtfoamcobpfflbaaDoorZ34
namespace Go.Proofs.YtfoamcobpfflbaaDoor
open Go Go.RowKit Go.Maps
open VfsS (St)

/-- A whole block loaded under a guard that lets it. -/
theorem wp_loadBg {P : Program} {ops : Array Oper} {rest : List Oper} {op : Oper} {a : Act} {w : World} {Q : Exit → Act → World → Prop} (hw : Region.wanted op (yielded ops a.tmps) = true) (ty : TypeId) (x : Operand) (ho : op.op = .load ty x) (b : Nat) (hx : a.eval x = .pointer (some ⟨b, 0, none⟩)) {cs : Array Value} {e : TypeId} {fr : Nat × Nat} (hb : w.heap[b]? = some (.cells cs e fr)) (d : TypeDesc)
    (hu : P.underlying ty = some d) (hd : d.isRow = true) (hi : (P.info? ty).map (·.size) = some cs.toList.length) (h : wpList P ops Q rest (a.put op.dst (.agg cs)) w) : wpList P ops Q (op :: rest) a w :=
  wpList_step fun K hK => by
    rw [if_pos hw]
    have hl := run_loadVar_mid (P := P) w b 0 ty cs.toList d (fun j v hj => by
      rw [Nat.zero_add]; simp only [World.cell?, hb]; rw [← Array.getElem?_toList]; exact hj) hu hd hi
    have : (execOp a.eval op).run P w = .ok (.value (.agg cs)) w := by
      unfold execOp
      simp only [ho, hx, Instr.loadAt, Instr.sureAddr, Sem.run_bind, Sem.run_pure, Result.andThen_ok, hl]
    unfold Oper.wp
    rw [this]
    exact hK _ _ h

section
variable {E : Nat → Prop} {w0 w : World} {p q N M : Nat} {S : St} {P : PackS.Pk}
theorem pflush_p (h : PW E w0 w p q S P N M) (hM : M + 2 ≤ 100000000) : Calls Tryd.prog 19 #[.pointer (some ⟨p, 0, none⟩)] w fun e w' => e = .returned (.int .i64 (VfsS.flushAllS S).2) ∧ PW E w0 w' p q (VfsS.flushAllS S).1 P N (M + 2) ∧ ∀ k, E k → w'.heap[k]? = w.heap[k]? := by
  obtain ⟨⟨K, h1, h2, h3⟩, hb⟩ := h
  refine (flush_e h2 hM).mono ?_
  rintro e w' ⟨rfl, r2, r3⟩
  exact ⟨rfl, PW.fs h1 h3 hb r2 r3⟩
theorem pcrash_p (h : PW E w0 w p q S P N M) (x y : Int) : Calls Tryd.prog 25 #[.pointer (some ⟨p, 0, none⟩), .int .i64 x, .int .i64 y] w fun e w' => e = .returned (.tuple #[]) ∧ PW E w0 w' p q (VfsS.crashS S x y) P N M ∧ ∀ k, E k → w'.heap[k]? = w.heap[k]? := by
  obtain ⟨⟨K, h1, h2, h3⟩, hb⟩ := h
  refine (crash_e h2 x y).mono ?_
  rintro e w' ⟨rfl, r2, r3⟩
  exact ⟨rfl, PW.fs h1 h3 hb r2 r3⟩
theorem pused_p (h : PW E w0 w p q S P N M) : Calls Tryd.prog 42 #[.pointer (some ⟨p, 0, none⟩)] w fun e w' => e = .returned (.int .i64 (VfsS.used S : Nat)) ∧ PW E w0 w' p q S P N M ∧ ∀ k, E k → w'.heap[k]? = w.heap[k]? := by
  obtain ⟨⟨K, h1, h2, h3⟩, hb⟩ := h
  refine (used_e h2).mono ?_
  rintro e w' ⟨rfl, r2, r3⟩
  exact ⟨rfl, PW.fs h1 h3 hb r2 r3⟩
theorem psize_p (h : PW E w0 w p q S P N M) : Calls Tryd.prog 36 #[.pointer (some ⟨q, 0, none⟩)] w fun e w' => e = .returned (.int .i64 P.size) ∧ w' = w := by
  obtain ⟨K, h1⟩ := h.pk
  exact psize_c h1
theorem pname_p (h : PW E w0 w p q S P N M) : Calls Tryd.prog 57 #[.pointer (some ⟨q, 0, none⟩)] w fun e w' => e = .returned (.string P.name) ∧ w' = w := by
  obtain ⟨K, h1⟩ := h.pk
  exact pname_c h1
theorem pids_p (h : PW E w0 w p q S P N M) : Calls Tryd.prog 41 #[.pointer (some ⟨q, 0, none⟩)] w fun e w' => ∃ a c, e = .returned (.slice a P.order.length c) ∧ OwnG w' 47 32 (.slice a P.order.length c) P.order.length (irow P.order) ∧ PW E w0 w' p q S P N M ∧ Below w.heap.size w w' := by
  obtain ⟨K, h1⟩ := h.pk
  refine (ids_c h1).mono ?_
  rintro e w' ⟨a, c, rfl, ho, hb⟩
  exact ⟨a, c, rfl, ho, (h.reads hb).1, hb⟩
end

theorem slE_new {E : Nat → Prop} {w0 w : World} (cs : List Value) (e : TypeId) (f : Nat × Nat) (hE : E w.heap.size) : SlE E w0 (w.alloc (.cells cs.toArray e f)) (some ⟨w.heap.size, 0, none⟩) cs :=
  .inr ⟨_, _, rfl, .inr hE, fun i u hu => by
    rw [Nat.zero_add]
    simp only [World.cell?]
    rw [show (w.alloc (.cells cs.toArray e f)).heap[w.heap.size]? = some (.cells cs.toArray e f) from Array.getElem?_push_size]
    simpa using hu⟩
theorem SlE.below' {E : Nat → Prop} {w0 w w' : World} {a : Option Addr} {xs : List Value} (h : SlE E w0 w a xs) (h1 : Below w0.heap.size w0 w) (hb : Below w.heap.size w w') (hE : ∀ k, E k → k < w.heap.size) : SlE E w0 w' a xs :=
  h.keep h1 (h1.trans (hb.mono h1.size)) fun k hk => hb.block k (hE k hk)

set_option maxRecDepth 100000 in
set_option maxHeartbeats 4000000 in
theorem awake15_c (w : World) (hg : Gl w) : Calls Tryd.prog 13 #[] w fun e w' => e = .returned (.bool true) ∧ Below w.heap.size w w' := by
  have kc := fun (w : World) (C : Array Value) (n c : Nat) => Lib.run_convert_bytes_const (P := Tryd.prog) w 43 5 C n c Tryd.underlying43 Tryd.underlying5
  go_enter Tryd.func13, Tryd.ntmps13
  go_upto_region 3 with fail
  refine (new_a 1000 w hg).mono ?_
  rintro e w1 (⟨h, _⟩ | ⟨-, p, rfl, h1⟩)
  · omega
  go_wp2_with fail
  refine (pcreate_p h1.toE PackT.nm (by decide) (by omega)).mono ?_
  rw [PackT.t1]
  rintro e w2 ⟨-, h | ⟨-, q, rfl, h2⟩⟩
  · exact absurd rfl h.1
  go_wp2_with fail
  refine (pflush_p h2 (by omega)).mono ?_
  rw [PackT.t2]
  rintro e w3 ⟨rfl, h3, -⟩
  clear h1 h2
  go_wp2_with fail
  have hAl := h3.below (below_alloc w3 (.cells #[.int .u8 97, .int .u8 98, .int .u8 99] 5 (3, 4)))
  refine (padd_p hAl (a := some ⟨w3.heap.size, 0, none⟩) (c := 3) (l := PackT.A) (slE_new (nb PackT.A) 5 (3, 4) (.inr ⟨Nat.le_refl _, by simp⟩)) (by decide) (by decide) (by omega) (by omega)).mono ?_
  unfold AddP
  rw [PackT.add1]
  rintro e w4 ⟨rfl, h4, -⟩
  have hI : (w4.alloc (.cells #[Value.int .u8 0, Value.int .u8 0, Value.int .u8 0, Value.int .u8 0, Value.int .u8 0, Value.int .u8 0, Value.int .u8 0, Value.int .u8 0, Value.int .u8 0, Value.int .u8 0, Value.int .u8 0, Value.int .u8 0, Value.int .u8 0, Value.int .u8 0, Value.int .u8 0, Value.int .u8 0, Value.int .u8 0, Value.int .u8 0, Value.int .u8 0, Value.int .u8 0, Value.int .u8 0, Value.int .u8 0, Value.int .u8 0, Value.int .u8 0, Value.int .u8 0, Value.int .u8 0, Value.int .u8 0, Value.int .u8 0, Value.int .u8 0, Value.int .u8 0, Value.int .u8 0, Value.int .u8 0] 47)).heap[w4.heap.size]? = some (.cells #[Value.int .u8 0, Value.int .u8 0, Value.int .u8 0, Value.int .u8 0, Value.int .u8 0, Value.int .u8 0, Value.int .u8 0, Value.int .u8 0, Value.int .u8 0, Value.int .u8 0, Value.int .u8 0, Value.int .u8 0, Value.int .u8 0, Value.int .u8 0, Value.int .u8 0, Value.int .u8 0, Value.int .u8 0, Value.int .u8 0, Value.int .u8 0, Value.int .u8 0, Value.int .u8 0, Value.int .u8 0, Value.int .u8 0, Value.int .u8 0, Value.int .u8 0, Value.int .u8 0, Value.int .u8 0, Value.int .u8 0, Value.int .u8 0, Value.int .u8 0, Value.int .u8 0, Value.int .u8 0] 47 (0, 0)) := Array.getElem?_push_size
  have hx := okId_sum PackT.A
  generalize hx0 : Sha.sum PackT.A = x at *
  clear h3 hAl
  go_upto_region 8 with (first
    | (refine wp_storeB rfl 47 _ _ rfl w4.heap.size (nums .u8 x) rfl rfl hI (by rw [nums_size, hx.1]; rfl) (by rw [nums_size, hx.1]; kernel_rfl) (nums_one _ _) ?_; intro w5 h5 g5))
  have h5E := ((h4.below (below_alloc w4 (.cells #[Value.int .u8 0, Value.int .u8 0, Value.int .u8 0, Value.int .u8 0, Value.int .u8 0, Value.int .u8 0, Value.int .u8 0, Value.int .u8 0, Value.int .u8 0, Value.int .u8 0, Value.int .u8 0, Value.int .u8 0, Value.int .u8 0, Value.int .u8 0, Value.int .u8 0, Value.int .u8 0, Value.int .u8 0, Value.int .u8 0, Value.int .u8 0, Value.int .u8 0, Value.int .u8 0, Value.int .u8 0, Value.int .u8 0, Value.int .u8 0, Value.int .u8 0, Value.int .u8 0, Value.int .u8 0, Value.int .u8 0, Value.int .u8 0, Value.int .u8 0, Value.int .u8 0, Value.int .u8 0] 47))).grown g5 (.inr ⟨Nat.le_refl _, by simp⟩)).sub (E' := fun k => k = w4.heap.size) (fun k hk => .inr ⟨by omega, by simp; omega⟩)
  generalize w4.heap.size = b5 at *
  clear h4 hI g5
  go_upto_region 10 with (first
    | (go_at_call 23; refine (psync_p h5E (by omega)).mono ?_; rw [PackT.name_PA, PackT.syn, PackT.fA_size]; rintro e w6 ⟨rfl, h6, hs6⟩))
  have h56 := (hs6 b5 rfl).trans h5
  clear h5 h5E hs6
  go_wp2_with fail
  have hAl := h6.below (below_alloc w6 (.cells #[.int .u8 120, .int .u8 121, .int .u8 122] 5 (3, 4)))
  refine (padd_p hAl (a := some ⟨w6.heap.size, 0, none⟩) (c := 3) (l := PackT.X) (slE_new (nb PackT.X) 5 (3, 4) (.inr ⟨Nat.le_refl _, by simp⟩)) (by decide) (by decide) (by omega) (by omega)).mono ?_
  unfold AddP
  obtain ⟨t, k2, ha2, ht⟩ := PackT.add2
  rw [ha2]
  rintro e w7 ⟨rfl, h7, hs7⟩
  have h57 := (hs7 b5 (.inl rfl)).trans (((below_alloc w6 (.cells #[.int .u8 120, .int .u8 121, .int .u8 122] 5 (3, 4))).block b5 (h6.lt rfl)).trans h56)
  have h7 := h7.sub (E' := fun k => k = b5) (fun k hk => .inl hk)
  clear h6 hAl hs7 h56
  obtain ⟨t', d', hcr, hrt⟩ := PackT.crash_t (k := k2) ht
  obtain ⟨d9, k9, hop⟩ := PackT.open_A (d := d') (k := k2) hrt
  go_wp2_with fail
  refine (pcrash_p h7 0 5).mono ?_
  rw [hcr]
  rintro e w8 ⟨rfl, h8, hs8⟩
  have h58 := (hs8 b5 rfl).trans h57
  clear h7 hs8 h57
  go_wp2_with fail
  refine (popen_p h8.ve PackT.nm (by decide) (by omega)).mono ?_
  unfold OpenP
  rw [hop]
  rintro e w9 ⟨hs9, h | ⟨P9, q9, hP9, -, rfl, h9⟩⟩
  · exact absurd h.1 (by simp)
  injection hP9 with hP9
  subst hP9
  have h59 := (hs9 b5 rfl).trans h58
  clear h8 hs9 h58
  go_upto_region 15 with fail
  have hget : PackS.get PackT.PA (PackT.F PackT.fA d9 k9) x = (PackT.A, 0) := by rw [← hx0]; exact PackT.get_PA
  have hhas : PackS.has PackT.PA x = true := by rw [← hx0]; exact PackT.has_PA
  have hord : PackT.PA.order = [x] := by rw [← hx0]; exact PackT.order_PA
  go_upto_region 16 with (first
    | (refine wp_loadB rfl 47 _ rfl b5 rfl h59 _ id_under rfl (idSz _ hx) ?_)
    | (go_at_call 31; refine (pget_p h9 hx).mono ?_; rw [hget]; rintro e wA ⟨ga, gc, rfl, hnA, hA, hbA⟩))
  have h5A := (hbA.block b5 (h9.lt rfl)).trans h59
  obtain ⟨a5, c5, e5, -, -, hs5⟩ := hnA.r.form
  injection e5 with e5 _ e6
  subst e5 e6
  have hc1 := run_str_of (P := Tryd.prog) Tryd.underlying43 Tryd.underlying5 Tryd.underlying9 (b := ⟨#[97, 98, 99]⟩) hs5 gc
  have hc1 : (convert 43 9 (.slice ga 3 gc)).run Tryd.prog wA = .ok (.string ⟨#[97, 98, 99]⟩) wA := hc1
  have hout := hA.out
  have HOUT := Lib.hid hA.out
  clear h9 h59 hbA hnA hs5 hout
  go_wp2_with (first
    | (go_at_call 36; refine (psize_p hA).mono ?_; rw [PackT.size_PA]; rintro e wB ⟨rfl, rfl⟩)
    | (go_at_call 41; refine (pids_p hA).mono ?_; rw [hord]; rintro e wC ⟨ia, ic, rfl, -, hC, hbC⟩; have h5C := (hbC.block b5 (hA.lt rfl)).trans h5A)
    | (refine wp_loadBg rfl 47 _ rfl b5 rfl h5C _ id_under rfl (idSz _ hx) ?_)
    | (go_at_call 56; refine (phas_p hC hx).mono ?_; rw [hhas]; rintro e wD ⟨rfl, hD, -⟩)
    | (go_at_call 57; refine (pname_p hD).mono ?_; rw [PackT.name_PA]; rintro e wE ⟨rfl, rfl⟩))
  go_ret
  exact ⟨rfl, hD.out⟩
end Go.Proofs.YtfoamcobpfflbaaDoor
namespace Go.Proofs.YtfoamcobpfflbaaDoor

theorem gl_of_shaped {W : World} (h : W.ShapedOpen Tryd.prog) : Gl W := by
  obtain ⟨m, hm⟩ := Tryd.laysM146.s1_3 W h
  have hm : W.cell? ⟨0, 0, none⟩ = some (.int .i64 m) := hm
  exact ⟨⟨m, hm⟩, World.block_lt_of_cell? W _ hm⟩

open Go.ChangeShapes Go.WideShapes Go.ChangeAt Go.RowKit

/-- The cells of the two listed tables. -/
def acceptCells : Array Value := (List.flatten ((List.range 16).map fun i => [Value.int .u8 (Lib.accLo i : Int), Value.int .u8 (Lib.accHi i : Int)])).toArray
def firstCells : Array Value := ((List.range 256).map fun c => Value.int .u8 (Lib.firstT c : Int)).toArray

def lay1 (n : Nat) (cs : Array Value) (w : World) : World :=
  { w with heap := w.heap.modify n fun
      | .cells _ t frozen => .cells cs t frozen
      | o => o }

noncomputable def laidWorld (os : Os) : World := lay1 2 acceptCells (lay1 1 firstCells (World.holding Tryd.prog os ⟨#[], #[], []⟩))
theorem laid_met (os : Os) (args : Array Value) : laidMet Tryd.prog Rows.vfsRenameUptoRow.laid ((laidWorld os).forCall (fun _ _ => 0) ⟨#[], args, []⟩).memory :=
  laidMet_of_run' 300 (by kernel_rfl) (by kernel_rfl)


/-- Arguments read behind the call as they read before it. -/
theorem trodAll_below {H : Type} {enc : TypeId × Value → H} {P : Program} (hl : laidOutB P = true) {W W' : World} (hb : Below W.heap.size W W') : ∀ (ts : List TypeId) (vs : List Value) (ds : List (DataW H)) (ps : List MemPlace),
    (∀ t ∈ ts, P.readableRec t = true ∧ t < P.types.size) → DataW.TrodAll enc P W 0 (fun _ => true) true ts vs ds ps → (∀ x ∈ ps, x.block < W.heap.size) → DataW.TrodAll enc P W' 0 (fun b => decide (b < W.heap.size)) true ts vs ds ps
  | [], vs, ds, ps, _, h, _ => by obtain ⟨rfl, rfl, rfl⟩ := trodAll_nil h; exact trodAll_mk0
  | t :: ts, vs, ds, ps, ht, h, hlt => by
    obtain ⟨v, vs', d, ds', p, q, rfl, rfl, rfl, h1, h2⟩ := trodAll_cons h
    obtain ⟨hr, hrow⟩ := ht t (by simp)
    exact trodAll_cons_mk (hb.trod hl hr hrow h1 fun x hx => hlt x (by simp [hx])) (trodAll_below hl hb ts vs' ds' q (fun t' h' => ht t' (by simp [h'])) h2 fun x hx => hlt x (by simp [hx]))

theorem trodAll_length {H : Type} {enc : TypeId × Value → H} {P : Program} {W : World} {base : Nat} {sp : Nat → Bool} {hd : Bool} : ∀ (ts : List TypeId) (vs : List Value) (ds : List (DataW H)) (ps : List MemPlace), DataW.TrodAll enc P W base sp hd ts vs ds ps → ds.length = ts.length
  | [], vs, ds, ps, h => by obtain ⟨rfl, rfl, rfl⟩ := trodAll_nil h; rfl
  | t :: ts, vs, ds, ps, h => by
    obtain ⟨v, vs', d, ds', p, q, rfl, rfl, rfl, h1, h2⟩ := trodAll_cons h
    simp [trodAll_length ts vs' ds' q h2]

set_option maxRecDepth 100000 in
/-- A law's row: from what the call comes to. -/
theorem law_lifted {f : FuncId} {fn : Func} {spec : ChangeSpec} {laid : List (String × DataW Unit)} {os : Os} {H : Type} {enc : TypeId × Value → H} {F : Stop.Interp} (started : os.Started)
    (hfn : Tryd.prog.funcs[f]? = some fn) (noInit : Tryd.prog.inits.idxOf? f = none) (hr : fn.resultTypes = #[4]) (hv : spec.vars = [])
    (hspec : ∀ ds : List (DataW H), ds.length = fn.params.toList.length → spec.fn H ds = { results := [.lit (.bool true)], args := ds })
    (hlay : laidOutB Tryd.prog = true) (hread : ∀ t ∈ fn.params.toList, Tryd.prog.readableRec t = true ∧ t < Tryd.prog.types.size)
    (witness : ∃ (w : World) (tape : Tape) (i : Input), w.os = os ∧ (w.forCall tape i).Shaped Tryd.checked.prog ∧ i.vars = [] ∧ Input.okWide Tryd.checked.prog (w.forCall tape i) .any w.heap.size f i ∧
      (Rows.OpenSpec.upto spec).preRow enc Tryd.checked.prog fn [] false laid (w.forCall tape i).memory i.args ∧ ({} : Assume).holds Tryd.checked.prog (lone (Frame.enter Tryd.checked.prog f i.args .normal) [] (w.forCall tape i)))
    (contract : ∀ (W : World) (base : Nat) (args : Array Value) (ds : List (DataW H)) (p : List MemPlace),
      (∀ (j : Nat) t v, fn.params[j]? = some t → args[j]? = some v → Value.okWide Tryd.prog W .any base t v) →
      DataW.TrodAll enc Tryd.prog W 0 (fun _ => true) true fn.params.toList args.toList ds p → Rows.uptoSmall H ds = true → laidMetH Tryd.prog laid W → W.ShapedOpen Tryd.prog →
      Calls Tryd.prog f args W fun e W' => e = .returned (.bool true) ∧ Below W.heap.size W W') :
    ReturnsInHanded {} Tryd.checked os f .any ((Rows.OpenSpec.upto spec).preRow enc Tryd.prog fn [] false laid) (((Rows.OpenSpec.upto spec).at F).post enc Tryd.prog fn false true false false) := by
  refine returnsInHanded_of_row (C := Tryd.checked) (s := Rows.OpenSpec.upto spec) (by kernel_rfl) started noInit hfn witness ?_
  intro W base args ds gs before hval hW _ hcond _ hL hshape _
  have hW' := hW
  obtain ⟨p, q, hA, hV, rfl, hfz, hnd⟩ := hW
  have hA : DataW.TrodAll enc Tryd.prog W 0 (fun _ => true) true fn.params.toList args.toList ds p := hA
  have hV : DataW.TrodVars enc Tryd.checked.prog W (fun x => true) spec.vars gs q := hV
  rw [hv] at hV
  obtain ⟨rfl, rfl⟩ := trodVars_none hV
  have hk := hcond _ rfl
  rw [List.append_nil] at hk
  refine (contract W base args ds p hval hA hk hL hshape).mono fun e W' ⟨he, hb⟩ => ?_
  subst he
  have hlt : ∀ x ∈ p, x.block < W.heap.size := fun x hx => hW'.lt x (by simpa using hx)
  have e1 : spec.fn H (ds ++ []) = { results := [.lit (.bool true)], args := ds } := by rw [List.append_nil]; exact hspec ds (trodAll_length _ _ _ _ hA)
  refine ⟨_, rfl, ds, [], p ++ [], [], p, [], hW', ?_, ?_, ?_, hb.frame _, fun h => by cases h⟩
  · show DataW.TrodAll enc Tryd.prog W' _ _ _ fn.resultTypes.toList _ (spec.fn H (ds ++ [])).results []
    rw [e1, hr]
    exact trodAll_cons_mk (shut_bool Tryd.underlying4 _) trodAll_mk0
  · show DataW.TrodAll enc Tryd.prog W' _ _ _ fn.params.toList _ (spec.fn H (ds ++ [])).args p
    rw [e1]
    exact trodAll_below hlay hb _ _ _ _ hread hA hlt
  · show DataW.TrodVars enc Tryd.prog W' _ spec.vars (spec.fn H (ds ++ [])).vars []
    rw [e1, hv]
    rfl

theorem bulk_one {H : Type} (d : DataW H) : 1 ≤ Rows.uptoBulk d := by
  cases d with
  | lit l => cases l <;> simp [Rows.uptoBulk]
  | nil => simp [Rows.uptoBulk]
  | ptr d => simp [Rows.uptoBulk]
  | slice elems spare => simp [Rows.uptoBulk]
  | agg parts => simp [Rows.uptoBulk]
  | iface t d => simp [Rows.uptoBulk]
  | map entries => simp [Rows.uptoBulk]
  | held h => simp [Rows.uptoBulk]

theorem bulk_part {H : Type} {d : DataW H} {l : List (DataW H)} (h : d ∈ l) : Rows.uptoBulk d ≤ Rows.uptoBulkAll l := by
  induction l with
  | nil => cases h
  | cons x r ih =>
    simp only [Rows.uptoBulkAll]
    cases List.mem_cons.1 h with
    | inl e => subst e; omega
    | inr e => have := ih e; omega

theorem bulk_length {H : Type} (l : List (DataW H)) : l.length ≤ Rows.uptoBulkAll l := by
  induction l with
  | nil => simp [Rows.uptoBulkAll]
  | cons x r ih => have := bulk_one x; simp only [Rows.uptoBulkAll, List.length_cons]; omega

theorem bulk_str {H : Type} (s : ByteArray) : Rows.uptoBulk (DataW.lit (H := H) (.string s.data.toList)) = s.size + 1 := by
  rw [Lib.size_eq]; simp only [Rows.uptoBulk]

theorem bulk_bound {H : Type} {l : List (DataW H)} (hk : Rows.uptoSmall H l = true) : Rows.uptoBulkAll l ≤ 1048576 := of_decide_eq_true hk

theorem bulk_mem {H : Type} {d : DataW H} {l : List (DataW H)} (hk : Rows.uptoSmall H l = true) (h : d ∈ l) : Rows.uptoBulk d ≤ 1048576 := Nat.le_trans (bulk_part h) (bulk_bound hk)

set_option maxRecDepth 100000 in
open Go.ChangeMaps (open_string) in
/-- A slice of texts that came in. -/
theorem open_strs {H : Type} {enc : TypeId × Value → H} {W : World} {base : Nat} {v : Value} {d : DataW H} {p : List MemPlace} (hv : Value.okWide Tryd.prog W .any base 42 v)
    (h : DataW.Trod enc Tryd.prog W 0 (fun _ => true) true 42 v d p) (hk : Rows.uptoBulk d ≤ 1048576) :
    ∃ (a : Option Addr) (c : Nat) (ss : List ByteArray), v = .slice a ss.length c ∧ ss.length ≤ c ∧ ss.length + (ss.map fun b => b.size + 1).sum ≤ 4194304 ∧ (∀ s ∈ ss, s.size ≤ 1048576) ∧ Sl W a (ss.map Value.string) := by
  obtain ⟨a0, len, cap, rfl⟩ := okWide_slice Tryd.underlying42 hv
  obtain ⟨fuel, hf⟩ := h
  rcases open_strings Tryd.underlying42 Tryd.underlying9 (by kernel_rfl) hf with ⟨hcs, hx⟩ | ⟨a, len', cap', ss, hcs, _, hl, hm, hz, hx, hcell, hws⟩
  · simp [Value.cells] at hcs
    obtain ⟨rfl, rfl, rfl⟩ := hcs
    exact ⟨none, 0, [], rfl, by simp, by simp, by simp, .nil _ _⟩
  · simp [Value.cells] at hcs
    obtain ⟨rfl, rfl, rfl⟩ := hcs
    simp at hz
    have hd : d = .slice (strs (ss.take len)) (strs (ss.drop len)) := congrArg Prod.fst hx
    subst hd
    simp only [Rows.uptoBulk] at hk
    have hlt : (ss.take len).length = len := by rw [List.length_take]; omega
    have hall : ∀ (l : List ByteArray) (s : ByteArray), s ∈ l → s.size + 1 ≤ Rows.uptoBulkAll (strs (H := H) l) := by
      intro l s hs
      have : (DataW.lit (H := H) (.string s.data.toList)) ∈ strs (H := H) l := by
        unfold strs; exact List.mem_map.2 ⟨s, hs, rfl⟩
      have := bulk_part this
      rw [bulk_str] at this
      exact this
    have hlen := bulk_length (strs (H := H) (ss.take len))
    have hsl : (strs (H := H) (ss.take len)).length = len := by unfold strs; rw [List.length_map, hlt]
    have hsum : ∀ l : List ByteArray, (l.map fun b => b.size + 1).sum = Rows.uptoBulkAll (strs (H := H) l) := by
      intro l
      induction l with
      | nil => rfl
      | cons x l ih =>
        have e : strs (H := H) (x :: l) = .lit (.string x.data.toList) :: strs l := rfl
        rw [e, Rows.uptoBulkAll, bulk_str, ← ih]; simp
    have hs2 := hsum (ss.take len)
    refine ⟨some a, cap, ss.take len, by rw [hlt], by rw [hlt]; omega, by rw [hlt, hs2]; omega, fun s hs => by have := hall _ s hs; omega, ?_⟩
    by_cases h0 : len = 0
    · subst h0; simp [Sl]
    · have h1 := hcell 0 (by omega)
      have hsp : a.spot = none := cell_spot (b := a.block) (o := a.off) (by simpa [Addr.add] using h1)
      obtain ⟨b, o, sp⟩ := a
      simp at hsp
      subst hsp
      refine .inr ⟨b, o, rfl, World.block_lt_of_cell? W _ h1, fun i u hu => ?_⟩
      have hi : i < len := by
        have := (List.getElem?_eq_some_iff.1 hu).1
        rw [List.length_map, hlt] at this; exact this
      have h2 := hcell i (by omega)
      rw [Addr.add_lit] at h2
      rw [h2]
      rw [List.getElem?_map, List.getElem?_take, if_pos hi] at hu
      rw [List.getD_eq_getElem?_getD]
      rw [List.getElem?_eq_getElem (by omega)] at hu ⊢
      simpa using hu
end Go.Proofs.YtfoamcobpfflbaaDoor
namespace Go.Proofs.YtfoamcobpfflbaaDoor
open Go Go.ChangeShapes Go.WideShapes Go.ChangeAt Go.RowKit

theorem trod_float {P : Program} {H : Type} {enc : TypeId × Value → H} {w : World} {base : Nat} {spare : Nat → Bool} {held : Bool} {fuel : Nat} {t : TypeId} {cs : List Value} {x : DataW H × List MemPlace} {k : FloatKind}
    (ht : P.underlying t = some (.float k)) (h : DataW.trod enc P w base spare held fuel t cs = some x) : ∃ n, cs = [.float k n] ∧ x = (.lit (.float k n), []) ∧ (Lit.float k n).wf = true := by
  cases fuel with
  | zero => simp [DataW.trod] at h
  | succ n =>
    unfold DataW.trod at h
    rw [ht] at h
    split at h <;> simp_all

theorem int_wf {k : IntKind} {n a b : Int} (h : (Lit.int k n).wf = true) (ha : a = k.min) (hb : k.max = b) : a ≤ n ∧ n ≤ b := by
  simp only [Lit.wf, Bool.and_eq_true, decide_eq_true_eq] at h
  omega

/-- A slice of one-cell elements that came in, each of which is opened by X. -/
theorem open_row {α : Type} [Inhabited α] (P : Program) {H : Type} {enc : TypeId × Value → H} {W : World} {base : Nat} {v : Value} {d : DataW H} {p : List MemPlace} {t e : TypeId} (ht : P.underlying t = some (.slice e)) (hc : P.cellsOf e = 1) (f : α → Value) (ok : α → Prop)
    (X : ∀ (n : Nat) (u : Value) (x : DataW H × List MemPlace), DataW.trod enc P W 0 (fun _ => true) true n e [u] = some x → ∃ y, u = f y ∧ ok y)
    (hv : Value.okWide P W .any base t v) (h : DataW.Trod enc P W 0 (fun _ => true) true t v d p) (hk : Rows.uptoBulk d ≤ 1048576) :
    ∃ (a : Option Addr) (c : Nat) (xs : List α), v = .slice a xs.length c ∧ xs.length ≤ 1048576 ∧ (∀ y ∈ xs, ok y) ∧ Sl W a (xs.map f) := by
  obtain ⟨a0, len, cap, rfl⟩ := okWide_slice ht hv
  obtain ⟨fuel, hf⟩ := h
  rcases Go.Deep.open_slice1 ht hc hf with ⟨hcs, hx⟩ | ⟨a, len', cap', m, n, V, D, Pl, hcs, _, hl, hm, hmm, hx, hcell⟩
  · simp [Value.cells] at hcs
    obtain ⟨rfl, rfl, rfl⟩ := hcs
    exact ⟨none, 0, [], rfl, by simp, by simp, .nil _ _⟩
  · simp [Value.cells] at hcs
    obtain ⟨rfl, rfl, rfl⟩ := hcs
    simp at hmm
    have each : ∀ i, i < len → ∃ y : α, V i = f y ∧ ok y := fun i hi => X n (V i) _ (hcell i (by omega)).2
    obtain ⟨T, hT⟩ := Go.Deep.choose_lt each
    have hd : d = .slice ((List.range len).map D) ((List.range (m - len)).map fun j => D (len + j)) := congrArg Prod.fst hx
    rw [hd] at hk
    simp only [Rows.uptoBulk] at hk
    have hlen := bulk_length ((List.range len).map D)
    rw [List.length_map, List.length_range] at hlen
    refine ⟨some a, cap, (List.range len).map T, by simp, by simp; omega, fun y hy => ?_, ?_⟩
    · obtain ⟨i, hi, rfl⟩ := List.mem_map.1 hy
      exact (hT i (List.mem_range.1 hi)).2
    · by_cases h0 : len = 0
      · subst h0; exact .inl rfl
      · have h1 := (hcell 0 (by omega)).1
        have hsp : a.spot = none := cell_spot (b := a.block) (o := a.off) (by simpa [Addr.add] using h1)
        obtain ⟨b, o, sp⟩ := a
        simp at hsp
        subst hsp
        refine .inr ⟨b, o, rfl, World.block_lt_of_cell? W _ h1, fun i u hu => ?_⟩
        have hi : i < len := by
          have := (List.getElem?_eq_some_iff.1 hu).1
          simpa using this
        have h2 := (hcell i (by omega)).1
        rw [Addr.add_lit] at h2
        rw [h2, (hT i hi).1]
        rw [List.getElem?_map, List.getElem?_map, List.getElem?_range hi] at hu
        exact hu
end Go.Proofs.YtfoamcobpfflbaaDoor
