/- The law VfsStops answers true for all arguments of bulk at most 1048576: the row's statement and its card. Conditions: the row's own (laid tables as the card ties them; bulk). -/
import Derived.Test.YtfoamcobpfflbaaDoorZ13
namespace Go.Proofs.YtfoamcobpfflbaaDoor
open Go Go.RowKit Go.Maps
open VfsS (St cl clp So)

/-- The struct's variable lies in block b, beside the program's file system. -/
structure LV (w0 W : World) (p b : Nat) (S : St) (N : Nat) (cs : Array Value) (E : Nat → Prop) : Prop where
  v : VE E w0 W p S N
  r : RR E W cs (cl S) N
  o : So S
  e : E b
  h : W.heap[b]? = some (.cells cs 36 (0, 0))

section
variable {w0 W W' : World} {p b : Nat} {S : St} {N : Nat} {cs : Array Value} {E : Nat → Prop}

theorem LV.lt (h : LV w0 W p b S N cs E) : b < W.heap.size := (Array.getElem?_eq_some_iff.1 h.h).1
theorem LV.below (h : LV w0 W p b S N cs E) (hb : Below W.heap.size W W') : LV w0 W' p b S N cs (Kx E W.heap.size W'.heap.size) :=
  ⟨h.v.below hb, (h.r.below hb).sub fun _ hk _ => .inl hk, h.o, .inl h.e, (hb.block _ h.lt).trans h.h⟩
theorem LV.c (h : LV w0 W p b S N cs E) (j : Nat) {x : Value} (hx : cs[j]? = some x) : W.cell? ⟨b, j, none⟩ = some x := by rw [cell_of h.h]; exact hx
theorem LV.put {E' : Nat → Prop} {S' : St} {N' : Nat} {cs0 cs' : Array Value} (hv : VE E' w0 W p S' N') (hr : RR E' W cs' (cl S') N') (ho : So S') (he : E' b) (hb : W.heap[b]? = some (.cells cs0 36 (0, 0))) (h2 : W'.heap[b]? = some (.cells cs' 36 (0, 0))) (hg : W.grownBy W' (some b)) :
    LV w0 W' p b S' N' cs' E' :=
  ⟨hv.grown hg he, hr.other hb (by decide) hg, ho, he, h2⟩
theorem LV.rep (h : LV w0 W p b S N cs E) : ∃ K, VRep W p S K N := by obtain ⟨K, h1, _⟩ := h.v; exact ⟨K, h1⟩

variable {ops : Array Oper} {rest : List Oper} {op : Oper} {a : Act} {Q : Exit → Act → World → Prop}
theorem wp_loadFS {cs : Array Value} (hb : W.heap[b]? = some (.cells cs 36 (0, 0))) (hgd : op.guard = none) (x : Operand) (ho : op.op = .load 36 x) (hx : a.eval x = .pointer (some ⟨b, 0, none⟩)) (hsz : cs.size = 7)
    (K : wpList Tryd.prog ops Q rest (a.put op.dst (.agg cs)) W) : wpList Tryd.prog ops Q (op :: rest) a W :=
  wp_loadB hgd 36 x ho b hx hb _ Tryd.underlying36 rfl (by rw [Array.length_toList, hsz]; kernel_rfl) K
theorem wp_storeFS {cs : Array Value} (hb : W.heap[b]? = some (.cells cs 36 (0, 0))) (hgd : op.guard = none) (x y : Operand) (ho : op.op = .store 36 x y) (hx : a.eval x = .pointer (some ⟨b, 0, none⟩)) {new : Array Value} (hy : a.eval y = .agg new) (hsz : cs.size = 7) (hsn : new.size = 7) (h1 : new.all (·.oneCell') = true)
    (K : ∀ w' : World, w'.heap[b]? = some (.cells new 36 (0, 0)) → W.grownBy w' (some b) → wpList Tryd.prog ops Q rest (a.put op.dst undef) w') : wpList Tryd.prog ops Q (op :: rest) a W :=
  wp_storeB hgd 36 x y ho b new hx hy hb (by rw [hsz, hsn]) (by rw [hsn]; kernel_rfl) h1 fun w' h2 g => K w' h2 g
theorem wp_loadOp {o : OpD} (hb : W.heap[b]? = some (.cells (opCells o) 96 (0, 0))) (hgd : op.guard = none) (x : Operand) (ho : op.op = .load 96 x) (hx : a.eval x = .pointer (some ⟨b, 0, none⟩))
    (K : wpList Tryd.prog ops Q rest (a.put op.dst (.agg (opCells o))) W) : wpList Tryd.prog ops Q (op :: rest) a W :=
  wp_loadB hgd 96 x ho b hx hb _ Tryd.underlying96 rfl (by kernel_rfl) K
end

/-- The new struct, as cells. -/
def newC (n : Int) : Array Value := #[.slice none 0 0, .slice none 0 0, .slice none 0 0, .slice none 0 0, .int .i64 n, .int .i64 0, .int .i64 (-1)]

theorem rr_new (E : Nat → Prop) (w : World) (n : Nat) (hn : n ≤ 4194304) : RR E w (newC n) (VfsS.newS n) 0 :=
  ⟨none, none, none, none, 0, 0, 0, 0, rfl, { f := OwnG.nil _ _ _, n := OwnG.nil _ _ _, s := OwnG.nil _ _ _, a := OwnG.nil _ _ _, kf := (fun k hk => nomatch hk), kn := (fun k hk => nomatch hk), ks := (fun k hk => nomatch hk), ka := (fun k hk => nomatch hk), wf := VfsS.Wf.new hn, lf := Nat.le_refl _, ln := Nat.le_refl _, la := Nat.le_refl _, st := Nat.le_refl _, big := by omega, lim := by show (-1 : Int) ≤ -1; omega }⟩

/-- The state behind the first j calls. -/
def run (S : St) (os : List OpD) (j : Nat) : St := (os.take j).foldl (fun s o => (stepO s o).1) S
theorem run_zero (S : St) (os : List OpD) : run S os 0 = S := by unfold run; rw [List.take_zero]; rfl
theorem run_step (S : St) (os : List OpD) (j : Nat) (h : j < os.length) : run S os (j + 1) = (stepO (run S os j) os[j]).1 := by
  unfold run; rw [List.take_succ_eq_append_getElem h, List.foldl_append]; rfl

set_option maxRecDepth 100000 in
set_option maxHeartbeats 4000000 in
theorem lawPlays_c (sa : Option Addr) (sc : Nat) (os : List OpD) (room : Int) (w : World) (hg : Gl w) (hs : Sl w sa (opRow os)) (hl : os.length ≤ 1048576) (hok : ∀ o ∈ os, OpR w o 1048576) :
    Calls Tryd.prog 9 #[.int .i64 room, .slice sa os.length sc] w fun e w' => e = .returned (.bool true) ∧ Below w.heap.size w w' := by
  go_enter Tryd.func9, Tryd.ntmps9
  go_wp2_with fail
  refine (awake14_c w hg).mono ?_
  rintro e w0 ⟨rfl, hb0⟩
  have hg0 := hg.below hb0 (Nat.le_refl _)
  go_wp2_with fail
  refine (new_a room w0 hg0).mono ?_
  rintro e w1 (⟨hbad, rfl, rfl⟩ | ⟨hgood, p, rfl, H1⟩)
  · have hcode : Hid ((if room < 0 ∨ 4194304 < room then (1 : Int) else 0) = 1) := if_pos hbad
    have HW := rwrong_c room w1
    rw [hcode.out] at HW
    clear hcode hbad
    go_wp2_with (first | (go_at_call 15; refine HW.mono ?_; rintro e w' ⟨rfl, rfl⟩))
    go_ret
    exact ⟨rfl, hb0⟩
  obtain ⟨r, rfl⟩ : ∃ r : Nat, room = r := ⟨room.toNat, by omega⟩
  have hcode : Hid ((if (r : Int) < 0 ∨ 4194304 < (r : Int) then (1 : Int) else 0) = 0) := if_neg (by omega)
  have HW := rwrong_c r w1
  rw [hcode.out] at HW
  rw [Int.toNat_natCast] at H1
  have hr4 : r ≤ 4194304 := by omega
  clear hcode hgood
  go_upto_region 7 with (first | (go_at_call 15; refine HW.mono ?_; rintro e w' ⟨rfl, rfl⟩))
  have HN : Calls Tryd.prog 18 #[.int .i64 (r : Int)] w' fun e w'' => e = .returned (.agg (newC r)) ∧ Below w'.heap.size w' w'' := rnew_c r w'
  go_upto_region 8 with (first
    | (go_at_call 18; refine HN.mono ?_; rintro e w2 ⟨rfl, hb2⟩; have hB2 : (w2.alloc (.cells #[.slice none 0 0, .slice none 0 0, .slice none 0 0, .slice none 0 0, .int .i64 0, .int .i64 0, .int .i64 0] 36)).heap[w2.heap.size]? = some (.cells fs0 36 (0, 0)) := Array.getElem?_push_size)
    | (refine wp_storeFS hB2 rfl _ _ rfl rfl rfl rfl rfl (by simp [newC, Value.oneCell']) ?_; intro w3 h3 hg3))
  have hL : ∃ cs E, LV w0 w3 p w2.heap.size (VfsS.newS r) 0 cs E := by
    have hb3 : Below w'.heap.size w' (w2.alloc (.cells #[.slice none 0 0, .slice none 0 0, .slice none 0 0, .slice none 0 0, .int .i64 0, .int .i64 0, .int .i64 0] 36)) := hb2.alloc hb2.size _
    have hv := H1.toE.below hb3
    exact ⟨newC r, _, LV.put hv (rr_new _ _ r hr4) (So.new r) (.inr ⟨hb2.size, by simp⟩) hB2 h3 hg3⟩
  clear H1 HW HN hb2 hB2 hg3 h3
  have hsW := hs.below hb0
  have hok0 : ∀ o ∈ os, o.Ok w0 := fun o ho => (hok o ho).ok (Nat.le_refl _) hb0
  have HOK := Lib.hid hok0
  clear hok hok0 hs hg hg0
  generalize w2.heap.size = b at *
  go_wp2_with fail
  go_loopw [42] (fun iv wx => ∃ (j : Nat) (cs : Array Value) (E : Nat → Prop), j ≤ os.length ∧ iv = .int .i64 j ∧ LV w0 wx p b (run (VfsS.newS r) os j) (3 * j) cs E) (fun iv _ => (os.length - intOf iv).toNat)
  case atStart =>
    obtain ⟨cs, E, hL⟩ := hL
    exact ⟨0, cs, E, Nat.zero_le _, rfl, by rw [run_zero]; exact hL⟩
  case round =>
    clear hL
    obtain ⟨j, cs, E, hj, rfl, hL⟩ := hrel
    by_cases hjl : j < os.length
    · have hd : decide ((j : Int) < (os.length : Int)) = true := decide_eq_true (by omega)
      have HRS := Lib.hid (run_step (VfsS.newS r) os j hjl)
      have hoj := HOK.out _ (List.getElem_mem hjl)
      obtain ⟨ab, ao, rfl, hab, hcel⟩ := (hsW.below hL.v.out).at (k := j * 6) (by rw [opRow_len]; omega)
      have far : ∀ i u, i < 6 → (opCells os[j])[i]? = some u → wr.cell? ⟨ab, ao + j * 6 + i, none⟩ = some u := fun i u hi hu => by
        have h1 := opRow_at os j hjl i hi
        rw [hu] at h1
        obtain ⟨h2, h3⟩ := List.getElem?_eq_some_iff.1 h1
        rw [Nat.add_assoc, hcel _ h2, h3]
      have q0 : wr.cell? ⟨ab, ao + j * 6, none⟩ = some (.int .i64 os[j].kind) := far 0 _ (by omega) rfl
      have q1 : wr.cell? ⟨ab, ao + j * 6 + 1, none⟩ = some (.string os[j].name) := far 1 _ (by omega) rfl
      have q2 : wr.cell? ⟨ab, ao + j * 6 + 2, none⟩ = some (.string os[j].dst) := far 2 _ (by omega) rfl
      have q3 : wr.cell? ⟨ab, ao + j * 6 + 3, none⟩ = some (.slice os[j].da os[j].data.size os[j].dc) := far 3 _ (by omega) rfl
      have q4 : wr.cell? ⟨ab, ao + j * 6 + 4, none⟩ = some (.int .i64 os[j].n) := far 4 _ (by omega) rfl
      have q5 : wr.cell? ⟨ab, ao + j * 6 + 5, none⟩ = some (.int .i64 os[j].m) := far 5 _ (by omega) rfl
      have b1 : (0 : Int) ≤ (j : Int) := by omega
      have b2 : (j : Int) < os.length := by omega
      have hw : IntKind.i64.wrap ((j : Int) + 1) = (j : Int) + 1 := IntWalk.i64_in _ (by omega)
      generalize os[j] = o at *
      clear far hcel
      go_upto_region 12 with fail
      have hbA : Below wr.heap.size wr (wr.alloc (.cells #[.int .i64 o.kind, .string o.name, .string o.dst, .slice o.da o.data.size o.dc, .int .i64 o.n, .int .i64 o.m] 96)) := (Below.refl _ wr).alloc (Nat.le_refl _) _
      have hO : (wr.alloc (.cells #[.int .i64 o.kind, .string o.name, .string o.dst, .slice o.da o.data.size o.dc, .int .i64 o.n, .int .i64 o.m] 96)).heap[wr.heap.size]? = some (.cells (opCells o) 96 (0, 0)) := Array.getElem?_push_size
      have hL1 := hL.below hbA
      have HST := Lib.hid (lawstep_c hL1.v hL1.r o hoj (by omega))
      have hcs := hL1.r.size
      have hSo := So.stepO hL1.o o
      have hLh := hL1.h
      have hLe := hL1.e
      clear hL
      generalize wr.alloc (.cells #[.int .i64 o.kind, .string o.name, .string o.dst, .slice o.da o.data.size o.dc, .int .i64 o.n, .int .i64 o.m] 96) = W1 at *
      go_upto_region 13 with (first
        | (refine wp_loadFS hLh rfl _ rfl rfl hcs ?_)
        | (refine wp_loadOp hO rfl _ rfl rfl ?_)
        | (go_at_call 52; refine HST.out.mono ?_; rintro e w4 ⟨cs4, E4, rfl, hsub4, hv4, hr4, hk4⟩; have hB4 := (hk4 _ hLe).trans hLh; have hs4 := hr4.size; have ho4 := hr4.one)
        | (refine wp_storeFS hB4 rfl _ _ rfl rfl rfl hcs hs4 ho4 ?_; intro w5 h5 hg5; have hL5 := LV.put hv4 hr4 hSo (hsub4 _ hLe) hB4 h5 hg5))
      clear HST hLh hLe hO hL1 hv4 hr4 hk4 hB4 hSo h5 hg5 hcs q0 q1 q2 q3 q4 q5
      have HL5 : Hid (LV w0 w5 p b (run (VfsS.newS r) os (j + 1)) (3 * (j + 1)) cs4 E4) := by
        have := hL5
        rw [← HRS.out] at this
        exact this
      generalize (stepO (run (VfsS.newS r) os j) o).1 = T at *
      obtain ⟨K5, hrep⟩ := hL5.rep
      obtain ⟨fa, na, sa', aa, fc, nc, sc', ac, rfl, -⟩ := hL5.r
      have hlt5 := hL5.lt
      have f0 := fun p' => bw_cell (a := ⟨b, 0, none⟩) hlt5 (show w5.cell? ⟨b, 0, none⟩ = some (.slice fa (cl T).files.length fc) from hL5.c 0 rfl) p'
      have f1 := fun p' => bw_cell (a := ⟨b, 1, none⟩) hlt5 (show w5.cell? ⟨b, 1, none⟩ = some (.slice na (cl T).now.length nc) from hL5.c 1 rfl) p'
      have f2 := fun p' => bw_cell (a := ⟨b, 2, none⟩) hlt5 (show w5.cell? ⟨b, 2, none⟩ = some (.slice sa' (cl T).sure.length sc') from hL5.c 2 rfl) p'
      have f3 := fun p' => bw_cell (a := ⟨b, 3, none⟩) hlt5 (show w5.cell? ⟨b, 3, none⟩ = some (.slice aa (cl T).acts.length ac) from hL5.c 3 rfl) p'
      have f4 := fun p' => bw_cell (a := ⟨b, 4, none⟩) hlt5 (show w5.cell? ⟨b, 4, none⟩ = some (.int .i64 (cl T).room) from hL5.c 4 rfl) p'
      have f5 := fun p' => bw_cell (a := ⟨b, 5, none⟩) hlt5 (show w5.cell? ⟨b, 5, none⟩ = some (.int .i64 T.steps) from hL5.c 5 rfl) p'
      have f6 := fun p' => bw_cell (a := ⟨b, 6, none⟩) hlt5 (show w5.cell? ⟨b, 6, none⟩ = some (.int .i64 (cl T).limit) from hL5.c 6 rfl) p'
      have HSM : Hid (∀ p', Calls Tryd.prog 53 #[.pointer (some ⟨p, 0, none⟩), .agg #[.slice fa (cl T).files.length fc, .slice na (cl T).now.length nc, .slice sa' (cl T).sure.length sc', .slice aa (cl T).acts.length ac, .int .i64 (cl T).room, .int .i64 T.steps, .int .i64 (cl T).limit]] (bw w5 p') fun e w'' => e = .returned (.bool true) ∧ ∃ q : BW, w'' = bw w5 q) := fun p' =>
        calls_bw (same_c (hrep.below (bw_below w5 p')) (hL5.r.below (bw_below w5 p')) (SameFS.cl T) hL5.o.n)
      have HSP : Hid (∀ p', Calls Tryd.prog 54 #[.pointer (some ⟨p, 0, none⟩)] (bw w5 p') fun e w'' => e = .returned (.int .i64 T.steps) ∧ ∃ q : BW, w'' = bw w5 q) := fun p' =>
        calls_bw ((steps_c (hrep.below (bw_below w5 p'))).mono fun e w' h => ⟨h.1, by rw [h.2]; exact Below.refl _ _⟩)
      clear hL5 hrep
      refine wp_region_bw (by kernel_rfl) (by kernel_rfl) ?_
      iterate 5 quiet_step (fail)
      quiet_step (exact HSM.out _)
      iterate 4 quiet_step (fail)
      quiet_step (exact HSP.out _)
      iterate 4 quiet_step (fail)
      refine wpQuiet_nil ?_
      rintro Wn ⟨pn, hWn⟩
      have hbn : Below w5.heap.size w5 Wn := by rw [hWn]; exact bw_below _ _
      clear hWn f0 f1 f2 f3 f4 f5 f6 HSM HSP
      go_wp2_with fail
      go_roundw
      case rel => exact ⟨j + 1, _, _, by omega, by go_num, HL5.out.below hbn⟩
      case measure => simp [intOf]; omega
    · have hd : decide ((j : Int) < (os.length : Int)) = false := decide_eq_false (by omega)
      go_wp2_with fail
      go_ret
      exact ⟨rfl, hb0.trans (hL.v.out.mono hb0.size)⟩
end Go.Proofs.YtfoamcobpfflbaaDoor
namespace Go.Proofs.YtfoamcobpfflbaaDoor
open Go Go.RowKit Go.Maps
open VfsS (St cl clp So)

section
open Go.ChangeShapes Go.WideShapes Go.ChangeAt
set_option maxRecDepth 100000 in
theorem open_op {H : Type} {enc : TypeId × Value → H} {W : World} {base : Nat} {v : Value} {d : DataW H} {p : List MemPlace} (hv : Value.okWide Tryd.prog W .any base 96 v)
    (h : DataW.Trod enc Tryd.prog W 0 (fun _ => true) true 96 v d p) (hk : Rows.uptoBulk d ≤ 1048576) : ∃ o : OpD, v = .agg (opCells o) ∧ OpR W o 1048576 := by
  obtain ⟨o, h1, h2⟩ := (opn_op (W := W)).arg h
  have ht := Tryd.underlying96
  simp only [Value.okWide, ht] at hv
  obtain ⟨cs, rfl, _⟩ := hv
  refine ⟨o, ?_, OpR.mono o _ _ hk h2⟩
  congr 1
  exact Array.toList_inj.1 h1
end

/-- With the power gone no call but a crash and a stop changes anything. -/
theorem stepO_cut {S : St} (h : S.limit = 0) (o : OpD) (h7 : o.kind ≠ 7) (h8 : o.kind ≠ 8) : (stepO S o).1 = S := by
  unfold stepO
  split
  · unfold VfsS.createS; simp only [h, if_true]; split <;> (try rfl); split <;> rfl
  split
  · unfold VfsS.appendS; cases VfsS.find S.now o.name <;> simp only [h, if_true]; split <;> rfl
  split
  · unfold VfsS.cutS; cases VfsS.find S.now o.name <;> simp only [h, if_true]; split <;> rfl
  split
  · unfold VfsS.syncS; cases VfsS.find S.now o.name <;> simp only [h, if_true]
  split
  · unfold VfsS.renameS; cases VfsS.find S.now o.name <;> simp only [h, if_true]; split <;> (try rfl); split <;> rfl
  split
  · unfold VfsS.removeS; simp only [h, if_true]; split <;> rfl
  split
  · unfold VfsS.flushAllS; simp only [h, if_true]
  first | rfl | rw [if_neg h7, if_neg h8]

def powerB : ByteArray := ⟨#[112, 111, 119, 101, 114]⟩
theorem power_ok : PathS.check powerB = 0 := by decide +kernel

theorem create_cut {S : St} (h : S.limit = 0) : VfsS.createS S powerB = (S, 5) ∨ VfsS.createS S powerB = (S, 190) := by
  unfold VfsS.createS
  rw [if_neg (fun e => e power_ok)]
  by_cases hf : (VfsS.find S.now powerB).isSome
  · left; rw [if_pos hf]
  · right; rw [if_neg hf, if_pos h]
theorem flush_cut {S : St} (h : S.limit = 0) : VfsS.flushAllS S = (S, 190) := by unfold VfsS.flushAllS; rw [if_pos h]

theorem LV.prog {w0 W W' : World} {p b : Nat} {S S' : St} {N N' : Nat} {cs : Array Value} {E : Nat → Prop} (h : LV w0 W p b S N cs E) (hv : VE E w0 W' p S' N') (hb : ∀ k, E k → W'.heap[k]? = W.heap[k]?) : VE E w0 W' p S' N' ∧ RR E W' cs (cl S) N ∧ W'.heap[b]? = some (.cells cs 36 (0, 0)) :=
  ⟨hv, h.r.blocks hb, (hb _ h.e).trans h.h⟩

theorem LV.keep {w0 W W' : World} {p b : Nat} {S : St} {N N' : Nat} {cs : Array Value} {E : Nat → Prop} (h : LV w0 W p b S N cs E) (hv : VE E w0 W' p S N') (hb : ∀ k, E k → W'.heap[k]? = W.heap[k]?) (hN : N ≤ N') (hb' : N' ≤ 40000000) : LV w0 W' p b S N' cs E :=
  ⟨hv, (h.r.blocks hb).mono hN hb', h.o, h.e, (hb _ h.e).trans h.h⟩

theorem LV.setLim {w0 W : World} {p b : Nat} {S : St} {N : Nat} {cs : Array Value} {E : Nat → Prop} {n : Int} (hv : VE E w0 W p { S with limit := n } N) (hr : RR E W cs (cl S) N) (ho : So S) (he : E b) (hb : W.heap[b]? = some (.cells cs 36 (0, 0))) (m : Int) (hm : m = max n (-1)) (hm2 : m ≤ 9223372036854775807) :
    ∃ cs', LV w0 (W.setCell ⟨b, 6, none⟩ (.int .i64 m)) p b { S with limit := n } N cs' E := by
  subst hm
  obtain ⟨fa, na, sa, aa, fc, nc, sc, ac, rfl, hx⟩ := hr
  have h1 := hx.setLim (max n (-1)) (by omega)
  have h2 : RR E W (rcells (cl { S with limit := n }) fa na sa aa fc nc sc ac) (cl { S with limit := n }) N := ⟨fa, na, sa, aa, fc, nc, sc, ac, rfl, h1⟩
  obtain ⟨s, g⟩ := set_block hb 6 (.int .i64 (max n (-1)))
  exact ⟨_, LV.put hv h2 ⟨ho.n, ho.s⟩ he hb s g⟩

set_option maxRecDepth 100000 in
set_option maxHeartbeats 4000000 in
theorem lawStops_c (sa : Option Addr) (sc : Nat) (os : List OpD) (x : OpD) (w : World) (hg : Gl w) (hs : Sl w sa (opRow os)) (hl : os.length ≤ 1048576) (hok : ∀ o ∈ os, OpR w o 1048576) (hx : OpR w x 1048576) :
    Calls Tryd.prog 10 #[.slice sa os.length sc, .agg (opCells x)] w fun e w' => e = .returned (.bool true) ∧ Below w.heap.size w w' := by
  show Calls _ _ #[.slice sa os.length sc, .agg #[.int .i64 x.kind, .string x.name, .string x.dst, .slice x.da x.data.size x.dc, .int .i64 x.n, .int .i64 x.m]] _ _
  go_enter Tryd.func10, Tryd.ntmps10
  go_upto_region 1 with fail
  have hbX : Below w.heap.size w (w.alloc (.cells #[.int .i64 x.kind, .string x.name, .string x.dst, .slice x.da x.data.size x.dc, .int .i64 x.n, .int .i64 x.m] 96)) := (Below.refl _ w).alloc (Nat.le_refl _) _
  have hX : (w.alloc (.cells #[.int .i64 x.kind, .string x.name, .string x.dst, .slice x.da x.data.size x.dc, .int .i64 x.n, .int .i64 x.m] 96)).heap[w.heap.size]? = some (.cells (opCells x) 96 (0, 0)) := Array.getElem?_push_size
  generalize w.alloc (.cells #[.int .i64 x.kind, .string x.name, .string x.dst, .slice x.da x.data.size x.dc, .int .i64 x.n, .int .i64 x.m] 96) = wX at *
  have hgX := hg.below hbX (Nat.le_refl _)
  go_wp2_with fail
  refine (awake14_c wX hgX).mono ?_
  rintro e w0 ⟨rfl, hbw⟩
  have hb0 := hbX.trans (hbw.mono hbX.size)
  have hXlt := (Array.getElem?_eq_some_iff.1 hX).1
  have hX0 := (hbw.block _ hXlt).trans hX
  have hXl0 := (Array.getElem?_eq_some_iff.1 hX0).1
  have hg0 := hgX.below hbw (Nat.le_refl _)
  clear hX hXlt hgX hbX
  go_wp2_with fail
  refine (new_a 2000 w0 hg0).mono ?_
  rintro e w1 (⟨hbad, -, -⟩ | ⟨-, p, rfl, H1⟩)
  · omega
  have HN : Calls Tryd.prog 18 #[.int .i64 2000] w1 fun e w'' => e = .returned (.agg (newC 2000)) ∧ Below w1.heap.size w1 w'' := rnew_c 2000 w1
  go_upto_region 7 with (first
    | (go_at_call 18; refine HN.mono ?_; rintro e w2 ⟨rfl, hb2⟩; have hB2 : (w2.alloc (.cells #[.slice none 0 0, .slice none 0 0, .slice none 0 0, .slice none 0 0, .int .i64 0, .int .i64 0, .int .i64 0] 36)).heap[w2.heap.size]? = some (.cells fs0 36 (0, 0)) := Array.getElem?_push_size)
    | (refine wp_storeFS hB2 rfl _ _ rfl rfl rfl rfl rfl (by simp [newC, Value.oneCell']) ?_; intro w3 h3 hg3))
  have hL : ∃ cs E, LV w0 w3 p w2.heap.size (VfsS.newS 2000) 0 cs E := by
    have hb3 : Below w1.heap.size w1 (w2.alloc (.cells #[.slice none 0 0, .slice none 0 0, .slice none 0 0, .slice none 0 0, .int .i64 0, .int .i64 0, .int .i64 0] 36)) := hb2.alloc hb2.size _
    have hv := H1.toE.below hb3
    exact ⟨newC 2000, _, LV.put hv (rr_new _ _ 2000 (by omega)) (So.new 2000) (.inr ⟨hb2.size, by simp⟩) hB2 h3 hg3⟩
  clear H1 HN hb2 hB2 hg3 h3
  have hsW := hs.below hb0
  have HOK : Hid (∀ o ∈ os, o.Ok w0) := fun o ho => (hok o ho).ok (Nat.le_refl _) hb0
  have HOX : Hid (x.Ok w0) := hx.ok (Nat.le_refl _) hb0
  clear hok hx hs hg hg0 hbw
  generalize w2.heap.size = b at *
  go_wp2_with fail
  go_loopw [22] (fun iv wx => ∃ (j : Nat) (cs : Array Value) (E : Nat → Prop), j ≤ os.length ∧ iv = .int .i64 j ∧ LV w0 wx p b (run (VfsS.newS 2000) os j) (0 + 3 * j) cs E) (fun iv _ => (os.length - intOf iv).toNat)
  case atStart =>
    obtain ⟨cs, E, hL⟩ := hL
    exact ⟨0, cs, E, Nat.zero_le _, rfl, by rw [run_zero]; exact hL⟩
  case round =>
    clear hL
    obtain ⟨j, cs, E, hj, rfl, hL⟩ := hrel
    by_cases hjl : j < os.length
    · have hd : decide ((j : Int) < (os.length : Int)) = true := decide_eq_true (by omega)
      have HRS := Lib.hid (run_step (VfsS.newS 2000) os j hjl)
      have hoj := HOK.out _ (List.getElem_mem hjl)
      obtain ⟨ab, ao, rfl, hab, hcel⟩ := (hsW.below hL.v.out).at (k := j * 6) (by rw [opRow_len]; omega)
      have far : ∀ i u, i < 6 → (opCells os[j])[i]? = some u → wr.cell? ⟨ab, ao + j * 6 + i, none⟩ = some u := fun i u hi hu => by
        have h1 := opRow_at os j hjl i hi
        rw [hu] at h1
        obtain ⟨h2, h3⟩ := List.getElem?_eq_some_iff.1 h1
        rw [Nat.add_assoc, hcel _ h2, h3]
      have q0 : wr.cell? ⟨ab, ao + j * 6, none⟩ = some (.int .i64 os[j].kind) := far 0 _ (by omega) rfl
      have q1 : wr.cell? ⟨ab, ao + j * 6 + 1, none⟩ = some (.string os[j].name) := far 1 _ (by omega) rfl
      have q2 : wr.cell? ⟨ab, ao + j * 6 + 2, none⟩ = some (.string os[j].dst) := far 2 _ (by omega) rfl
      have q3 : wr.cell? ⟨ab, ao + j * 6 + 3, none⟩ = some (.slice os[j].da os[j].data.size os[j].dc) := far 3 _ (by omega) rfl
      have q4 : wr.cell? ⟨ab, ao + j * 6 + 4, none⟩ = some (.int .i64 os[j].n) := far 4 _ (by omega) rfl
      have q5 : wr.cell? ⟨ab, ao + j * 6 + 5, none⟩ = some (.int .i64 os[j].m) := far 5 _ (by omega) rfl
      have b1 : (0 : Int) ≤ (j : Int) := by omega
      have b2 : (j : Int) < os.length := by omega
      have hw : IntKind.i64.wrap ((j : Int) + 1) = (j : Int) + 1 := IntWalk.i64_in _ (by omega)
      generalize os[j] = o at *
      clear far hcel
      go_upto_region 10 with fail
      have hbA : Below wr.heap.size wr (wr.alloc (.cells #[.int .i64 o.kind, .string o.name, .string o.dst, .slice o.da o.data.size o.dc, .int .i64 o.n, .int .i64 o.m] 96)) := (Below.refl _ wr).alloc (Nat.le_refl _) _
      have hO : (wr.alloc (.cells #[.int .i64 o.kind, .string o.name, .string o.dst, .slice o.da o.data.size o.dc, .int .i64 o.n, .int .i64 o.m] 96)).heap[wr.heap.size]? = some (.cells (opCells o) 96 (0, 0)) := Array.getElem?_push_size
      have hL1 := hL.below hbA
      have HST := Lib.hid (lawstep_c hL1.v hL1.r o hoj (by omega))
      have hcs := hL1.r.size
      have hSo := So.stepO hL1.o o
      have hLh := hL1.h
      have hLe := hL1.e
      generalize wr.alloc (.cells #[.int .i64 o.kind, .string o.name, .string o.dst, .slice o.da o.data.size o.dc, .int .i64 o.n, .int .i64 o.m] 96) = W1 at *
      clear hL
      go_upto_region 11 with (first
        | (refine wp_loadFS hLh rfl _ rfl rfl hcs ?_)
        | (refine wp_loadOp hO rfl _ rfl rfl ?_)
        | (go_at_call 52; refine HST.out.mono ?_; rintro e w4 ⟨cs4, E4, rfl, hsub4, hv4, hr4, hk4⟩; have hB4 := (hk4 _ hLe).trans hLh; have hs4 := hr4.size; have ho4 := hr4.one)
        | (refine wp_storeFS hB4 rfl _ _ rfl rfl rfl hcs hs4 ho4 ?_; intro w5 h5 hg5; have hL5 := LV.put hv4 hr4 hSo (hsub4 _ hLe) hB4 h5 hg5))
      have HL5 : Hid (LV w0 w5 p b (run (VfsS.newS 2000) os (j + 1)) (0 + 3 * (j + 1)) cs4 E4) := by
        have := hL5
        rw [← HRS.out] at this
        exact this
      clear HST hLh hLe hO hL1 hv4 hr4 hk4 hB4 hSo h5 hg5 hcs q0 q1 q2 q3 q4 q5 hL5 HRS
      go_wp2_with fail
      go_roundw
      case rel => exact ⟨j + 1, _, _, by omega, by go_num, HL5.out⟩
      case measure => simp [intOf]; omega
    · obtain rfl : j = os.length := by omega
      have hd : decide ((os.length : Int) < (os.length : Int)) = false := decide_eq_false (by omega)
      generalize run (VfsS.newS 2000) os os.length = T at *
      have HSP := Lib.hid (stop_e hL.v 0 (by omega))
      have hLh := hL.h
      go_upto_region 13 with (go_at_call 47; refine HSP.out.mono ?_; rintro e w4 ⟨rfl, hv4, hk4⟩; obtain ⟨-, hr4, hB4⟩ := hL.prog hv4 hk4)
      obtain ⟨fa, na, sa', aa, fc, nc, sc', ac, ecs, -⟩ := hr4
      have e6 : w4.cell? ⟨b, 6, none⟩ = some (.int .i64 (cl T).limit) := by rw [cell_of hB4, ecs]; rfl
      have f6 := frozen_of hB4 6
      obtain ⟨-, hr4, -⟩ := hL.prog hv4 hk4
      obtain ⟨cs5, hL5⟩ := LV.setLim hv4 hr4 hL.o hL.e hB4 0 (by decide) (by decide)
      have hlim : ({ T with limit := 0 } : St).limit = 0 := rfl
      clear ecs hr4 hv4 hk4 hLh HSP hL
      go_upto_region 14 with fail
      generalize w4.setCell ⟨b, 6, none⟩ (.int .i64 0) = w5 at *
      generalize ({ T with limit := 0 } : St) = U at *
      clear e6 f6 hB4
      obtain ⟨K5, hrep5⟩ := hL5.rep
      have HFL := Lib.hid (flush_e hL5.v (by omega))
      rw [flush_cut hlim] at HFL
      have HCR := Lib.hid (fun (W : World) (N : Nat) (hv : VE E w0 W p U N) (hN : N + 3 ≤ 100000000) => create_e hv powerB (by decide) hN)
      have hkind : ∀ (W : World), Below w0.heap.size w0 W → W.cell? ⟨w.heap.size, 0, none⟩ = some (.int .i64 x.kind) ∧ W.heap[w.heap.size]? = some (.cells (opCells x) 96 (0, 0)) := fun W hb => by
        have := (hb.block _ hXl0).trans hX0
        exact ⟨by rw [cell_of this]; rfl, this⟩
      have HKD := Lib.hid hkind
      clear hkind
      have HCUT := Lib.hid (fun h7 h8 => stepO_cut hlim x h7 h8)
      have hcases := create_cut hlim
      clear hlim
      rcases hcases with hc | hc
      all_goals
        rw [hc] at HCR
        clear hc
        go_upto_region 17 with (first
          | (go_at_call 54; refine (steps_c hrep5).mono ?_; rintro e w' ⟨rfl, rfl⟩)
          | (go_at_call 19; refine HFL.out.mono ?_; rintro e w6 ⟨rfl, hv6, hk6⟩; have hL6 := hL5.keep hv6 hk6 (by omega) (by omega); have hL8 := hL6)
          | (go_at_call 45; refine (HCR.out w6 _ hL6.v (by omega)).mono ?_; rintro e w7 ⟨rfl, hv7, hk7⟩; have hL7 := hL6.keep hv7 hk7 (by omega) (by omega); have hL8 := hL7)
          | (go_at_call 45; refine (HCR.out w7 _ hL7.v (by omega)).mono ?_; rintro e w8 ⟨rfl, hv8, hk8⟩; have hL8 := hL7.keep hv8 hk8 (by omega) (by omega)))
      all_goals
        have hkk := HKD.out _ hL8.v.out
        obtain ⟨k0, hXB⟩ := hkk
        clear HFL HCR HKD hL5
        have hcs := hL8.r.size
        have hLh := hL8.h
        by_cases h7 : x.kind = 7
        · have n7 : (x.kind != 7) = false := by rw [bne_eq_false_iff_eq]; exact h7
          have m7 : (x.kind == 7) = true := by rw [beq_iff_eq]; exact h7
          clear h7 HCUT
          obtain ⟨K8, hrep8⟩ := hL8.rep
          have HSM := Lib.hid (same_c hrep8 hL8.r (SameFS.cl _) hL8.o.n)
          have hout := hL8.v.out
          clear hL8
          go_wp2_with (first
            | (refine wp_loadFS hLh rfl _ rfl rfl hcs ?_)
            | (go_at_call 53; refine HSM.out.mono ?_; rintro e w9 ⟨rfl, hb9⟩; have hrep9 := hrep8.below hb9)
            | (go_at_call 54; refine (steps_c hrep9).mono ?_; rintro e w' ⟨rfl, rfl⟩))
          go_ret
          exact ⟨by simp, hb0.trans ((hout.trans (hb9.mono hout.size)).mono hb0.size)⟩
        · have n7 : (x.kind != 7) = true := by rw [bne_iff_ne]; exact h7
          have m7 : (x.kind == 7) = false := by rw [beq_eq_false_iff_ne]; exact h7
          by_cases h8 : x.kind = 8
          · have n8 : (x.kind != 8) = false := by rw [bne_eq_false_iff_eq]; exact h8
            have m8 : (x.kind == 8) = true := by rw [beq_iff_eq]; exact h8
            clear h7 h8 HCUT
            obtain ⟨K8, hrep8⟩ := hL8.rep
            have HSM := Lib.hid (same_c hrep8 hL8.r (SameFS.cl _) hL8.o.n)
            have hout := hL8.v.out
            clear hL8
            go_wp2_with (first
              | (refine wp_loadFS hLh rfl _ rfl rfl hcs ?_)
              | (go_at_call 53; refine HSM.out.mono ?_; rintro e w9 ⟨rfl, hb9⟩; have hrep9 := hrep8.below hb9)
              | (go_at_call 54; refine (steps_c hrep9).mono ?_; rintro e w' ⟨rfl, rfl⟩))
            go_ret
            exact ⟨by simp, hb0.trans ((hout.trans (hb9.mono hout.size)).mono hb0.size)⟩
          · have n8 : (x.kind != 8) = true := by rw [bne_iff_ne]; exact h8
            have m8 : (x.kind == 8) = false := by rw [beq_eq_false_iff_ne]; exact h8
            have HCU := Lib.hid (HCUT.out h7 h8)
            have HST := Lib.hid (lawstep_c hL8.v hL8.r x HOX.out (by omega))
            have hLe := hL8.e
            have hSo := So.stepO hL8.o x
            rw [HCU.out] at HST hSo
            clear h7 h8 HCUT hL8 HCU
            go_upto_region 19 with (first
              | (refine wp_loadFS hLh rfl _ rfl rfl hcs ?_)
              | (refine wp_loadOp hXB rfl _ rfl rfl ?_)
              | (go_at_call 52; refine HST.out.mono ?_; rintro e wa ⟨csa, Ea, rfl, hsuba, hva, hra, hka⟩; have hBa := (hka _ hLe).trans hLh; have hsa := hra.size; have hoa := hra.one)
              | (refine wp_storeFS hBa rfl _ _ rfl rfl rfl hcs hsa hoa ?_; intro wb hhb hgb; have hLb := LV.put hva hra hSo (hsuba _ hLe) hBa hhb hgb))
            obtain ⟨K8, hrep8⟩ := hLb.rep
            have HSM := Lib.hid (same_c hrep8 hLb.r (SameFS.cl _) hLb.o.n)
            have hout := hLb.v.out
            clear hLb
            go_wp2_with (first
              | (refine wp_loadFS hhb rfl _ rfl rfl hsa ?_)
              | (go_at_call 53; refine HSM.out.mono ?_; rintro e w9 ⟨rfl, hb9⟩; have hrep9 := hrep8.below hb9)
              | (go_at_call 54; refine (steps_c hrep9).mono ?_; rintro e w' ⟨rfl, rfl⟩))
            go_ret
            exact ⟨by simp, hb0.trans ((hout.trans (hb9.mono hout.size)).mono hb0.size)⟩
end Go.Proofs.YtfoamcobpfflbaaDoor
namespace Go.Proofs.YtfoamcobpfflbaaDoor.vfsStops
open Go.ChangeShapes Go.WideShapes Go.ChangeAt Go.RowKit
open Go.WideMaps Go.WideElems
open Go.ChangeMaps (open_string shut_string)

theorem reads (os : Os) {H : Type} (enc : TypeId × Value → H) : ∃ places, DataW.whole enc Tryd.prog ((laidWorld os).forCall (fun _ _ => 0) ⟨#[], #[Value.slice none 0 0, .agg #[.int .i64 0, .string ByteArray.empty, .string ByteArray.empty, .slice none 0 0, .int .i64 0, .int .i64 0]], []⟩).memory Tryd.f10.params.toList Rows.vfsStopsSpec.vars false (#[Value.slice none 0 0, .agg #[.int .i64 0, .string ByteArray.empty, .string ByteArray.empty, .slice none 0 0, .int .i64 0, .int .i64 0]] : Array Value).toList 8 = some ([.nil, .agg [.lit (.int .i64 0), .lit (.string []), .lit (.string []), .nil, .lit (.int .i64 0), .lit (.int .i64 0)]], [], places) :=
  ⟨[], by kernel_rfl⟩

set_option maxRecDepth 100000 in
theorem contract (H : Type) (enc : TypeId × Value → H) (W : World) (base : Nat) (args : Array Value) (ds : List (DataW H)) (p : List MemPlace)
    (hval : ∀ (j : Nat) t v, Tryd.f10.params[j]? = some t → args[j]? = some v → Value.okWide Tryd.prog W .any base t v)
    (hA : DataW.TrodAll enc Tryd.prog W 0 (fun _ => true) true Tryd.f10.params.toList args.toList ds p) (hk : Rows.uptoSmall H ds = true) (_hL : laidMetH Tryd.prog Rows.vfsStopsUptoRow.laid W) (hshape : W.ShapedOpen Tryd.prog) :
    Calls Tryd.prog 10 args W fun e W' => e = .returned (.bool true) ∧ Below W.heap.size W W' := by
  rw [Tryd.params10] at hA hval
  obtain ⟨v0, vs0, d0, ds0, p0, q0, hargs0, rfl, rfl, h0, r0⟩ := trodAll_cons hA
  obtain ⟨v1, vs1, d1, ds1, p1, q1, hargs1, rfl, rfl, h1, r1⟩ := trodAll_cons r0
  obtain ⟨rfl, rfl, rfl⟩ := trodAll_nil r1
  rw [hargs1] at hargs0
  obtain rfl : args = #[v0, v1] := by cases args; simp_all
  have k0 := bulk_mem hk (d := d0) (by simp)
  obtain ⟨a0, c0, x0, rfl, sl0, l0, z0⟩ := open_ops (hval 0 94 v0 rfl rfl) h0 k0
  have k1 := bulk_mem hk (d := d1) (by simp)
  obtain ⟨x1, rfl, z1⟩ := open_op (hval 1 96 v1 rfl rfl) h1 k1
  exact lawStops_c a0 c0 x0 x1 W (gl_of_shaped hshape) sl0 l0 z0 z1

set_option maxRecDepth 100000 in
theorem lifted (os : Os) (started : os.Started) (H : Type) (enc : TypeId × Value → H) (F : Stop.Interp) :
    ReturnsInHanded {} Tryd.checked os 10 .any ((Rows.OpenSpec.upto Rows.vfsStopsSpec).preRow enc Tryd.prog Tryd.f10 Rows.vfsStopsUptoRow.domain false Rows.vfsStopsUptoRow.laid) (((Rows.OpenSpec.upto Rows.vfsStopsSpec).at F).post enc Tryd.prog Tryd.f10 false true false false) := by
  obtain ⟨places, hx⟩ := reads os enc
  refine law_lifted (laid := Rows.vfsStopsUptoRow.laid) started Tryd.func10 (by kernel_rfl) rfl rfl ?_ (by kernel_rfl) ?_ ?_ ?_
  · intro ds h
    match ds, h with
    | [_, _], _ => rfl
  · rw [Tryd.params10]
    intro t ht
    have ht : t ∈ [94, 96] := ht
    simp only [List.mem_cons, List.mem_nil_iff, or_false] at ht
    rcases ht with rfl | rfl <;> exact ⟨by kernel_rfl, of_decide_eq_true (by kernel_rfl)⟩
  · exact witness_row_at (enc := enc) (C := Tryd.checked) false (laidWorld os) #[Value.slice none 0 0, .agg #[.int .i64 0, .string ByteArray.empty, .string ByteArray.empty, .slice none 0 0, .int .i64 0, .int .i64 0]] rfl (by kernel_rfl) (by kernel_rfl) (by kernel_rfl)
      (OpenSpec.preRow_of_cond 8 hx (by kernel_rfl) (fun k hk => by cases hk; kernel_rfl) (by kernel_rfl) (laid_met os _))
  · exact contract H enc

theorem saidUpto : Rows.VfsStopsUptoSaid :=
  OpenClaim.holds_of_cond 10 Tryd.f10 rfl rfl rfl rfl rfl rfl rfl ⟨rfl, rfl, rfl, rfl, rfl⟩ rfl rfl rfl rfl rfl (by kernel_rfl) Tryd.func10 (by kernel_rfl)
    (of_decide_eq_true (by kernel_rfl)) (by unfold Func.isWrapper; rw [if_neg (by decide +kernel)]; exact ⟨rfl, rfl⟩)
    (fun os started H enc _ F => by rw [OpenClaim.pre_eq_preRow]; exact lifted os started H enc F)

theorem plain (f : FuncId) (fn : Func) (hf : Tryd.pinned.checked.prog.funcNamed "towline/towlinelaw14.VfsStops" = some f) (hfn : Tryd.pinned.checked.prog.funcs[f]? = some fn) :
    false = Tryd.pinned.checked.prog.looks [] ∧ ∀ (j : Nat) t, fn.params[j]? = some t → Tryd.pinned.checked.prog.wantsStandIn t = false := by
  obtain rfl : f = 10 := Option.some.inj ((show Tryd.prog.funcNamed "towline/towlinelaw14.VfsStops" = some 10 by kernel_rfl).symm.trans hf) |>.symm
  obtain rfl : fn = Tryd.f10 := (Option.some.inj (Tryd.func10.symm.trans hfn)).symm
  refine ⟨by kernel_rfl, fun j t ht => ?_⟩
  rw [Tryd.params10] at ht
  have ht : t ∈ [94, 96] := by simpa using Array.mem_of_getElem? ht
  simp only [List.mem_cons, List.mem_nil_iff, or_false] at ht
  rcases ht with rfl | rfl <;> exact (show Tryd.prog.wantsStandIn _ = false by kernel_rfl)

theorem cardUpto : Rows.VfsStopsUptoCardSaid :=
  Claim7.holds_tied_plain_at .later [] _ _ _ _ saidUpto (fun _ h => by cases h) (by kernel_rfl) (fun _ h => by cases h) vfsStopsUpto_row_tie rfl ⟨rfl, rfl⟩ (by kernel_rfl) rfl plain (by kernel_rfl)
end Go.Proofs.YtfoamcobpfflbaaDoor.vfsStops
