/- The law VfsSure answers true for all arguments of bulk at most 1048576: the row's statement and its card. Conditions: the row's own (laid tables as the card ties them; bulk). -/
import Derived.Test.YtfoamcobpfflbaaDoorZ13
namespace Go.Proofs.YtfoamcobpfflbaaDoor
open Go Go.RowKit Go.Maps
open VfsS (St cl clp So)

/-- The struct's variable lies in block b, beside the program's file system. -/
structure LV (w0 W : World) (p b : Nat) (S : St) (N : Nat) (cs : Array Value) (E : Nat → Prop) : Prop where
  v : VE E w0 W p S N
  r : RR E W cs (cl S) N
  o : So S
  e : E b
  h : W.heap[b]? = some (.cells cs 36 (0, 0))

section
variable {w0 W W' : World} {p b : Nat} {S : St} {N : Nat} {cs : Array Value} {E : Nat → Prop}

theorem LV.lt (h : LV w0 W p b S N cs E) : b < W.heap.size := (Array.getElem?_eq_some_iff.1 h.h).1
theorem LV.below (h : LV w0 W p b S N cs E) (hb : Below W.heap.size W W') : LV w0 W' p b S N cs (Kx E W.heap.size W'.heap.size) :=
  ⟨h.v.below hb, (h.r.below hb).sub fun _ hk _ => .inl hk, h.o, .inl h.e, (hb.block _ h.lt).trans h.h⟩
theorem LV.c (h : LV w0 W p b S N cs E) (j : Nat) {x : Value} (hx : cs[j]? = some x) : W.cell? ⟨b, j, none⟩ = some x := by rw [cell_of h.h]; exact hx
theorem LV.put {E' : Nat → Prop} {S' : St} {N' : Nat} {cs0 cs' : Array Value} (hv : VE E' w0 W p S' N') (hr : RR E' W cs' (cl S') N') (ho : So S') (he : E' b) (hb : W.heap[b]? = some (.cells cs0 36 (0, 0))) (h2 : W'.heap[b]? = some (.cells cs' 36 (0, 0))) (hg : W.grownBy W' (some b)) :
    LV w0 W' p b S' N' cs' E' :=
  ⟨hv.grown hg he, hr.other hb (by decide) hg, ho, he, h2⟩
theorem LV.rep (h : LV w0 W p b S N cs E) : ∃ K, VRep W p S K N := by obtain ⟨K, h1, _⟩ := h.v; exact ⟨K, h1⟩

variable {ops : Array Oper} {rest : List Oper} {op : Oper} {a : Act} {Q : Exit → Act → World → Prop}
theorem wp_loadFS {cs : Array Value} (hb : W.heap[b]? = some (.cells cs 36 (0, 0))) (hgd : op.guard = none) (x : Operand) (ho : op.op = .load 36 x) (hx : a.eval x = .pointer (some ⟨b, 0, none⟩)) (hsz : cs.size = 7)
    (K : wpList Tryd.prog ops Q rest (a.put op.dst (.agg cs)) W) : wpList Tryd.prog ops Q (op :: rest) a W :=
  wp_loadB hgd 36 x ho b hx hb _ Tryd.underlying36 rfl (by rw [Array.length_toList, hsz]; kernel_rfl) K
theorem wp_storeFS {cs : Array Value} (hb : W.heap[b]? = some (.cells cs 36 (0, 0))) (hgd : op.guard = none) (x y : Operand) (ho : op.op = .store 36 x y) (hx : a.eval x = .pointer (some ⟨b, 0, none⟩)) {new : Array Value} (hy : a.eval y = .agg new) (hsz : cs.size = 7) (hsn : new.size = 7) (h1 : new.all (·.oneCell') = true)
    (K : ∀ w' : World, w'.heap[b]? = some (.cells new 36 (0, 0)) → W.grownBy w' (some b) → wpList Tryd.prog ops Q rest (a.put op.dst undef) w') : wpList Tryd.prog ops Q (op :: rest) a W :=
  wp_storeB hgd 36 x y ho b new hx hy hb (by rw [hsz, hsn]) (by rw [hsn]; kernel_rfl) h1 fun w' h2 g => K w' h2 g
theorem wp_loadOp {o : OpD} (hb : W.heap[b]? = some (.cells (opCells o) 96 (0, 0))) (hgd : op.guard = none) (x : Operand) (ho : op.op = .load 96 x) (hx : a.eval x = .pointer (some ⟨b, 0, none⟩))
    (K : wpList Tryd.prog ops Q rest (a.put op.dst (.agg (opCells o))) W) : wpList Tryd.prog ops Q (op :: rest) a W :=
  wp_loadB hgd 96 x ho b hx hb _ Tryd.underlying96 rfl (by kernel_rfl) K
end

/-- The new struct, as cells. -/
def newC (n : Int) : Array Value := #[.slice none 0 0, .slice none 0 0, .slice none 0 0, .slice none 0 0, .int .i64 n, .int .i64 0, .int .i64 (-1)]

theorem rr_new (E : Nat → Prop) (w : World) (n : Nat) (hn : n ≤ 4194304) : RR E w (newC n) (VfsS.newS n) 0 :=
  ⟨none, none, none, none, 0, 0, 0, 0, rfl, { f := OwnG.nil _ _ _, n := OwnG.nil _ _ _, s := OwnG.nil _ _ _, a := OwnG.nil _ _ _, kf := (fun k hk => nomatch hk), kn := (fun k hk => nomatch hk), ks := (fun k hk => nomatch hk), ka := (fun k hk => nomatch hk), wf := VfsS.Wf.new hn, lf := Nat.le_refl _, ln := Nat.le_refl _, la := Nat.le_refl _, st := Nat.le_refl _, big := by omega, lim := by show (-1 : Int) ≤ -1; omega }⟩

/-- The state behind the first j calls. -/
def run (S : St) (os : List OpD) (j : Nat) : St := (os.take j).foldl (fun s o => (stepO s o).1) S
theorem run_zero (S : St) (os : List OpD) : run S os 0 = S := by unfold run; rw [List.take_zero]; rfl
theorem run_step (S : St) (os : List OpD) (j : Nat) (h : j < os.length) : run S os (j + 1) = (stepO (run S os j) os[j]).1 := by
  unfold run; rw [List.take_succ_eq_append_getElem h, List.foldl_append]; rfl

set_option maxRecDepth 100000 in
set_option maxHeartbeats 4000000 in
theorem lawPlays_c (sa : Option Addr) (sc : Nat) (os : List OpD) (room : Int) (w : World) (hg : Gl w) (hs : Sl w sa (opRow os)) (hl : os.length ≤ 1048576) (hok : ∀ o ∈ os, OpR w o 1048576) :
    Calls Tryd.prog 9 #[.int .i64 room, .slice sa os.length sc] w fun e w' => e = .returned (.bool true) ∧ Below w.heap.size w w' := by
  go_enter Tryd.func9, Tryd.ntmps9
  go_wp2_with fail
  refine (awake14_c w hg).mono ?_
  rintro e w0 ⟨rfl, hb0⟩
  have hg0 := hg.below hb0 (Nat.le_refl _)
  go_wp2_with fail
  refine (new_a room w0 hg0).mono ?_
  rintro e w1 (⟨hbad, rfl, rfl⟩ | ⟨hgood, p, rfl, H1⟩)
  · have hcode : Hid ((if room < 0 ∨ 4194304 < room then (1 : Int) else 0) = 1) := if_pos hbad
    have HW := rwrong_c room w1
    rw [hcode.out] at HW
    clear hcode hbad
    go_wp2_with (first | (go_at_call 15; refine HW.mono ?_; rintro e w' ⟨rfl, rfl⟩))
    go_ret
    exact ⟨rfl, hb0⟩
  obtain ⟨r, rfl⟩ : ∃ r : Nat, room = r := ⟨room.toNat, by omega⟩
  have hcode : Hid ((if (r : Int) < 0 ∨ 4194304 < (r : Int) then (1 : Int) else 0) = 0) := if_neg (by omega)
  have HW := rwrong_c r w1
  rw [hcode.out] at HW
  rw [Int.toNat_natCast] at H1
  have hr4 : r ≤ 4194304 := by omega
  clear hcode hgood
  go_upto_region 7 with (first | (go_at_call 15; refine HW.mono ?_; rintro e w' ⟨rfl, rfl⟩))
  have HN : Calls Tryd.prog 18 #[.int .i64 (r : Int)] w' fun e w'' => e = .returned (.agg (newC r)) ∧ Below w'.heap.size w' w'' := rnew_c r w'
  go_upto_region 8 with (first
    | (go_at_call 18; refine HN.mono ?_; rintro e w2 ⟨rfl, hb2⟩; have hB2 : (w2.alloc (.cells #[.slice none 0 0, .slice none 0 0, .slice none 0 0, .slice none 0 0, .int .i64 0, .int .i64 0, .int .i64 0] 36)).heap[w2.heap.size]? = some (.cells fs0 36 (0, 0)) := Array.getElem?_push_size)
    | (refine wp_storeFS hB2 rfl _ _ rfl rfl rfl rfl rfl (by simp [newC, Value.oneCell']) ?_; intro w3 h3 hg3))
  have hL : ∃ cs E, LV w0 w3 p w2.heap.size (VfsS.newS r) 0 cs E := by
    have hb3 : Below w'.heap.size w' (w2.alloc (.cells #[.slice none 0 0, .slice none 0 0, .slice none 0 0, .slice none 0 0, .int .i64 0, .int .i64 0, .int .i64 0] 36)) := hb2.alloc hb2.size _
    have hv := H1.toE.below hb3
    exact ⟨newC r, _, LV.put hv (rr_new _ _ r hr4) (So.new r) (.inr ⟨hb2.size, by simp⟩) hB2 h3 hg3⟩
  clear H1 HW HN hb2 hB2 hg3 h3
  have hsW := hs.below hb0
  have hok0 : ∀ o ∈ os, o.Ok w0 := fun o ho => (hok o ho).ok (Nat.le_refl _) hb0
  have HOK := Lib.hid hok0
  clear hok hok0 hs hg hg0
  generalize w2.heap.size = b at *
  go_wp2_with fail
  go_loopw [42] (fun iv wx => ∃ (j : Nat) (cs : Array Value) (E : Nat → Prop), j ≤ os.length ∧ iv = .int .i64 j ∧ LV w0 wx p b (run (VfsS.newS r) os j) (3 * j) cs E) (fun iv _ => (os.length - intOf iv).toNat)
  case atStart =>
    obtain ⟨cs, E, hL⟩ := hL
    exact ⟨0, cs, E, Nat.zero_le _, rfl, by rw [run_zero]; exact hL⟩
  case round =>
    clear hL
    obtain ⟨j, cs, E, hj, rfl, hL⟩ := hrel
    by_cases hjl : j < os.length
    · have hd : decide ((j : Int) < (os.length : Int)) = true := decide_eq_true (by omega)
      have HRS := Lib.hid (run_step (VfsS.newS r) os j hjl)
      have hoj := HOK.out _ (List.getElem_mem hjl)
      obtain ⟨ab, ao, rfl, hab, hcel⟩ := (hsW.below hL.v.out).at (k := j * 6) (by rw [opRow_len]; omega)
      have far : ∀ i u, i < 6 → (opCells os[j])[i]? = some u → wr.cell? ⟨ab, ao + j * 6 + i, none⟩ = some u := fun i u hi hu => by
        have h1 := opRow_at os j hjl i hi
        rw [hu] at h1
        obtain ⟨h2, h3⟩ := List.getElem?_eq_some_iff.1 h1
        rw [Nat.add_assoc, hcel _ h2, h3]
      have q0 : wr.cell? ⟨ab, ao + j * 6, none⟩ = some (.int .i64 os[j].kind) := far 0 _ (by omega) rfl
      have q1 : wr.cell? ⟨ab, ao + j * 6 + 1, none⟩ = some (.string os[j].name) := far 1 _ (by omega) rfl
      have q2 : wr.cell? ⟨ab, ao + j * 6 + 2, none⟩ = some (.string os[j].dst) := far 2 _ (by omega) rfl
      have q3 : wr.cell? ⟨ab, ao + j * 6 + 3, none⟩ = some (.slice os[j].da os[j].data.size os[j].dc) := far 3 _ (by omega) rfl
      have q4 : wr.cell? ⟨ab, ao + j * 6 + 4, none⟩ = some (.int .i64 os[j].n) := far 4 _ (by omega) rfl
      have q5 : wr.cell? ⟨ab, ao + j * 6 + 5, none⟩ = some (.int .i64 os[j].m) := far 5 _ (by omega) rfl
      have b1 : (0 : Int) ≤ (j : Int) := by omega
      have b2 : (j : Int) < os.length := by omega
      have hw : IntKind.i64.wrap ((j : Int) + 1) = (j : Int) + 1 := IntWalk.i64_in _ (by omega)
      generalize os[j] = o at *
      clear far hcel
      go_upto_region 12 with fail
      have hbA : Below wr.heap.size wr (wr.alloc (.cells #[.int .i64 o.kind, .string o.name, .string o.dst, .slice o.da o.data.size o.dc, .int .i64 o.n, .int .i64 o.m] 96)) := (Below.refl _ wr).alloc (Nat.le_refl _) _
      have hO : (wr.alloc (.cells #[.int .i64 o.kind, .string o.name, .string o.dst, .slice o.da o.data.size o.dc, .int .i64 o.n, .int .i64 o.m] 96)).heap[wr.heap.size]? = some (.cells (opCells o) 96 (0, 0)) := Array.getElem?_push_size
      have hL1 := hL.below hbA
      have HST := Lib.hid (lawstep_c hL1.v hL1.r o hoj (by omega))
      have hcs := hL1.r.size
      have hSo := So.stepO hL1.o o
      have hLh := hL1.h
      have hLe := hL1.e
      clear hL
      generalize wr.alloc (.cells #[.int .i64 o.kind, .string o.name, .string o.dst, .slice o.da o.data.size o.dc, .int .i64 o.n, .int .i64 o.m] 96) = W1 at *
      go_upto_region 13 with (first
        | (refine wp_loadFS hLh rfl _ rfl rfl hcs ?_)
        | (refine wp_loadOp hO rfl _ rfl rfl ?_)
        | (go_at_call 52; refine HST.out.mono ?_; rintro e w4 ⟨cs4, E4, rfl, hsub4, hv4, hr4, hk4⟩; have hB4 := (hk4 _ hLe).trans hLh; have hs4 := hr4.size; have ho4 := hr4.one)
        | (refine wp_storeFS hB4 rfl _ _ rfl rfl rfl hcs hs4 ho4 ?_; intro w5 h5 hg5; have hL5 := LV.put hv4 hr4 hSo (hsub4 _ hLe) hB4 h5 hg5))
      clear HST hLh hLe hO hL1 hv4 hr4 hk4 hB4 hSo h5 hg5 hcs q0 q1 q2 q3 q4 q5
      have HL5 : Hid (LV w0 w5 p b (run (VfsS.newS r) os (j + 1)) (3 * (j + 1)) cs4 E4) := by
        have := hL5
        rw [← HRS.out] at this
        exact this
      generalize (stepO (run (VfsS.newS r) os j) o).1 = T at *
      obtain ⟨K5, hrep⟩ := hL5.rep
      obtain ⟨fa, na, sa', aa, fc, nc, sc', ac, rfl, -⟩ := hL5.r
      have hlt5 := hL5.lt
      have f0 := fun p' => bw_cell (a := ⟨b, 0, none⟩) hlt5 (show w5.cell? ⟨b, 0, none⟩ = some (.slice fa (cl T).files.length fc) from hL5.c 0 rfl) p'
      have f1 := fun p' => bw_cell (a := ⟨b, 1, none⟩) hlt5 (show w5.cell? ⟨b, 1, none⟩ = some (.slice na (cl T).now.length nc) from hL5.c 1 rfl) p'
      have f2 := fun p' => bw_cell (a := ⟨b, 2, none⟩) hlt5 (show w5.cell? ⟨b, 2, none⟩ = some (.slice sa' (cl T).sure.length sc') from hL5.c 2 rfl) p'
      have f3 := fun p' => bw_cell (a := ⟨b, 3, none⟩) hlt5 (show w5.cell? ⟨b, 3, none⟩ = some (.slice aa (cl T).acts.length ac) from hL5.c 3 rfl) p'
      have f4 := fun p' => bw_cell (a := ⟨b, 4, none⟩) hlt5 (show w5.cell? ⟨b, 4, none⟩ = some (.int .i64 (cl T).room) from hL5.c 4 rfl) p'
      have f5 := fun p' => bw_cell (a := ⟨b, 5, none⟩) hlt5 (show w5.cell? ⟨b, 5, none⟩ = some (.int .i64 T.steps) from hL5.c 5 rfl) p'
      have f6 := fun p' => bw_cell (a := ⟨b, 6, none⟩) hlt5 (show w5.cell? ⟨b, 6, none⟩ = some (.int .i64 (cl T).limit) from hL5.c 6 rfl) p'
      have HSM : Hid (∀ p', Calls Tryd.prog 53 #[.pointer (some ⟨p, 0, none⟩), .agg #[.slice fa (cl T).files.length fc, .slice na (cl T).now.length nc, .slice sa' (cl T).sure.length sc', .slice aa (cl T).acts.length ac, .int .i64 (cl T).room, .int .i64 T.steps, .int .i64 (cl T).limit]] (bw w5 p') fun e w'' => e = .returned (.bool true) ∧ ∃ q : BW, w'' = bw w5 q) := fun p' =>
        calls_bw (same_c (hrep.below (bw_below w5 p')) (hL5.r.below (bw_below w5 p')) (SameFS.cl T) hL5.o.n)
      have HSP : Hid (∀ p', Calls Tryd.prog 54 #[.pointer (some ⟨p, 0, none⟩)] (bw w5 p') fun e w'' => e = .returned (.int .i64 T.steps) ∧ ∃ q : BW, w'' = bw w5 q) := fun p' =>
        calls_bw ((steps_c (hrep.below (bw_below w5 p'))).mono fun e w' h => ⟨h.1, by rw [h.2]; exact Below.refl _ _⟩)
      clear hL5 hrep
      refine wp_region_bw (by kernel_rfl) (by kernel_rfl) ?_
      iterate 5 quiet_step (fail)
      quiet_step (exact HSM.out _)
      iterate 4 quiet_step (fail)
      quiet_step (exact HSP.out _)
      iterate 4 quiet_step (fail)
      refine wpQuiet_nil ?_
      rintro Wn ⟨pn, hWn⟩
      have hbn : Below w5.heap.size w5 Wn := by rw [hWn]; exact bw_below _ _
      clear hWn f0 f1 f2 f3 f4 f5 f6 HSM HSP
      go_wp2_with fail
      go_roundw
      case rel => exact ⟨j + 1, _, _, by omega, by go_num, HL5.out.below hbn⟩
      case measure => simp [intOf]; omega
    · have hd : decide ((j : Int) < (os.length : Int)) = false := decide_eq_false (by omega)
      go_wp2_with fail
      go_ret
      exact ⟨rfl, hb0.trans (hL.v.out.mono hb0.size)⟩
end Go.Proofs.YtfoamcobpfflbaaDoor
namespace Go.Proofs.YtfoamcobpfflbaaDoor
open Go Go.RowKit Go.Maps
open VfsS (St cl clp So)

section
open Go.ChangeShapes Go.WideShapes Go.ChangeAt
set_option maxRecDepth 100000 in
theorem open_op {H : Type} {enc : TypeId × Value → H} {W : World} {base : Nat} {v : Value} {d : DataW H} {p : List MemPlace} (hv : Value.okWide Tryd.prog W .any base 96 v)
    (h : DataW.Trod enc Tryd.prog W 0 (fun _ => true) true 96 v d p) (hk : Rows.uptoBulk d ≤ 1048576) : ∃ o : OpD, v = .agg (opCells o) ∧ OpR W o 1048576 := by
  obtain ⟨o, h1, h2⟩ := (opn_op (W := W)).arg h
  have ht := Tryd.underlying96
  simp only [Value.okWide, ht] at hv
  obtain ⟨cs, rfl, _⟩ := hv
  refine ⟨o, ?_, OpR.mono o _ _ hk h2⟩
  congr 1
  exact Array.toList_inj.1 h1
end

/-- With the power gone no call but a crash and a stop changes anything. -/
theorem stepO_cut {S : St} (h : S.limit = 0) (o : OpD) (h7 : o.kind ≠ 7) (h8 : o.kind ≠ 8) : (stepO S o).1 = S := by
  unfold stepO
  split
  · unfold VfsS.createS; simp only [h, if_true]; split <;> (try rfl); split <;> rfl
  split
  · unfold VfsS.appendS; cases VfsS.find S.now o.name <;> simp only [h, if_true]; split <;> rfl
  split
  · unfold VfsS.cutS; cases VfsS.find S.now o.name <;> simp only [h, if_true]; split <;> rfl
  split
  · unfold VfsS.syncS; cases VfsS.find S.now o.name <;> simp only [h, if_true]
  split
  · unfold VfsS.renameS; cases VfsS.find S.now o.name <;> simp only [h, if_true]; split <;> (try rfl); split <;> rfl
  split
  · unfold VfsS.removeS; simp only [h, if_true]; split <;> rfl
  split
  · unfold VfsS.flushAllS; simp only [h, if_true]
  first | rfl | rw [if_neg h7, if_neg h8]

def powerB : ByteArray := ⟨#[112, 111, 119, 101, 114]⟩
theorem power_ok : PathS.check powerB = 0 := by decide +kernel

theorem create_cut {S : St} (h : S.limit = 0) : VfsS.createS S powerB = (S, 5) ∨ VfsS.createS S powerB = (S, 190) := by
  unfold VfsS.createS
  rw [if_neg (fun e => e power_ok)]
  by_cases hf : (VfsS.find S.now powerB).isSome
  · left; rw [if_pos hf]
  · right; rw [if_neg hf, if_pos h]
theorem flush_cut {S : St} (h : S.limit = 0) : VfsS.flushAllS S = (S, 190) := by unfold VfsS.flushAllS; rw [if_pos h]

theorem LV.prog {w0 W W' : World} {p b : Nat} {S S' : St} {N N' : Nat} {cs : Array Value} {E : Nat → Prop} (h : LV w0 W p b S N cs E) (hv : VE E w0 W' p S' N') (hb : ∀ k, E k → W'.heap[k]? = W.heap[k]?) : VE E w0 W' p S' N' ∧ RR E W' cs (cl S) N ∧ W'.heap[b]? = some (.cells cs 36 (0, 0)) :=
  ⟨hv, h.r.blocks hb, (hb _ h.e).trans h.h⟩

theorem LV.keep {w0 W W' : World} {p b : Nat} {S : St} {N N' : Nat} {cs : Array Value} {E : Nat → Prop} (h : LV w0 W p b S N cs E) (hv : VE E w0 W' p S N') (hb : ∀ k, E k → W'.heap[k]? = W.heap[k]?) (hN : N ≤ N') (hb' : N' ≤ 40000000) : LV w0 W' p b S N' cs E :=
  ⟨hv, (h.r.blocks hb).mono hN hb', h.o, h.e, (hb _ h.e).trans h.h⟩

theorem LV.setLim {w0 W : World} {p b : Nat} {S : St} {N : Nat} {cs : Array Value} {E : Nat → Prop} {n : Int} (hv : VE E w0 W p { S with limit := n } N) (hr : RR E W cs (cl S) N) (ho : So S) (he : E b) (hb : W.heap[b]? = some (.cells cs 36 (0, 0))) (m : Int) (hm : m = max n (-1)) (hm2 : m ≤ 9223372036854775807) :
    ∃ cs', LV w0 (W.setCell ⟨b, 6, none⟩ (.int .i64 m)) p b { S with limit := n } N cs' E := by
  subst hm
  obtain ⟨fa, na, sa, aa, fc, nc, sc, ac, rfl, hx⟩ := hr
  have h1 := hx.setLim (max n (-1)) (by omega)
  have h2 : RR E W (rcells (cl { S with limit := n }) fa na sa aa fc nc sc ac) (cl { S with limit := n }) N := ⟨fa, na, sa, aa, fc, nc, sc, ac, rfl, h1⟩
  obtain ⟨s, g⟩ := set_block hb 6 (.int .i64 (max n (-1)))
  exact ⟨_, LV.put hv h2 ⟨ho.n, ho.s⟩ he hb s g⟩

set_option maxRecDepth 100000 in
set_option maxHeartbeats 4000000 in
theorem lawStops_c (sa : Option Addr) (sc : Nat) (os : List OpD) (x : OpD) (w : World) (hg : Gl w) (hs : Sl w sa (opRow os)) (hl : os.length ≤ 1048576) (hok : ∀ o ∈ os, OpR w o 1048576) (hx : OpR w x 1048576) :
    Calls Tryd.prog 10 #[.slice sa os.length sc, .agg (opCells x)] w fun e w' => e = .returned (.bool true) ∧ Below w.heap.size w w' := by
  show Calls _ _ #[.slice sa os.length sc, .agg #[.int .i64 x.kind, .string x.name, .string x.dst, .slice x.da x.data.size x.dc, .int .i64 x.n, .int .i64 x.m]] _ _
  go_enter Tryd.func10, Tryd.ntmps10
  go_upto_region 1 with fail
  have hbX : Below w.heap.size w (w.alloc (.cells #[.int .i64 x.kind, .string x.name, .string x.dst, .slice x.da x.data.size x.dc, .int .i64 x.n, .int .i64 x.m] 96)) := (Below.refl _ w).alloc (Nat.le_refl _) _
  have hX : (w.alloc (.cells #[.int .i64 x.kind, .string x.name, .string x.dst, .slice x.da x.data.size x.dc, .int .i64 x.n, .int .i64 x.m] 96)).heap[w.heap.size]? = some (.cells (opCells x) 96 (0, 0)) := Array.getElem?_push_size
  generalize w.alloc (.cells #[.int .i64 x.kind, .string x.name, .string x.dst, .slice x.da x.data.size x.dc, .int .i64 x.n, .int .i64 x.m] 96) = wX at *
  have hgX := hg.below hbX (Nat.le_refl _)
  go_wp2_with fail
  refine (awake14_c wX hgX).mono ?_
  rintro e w0 ⟨rfl, hbw⟩
  have hb0 := hbX.trans (hbw.mono hbX.size)
  have hXlt := (Array.getElem?_eq_some_iff.1 hX).1
  have hX0 := (hbw.block _ hXlt).trans hX
  have hXl0 := (Array.getElem?_eq_some_iff.1 hX0).1
  have hg0 := hgX.below hbw (Nat.le_refl _)
  clear hX hXlt hgX hbX
  go_wp2_with fail
  refine (new_a 2000 w0 hg0).mono ?_
  rintro e w1 (⟨hbad, -, -⟩ | ⟨-, p, rfl, H1⟩)
  · omega
  have HN : Calls Tryd.prog 18 #[.int .i64 2000] w1 fun e w'' => e = .returned (.agg (newC 2000)) ∧ Below w1.heap.size w1 w'' := rnew_c 2000 w1
  go_upto_region 7 with (first
    | (go_at_call 18; refine HN.mono ?_; rintro e w2 ⟨rfl, hb2⟩; have hB2 : (w2.alloc (.cells #[.slice none 0 0, .slice none 0 0, .slice none 0 0, .slice none 0 0, .int .i64 0, .int .i64 0, .int .i64 0] 36)).heap[w2.heap.size]? = some (.cells fs0 36 (0, 0)) := Array.getElem?_push_size)
    | (refine wp_storeFS hB2 rfl _ _ rfl rfl rfl rfl rfl (by simp [newC, Value.oneCell']) ?_; intro w3 h3 hg3))
  have hL : ∃ cs E, LV w0 w3 p w2.heap.size (VfsS.newS 2000) 0 cs E := by
    have hb3 : Below w1.heap.size w1 (w2.alloc (.cells #[.slice none 0 0, .slice none 0 0, .slice none 0 0, .slice none 0 0, .int .i64 0, .int .i64 0, .int .i64 0] 36)) := hb2.alloc hb2.size _
    have hv := H1.toE.below hb3
    exact ⟨newC 2000, _, LV.put hv (rr_new _ _ 2000 (by omega)) (So.new 2000) (.inr ⟨hb2.size, by simp⟩) hB2 h3 hg3⟩
  clear H1 HN hb2 hB2 hg3 h3
  have hsW := hs.below hb0
  have HOK : Hid (∀ o ∈ os, o.Ok w0) := fun o ho => (hok o ho).ok (Nat.le_refl _) hb0
  have HOX : Hid (x.Ok w0) := hx.ok (Nat.le_refl _) hb0
  clear hok hx hs hg hg0 hbw
  generalize w2.heap.size = b at *
  go_wp2_with fail
  go_loopw [22] (fun iv wx => ∃ (j : Nat) (cs : Array Value) (E : Nat → Prop), j ≤ os.length ∧ iv = .int .i64 j ∧ LV w0 wx p b (run (VfsS.newS 2000) os j) (0 + 3 * j) cs E) (fun iv _ => (os.length - intOf iv).toNat)
  case atStart =>
    obtain ⟨cs, E, hL⟩ := hL
    exact ⟨0, cs, E, Nat.zero_le _, rfl, by rw [run_zero]; exact hL⟩
  case round =>
    clear hL
    obtain ⟨j, cs, E, hj, rfl, hL⟩ := hrel
    by_cases hjl : j < os.length
    · have hd : decide ((j : Int) < (os.length : Int)) = true := decide_eq_true (by omega)
      have HRS := Lib.hid (run_step (VfsS.newS 2000) os j hjl)
      have hoj := HOK.out _ (List.getElem_mem hjl)
      obtain ⟨ab, ao, rfl, hab, hcel⟩ := (hsW.below hL.v.out).at (k := j * 6) (by rw [opRow_len]; omega)
      have far : ∀ i u, i < 6 → (opCells os[j])[i]? = some u → wr.cell? ⟨ab, ao + j * 6 + i, none⟩ = some u := fun i u hi hu => by
        have h1 := opRow_at os j hjl i hi
        rw [hu] at h1
        obtain ⟨h2, h3⟩ := List.getElem?_eq_some_iff.1 h1
        rw [Nat.add_assoc, hcel _ h2, h3]
      have q0 : wr.cell? ⟨ab, ao + j * 6, none⟩ = some (.int .i64 os[j].kind) := far 0 _ (by omega) rfl
      have q1 : wr.cell? ⟨ab, ao + j * 6 + 1, none⟩ = some (.string os[j].name) := far 1 _ (by omega) rfl
      have q2 : wr.cell? ⟨ab, ao + j * 6 + 2, none⟩ = some (.string os[j].dst) := far 2 _ (by omega) rfl
      have q3 : wr.cell? ⟨ab, ao + j * 6 + 3, none⟩ = some (.slice os[j].da os[j].data.size os[j].dc) := far 3 _ (by omega) rfl
      have q4 : wr.cell? ⟨ab, ao + j * 6 + 4, none⟩ = some (.int .i64 os[j].n) := far 4 _ (by omega) rfl
      have q5 : wr.cell? ⟨ab, ao + j * 6 + 5, none⟩ = some (.int .i64 os[j].m) := far 5 _ (by omega) rfl
      have b1 : (0 : Int) ≤ (j : Int) := by omega
      have b2 : (j : Int) < os.length := by omega
      have hw : IntKind.i64.wrap ((j : Int) + 1) = (j : Int) + 1 := IntWalk.i64_in _ (by omega)
      generalize os[j] = o at *
      clear far hcel
      go_upto_region 10 with fail
      have hbA : Below wr.heap.size wr (wr.alloc (.cells #[.int .i64 o.kind, .string o.name, .string o.dst, .slice o.da o.data.size o.dc, .int .i64 o.n, .int .i64 o.m] 96)) := (Below.refl _ wr).alloc (Nat.le_refl _) _
      have hO : (wr.alloc (.cells #[.int .i64 o.kind, .string o.name, .string o.dst, .slice o.da o.data.size o.dc, .int .i64 o.n, .int .i64 o.m] 96)).heap[wr.heap.size]? = some (.cells (opCells o) 96 (0, 0)) := Array.getElem?_push_size
      have hL1 := hL.below hbA
      have HST := Lib.hid (lawstep_c hL1.v hL1.r o hoj (by omega))
      have hcs := hL1.r.size
      have hSo := So.stepO hL1.o o
      have hLh := hL1.h
      have hLe := hL1.e
      generalize wr.alloc (.cells #[.int .i64 o.kind, .string o.name, .string o.dst, .slice o.da o.data.size o.dc, .int .i64 o.n, .int .i64 o.m] 96) = W1 at *
      clear hL
      go_upto_region 11 with (first
        | (refine wp_loadFS hLh rfl _ rfl rfl hcs ?_)
        | (refine wp_loadOp hO rfl _ rfl rfl ?_)
        | (go_at_call 52; refine HST.out.mono ?_; rintro e w4 ⟨cs4, E4, rfl, hsub4, hv4, hr4, hk4⟩; have hB4 := (hk4 _ hLe).trans hLh; have hs4 := hr4.size; have ho4 := hr4.one)
        | (refine wp_storeFS hB4 rfl _ _ rfl rfl rfl hcs hs4 ho4 ?_; intro w5 h5 hg5; have hL5 := LV.put hv4 hr4 hSo (hsub4 _ hLe) hB4 h5 hg5))
      have HL5 : Hid (LV w0 w5 p b (run (VfsS.newS 2000) os (j + 1)) (0 + 3 * (j + 1)) cs4 E4) := by
        have := hL5
        rw [← HRS.out] at this
        exact this
      clear HST hLh hLe hO hL1 hv4 hr4 hk4 hB4 hSo h5 hg5 hcs q0 q1 q2 q3 q4 q5 hL5 HRS
      go_wp2_with fail
      go_roundw
      case rel => exact ⟨j + 1, _, _, by omega, by go_num, HL5.out⟩
      case measure => simp [intOf]; omega
    · obtain rfl : j = os.length := by omega
      have hd : decide ((os.length : Int) < (os.length : Int)) = false := decide_eq_false (by omega)
      generalize run (VfsS.newS 2000) os os.length = T at *
      have HSP := Lib.hid (stop_e hL.v 0 (by omega))
      have hLh := hL.h
      go_upto_region 13 with (go_at_call 47; refine HSP.out.mono ?_; rintro e w4 ⟨rfl, hv4, hk4⟩; obtain ⟨-, hr4, hB4⟩ := hL.prog hv4 hk4)
      obtain ⟨fa, na, sa', aa, fc, nc, sc', ac, ecs, -⟩ := hr4
      have e6 : w4.cell? ⟨b, 6, none⟩ = some (.int .i64 (cl T).limit) := by rw [cell_of hB4, ecs]; rfl
      have f6 := frozen_of hB4 6
      obtain ⟨-, hr4, -⟩ := hL.prog hv4 hk4
      obtain ⟨cs5, hL5⟩ := LV.setLim hv4 hr4 hL.o hL.e hB4 0 (by decide) (by decide)
      have hlim : ({ T with limit := 0 } : St).limit = 0 := rfl
      clear ecs hr4 hv4 hk4 hLh HSP hL
      go_upto_region 14 with fail
      generalize w4.setCell ⟨b, 6, none⟩ (.int .i64 0) = w5 at *
      generalize ({ T with limit := 0 } : St) = U at *
      clear e6 f6 hB4
      obtain ⟨K5, hrep5⟩ := hL5.rep
      have HFL := Lib.hid (flush_e hL5.v (by omega))
      rw [flush_cut hlim] at HFL
      have HCR := Lib.hid (fun (W : World) (N : Nat) (hv : VE E w0 W p U N) (hN : N + 3 ≤ 100000000) => create_e hv powerB (by decide) hN)
      have hkind : ∀ (W : World), Below w0.heap.size w0 W → W.cell? ⟨w.heap.size, 0, none⟩ = some (.int .i64 x.kind) ∧ W.heap[w.heap.size]? = some (.cells (opCells x) 96 (0, 0)) := fun W hb => by
        have := (hb.block _ hXl0).trans hX0
        exact ⟨by rw [cell_of this]; rfl, this⟩
      have HKD := Lib.hid hkind
      clear hkind
      have HCUT := Lib.hid (fun h7 h8 => stepO_cut hlim x h7 h8)
      have hcases := create_cut hlim
      clear hlim
      rcases hcases with hc | hc
      all_goals
        rw [hc] at HCR
        clear hc
        go_upto_region 17 with (first
          | (go_at_call 54; refine (steps_c hrep5).mono ?_; rintro e w' ⟨rfl, rfl⟩)
          | (go_at_call 19; refine HFL.out.mono ?_; rintro e w6 ⟨rfl, hv6, hk6⟩; have hL6 := hL5.keep hv6 hk6 (by omega) (by omega); have hL8 := hL6)
          | (go_at_call 45; refine (HCR.out w6 _ hL6.v (by omega)).mono ?_; rintro e w7 ⟨rfl, hv7, hk7⟩; have hL7 := hL6.keep hv7 hk7 (by omega) (by omega); have hL8 := hL7)
          | (go_at_call 45; refine (HCR.out w7 _ hL7.v (by omega)).mono ?_; rintro e w8 ⟨rfl, hv8, hk8⟩; have hL8 := hL7.keep hv8 hk8 (by omega) (by omega)))
      all_goals
        have hkk := HKD.out _ hL8.v.out
        obtain ⟨k0, hXB⟩ := hkk
        clear HFL HCR HKD hL5
        have hcs := hL8.r.size
        have hLh := hL8.h
        by_cases h7 : x.kind = 7
        · have n7 : (x.kind != 7) = false := by rw [bne_eq_false_iff_eq]; exact h7
          have m7 : (x.kind == 7) = true := by rw [beq_iff_eq]; exact h7
          clear h7 HCUT
          obtain ⟨K8, hrep8⟩ := hL8.rep
          have HSM := Lib.hid (same_c hrep8 hL8.r (SameFS.cl _) hL8.o.n)
          have hout := hL8.v.out
          clear hL8
          go_wp2_with (first
            | (refine wp_loadFS hLh rfl _ rfl rfl hcs ?_)
            | (go_at_call 53; refine HSM.out.mono ?_; rintro e w9 ⟨rfl, hb9⟩; have hrep9 := hrep8.below hb9)
            | (go_at_call 54; refine (steps_c hrep9).mono ?_; rintro e w' ⟨rfl, rfl⟩))
          go_ret
          exact ⟨by simp, hb0.trans ((hout.trans (hb9.mono hout.size)).mono hb0.size)⟩
        · have n7 : (x.kind != 7) = true := by rw [bne_iff_ne]; exact h7
          have m7 : (x.kind == 7) = false := by rw [beq_eq_false_iff_ne]; exact h7
          by_cases h8 : x.kind = 8
          · have n8 : (x.kind != 8) = false := by rw [bne_eq_false_iff_eq]; exact h8
            have m8 : (x.kind == 8) = true := by rw [beq_iff_eq]; exact h8
            clear h7 h8 HCUT
            obtain ⟨K8, hrep8⟩ := hL8.rep
            have HSM := Lib.hid (same_c hrep8 hL8.r (SameFS.cl _) hL8.o.n)
            have hout := hL8.v.out
            clear hL8
            go_wp2_with (first
              | (refine wp_loadFS hLh rfl _ rfl rfl hcs ?_)
              | (go_at_call 53; refine HSM.out.mono ?_; rintro e w9 ⟨rfl, hb9⟩; have hrep9 := hrep8.below hb9)
              | (go_at_call 54; refine (steps_c hrep9).mono ?_; rintro e w' ⟨rfl, rfl⟩))
            go_ret
            exact ⟨by simp, hb0.trans ((hout.trans (hb9.mono hout.size)).mono hb0.size)⟩
          · have n8 : (x.kind != 8) = true := by rw [bne_iff_ne]; exact h8
            have m8 : (x.kind == 8) = false := by rw [beq_eq_false_iff_ne]; exact h8
            have HCU := Lib.hid (HCUT.out h7 h8)
            have HST := Lib.hid (lawstep_c hL8.v hL8.r x HOX.out (by omega))
            have hLe := hL8.e
            have hSo := So.stepO hL8.o x
            rw [HCU.out] at HST hSo
            clear h7 h8 HCUT hL8 HCU
            go_upto_region 19 with (first
              | (refine wp_loadFS hLh rfl _ rfl rfl hcs ?_)
              | (refine wp_loadOp hXB rfl _ rfl rfl ?_)
              | (go_at_call 52; refine HST.out.mono ?_; rintro e wa ⟨csa, Ea, rfl, hsuba, hva, hra, hka⟩; have hBa := (hka _ hLe).trans hLh; have hsa := hra.size; have hoa := hra.one)
              | (refine wp_storeFS hBa rfl _ _ rfl rfl rfl hcs hsa hoa ?_; intro wb hhb hgb; have hLb := LV.put hva hra hSo (hsuba _ hLe) hBa hhb hgb))
            obtain ⟨K8, hrep8⟩ := hLb.rep
            have HSM := Lib.hid (same_c hrep8 hLb.r (SameFS.cl _) hLb.o.n)
            have hout := hLb.v.out
            clear hLb
            go_wp2_with (first
              | (refine wp_loadFS hhb rfl _ rfl rfl hsa ?_)
              | (go_at_call 53; refine HSM.out.mono ?_; rintro e w9 ⟨rfl, hb9⟩; have hrep9 := hrep8.below hb9)
              | (go_at_call 54; refine (steps_c hrep9).mono ?_; rintro e w' ⟨rfl, rfl⟩))
            go_ret
            exact ⟨by simp, hb0.trans ((hout.trans (hb9.mono hout.size)).mono hb0.size)⟩
end Go.Proofs.YtfoamcobpfflbaaDoor
namespace Go.Proofs.YtfoamcobpfflbaaDoor
open VfsS (St)
namespace VfsT

def old1 (x : ByteArray) (n : Int) : St := ⟨[⟨x, x.size⟩], [(f, 0)], [(f, 0)], [], 1000, 4, n⟩
theorem bz : ByteArray.empty.size = 0 := rfl

theorem be_append (x : ByteArray) : ByteArray.empty ++ x = x := by
  apply ByteArray.ext; rw [ByteArray.data_append]; simp [ByteArray.empty, ByteArray.emptyWithCapacity]; rfl

theorem f1 : VfsS.createS (VfsS.newS (1000 : Int).toNat) f = (⟨[⟨ByteArray.empty, 0⟩], [(f, 0)], [], [⟨ByteArray.empty, f, some 0⟩], 1000, 1, -1⟩, 0) := by
  rw [VfsS.createS, check_f, if_neg (by decide)]; rfl
theorem f2 (x : ByteArray) (h : x.size ≤ 1000) : VfsS.appendS ⟨[⟨ByteArray.empty, 0⟩], [(f, 0)], [], [⟨ByteArray.empty, f, some 0⟩], 1000, 1, -1⟩ f x = (⟨[⟨x, 0⟩], [(f, 0)], [], [⟨ByteArray.empty, f, some 0⟩], 1000, 2, -1⟩, 0) := by
  show (if ((1000 : Nat) : Int) - ((0 + 0 : Nat) : Int) < (x.size : Int) then _ else _) = _
  rw [if_neg (by omega)]
  show ((⟨[⟨ByteArray.empty ++ x, 0⟩], _, _, _, _, _, _⟩ : St), (0 : Int)) = _
  rw [be_append]; rfl
theorem f3 (x : ByteArray) : VfsS.syncS ⟨[⟨x, 0⟩], [(f, 0)], [], [⟨ByteArray.empty, f, some 0⟩], 1000, 2, -1⟩ f = (⟨[⟨x, x.size⟩], [(f, 0)], [], [⟨ByteArray.empty, f, some 0⟩], 1000, 3, -1⟩, 0) := rfl
theorem f4 (x : ByteArray) : VfsS.flushAllS ⟨[⟨x, x.size⟩], [(f, 0)], [], [⟨ByteArray.empty, f, some 0⟩], 1000, 3, -1⟩ = (old1 x (-1), 0) := rfl

/-- A limit that is one less. -/
def lim (n : Int) : Int := if 0 < n then n - 1 else n

def g1 (x : ByteArray) (n : Int) : St := ⟨[⟨x, x.size⟩, ⟨ByteArray.empty, 0⟩], [(f, 0), (g, 1)], [(f, 0)], [⟨ByteArray.empty, g, some 1⟩], 1000, 5, n⟩
def g2 (x y : ByteArray) (n : Int) : St := ⟨[⟨x, x.size⟩, ⟨y, 0⟩], [(f, 0), (g, 1)], [(f, 0)], [⟨ByteArray.empty, g, some 1⟩], 1000, 6, n⟩
def g3 (x y : ByteArray) (n : Int) : St := ⟨[⟨x, x.size⟩, ⟨y, y.size⟩], [(f, 0), (g, 1)], [(f, 0)], [⟨ByteArray.empty, g, some 1⟩], 1000, 7, n⟩
def g4 (x y : ByteArray) (n : Int) : St := ⟨[⟨x, x.size⟩, ⟨y, y.size⟩], [(f, 1)], [(f, 0)], [⟨ByteArray.empty, g, some 1⟩, ⟨g, f, some 1⟩], 1000, 8, n⟩
def g5 (x y : ByteArray) (n : Int) : St := ⟨[⟨x, x.size⟩, ⟨y, y.size⟩], [(f, 1)], [(f, 1)], [], 1000, 9, n⟩

theorem lim_step (S : St) (h : S.limit ≠ 0) : VfsS.stepS S = { S with limit := lim S.limit, steps := S.steps + 1 } := by unfold VfsS.stepS; rw [if_neg h]; rfl

theorem o1 (x : ByteArray) (n : Int) : VfsS.createS (old1 x n) g = if n = 0 then (old1 x n, 190) else (g1 x (lim n), 0) := by
  rw [VfsS.createS, check_g, if_neg (by decide)]
  show (if n = 0 then _ else _) = _
  by_cases h : n = 0
  · rw [if_pos h, if_pos h]
  · rw [if_neg h, if_neg h, lim_step _ h]; rfl
theorem o2 (x y : ByteArray) (n : Int) (h : x.size + y.size ≤ 1000) : VfsS.appendS (g1 x n) g y = if n = 0 then (g1 x n, 190) else (g2 x y (lim n), 0) := by
  show (if ((1000 : Nat) : Int) - ((x.size + (0 + 0) : Nat) : Int) < (y.size : Int) then _ else if n = 0 then _ else _) = _
  rw [if_neg (by omega)]
  by_cases h : n = 0
  · rw [if_pos h, if_pos h]
  · rw [if_neg h, if_neg h, lim_step _ h]
    show ((⟨[⟨x, x.size⟩, ⟨ByteArray.empty ++ y, 0⟩], _, _, _, _, _, _⟩ : St), (0 : Int)) = _
    rw [be_append]; rfl
theorem o3 (x y : ByteArray) (n : Int) : VfsS.syncS (g2 x y n) g = if n = 0 then (g2 x y n, 190) else (g3 x y (lim n), 0) := by
  show (if n = 0 then _ else _) = _
  by_cases h : n = 0
  · rw [if_pos h, if_pos h]
  · rw [if_neg h, if_neg h, lim_step _ h]; rfl
theorem o4 (x y : ByteArray) (n : Int) : VfsS.renameS (g3 x y n) g f = if n = 0 then (g3 x y n, 190) else (g4 x y (lim n), 0) := by
  rw [VfsS.renameS, check_f, show VfsS.find (g3 x y n).now g = some 1 from rfl]
  show (if n = 0 then _ else _) = _
  by_cases h : n = 0
  · rw [if_pos h, if_pos h]
  · rw [if_neg h, if_neg h, lim_step _ h]; rfl
theorem o5 (x y : ByteArray) (n : Int) : VfsS.flushAllS (g4 x y n) = if n = 0 then (g4 x y n, 190) else (g5 x y (lim n), 0) := by
  show (if n = 0 then _ else _) = _
  by_cases h : n = 0
  · rw [if_pos h, if_pos h]
  · rw [if_neg h, if_neg h, lim_step _ h]; rfl

theorem cut_full (x : ByteArray) (n : Int) : (VfsS.cutF n ⟨x, x.size⟩).text = x := by
  show x.extract 0 (x.size + min n.toNat (x.size - x.size)) = x
  rw [Nat.sub_self, Nat.min_zero, Nat.add_zero]
  exact ByteArray.extract_zero_size

theorem clamp_cases (m : Int) (k : Nat) : VfsS.clampN m k ≤ k := Nat.min_le_right _ _

/-- A crash that keeps k changes of names. -/
def crK (S : St) (k : Nat) (b : Int) : St := ⟨(VfsS.flushS S k).files.map (VfsS.cutF b), (VfsS.flushS S k).sure, (VfsS.flushS S k).sure, [], (VfsS.flushS S k).room, (VfsS.flushS S k).steps, -1⟩
theorem crash_eq (S : St) (a b : Int) : VfsS.crashS S a b = crK S (VfsS.clampN a S.acts.length) b := rfl

/-- What is read behind the crash. -/
theorem rd0 (x : ByteArray) (n a b : Int) : VfsS.readS (VfsS.crashS (old1 x n) a b) f = some x := by
  have e : VfsS.clampN a (old1 x n).acts.length = 0 := Nat.min_zero _
  rw [crash_eq, e]
  show some (VfsS.cutF b ⟨x, x.size⟩).text = _
  rw [cut_full]
theorem rd1 (x : ByteArray) (F : VfsS.File) (n a b : Int) (k : Nat) : VfsS.readS (VfsS.crashS ⟨[⟨x, x.size⟩, F], [(f, 0), (g, 1)], [(f, 0)], [⟨ByteArray.empty, g, some 1⟩], 1000, k, n⟩ a b) f = some x := by
  have h := clamp_cases a 1
  rw [crash_eq]
  show VfsS.readS (crK _ (VfsS.clampN a 1) b) f = _
  have h2 : ∀ j, j ≤ 1 → VfsS.readS (crK ⟨[⟨x, x.size⟩, F], [(f, 0), (g, 1)], [(f, 0)], [⟨ByteArray.empty, g, some 1⟩], 1000, k, n⟩ j b) f = some (VfsS.cutF b ⟨x, x.size⟩).text := by
    intro j hj
    match j, hj with
    | 0, _ => rfl
    | 1, _ => rfl
  rw [h2 _ h, cut_full]
theorem rd4 (x y : ByteArray) (n a b : Int) : VfsS.readS (VfsS.crashS (g4 x y n) a b) f = some x ∨ VfsS.readS (VfsS.crashS (g4 x y n) a b) f = some y := by
  have h := clamp_cases a 2
  rw [crash_eq]
  show VfsS.readS (crK _ (VfsS.clampN a 2) b) f = _ ∨ VfsS.readS (crK _ (VfsS.clampN a 2) b) f = _
  have h2 : ∀ j, j ≤ 2 → VfsS.readS (crK (g4 x y n) j b) f = some (VfsS.cutF b ⟨x, x.size⟩).text ∨ VfsS.readS (crK (g4 x y n) j b) f = some (VfsS.cutF b ⟨y, y.size⟩).text := by
    intro j hj
    match j, hj with
    | 0, _ => exact .inl rfl
    | 1, _ => exact .inl rfl
    | 2, _ => exact .inr rfl
  have h3 := h2 _ h
  rw [cut_full, cut_full] at h3
  exact h3
theorem rd5 (x y : ByteArray) (n a b : Int) : VfsS.readS (VfsS.crashS (g5 x y n) a b) f = some y := by
  have e : VfsS.clampN a (g5 x y n).acts.length = 0 := Nat.min_zero _
  rw [crash_eq, e]
  show some (VfsS.cutF b ⟨y, y.size⟩).text = _
  rw [cut_full]
end VfsT
end Go.Proofs.YtfoamcobpfflbaaDoor
namespace Go.Proofs.YtfoamcobpfflbaaDoor
open VfsS (St Chg Nm find doL fl)
namespace VfsU

def sB : ByteArray := ⟨#[115, 117, 114, 101]⟩
def uB : ByteArray := ⟨#[117, 110, 115, 117, 114, 101]⟩
theorem check_s : PathS.check sB = 0 := by decide +kernel
theorem check_u : PathS.check uB = 0 := by decide +kernel

/-- A change of names that has nothing to do with both names, nor with file i. -/
structure Far (i : Nat) (c : Chg) : Prop where
  s : c.src ≠ sB
  d : c.dst ≠ sB
  u : c.dst ≠ uB
  f : c.file ≠ some i

structure Su (S : St) (i : Nat) (t : ByteArray) : Prop where
  n : find S.now sB = some i
  s : find S.sure sB = some i
  un : find S.now uB = none
  us : find S.sure uB = none
  on : ∀ q ∈ S.now, q.2 = i → q.1 = sB
  os : ∀ q ∈ S.sure, q.2 = i → q.1 = sB
  a : ∀ c ∈ S.acts, Far i c
  f : fl S i = ⟨t, t.size⟩

theorem far_s {i : Nat} {c : Chg} (h : Far i c) (l : Nm) : find (doL l c) sB = find l sB := by
  rw [VfsS.find_doL]
  cases c.file with
  | none => simp only; rw [if_neg (fun e => h.s e.2.symm)]
  | some j => simp only; rw [if_neg (fun e => h.d e.symm), if_neg (fun e => h.s e.2.symm)]
theorem far_u {i : Nat} {c : Chg} (h : Far i c) {l : Nm} (hl : find l uB = none) : find (doL l c) uB = none := by
  rw [VfsS.find_doL]
  cases c.file with
  | none =>
    simp only
    split
    · rfl
    · exact hl
  | some j =>
    simp only
    rw [if_neg (fun e => h.u e.symm)]
    split
    · rfl
    · exact hl
theorem far_o {i : Nat} {c : Chg} (h : Far i c) {l : Nm} (hl : ∀ q ∈ l, q.2 = i → q.1 = sB) : ∀ q ∈ doL l c, q.2 = i → q.1 = sB := by
  intro q hq e
  rcases VfsS.doL_mem hq with h1 | h1
  · exact hl q h1 e
  · exact absurd (by rw [← e]; exact h1.1) h.f

theorem fold_far {i : Nat} : ∀ (cs : List Chg) (l : Nm), (∀ c ∈ cs, Far i c) → find l sB = some i → find l uB = none → (∀ q ∈ l, q.2 = i → q.1 = sB) →
    find (cs.foldl doL l) sB = some i ∧ find (cs.foldl doL l) uB = none ∧ ∀ q ∈ cs.foldl doL l, q.2 = i → q.1 = sB
  | [], l, _, h1, h2, h3 => ⟨h1, h2, h3⟩
  | c :: cs, l, h, h1, h2, h3 => by
    have hc := h c (by simp)
    rw [List.foldl_cons]
    exact fold_far cs _ (fun d hd => h d (by simp [hd])) (by rw [far_s hc]; exact h1) (far_u hc h2) (far_o hc h3)

section
variable {S : St} {i : Nat} {t : ByteArray}

theorem Su.lt (h : Su S i t) (hw : VfsS.Wf S) : i < S.files.length := hw.idx i (.inl ⟨sB, VfsS.find_mem h.n⟩)
theorem Su.step (h : Su S i t) : Su (VfsS.stepS S) i t :=
  ⟨by rw [VfsS.stepS_now]; exact h.n, by rw [VfsS.stepS_sure]; exact h.s, by rw [VfsS.stepS_now]; exact h.un, by rw [VfsS.stepS_sure]; exact h.us, by rw [VfsS.stepS_now]; exact h.on, by rw [VfsS.stepS_sure]; exact h.os, by rw [VfsS.stepS_acts]; exact h.a, by rw [VfsS.fl_step]; exact h.f⟩
theorem Su.change (h : Su S i t) {c : Chg} (hc : Far i c) : Su (VfsS.changeS S c) i t :=
  ⟨(far_s hc _).trans h.n, h.s, far_u hc h.un, h.us, far_o hc h.on, h.os, fun d hd => by
    rcases List.mem_append.1 hd with h1 | h1
    · exact h.a d h1
    · rw [List.mem_singleton] at h1; subst h1; exact hc, h.f⟩
theorem Su.put (h : Su S i t) {j : Nat} (hj : j < S.files.length) (hne : j ≠ i) (f : VfsS.File) : Su (VfsS.putS S j f) i t :=
  ⟨h.n, h.s, h.un, h.us, h.on, h.os, h.a, by rw [VfsS.fl_put hj, if_neg (fun e => hne e.symm)]; exact h.f⟩
theorem Su.more (h : Su S i t) (hl : i < S.files.length) (f : VfsS.File) : Su { S with files := S.files ++ [f] } i t :=
  ⟨h.n, h.s, h.un, h.us, h.on, h.os, h.a, by
    have := h.f
    unfold fl at this ⊢
    simp only [List.getD_eq_getElem?_getD] at this ⊢
    rw [List.getElem?_append_left hl]; exact this⟩
theorem Su.lim (h : Su S i t) (n : Int) : Su { S with limit := n } i t := ⟨h.n, h.s, h.un, h.us, h.on, h.os, h.a, h.f⟩
theorem Su.flush (h : Su S i t) (n : Nat) : Su (VfsS.flushS S n) i t := by
  obtain ⟨h1, h2, h3⟩ := fold_far (S.acts.take n) S.sure (fun c hc => h.a c (List.mem_of_mem_take hc)) h.s h.us h.os
  exact ⟨h.n, h1, h.un, h2, h.on, h3, fun c hc => h.a c (List.mem_of_mem_drop hc), h.f⟩

theorem cut_same (y : Int) (t : ByteArray) : VfsS.cutF y ⟨t, t.size⟩ = ⟨t, t.size⟩ := by
  have h1 := VfsT.cut_full t y
  have h2 : (VfsS.cutF y ⟨t, t.size⟩).dur = t.size := by
    show t.size + VfsS.clampN y (t.size - t.size) = t.size
    unfold VfsS.clampN
    omega
  cases h : VfsS.cutF y ⟨t, t.size⟩ with
  | mk a b => rw [h] at h1 h2; simp only at h1 h2; rw [h1, h2]

theorem fl_map {fs : List VfsS.File} {g : VfsS.File → VfsS.File} {i : Nat} (hi : i < fs.length) : (fs.map g).getD i default = g (fs.getD i default) := by
  rw [List.getD_eq_getElem?_getD, List.getD_eq_getElem?_getD, List.getElem?_map, List.getElem?_eq_getElem hi]; rfl

theorem Su.crash (h : Su S i t) (hw : VfsS.Wf S) (x y : Int) : Su (VfsS.crashS S x y) i t := by
  have h1 := h.flush (VfsS.clampN x S.acts.length)
  refine ⟨h1.s, h1.s, h1.us, h1.us, h1.os, h1.os, fun c hc => (nomatch hc), ?_⟩
  show (((VfsS.flushS S (VfsS.clampN x S.acts.length)).files.map (VfsS.cutF y)).getD i default) = _
  rw [fl_map (show i < (VfsS.flushS S (VfsS.clampN x S.acts.length)).files.length from h.lt hw)]
  have : (VfsS.flushS S (VfsS.clampN x S.acts.length)).files.getD i default = ⟨t, t.size⟩ := h1.f
  rw [this, cut_same]

/-- A call on other names. -/
theorem Su.stepO (h : Su S i t) (hw : VfsS.Wf S) (o : OpD) (h1 : o.name ≠ sB) (h2 : o.dst ≠ sB) (h4 : o.dst ≠ uB) (h3 : o.name ≠ uB) : Su (stepO S o).1 i t := by
  have hl := h.lt hw
  have other : ∀ {j : Nat}, find S.now o.name = some j → j ≠ i := fun hj e => h1 (h.on _ (VfsS.find_mem hj) e)
  have jlt : ∀ {j : Nat}, find S.now o.name = some j → j < (VfsS.stepS S).files.length := fun hj => by rw [VfsS.stepS_files]; exact hw.idx _ (.inl ⟨_, VfsS.find_mem hj⟩)
  have e0 : ByteArray.empty ≠ sB := by decide
  have e1 : ByteArray.empty ≠ uB := by decide
  unfold Go.Proofs.YtfoamcobpfflbaaDoor.stepO
  split
  · unfold VfsS.createS
    split
    · exact h
    · split
      · exact h
      · split
        · exact h
        · have h5 : Su { VfsS.stepS S with files := S.files ++ [⟨ByteArray.empty, 0⟩] } i t := by
            have := h.step.more (by rw [VfsS.stepS_files]; exact hl) ⟨ByteArray.empty, 0⟩
            rw [VfsS.stepS_files] at this
            exact this
          exact h5.change ⟨e0, h1, h3, fun e => by injection e with e; omega⟩
  split
  · unfold VfsS.appendS
    cases hf : find S.now o.name with
    | none => exact h
    | some j =>
      simp only
      split
      · exact h
      · split
        · exact h
        · exact h.step.put (jlt hf) (other hf) _
  split
  · unfold VfsS.cutS
    cases hf : find S.now o.name with
    | none => exact h
    | some j =>
      simp only
      split
      · exact h
      · split
        · exact h
        · exact h.step.put (jlt hf) (other hf) _
  split
  · unfold VfsS.syncS
    cases hf : find S.now o.name with
    | none => exact h
    | some j =>
      simp only
      split
      · exact h
      · exact h.step.put (jlt hf) (other hf) _
  split
  · unfold VfsS.renameS
    cases hf : find S.now o.name with
    | none => exact h
    | some j =>
      simp only
      split
      · exact h
      · split
        · exact h
        · split
          · exact h
          · exact h.step.change ⟨h1, h2, h4, fun e => by injection e with e; exact other hf e⟩
  split
  · unfold VfsS.removeS
    split
    · split
      · exact h
      · exact h.step.change ⟨h1, e0, e1, fun e => by cases e⟩
    · exact h
  split
  · unfold VfsS.flushAllS
    split
    · exact h
    · exact h.step.flush _
  split
  · exact h.crash hw _ _
  split
  · exact h.lim _
  · exact h

/-- The name that never was durable. -/
theorem Su.unsure (h : Su S i t) : (VfsS.createS { S with limit := -1 } uB).2 = 0 ∧ (VfsS.createS { S with limit := -1 } uB).1.sure = S.sure ∧ ∃ r, (VfsS.createS { S with limit := -1 } uB).1.files = S.files ++ r := by
  unfold VfsS.createS
  rw [if_neg (fun e => e check_u)]
  rw [if_neg (by rw [h.un]; decide), if_neg (by show ¬ (-1 : Int) = 0; decide)]
  exact ⟨rfl, rfl, _, rfl⟩

/-- Behind a crash that keeps no change of names. -/
theorem Su.gone (h : Su S i t) (hl : i < S.files.length) {U : St} (hs : U.sure = S.sure) {r : List VfsS.File} (hf : U.files = S.files ++ r) (y : Int) : Su (VfsS.crashS U 0 y) i t := by
  have hz : VfsS.clampN 0 U.acts.length = 0 := by unfold VfsS.clampN; omega
  have e : (VfsS.crashS U 0 y) = ⟨(U.files.map (VfsS.cutF y)), S.sure, S.sure, [], U.room, U.steps, -1⟩ := by
    unfold VfsS.crashS VfsS.flushS
    rw [hz, List.take_zero]
    simp only [List.foldl_nil, hs]
  rw [e]
  refine ⟨h.s, h.s, h.us, h.us, h.os, h.os, fun c hc => (nomatch hc), ?_⟩
  show ((U.files.map (VfsS.cutF y)).getD i default) = _
  have hl2 : i < U.files.length := by rw [hf, List.length_append]; omega
  rw [fl_map hl2]
  have : U.files.getD i default = ⟨t, t.size⟩ := by
    have := h.f
    unfold fl at this
    rw [List.getD_eq_getElem?_getD] at this ⊢
    rw [hf, List.getElem?_append_left hl]; exact this
  rw [this, cut_same]

theorem Su.read (h : Su S i t) : VfsS.readS S sB = some t := by
  unfold VfsS.readS; rw [h.n]; show some (fl S i).text = _; rw [h.f]
theorem Su.readu (h : Su S i t) : VfsS.readS S uB = none := by unfold VfsS.readS; rw [h.un]; rfl
end

def s4 (x : ByteArray) : St := ⟨[⟨x, x.size⟩], [(sB, 0)], [(sB, 0)], [], 1048576, 4, -1⟩
theorem b1 : VfsS.createS (VfsS.newS (1048576 : Int).toNat) sB = (⟨[⟨ByteArray.empty, 0⟩], [(sB, 0)], [], [⟨ByteArray.empty, sB, some 0⟩], 1048576, 1, -1⟩, 0) := by
  rw [VfsS.createS, check_s, if_neg (by decide)]; rfl
theorem b2 (x : ByteArray) (h : x.size ≤ 100000) : VfsS.appendS ⟨[⟨ByteArray.empty, 0⟩], [(sB, 0)], [], [⟨ByteArray.empty, sB, some 0⟩], 1048576, 1, -1⟩ sB x = (⟨[⟨x, 0⟩], [(sB, 0)], [], [⟨ByteArray.empty, sB, some 0⟩], 1048576, 2, -1⟩, 0) := by
  show (if ((1048576 : Nat) : Int) - ((0 + 0 : Nat) : Int) < (x.size : Int) then _ else _) = _
  rw [if_neg (by omega)]
  show ((⟨[⟨ByteArray.empty ++ x, 0⟩], _, _, _, _, _, _⟩ : St), (0 : Int)) = _
  rw [VfsT.be_append]; rfl
theorem b3 (x : ByteArray) : VfsS.syncS ⟨[⟨x, 0⟩], [(sB, 0)], [], [⟨ByteArray.empty, sB, some 0⟩], 1048576, 2, -1⟩ sB = (⟨[⟨x, x.size⟩], [(sB, 0)], [], [⟨ByteArray.empty, sB, some 0⟩], 1048576, 3, -1⟩, 0) := rfl
theorem b4 (x : ByteArray) : VfsS.flushAllS ⟨[⟨x, x.size⟩], [(sB, 0)], [], [⟨ByteArray.empty, sB, some 0⟩], 1048576, 3, -1⟩ = (s4 x, 0) := rfl
theorem su4 (x : ByteArray) : Su (s4 x) 0 x :=
  ⟨rfl, rfl, show find [(sB, 0)] uB = none by decide, show find [(sB, 0)] uB = none by decide, fun q hq _ => by simp [s4] at hq; rw [hq], fun q hq _ => by simp [s4] at hq; rw [hq], fun c hc => (nomatch hc), rfl⟩
end VfsU
end Go.Proofs.YtfoamcobpfflbaaDoor
namespace Go.Proofs.YtfoamcobpfflbaaDoor
open Go Go.RowKit Go.Maps
open VfsS (St)

theorem slA_old {w0 v w : World} {a : Option Addr} {xs : List Value} (h : Sl w0 a xs) (hb : Below w0.heap.size w0 w) : SlA w0 v w a xs := by
  rcases h with h | ⟨b, o, r1, r2, r3⟩
  · exact .inl h
  · exact .inr ⟨b, o, r1, Nat.lt_of_lt_of_le r2 hb.size, .inl r2, fun i u hu => by rw [World.cell?_of_block (a := ⟨b, o + i, none⟩) (hb.block b r2)]; exact r3 i u hu⟩

set_option maxRecDepth 100000 in
set_option maxHeartbeats 4000000 in
theorem lawRename_c (a1 a2 : Option Addr) (c1 c2 : Nat) (x y : ByteArray) (n0 n1 n2 : Int) (w : World) (hg : Gl w) (s1 : Sl w a1 (byteCells x)) (s2 : Sl w a2 (byteCells y)) (hx : x.size ≤ 1048576) (hy : y.size ≤ 1048576)
    (h0 : -9223372036854775808 ≤ n0 ∧ n0 ≤ 9223372036854775807) :
    Calls Tryd.prog 7 #[.slice a1 x.size c1, .slice a2 y.size c2, .agg #[.int .i64 n0, .int .i64 n1, .int .i64 n2]] w fun e w' => e = .returned (.bool true) ∧ Below w.heap.size w w' := by
  have ks := fun {w : World} {a : Option Addr} {b : ByteArray} (h : Sl w a (byteCells b)) (c : Nat) => run_str_of (P := Tryd.prog) Tryd.underlying43 Tryd.underlying5 Tryd.underlying9 h c
  have hw1 : IntKind.i64.wrap ((x.size : Int) + (y.size : Int)) = ((x.size + y.size : Nat) : Int) := IntWalk.i64_in _ (by omega)
  go_enter Tryd.func7, Tryd.ntmps7
  go_wp2_with fail
  have hgA : Gl (w.alloc (.cells #[.int .i64 n0, .int .i64 n1, .int .i64 n2] 84)) := hg.below (below_alloc w _) (Nat.le_refl _)
  refine (awake14_c _ hgA).mono ?_
  rintro e w0 ⟨rfl, hb0⟩
  have hbw := (below_alloc w (.cells #[.int .i64 n0, .int .i64 n1, .int .i64 n2] 84)).trans (hb0.mono (by simp))
  by_cases hxy : 1000 < x.size + y.size
  · have hd : decide ((x.size + y.size : Nat) > (1000 : Int)) = true := decide_eq_true (by omega)
    go_wp2_with fail
    go_ret
    exact ⟨rfl, hbw⟩
  have hd : decide ((x.size + y.size : Nat) > (1000 : Int)) = false := decide_eq_false (by omega)
  have hg0 := hgA.below hb0 (Nat.le_refl _)
  have hB : w0.heap[w.heap.size]? = some (.cells #[.int .i64 n0, .int .i64 n1, .int .i64 n2] 84) := (hb0.block _ (by simp)).trans Array.getElem?_push_size
  have hBlt : w.heap.size < w0.heap.size := (Array.getElem?_eq_some_iff.1 hB).1
  have hx0 := s1.below hbw
  have hy0 := s2.below hbw
  go_wp2_with fail
  refine (new_a 1000 w0 hg0).mono ?_
  rintro e v1 (⟨h, _⟩ | ⟨-, p, rfl, H1⟩)
  · omega
  go_wp2_with fail
  refine (create_a H1 VfsT.f (by decide) (by omega)).mono ?_
  rw [VfsT.f1]
  rintro e v2 ⟨rfl, H2⟩
  clear H1
  go_wp2_with fail
  refine (append_a H2 (Below.refl _ _) VfsT.f x a1 c1 (by decide) (by omega) ?_ (by omega)).mono ?_
  · exact slA_old hx0 H2.out
  rw [VfsT.f2 x (by omega)]
  rintro e v3 ⟨rfl, H3⟩
  clear H2
  go_wp2_with fail
  refine (sync_a H3 VfsT.f (by decide) (by omega)).mono ?_
  rw [VfsT.f3]
  rintro e v4 ⟨rfl, H4⟩
  clear H3
  go_wp2_with fail
  refine (flush_a H4 (by omega)).mono ?_
  rw [VfsT.f4]
  rintro e v5 ⟨rfl, H5⟩
  clear H4
  have k0 : v5.cell? ⟨w.heap.size, 0, none⟩ = some (.int .i64 n0) := by rw [cell_of ((H5.out.block _ hBlt).trans hB)]; rfl
  go_wp2_with fail
  refine (stop_a H5 n0 h0).mono ?_
  rintro e v6 ⟨rfl, H6⟩
  clear H5 k0
  change VA w0 v6 p (VfsT.old1 x n0) _ at H6
  go_wp2_with fail
  refine (create_a H6 VfsT.g (by decide) (by omega)).mono ?_
  rw [VfsT.o1]
  by_cases e0 : n0 = 0
  · rw [if_pos e0]
    rintro e vB ⟨rfl, HV⟩
    have HR : ∃ t, VfsS.readS (VfsS.crashS (VfsT.old1 x n0) n1 n2) VfsT.f = some t ∧ (t = x ∨ t = y) := ⟨x, VfsT.rd0 _ _ _ _, .inl rfl⟩
    change VA w0 vB p (VfsT.old1 x n0) _ at HV
    have hr : 0 ≤ n0 ∧ n0 < 5 := by omega
    have hd1 : decide (n0 < 0) = false := decide_eq_false (by omega)
    have hd2 : decide (n0 ≥ 5) = false := decide_eq_false (by omega)
    clear hr e0
    have hdone := trivial
    have kk : ∀ {v : World}, Below w0.heap.size w0 v → v.cell? ⟨w.heap.size, 0, none⟩ = some (.int .i64 n0) ∧ v.cell? ⟨w.heap.size, 1, none⟩ = some (.int .i64 n1) ∧ v.cell? ⟨w.heap.size, 2, none⟩ = some (.int .i64 n2) := fun hb => ⟨by rw [cell_of ((hb.block _ hBlt).trans hB)]; rfl, by rw [cell_of ((hb.block _ hBlt).trans hB)]; rfl, by rw [cell_of ((hb.block _ hBlt).trans hB)]; rfl⟩
    obtain ⟨-, m1, m2⟩ := kk HV.out
    go_wp2_with fail
    refine (crash_a HV n1 n2).mono ?_
    rintro e vC ⟨rfl, HC⟩
    obtain ⟨t, ht, hor⟩ := HR
    go_wp2_with fail
    refine (read_a HC VfsT.f (by decide)).mono ?_
    rw [ht]
    simp only [Option.getD_some, Option.isSome_some, if_true]
    rintro e vD ⟨ra, rc, rfl, hsl, -, HD⟩
    obtain ⟨m0, -, -⟩ := kk HD.out
    have q1 := ks hsl.sl rc
    have q2 := ks (hx0.below HD.out) c1
    have q3 := ks (hy0.below HD.out) c2
    go_wp2_with fail
    all_goals
      go_ret
      exact ⟨by rcases hor with e | e <;> rw [e] <;> simp, hbw.trans (HD.out.mono hbw.size)⟩
  rw [if_neg e0]
  rintro e u0 ⟨rfl, HV⟩
  change VA w0 u0 p (VfsT.g1 x (VfsT.lim n0)) _ at HV
  go_wp2_with fail
  refine (append_a HV (Below.refl _ _) VfsT.g y a2 c2 (by decide) (by omega) (slA_old hy0 HV.out) (by omega)).mono ?_
  rw [VfsT.o2 _ _ _ (by omega)]
  clear HV
  by_cases e1 : (VfsT.lim n0) = 0
  · rw [if_pos e1]
    rintro e vB ⟨rfl, HV⟩
    have HR : ∃ t, VfsS.readS (VfsS.crashS (VfsT.g1 x (VfsT.lim n0)) n1 n2) VfsT.f = some t ∧ (t = x ∨ t = y) := ⟨x, VfsT.rd1 _ _ _ _ _ _, .inl rfl⟩
    change VA w0 vB p (VfsT.g1 x (VfsT.lim n0)) _ at HV
    have hr : 0 ≤ n0 ∧ n0 < 5 := by unfold VfsT.lim at *; split at * <;> omega
    have hd1 : decide (n0 < 0) = false := decide_eq_false (by omega)
    have hd2 : decide (n0 ≥ 5) = false := decide_eq_false (by omega)
    clear hr e1
    have hdone := trivial
    have kk : ∀ {v : World}, Below w0.heap.size w0 v → v.cell? ⟨w.heap.size, 0, none⟩ = some (.int .i64 n0) ∧ v.cell? ⟨w.heap.size, 1, none⟩ = some (.int .i64 n1) ∧ v.cell? ⟨w.heap.size, 2, none⟩ = some (.int .i64 n2) := fun hb => ⟨by rw [cell_of ((hb.block _ hBlt).trans hB)]; rfl, by rw [cell_of ((hb.block _ hBlt).trans hB)]; rfl, by rw [cell_of ((hb.block _ hBlt).trans hB)]; rfl⟩
    obtain ⟨-, m1, m2⟩ := kk HV.out
    go_wp2_with fail
    refine (crash_a HV n1 n2).mono ?_
    rintro e vC ⟨rfl, HC⟩
    obtain ⟨t, ht, hor⟩ := HR
    go_wp2_with fail
    refine (read_a HC VfsT.f (by decide)).mono ?_
    rw [ht]
    simp only [Option.getD_some, Option.isSome_some, if_true]
    rintro e vD ⟨ra, rc, rfl, hsl, -, HD⟩
    obtain ⟨m0, -, -⟩ := kk HD.out
    have q1 := ks hsl.sl rc
    have q2 := ks (hx0.below HD.out) c1
    have q3 := ks (hy0.below HD.out) c2
    go_wp2_with fail
    all_goals
      go_ret
      exact ⟨by rcases hor with e | e <;> rw [e] <;> simp, hbw.trans (HD.out.mono hbw.size)⟩
  rw [if_neg e1]
  rintro e u1 ⟨rfl, HV⟩
  change VA w0 u1 p (VfsT.g2 x y (VfsT.lim (VfsT.lim n0))) _ at HV
  go_wp2_with fail
  refine (sync_a HV VfsT.g (by decide) (by omega)).mono ?_
  rw [VfsT.o3]
  clear HV
  by_cases e2 : (VfsT.lim (VfsT.lim n0)) = 0
  · rw [if_pos e2]
    rintro e vB ⟨rfl, HV⟩
    have HR : ∃ t, VfsS.readS (VfsS.crashS (VfsT.g2 x y (VfsT.lim (VfsT.lim n0))) n1 n2) VfsT.f = some t ∧ (t = x ∨ t = y) := ⟨x, VfsT.rd1 _ _ _ _ _ _, .inl rfl⟩
    change VA w0 vB p (VfsT.g2 x y (VfsT.lim (VfsT.lim n0))) _ at HV
    have hr : 0 ≤ n0 ∧ n0 < 5 := by unfold VfsT.lim at *; split at * <;> omega
    have hd1 : decide (n0 < 0) = false := decide_eq_false (by omega)
    have hd2 : decide (n0 ≥ 5) = false := decide_eq_false (by omega)
    clear hr e2
    have hdone := trivial
    have kk : ∀ {v : World}, Below w0.heap.size w0 v → v.cell? ⟨w.heap.size, 0, none⟩ = some (.int .i64 n0) ∧ v.cell? ⟨w.heap.size, 1, none⟩ = some (.int .i64 n1) ∧ v.cell? ⟨w.heap.size, 2, none⟩ = some (.int .i64 n2) := fun hb => ⟨by rw [cell_of ((hb.block _ hBlt).trans hB)]; rfl, by rw [cell_of ((hb.block _ hBlt).trans hB)]; rfl, by rw [cell_of ((hb.block _ hBlt).trans hB)]; rfl⟩
    obtain ⟨-, m1, m2⟩ := kk HV.out
    go_wp2_with fail
    refine (crash_a HV n1 n2).mono ?_
    rintro e vC ⟨rfl, HC⟩
    obtain ⟨t, ht, hor⟩ := HR
    go_wp2_with fail
    refine (read_a HC VfsT.f (by decide)).mono ?_
    rw [ht]
    simp only [Option.getD_some, Option.isSome_some, if_true]
    rintro e vD ⟨ra, rc, rfl, hsl, -, HD⟩
    obtain ⟨m0, -, -⟩ := kk HD.out
    have q1 := ks hsl.sl rc
    have q2 := ks (hx0.below HD.out) c1
    have q3 := ks (hy0.below HD.out) c2
    go_wp2_with fail
    all_goals
      go_ret
      exact ⟨by rcases hor with e | e <;> rw [e] <;> simp, hbw.trans (HD.out.mono hbw.size)⟩
  rw [if_neg e2]
  rintro e u2 ⟨rfl, HV⟩
  change VA w0 u2 p (VfsT.g3 x y (VfsT.lim (VfsT.lim (VfsT.lim n0)))) _ at HV
  go_wp2_with fail
  refine (rename_a HV VfsT.g VfsT.f (by decide) (by decide) (by omega)).mono ?_
  rw [VfsT.o4]
  clear HV
  by_cases e3 : (VfsT.lim (VfsT.lim (VfsT.lim n0))) = 0
  · rw [if_pos e3]
    rintro e vB ⟨rfl, HV⟩
    have HR : ∃ t, VfsS.readS (VfsS.crashS (VfsT.g3 x y (VfsT.lim (VfsT.lim (VfsT.lim n0)))) n1 n2) VfsT.f = some t ∧ (t = x ∨ t = y) := ⟨x, VfsT.rd1 _ _ _ _ _ _, .inl rfl⟩
    change VA w0 vB p (VfsT.g3 x y (VfsT.lim (VfsT.lim (VfsT.lim n0)))) _ at HV
    have hr : 0 ≤ n0 ∧ n0 < 5 := by unfold VfsT.lim at *; split at * <;> omega
    have hd1 : decide (n0 < 0) = false := decide_eq_false (by omega)
    have hd2 : decide (n0 ≥ 5) = false := decide_eq_false (by omega)
    clear hr e3
    have hdone := trivial
    have kk : ∀ {v : World}, Below w0.heap.size w0 v → v.cell? ⟨w.heap.size, 0, none⟩ = some (.int .i64 n0) ∧ v.cell? ⟨w.heap.size, 1, none⟩ = some (.int .i64 n1) ∧ v.cell? ⟨w.heap.size, 2, none⟩ = some (.int .i64 n2) := fun hb => ⟨by rw [cell_of ((hb.block _ hBlt).trans hB)]; rfl, by rw [cell_of ((hb.block _ hBlt).trans hB)]; rfl, by rw [cell_of ((hb.block _ hBlt).trans hB)]; rfl⟩
    obtain ⟨-, m1, m2⟩ := kk HV.out
    go_wp2_with fail
    refine (crash_a HV n1 n2).mono ?_
    rintro e vC ⟨rfl, HC⟩
    obtain ⟨t, ht, hor⟩ := HR
    go_wp2_with fail
    refine (read_a HC VfsT.f (by decide)).mono ?_
    rw [ht]
    simp only [Option.getD_some, Option.isSome_some, if_true]
    rintro e vD ⟨ra, rc, rfl, hsl, -, HD⟩
    obtain ⟨m0, -, -⟩ := kk HD.out
    have q1 := ks hsl.sl rc
    have q2 := ks (hx0.below HD.out) c1
    have q3 := ks (hy0.below HD.out) c2
    go_wp2_with fail
    all_goals
      go_ret
      exact ⟨by rcases hor with e | e <;> rw [e] <;> simp, hbw.trans (HD.out.mono hbw.size)⟩
  rw [if_neg e3]
  rintro e u3 ⟨rfl, HV⟩
  change VA w0 u3 p (VfsT.g4 x y (VfsT.lim (VfsT.lim (VfsT.lim (VfsT.lim n0))))) _ at HV
  go_wp2_with fail
  refine (flush_a HV (by omega)).mono ?_
  rw [VfsT.o5]
  clear HV
  by_cases e4 : (VfsT.lim (VfsT.lim (VfsT.lim (VfsT.lim n0)))) = 0
  · rw [if_pos e4]
    rintro e vB ⟨rfl, HV⟩
    have HR : ∃ t, VfsS.readS (VfsS.crashS (VfsT.g4 x y (VfsT.lim (VfsT.lim (VfsT.lim (VfsT.lim n0))))) n1 n2) VfsT.f = some t ∧ (t = x ∨ t = y) := (VfsT.rd4 _ _ _ _ _).elim (fun h => ⟨x, h, .inl rfl⟩) (fun h => ⟨y, h, .inr rfl⟩)
    change VA w0 vB p (VfsT.g4 x y (VfsT.lim (VfsT.lim (VfsT.lim (VfsT.lim n0))))) _ at HV
    have hr : 0 ≤ n0 ∧ n0 < 5 := by unfold VfsT.lim at *; split at * <;> omega
    have hd1 : decide (n0 < 0) = false := decide_eq_false (by omega)
    have hd2 : decide (n0 ≥ 5) = false := decide_eq_false (by omega)
    clear hr e4
    have hdone := trivial
    have kk : ∀ {v : World}, Below w0.heap.size w0 v → v.cell? ⟨w.heap.size, 0, none⟩ = some (.int .i64 n0) ∧ v.cell? ⟨w.heap.size, 1, none⟩ = some (.int .i64 n1) ∧ v.cell? ⟨w.heap.size, 2, none⟩ = some (.int .i64 n2) := fun hb => ⟨by rw [cell_of ((hb.block _ hBlt).trans hB)]; rfl, by rw [cell_of ((hb.block _ hBlt).trans hB)]; rfl, by rw [cell_of ((hb.block _ hBlt).trans hB)]; rfl⟩
    obtain ⟨-, m1, m2⟩ := kk HV.out
    go_wp2_with fail
    refine (crash_a HV n1 n2).mono ?_
    rintro e vC ⟨rfl, HC⟩
    obtain ⟨t, ht, hor⟩ := HR
    go_wp2_with fail
    refine (read_a HC VfsT.f (by decide)).mono ?_
    rw [ht]
    simp only [Option.getD_some, Option.isSome_some, if_true]
    rintro e vD ⟨ra, rc, rfl, hsl, -, HD⟩
    obtain ⟨m0, -, -⟩ := kk HD.out
    have q1 := ks hsl.sl rc
    have q2 := ks (hx0.below HD.out) c1
    have q3 := ks (hy0.below HD.out) c2
    go_wp2_with fail
    all_goals
      go_ret
      exact ⟨by rcases hor with e | e <;> rw [e] <;> simp, hbw.trans (HD.out.mono hbw.size)⟩
  rw [if_neg e4]
  rintro e u4 ⟨rfl, HV⟩
  change VA w0 u4 p (VfsT.g5 x y (VfsT.lim (VfsT.lim (VfsT.lim (VfsT.lim (VfsT.lim n0)))))) _ at HV
  have kk : ∀ {v : World}, Below w0.heap.size w0 v → v.cell? ⟨w.heap.size, 0, none⟩ = some (.int .i64 n0) ∧ v.cell? ⟨w.heap.size, 1, none⟩ = some (.int .i64 n1) ∧ v.cell? ⟨w.heap.size, 2, none⟩ = some (.int .i64 n2) := fun hb => ⟨by rw [cell_of ((hb.block _ hBlt).trans hB)]; rfl, by rw [cell_of ((hb.block _ hBlt).trans hB)]; rfl, by rw [cell_of ((hb.block _ hBlt).trans hB)]; rfl⟩
  obtain ⟨-, m1, m2⟩ := kk HV.out
  have hr : n0 < 0 ∨ 5 ≤ n0 := by
    have l1 : ∀ z : Int, VfsT.lim z = if 0 < z then z - 1 else z := fun _ => rfl
    by_cases h : n0 < 0
    · exact .inl h
    · right
      have p0 : VfsT.lim n0 = n0 - 1 := by rw [l1, if_pos (by omega)]
      rw [p0] at e1 e2 e3 e4
      have p1 : VfsT.lim (n0 - 1) = n0 - 2 := by rw [l1, if_pos (by omega)]; omega
      rw [p1] at e2 e3 e4
      have p2 : VfsT.lim (n0 - 2) = n0 - 3 := by rw [l1, if_pos (by omega)]; omega
      rw [p2] at e3 e4
      have p3 : VfsT.lim (n0 - 3) = n0 - 4 := by rw [l1, if_pos (by omega)]; omega
      rw [p3] at e4
      omega
  clear e0 e1 e2 e3 e4
  go_wp2_with fail
  refine (crash_a HV n1 n2).mono ?_
  rintro e vC ⟨rfl, HC⟩
  have ht := VfsT.rd5 x y (VfsT.lim (VfsT.lim (VfsT.lim (VfsT.lim (VfsT.lim n0))))) n1 n2
  go_wp2_with fail
  refine (read_a HC VfsT.f (by decide)).mono ?_
  rw [ht]
  simp only [Option.getD_some, Option.isSome_some, if_true]
  rintro e vD ⟨ra, rc, rfl, hsl, -, HD⟩
  obtain ⟨m0, -, -⟩ := kk HD.out
  have q1 := ks hsl.sl rc
  have q2 := ks (hx0.below HD.out) c1
  have q3 := ks (hy0.below HD.out) c2
  by_cases hn : n0 < 0
  · have hd1 : decide (n0 < 0) = true := decide_eq_true hn
    go_wp2_with fail
    all_goals
      go_ret
      exact ⟨by simp, hbw.trans (HD.out.mono hbw.size)⟩
  · have hd1 : decide (n0 < 0) = false := decide_eq_false hn
    have hd2 : decide (n0 ≥ 5) = true := decide_eq_true (by omega)
    go_wp2_with fail
    all_goals
      go_ret
      exact ⟨by simp, hbw.trans (HD.out.mono hbw.size)⟩
end Go.Proofs.YtfoamcobpfflbaaDoor
namespace Go.Proofs.YtfoamcobpfflbaaDoor
open Go Go.RowKit Go.Maps
open VfsS (St cl clp So)
open VfsU

/-- Both file systems, each in its own state; the program's has the sure file. -/
structure LU (w0 W : World) (p b : Nat) (t : ByteArray) (N : Nat) (cs : Array Value) (E : Nat → Prop) : Prop where
  v : ∃ S, VE E w0 W p S N ∧ Su S 0 t
  r : ∃ D, RR E W cs (cl D) N
  e : E b
  h : W.heap[b]? = some (.cells cs 36 (0, 0))

section
variable {w0 W W' : World} {p b : Nat} {t : ByteArray} {N : Nat} {cs : Array Value} {E : Nat → Prop}
theorem LU.lt (h : LU w0 W p b t N cs E) : b < W.heap.size := (Array.getElem?_eq_some_iff.1 h.h).1
theorem LU.below (h : LU w0 W p b t N cs E) (hb : Below W.heap.size W W') : LU w0 W' p b t N cs (Kx E W.heap.size W'.heap.size) := by
  obtain ⟨S, hv, hs⟩ := h.v
  obtain ⟨D, hr⟩ := h.r
  exact ⟨⟨S, hv.below hb, hs⟩, ⟨D, (hr.below hb).sub fun _ hk _ => .inl hk⟩, .inl h.e, (hb.block _ h.lt).trans h.h⟩
theorem LU.out (h : LU w0 W p b t N cs E) : Below w0.heap.size w0 W := by obtain ⟨S, hv, hs⟩ := h.v; exact hv.out
theorem LU.size (h : LU w0 W p b t N cs E) : cs.size = 7 := by obtain ⟨D, hr⟩ := h.r; exact hr.size
theorem LU.mono (h : LU w0 W p b t N cs E) {N' : Nat} (h1 : N ≤ N') (h2 : N' ≤ 40000000) : LU w0 W p b t N' cs E := by
  obtain ⟨S, hv, hs⟩ := h.v
  obtain ⟨D, hr⟩ := h.r
  exact ⟨⟨S, hv.mono h1 (by omega), hs⟩, ⟨D, hr.mono h1 h2⟩, h.e, h.h⟩

/-- The step of the law, on other names. -/
theorem LU.step (h : LU w0 W p b t N cs E) (o : OpD) (ho : o.Ok w0) (h1 : o.name ≠ sB) (h2 : o.dst ≠ sB) (h3 : o.name ≠ uB) (h4 : o.dst ≠ uB) (hN : N + 3 ≤ 40000000) :
    Calls Tryd.prog 52 #[.pointer (some ⟨p, 0, none⟩), .agg cs, .agg (opCells o)] W fun e w' => ∃ cs' bb, e = .returned (.tuple #[.agg cs', .bool bb]) ∧ cs'.size = 7 ∧ cs'.all (·.oneCell') = true ∧ w'.heap[b]? = some (.cells cs 36 (0, 0)) ∧
      ∀ w'' : World, w''.heap[b]? = some (.cells cs' 36 (0, 0)) → w'.grownBy w'' (some b) → ∃ E', LU w0 w'' p b t (N + 3) cs' E' := by
  obtain ⟨S, hv, hs⟩ := h.v
  obtain ⟨D, hr⟩ := h.r
  refine (lawstep2_c hv hr o ho hN).mono ?_
  rintro e w' ⟨cs', E', rfl, hsub, hv', hr', hk⟩
  have hB := (hk _ h.e).trans h.h
  refine ⟨cs', _, rfl, hr'.size, hr'.one, hB, fun w'' hb'' hg => ⟨E', ⟨_, hv'.grown hg (hsub _ h.e), hs.stepO hv.wf o h1 h2 h4 h3⟩, ⟨_, hr'.other hB (by decide) hg⟩, hsub _ h.e, hb''⟩⟩
end

theorem slA_new' {w0 w1 w : World} {a : Option Addr} {xs : List Value} (h : Sl w0 a xs) (hb : Below w0.heap.size w0 w) : SlA w0 w1 w a xs := slA_old h hb

set_option maxRecDepth 100000 in
set_option maxHeartbeats 4000000 in
theorem lawSure_c (ta : Option Addr) (tc : Nat) (t : ByteArray) (sa : Option Addr) (sc : Nat) (os : List OpD) (n0 n1 : Int) (w : World) (hg : Gl w) (ht : Sl w ta (byteCells t)) (htl : t.size ≤ 1048576) (hs : Sl w sa (opRow os)) (hl : os.length ≤ 1048576) (hok : ∀ o ∈ os, OpR w o 1048576) :
    Calls Tryd.prog 11 #[.slice ta t.size tc, .slice sa os.length sc, .agg #[.int .i64 n0, .int .i64 n1]] w fun e w' => e = .returned (.bool true) ∧ Below w.heap.size w w' := by
  have ks := fun {w : World} {a : Option Addr} {b : ByteArray} (h : Sl w a (byteCells b)) (c : Nat) => run_str_of (P := Tryd.prog) Tryd.underlying43 Tryd.underlying5 Tryd.underlying9 h c
  go_enter Tryd.func11, Tryd.ntmps11
  go_upto_region 1 with fail
  have hbX : Below w.heap.size w (w.alloc (.cells #[.int .i64 n0, .int .i64 n1] 102)) := (Below.refl _ w).alloc (Nat.le_refl _) _
  have hX : (w.alloc (.cells #[.int .i64 n0, .int .i64 n1] 102)).heap[w.heap.size]? = some (.cells #[.int .i64 n0, .int .i64 n1] 102 (0, 0)) := Array.getElem?_push_size
  generalize w.alloc (.cells #[.int .i64 n0, .int .i64 n1] 102) = wX at *
  have hgX := hg.below hbX (Nat.le_refl _)
  go_wp2_with fail
  refine (awake14_c wX hgX).mono ?_
  rintro e w0 ⟨rfl, hbw⟩
  have hb0 := hbX.trans (hbw.mono hbX.size)
  have hXlt := (Array.getElem?_eq_some_iff.1 hX).1
  have hX0 := (hbw.block _ hXlt).trans hX
  have hXl0 := (Array.getElem?_eq_some_iff.1 hX0).1
  have hg0 := hgX.below hbw (Nat.le_refl _)
  clear hX hXlt hgX hbX
  go_wp2_with fail
  refine (new_a 1048576 w0 hg0).mono ?_
  rintro e w1 (⟨hbad, -, -⟩ | ⟨-, p, rfl, H1⟩)
  · omega
  by_cases hlong : 100000 < t.size
  · have hd : decide ((t.size : Int) > 100000) = true := decide_eq_true (by omega)
    go_wp2_with fail
    go_ret
    exact ⟨rfl, hb0.trans (H1.out.mono hb0.size)⟩
  have hd : decide ((t.size : Int) > 100000) = false := decide_eq_false (by omega)
  have ht0 := ht.below hb0
  have htl2 : t.size ≤ 100000 := by omega
  clear hlong
  go_upto_region 8 with (first
    | (go_at_call 45; refine (create_a H1 sB (by decide) (by omega)).mono ?_; rw [b1]; rintro e v2 ⟨rfl, H2⟩)
    | (go_at_call 27; refine (append_a H2 (Below.refl _ _) sB t ta tc (by decide) (by omega) (slA_old ht0 H2.out) (by omega)).mono ?_; rw [b2 t htl2]; rintro e v3 ⟨rfl, H3⟩)
    | (go_at_call 46; refine (sync_a H3 sB (by decide) (by omega)).mono ?_; rw [b3]; rintro e v4 ⟨rfl, H4⟩)
    | (go_at_call 19; refine (flush_a H4 (by omega)).mono ?_; rw [b4]; rintro e v5 ⟨rfl, H5⟩))
  clear H1 H2 H3 H4
  have HN : Calls Tryd.prog 18 #[.int .i64 1048576] v5 fun e w'' => e = .returned (.agg (newC 1048576)) ∧ Below v5.heap.size v5 w'' := rnew_c 1048576 v5
  go_upto_region 9 with (first
    | (go_at_call 18; refine HN.mono ?_; rintro e w2 ⟨rfl, hb2⟩; have hB2 : (w2.alloc (.cells #[.slice none 0 0, .slice none 0 0, .slice none 0 0, .slice none 0 0, .int .i64 0, .int .i64 0, .int .i64 0] 36)).heap[w2.heap.size]? = some (.cells fs0 36 (0, 0)) := Array.getElem?_push_size)
    | (refine wp_storeFS hB2 rfl _ _ rfl rfl rfl rfl rfl (by simp [newC, Value.oneCell']) ?_; intro w3 h3 hg3))
  have hL : ∃ cs E, LU w0 w3 p w2.heap.size t 9 cs E := by
    have hb3 : Below v5.heap.size v5 (w2.alloc (.cells #[.slice none 0 0, .slice none 0 0, .slice none 0 0, .slice none 0 0, .int .i64 0, .int .i64 0, .int .i64 0] 36)) := hb2.alloc hb2.size _
    have hv := H5.toE.below hb3
    have he : (Kx (fun _ => False) v5.heap.size (w2.alloc (.cells #[.slice none 0 0, .slice none 0 0, .slice none 0 0, .slice none 0 0, .int .i64 0, .int .i64 0, .int .i64 0] 36)).heap.size) w2.heap.size := .inr ⟨hb2.size, by simp⟩
    have hr := rr_new (Kx (fun _ => False) v5.heap.size (w2.alloc (.cells #[.slice none 0 0, .slice none 0 0, .slice none 0 0, .slice none 0 0, .int .i64 0, .int .i64 0, .int .i64 0] 36)).heap.size) (w2.alloc (.cells #[.slice none 0 0, .slice none 0 0, .slice none 0 0, .slice none 0 0, .int .i64 0, .int .i64 0, .int .i64 0] 36)) 1048576 (by omega)
    exact ⟨newC 1048576, _, ⟨s4 t, hv.grown hg3 he, su4 t⟩, ⟨VfsS.newS 1048576, (hr.other hB2 (by decide) hg3).mono (by omega) (by omega)⟩, he, h3⟩
  clear H5 HN hb2 hB2 hg3 h3
  have hsW := hs.below hb0
  have HOK : Hid (∀ o ∈ os, o.Ok w0) := fun o ho => (hok o ho).ok (Nat.le_refl _) hb0
  clear hok hs hg hg0 hbw
  generalize w2.heap.size = b at *
  go_wp2_with fail
  go_loopw [56] (fun iv wx => ∃ (j : Nat) (cs : Array Value) (E : Nat → Prop), j ≤ os.length ∧ iv = .int .i64 j ∧ LU w0 wx p b t (9 + 3 * j) cs E) (fun iv _ => (os.length - intOf iv).toNat)
  case atStart =>
    obtain ⟨cs, E, hL⟩ := hL
    exact ⟨0, cs, E, Nat.zero_le _, rfl, hL⟩
  case round =>
    clear hL
    obtain ⟨j, cs, E, hj, rfl, hL⟩ := hrel
    by_cases hjl : j < os.length
    · have hd : decide ((j : Int) < (os.length : Int)) = true := decide_eq_true (by omega)
      have hoj := HOK.out _ (List.getElem_mem hjl)
      obtain ⟨ab, ao, rfl, hab, hcel⟩ := (hsW.below hL.out).at (k := j * 6) (by rw [opRow_len]; omega)
      have far : ∀ i u, i < 6 → (opCells os[j])[i]? = some u → wr.cell? ⟨ab, ao + j * 6 + i, none⟩ = some u := fun i u hi hu => by
        have h1 := opRow_at os j hjl i hi
        rw [hu] at h1
        obtain ⟨h2, h3⟩ := List.getElem?_eq_some_iff.1 h1
        rw [Nat.add_assoc, hcel _ h2, h3]
      have q0 : wr.cell? ⟨ab, ao + j * 6, none⟩ = some (.int .i64 os[j].kind) := far 0 _ (by omega) rfl
      have q1 : wr.cell? ⟨ab, ao + j * 6 + 1, none⟩ = some (.string os[j].name) := far 1 _ (by omega) rfl
      have q2 : wr.cell? ⟨ab, ao + j * 6 + 2, none⟩ = some (.string os[j].dst) := far 2 _ (by omega) rfl
      have q3 : wr.cell? ⟨ab, ao + j * 6 + 3, none⟩ = some (.slice os[j].da os[j].data.size os[j].dc) := far 3 _ (by omega) rfl
      have q4 : wr.cell? ⟨ab, ao + j * 6 + 4, none⟩ = some (.int .i64 os[j].n) := far 4 _ (by omega) rfl
      have q5 : wr.cell? ⟨ab, ao + j * 6 + 5, none⟩ = some (.int .i64 os[j].m) := far 5 _ (by omega) rfl
      have b1 : (0 : Int) ≤ (j : Int) := by omega
      have b2 : (j : Int) < os.length := by omega
      have hw : IntKind.i64.wrap ((j : Int) + 1) = (j : Int) + 1 := IntWalk.i64_in _ (by omega)
      generalize os[j] = o at *
      clear far hcel
      go_upto_region 12 with fail
      have hbA : Below wr.heap.size wr (wr.alloc (.cells #[.int .i64 o.kind, .string o.name, .string o.dst, .slice o.da o.data.size o.dc, .int .i64 o.n, .int .i64 o.m] 96)) := (Below.refl _ wr).alloc (Nat.le_refl _) _
      have hO : (wr.alloc (.cells #[.int .i64 o.kind, .string o.name, .string o.dst, .slice o.da o.data.size o.dc, .int .i64 o.n, .int .i64 o.m] 96)).heap[wr.heap.size]? = some (.cells (opCells o) 96 (0, 0)) := Array.getElem?_push_size
      have c1 : (wr.alloc (.cells #[.int .i64 o.kind, .string o.name, .string o.dst, .slice o.da o.data.size o.dc, .int .i64 o.n, .int .i64 o.m] 96)).cell? ⟨wr.heap.size, 1, none⟩ = some (.string o.name) := by rw [cell_of hO]; rfl
      have c2 : (wr.alloc (.cells #[.int .i64 o.kind, .string o.name, .string o.dst, .slice o.da o.data.size o.dc, .int .i64 o.n, .int .i64 o.m] 96)).cell? ⟨wr.heap.size, 2, none⟩ = some (.string o.dst) := by rw [cell_of hO]; rfl
      have hL1 := hL.below hbA
      have hcs := hL1.size
      have hLh := hL1.h
      generalize wr.alloc (.cells #[.int .i64 o.kind, .string o.name, .string o.dst, .slice o.da o.data.size o.dc, .int .i64 o.n, .int .i64 o.m] 96) = W1 at *
      clear hL q0 q1 q2 q3 q4 q5
      have hne : ∀ {x y : ByteArray}, x ≠ y → ¬ x.toList = y.data.toList := fun {x y} h e => h (PathS.ba_ext (by rw [← Lib.toList_data]; exact e))
      have heq : ∀ {x y : ByteArray}, x = y → x.toList = y.data.toList := fun {x y} h => by rw [h, Lib.toList_data]
      have tS : sB.data.toList = [115, 117, 114, 101] := rfl
      have tU : uB.data.toList = [117, 110, 115, 117, 114, 101] := rfl
      have hskip : ∀ {W : World}, W = W1 → ∃ (k : Nat) (cs : Array Value) (E : Nat → Prop), k ≤ os.length ∧ Value.int .i64 ((j : Int) + 1) = .int .i64 k ∧ LU w0 W p b t (9 + 3 * k) cs E := fun {W} h => by
        subst h
        exact ⟨j + 1, _, _, by omega, by go_num, hL1.mono (by omega) (by omega)⟩
      have HSK : Hid (∀ {W : World}, W = W1 → ∃ (k : Nat) (cs : Array Value) (E : Nat → Prop), k ≤ os.length ∧ Value.int .i64 ((j : Int) + 1) = .int .i64 k ∧ LU w0 W p b t (9 + 3 * k) cs E) := @hskip
      clear hskip
      have bne : ∀ {x : List UInt8} {y : List UInt8}, ¬ x = y → (x == y) = false := fun h => by rw [beq_eq_false_iff_ne]; exact h
      have beq : ∀ {x : List UInt8} {y : List UInt8}, x = y → (x == y) = true := fun h => by rw [beq_iff_eq]; exact h
      by_cases t1 : o.name = sB
      · have e1 := heq t1
        rw [tS] at e1
        have e1b := beq e1
        clear hne heq bne beq tS tU t1 hL1 hcs hLh hoj
        go_wp2_with fail
        go_roundw
        case rel => exact HSK.out rfl
        case measure => simp [intOf]; omega
      by_cases t2 : o.dst = sB
      · have e1 := hne t1
        have e2 := heq t2
        rw [tS] at e1 e2
        have e1b := bne e1
        have e2b := beq e2
        clear hne heq bne beq tS tU t1 t2 hL1 hcs hLh hoj
        go_wp2_with fail
        go_roundw
        case rel => exact HSK.out rfl
        case measure => simp [intOf]; omega
      by_cases t3 : o.name = uB
      · have e1 := hne t1
        have e2 := hne t2
        have e3 := heq t3
        rw [tS] at e1 e2
        rw [tU] at e3
        have e1b := bne e1
        have e2b := bne e2
        have e3b := beq e3
        clear hne heq bne beq tS tU t1 t2 t3 hL1 hcs hLh hoj e1
        go_wp2_with fail
        go_roundw
        case rel => exact HSK.out rfl
        case measure => simp [intOf]; omega
      by_cases t4 : o.dst = uB
      · have e1 := hne t1
        have e2 := hne t2
        have e3 := hne t3
        have e4 := heq t4
        rw [tS] at e1 e2
        rw [tU] at e3 e4
        have e1b := bne e1
        have e2b := bne e2
        have e3b := bne e3
        have e4b := beq e4
        clear hne heq bne beq tS tU t1 t2 t3 t4 hL1 hcs hLh hoj e2
        go_wp2_with fail
        go_roundw
        case rel => exact HSK.out rfl
        case measure => simp [intOf]; omega
      · have e1 := hne t1
        have e2 := hne t2
        have e3 := hne t3
        have e4 := hne t4
        rw [tS] at e1 e2
        rw [tU] at e3 e4
        have HST := Lib.hid (hL1.step o hoj t1 t2 t3 t4 (by omega))
        have e1b := bne e1
        have e2b := bne e2
        have e3b := bne e3
        have e4b := bne e4
        clear hne heq bne beq tS tU t1 t2 t3 t4 hL1 HSK hoj
        go_wp2_with (first
          | (refine wp_loadFS hLh rfl _ rfl rfl hcs ?_)
          | (refine wp_loadOp hO rfl _ rfl rfl ?_)
          | (go_at_call 52; refine HST.out.mono ?_; rintro e w4 ⟨cs4, bb, rfl, hs4, ho4, hB4, hput⟩)
          | (refine wp_storeFS hB4 rfl _ _ rfl rfl rfl hcs hs4 ho4 ?_; intro w5 h5 hg5; obtain ⟨E5, hL5⟩ := hput w5 h5 hg5))
        go_roundw
        case rel => exact ⟨j + 1, _, _, by omega, by go_num, hL5⟩
        case measure => simp [intOf]; omega
    · obtain rfl : j = os.length := by omega
      have hd : decide ((os.length : Int) < (os.length : Int)) = false := decide_eq_false (by omega)
      obtain ⟨S, hv, hsu⟩ := hL.v
      have hA := hv.toA
      have hlt := hsu.lt hv.wf
      clear hL hv
      obtain ⟨u1, u2, r, u3⟩ := hsu.unsure
      have kk : ∀ {v : World}, Below w0.heap.size w0 v → v.cell? ⟨w.heap.size, 0, none⟩ = some (.int .i64 n0) ∧ v.cell? ⟨w.heap.size, 1, none⟩ = some (.int .i64 n1) := fun hb => ⟨by rw [cell_of ((hb.block _ hXl0).trans hX0)]; rfl, by rw [cell_of ((hb.block _ hXl0).trans hX0)]; rfl⟩
      go_wp2_with fail
      refine (stop_a hA (-1) (by omega)).mono ?_
      rintro e v6 ⟨rfl, H6⟩
      clear hA
      go_wp2_with fail
      refine (create_a H6 uB (by decide) (by omega)).mono ?_
      rw [u1]
      rintro e v7 ⟨rfl, H7⟩
      have hC := hsu.gone hlt u2 u3 n1
      clear u1 u2 u3 H6 hsu hlt
      generalize (VfsS.createS { S with limit := -1 } uB).1 = U at *
      obtain ⟨-, m1⟩ := kk H7.out
      go_wp2_with fail
      refine (crash_a H7 0 n1).mono ?_
      rintro e v8 ⟨rfl, H8⟩
      generalize VfsS.crashS U 0 n1 = C at *
      have hC2 := hC.crash H8.wf n0 n1
      clear H7 m1
      go_wp2_with fail
      refine (read_a H8 sB (by decide)).mono ?_
      rw [hC.read]
      simp only [Option.getD_some, Option.isSome_some, if_true]
      rintro e v9 ⟨ra, rc, rfl, hsl, -, H9⟩
      clear H8
      go_wp2_with fail
      refine (read_a H9 uB (by decide)).mono ?_
      rw [hC.readu]
      simp only [Option.getD_none, Option.isSome_none]
      rintro e vA ⟨xa, xc, rfl, -, hbA, HA⟩
      have q1 := ks (hsl.sl.below hbA) rc
      have q2 := ks (ht0.below HA.out) tc
      obtain ⟨m0, m1⟩ := kk HA.out
      clear H9 hsl hbA hC
      go_wp2_with fail
      refine (crash_a HA n0 n1).mono ?_
      rintro e vB ⟨rfl, HB⟩
      clear HA q1 q2 m0 m1
      go_wp2_with fail
      refine (read_a HB sB (by decide)).mono ?_
      rw [hC2.read]
      simp only [Option.getD_some, Option.isSome_some, if_true]
      rintro e vC ⟨ya, yc, rfl, hsl, -, HC⟩
      have q1 := ks hsl.sl yc
      have q2 := ks (ht0.below HC.out) tc
      go_wp2_with fail
      go_ret
      exact ⟨by simp, hb0.trans (HC.out.mono hb0.size)⟩
end Go.Proofs.YtfoamcobpfflbaaDoor
namespace Go.Proofs.YtfoamcobpfflbaaDoor.vfsSure
open Go.ChangeShapes Go.WideShapes Go.ChangeAt Go.RowKit
open Go.WideMaps Go.WideElems
open Go.ChangeMaps (open_string shut_string)

theorem reads (os : Os) {H : Type} (enc : TypeId × Value → H) : ∃ places, DataW.whole enc Tryd.prog ((laidWorld os).forCall (fun _ _ => 0) ⟨#[], #[Value.slice none 0 0, .slice none 0 0, .agg #[.int .i64 0, .int .i64 0]], []⟩).memory Tryd.f11.params.toList Rows.vfsSureSpec.vars false (#[Value.slice none 0 0, .slice none 0 0, .agg #[.int .i64 0, .int .i64 0]] : Array Value).toList 8 = some ([.nil, .nil, .agg [.lit (.int .i64 0), .lit (.int .i64 0)]], [], places) :=
  ⟨[], by kernel_rfl⟩

set_option maxRecDepth 100000 in
theorem contract (H : Type) (enc : TypeId × Value → H) (W : World) (base : Nat) (args : Array Value) (ds : List (DataW H)) (p : List MemPlace)
    (hval : ∀ (j : Nat) t v, Tryd.f11.params[j]? = some t → args[j]? = some v → Value.okWide Tryd.prog W .any base t v)
    (hA : DataW.TrodAll enc Tryd.prog W 0 (fun _ => true) true Tryd.f11.params.toList args.toList ds p) (hk : Rows.uptoSmall H ds = true) (_hL : laidMetH Tryd.prog Rows.vfsSureUptoRow.laid W) (hshape : W.ShapedOpen Tryd.prog) :
    Calls Tryd.prog 11 args W fun e W' => e = .returned (.bool true) ∧ Below W.heap.size W W' := by
  rw [Tryd.params11] at hA hval
  obtain ⟨v0, vs0, d0, ds0, p0, q0, hargs0, rfl, rfl, h0, r0⟩ := trodAll_cons hA
  obtain ⟨v1, vs1, d1, ds1, p1, q1, hargs1, rfl, rfl, h1, r1⟩ := trodAll_cons r0
  obtain ⟨v2, vs2, d2, ds2, p2, q2, hargs2, rfl, rfl, h2, r2⟩ := trodAll_cons r1
  obtain ⟨rfl, rfl, rfl⟩ := trodAll_nil r2
  rw [hargs2] at hargs1
  rw [hargs1] at hargs0
  obtain rfl : args = #[v0, v1, v2] := by cases args; simp_all
  have k0 := bulk_mem hk (d := d0) (by simp)
  obtain ⟨a0, c0, x0, rfl, l0, sl0⟩ := open_bytes Tryd.underlying43 (by kernel_rfl) Tryd.underlying5 (hval 0 43 v0 rfl rfl) h0 k0
  have k1 := bulk_mem hk (d := d1) (by simp)
  obtain ⟨a1, c1, x1, rfl, sl1, l1, z1⟩ := open_ops (hval 1 94 v1 rfl rfl) h1 k1
  have k2 := bulk_mem hk (d := d2) (by simp)
  obtain ⟨x2, y2, rfl, wx2, wy2⟩ := open_int2 Tryd.underlying102 (by kernel_rfl) (by kernel_rfl) Tryd.underlying3 (hval 2 102 v2 rfl rfl) h2
  exact lawSure_c a0 c0 x0 a1 c1 x1 x2 y2 W (gl_of_shaped hshape) sl0 l0 sl1 l1 z1

set_option maxRecDepth 100000 in
theorem lifted (os : Os) (started : os.Started) (H : Type) (enc : TypeId × Value → H) (F : Stop.Interp) :
    ReturnsInHanded {} Tryd.checked os 11 .any ((Rows.OpenSpec.upto Rows.vfsSureSpec).preRow enc Tryd.prog Tryd.f11 Rows.vfsSureUptoRow.domain false Rows.vfsSureUptoRow.laid) (((Rows.OpenSpec.upto Rows.vfsSureSpec).at F).post enc Tryd.prog Tryd.f11 false true false false) := by
  obtain ⟨places, hx⟩ := reads os enc
  refine law_lifted (laid := Rows.vfsSureUptoRow.laid) started Tryd.func11 (by kernel_rfl) rfl rfl ?_ (by kernel_rfl) ?_ ?_ ?_
  · intro ds h
    match ds, h with
    | [_, _, _], _ => rfl
  · rw [Tryd.params11]
    intro t ht
    have ht : t ∈ [43, 94, 102] := ht
    simp only [List.mem_cons, List.mem_nil_iff, or_false] at ht
    rcases ht with rfl | rfl | rfl <;> exact ⟨by kernel_rfl, of_decide_eq_true (by kernel_rfl)⟩
  · exact witness_row_at (enc := enc) (C := Tryd.checked) false (laidWorld os) #[Value.slice none 0 0, .slice none 0 0, .agg #[.int .i64 0, .int .i64 0]] rfl (by kernel_rfl) (by kernel_rfl) (by kernel_rfl)
      (OpenSpec.preRow_of_cond 8 hx (by kernel_rfl) (fun k hk => by cases hk; kernel_rfl) (by kernel_rfl) (laid_met os _))
  · exact contract H enc

theorem saidUpto : Rows.VfsSureUptoSaid :=
  OpenClaim.holds_of_cond 11 Tryd.f11 rfl rfl rfl rfl rfl rfl rfl ⟨rfl, rfl, rfl, rfl, rfl⟩ rfl rfl rfl rfl rfl (by kernel_rfl) Tryd.func11 (by kernel_rfl)
    (of_decide_eq_true (by kernel_rfl)) (by unfold Func.isWrapper; rw [if_neg (by decide +kernel)]; exact ⟨rfl, rfl⟩)
    (fun os started H enc _ F => by rw [OpenClaim.pre_eq_preRow]; exact lifted os started H enc F)

theorem plain (f : FuncId) (fn : Func) (hf : Tryd.pinned.checked.prog.funcNamed "towline/towlinelaw14.VfsSure" = some f) (hfn : Tryd.pinned.checked.prog.funcs[f]? = some fn) :
    false = Tryd.pinned.checked.prog.looks [] ∧ ∀ (j : Nat) t, fn.params[j]? = some t → Tryd.pinned.checked.prog.wantsStandIn t = false := by
  obtain rfl : f = 11 := Option.some.inj ((show Tryd.prog.funcNamed "towline/towlinelaw14.VfsSure" = some 11 by kernel_rfl).symm.trans hf) |>.symm
  obtain rfl : fn = Tryd.f11 := (Option.some.inj (Tryd.func11.symm.trans hfn)).symm
  refine ⟨by kernel_rfl, fun j t ht => ?_⟩
  rw [Tryd.params11] at ht
  have ht : t ∈ [43, 94, 102] := by simpa using Array.mem_of_getElem? ht
  simp only [List.mem_cons, List.mem_nil_iff, or_false] at ht
  rcases ht with rfl | rfl | rfl <;> exact (show Tryd.prog.wantsStandIn _ = false by kernel_rfl)

theorem cardUpto : Rows.VfsSureUptoCardSaid :=
  Claim7.holds_tied_plain_at .later [] _ _ _ _ saidUpto (fun _ h => by cases h) (by kernel_rfl) (fun _ h => by cases h) vfsSureUpto_row_tie rfl ⟨rfl, rfl⟩ (by kernel_rfl) rfl plain (by kernel_rfl)
end Go.Proofs.YtfoamcobpfflbaaDoor.vfsSure
