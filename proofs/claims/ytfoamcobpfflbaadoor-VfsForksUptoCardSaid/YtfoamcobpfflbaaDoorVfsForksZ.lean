/- The law VfsForks answers true for all arguments of bulk at most 1048576: the row's statement and its card. Conditions: the row's own (laid tables as the card ties them; bulk). -/
import Derived.WideKeyEntry
import Derived.Tactics
import Derived.Test.YtfoamcobpfflbaaDoorZ13
namespace Go.Proofs.YtfoamcobpfflbaaDoor
open Go Go.RowKit Go.Maps
open VfsS (St cl clp So)

/-- The struct's variable lies in block b, beside the program's file system. -/
structure LV (w0 W : World) (p b : Nat) (S : St) (N : Nat) (cs : Array Value) (E : Nat → Prop) : Prop where
  v : VE E w0 W p S N
  r : RR E W cs (cl S) N
  o : So S
  e : E b
  h : W.heap[b]? = some (.cells cs 36 (0, 0))

section
variable {w0 W W' : World} {p b : Nat} {S : St} {N : Nat} {cs : Array Value} {E : Nat → Prop}

theorem LV.lt (h : LV w0 W p b S N cs E) : b < W.heap.size := (Array.getElem?_eq_some_iff.1 h.h).1
theorem LV.below (h : LV w0 W p b S N cs E) (hb : Below W.heap.size W W') : LV w0 W' p b S N cs (Kx E W.heap.size W'.heap.size) :=
  ⟨h.v.below hb, (h.r.below hb).sub fun _ hk _ => .inl hk, h.o, .inl h.e, (hb.block _ h.lt).trans h.h⟩
theorem LV.c (h : LV w0 W p b S N cs E) (j : Nat) {x : Value} (hx : cs[j]? = some x) : W.cell? ⟨b, j, none⟩ = some x := by rw [cell_of h.h]; exact hx
theorem LV.put {E' : Nat → Prop} {S' : St} {N' : Nat} {cs0 cs' : Array Value} (hv : VE E' w0 W p S' N') (hr : RR E' W cs' (cl S') N') (ho : So S') (he : E' b) (hb : W.heap[b]? = some (.cells cs0 36 (0, 0))) (h2 : W'.heap[b]? = some (.cells cs' 36 (0, 0))) (hg : W.grownBy W' (some b)) :
    LV w0 W' p b S' N' cs' E' :=
  ⟨hv.grown hg he, hr.other hb (by decide) hg, ho, he, h2⟩
theorem LV.rep (h : LV w0 W p b S N cs E) : ∃ K, VRep W p S K N := by obtain ⟨K, h1, _⟩ := h.v; exact ⟨K, h1⟩

variable {ops : Array Oper} {rest : List Oper} {op : Oper} {a : Act} {Q : Exit → Act → World → Prop}
theorem wp_loadFS {cs : Array Value} (hb : W.heap[b]? = some (.cells cs 36 (0, 0))) (hgd : op.guard = none) (x : Operand) (ho : op.op = .load 36 x) (hx : a.eval x = .pointer (some ⟨b, 0, none⟩)) (hsz : cs.size = 7)
    (K : wpList Tryd.prog ops Q rest (a.put op.dst (.agg cs)) W) : wpList Tryd.prog ops Q (op :: rest) a W :=
  wp_loadB hgd 36 x ho b hx hb _ Tryd.underlying36 rfl (by rw [Array.length_toList, hsz]; kernel_rfl) K
theorem wp_storeFS {cs : Array Value} (hb : W.heap[b]? = some (.cells cs 36 (0, 0))) (hgd : op.guard = none) (x y : Operand) (ho : op.op = .store 36 x y) (hx : a.eval x = .pointer (some ⟨b, 0, none⟩)) {new : Array Value} (hy : a.eval y = .agg new) (hsz : cs.size = 7) (hsn : new.size = 7) (h1 : new.all (·.oneCell') = true)
    (K : ∀ w' : World, w'.heap[b]? = some (.cells new 36 (0, 0)) → W.grownBy w' (some b) → wpList Tryd.prog ops Q rest (a.put op.dst undef) w') : wpList Tryd.prog ops Q (op :: rest) a W :=
  wp_storeB hgd 36 x y ho b new hx hy hb (by rw [hsz, hsn]) (by rw [hsn]; kernel_rfl) h1 fun w' h2 g => K w' h2 g
theorem wp_loadOp {o : OpD} (hb : W.heap[b]? = some (.cells (opCells o) 96 (0, 0))) (hgd : op.guard = none) (x : Operand) (ho : op.op = .load 96 x) (hx : a.eval x = .pointer (some ⟨b, 0, none⟩))
    (K : wpList Tryd.prog ops Q rest (a.put op.dst (.agg (opCells o))) W) : wpList Tryd.prog ops Q (op :: rest) a W :=
  wp_loadB hgd 96 x ho b hx hb _ Tryd.underlying96 rfl (by kernel_rfl) K
end

/-- The new struct, as cells. -/
def newC (n : Int) : Array Value := #[.slice none 0 0, .slice none 0 0, .slice none 0 0, .slice none 0 0, .int .i64 n, .int .i64 0, .int .i64 (-1)]

theorem rr_new (E : Nat → Prop) (w : World) (n : Nat) (hn : n ≤ 4194304) : RR E w (newC n) (VfsS.newS n) 0 :=
  ⟨none, none, none, none, 0, 0, 0, 0, rfl, { f := OwnG.nil _ _ _, n := OwnG.nil _ _ _, s := OwnG.nil _ _ _, a := OwnG.nil _ _ _, kf := (fun k hk => nomatch hk), kn := (fun k hk => nomatch hk), ks := (fun k hk => nomatch hk), ka := (fun k hk => nomatch hk), wf := VfsS.Wf.new hn, lf := Nat.le_refl _, ln := Nat.le_refl _, la := Nat.le_refl _, st := Nat.le_refl _, big := by omega, lim := by show (-1 : Int) ≤ -1; omega }⟩

/-- The state behind the first j calls. -/
def run (S : St) (os : List OpD) (j : Nat) : St := (os.take j).foldl (fun s o => (stepO s o).1) S
theorem run_zero (S : St) (os : List OpD) : run S os 0 = S := by unfold run; rw [List.take_zero]; rfl
theorem run_step (S : St) (os : List OpD) (j : Nat) (h : j < os.length) : run S os (j + 1) = (stepO (run S os j) os[j]).1 := by
  unfold run; rw [List.take_succ_eq_append_getElem h, List.foldl_append]; rfl

set_option maxRecDepth 100000 in
set_option maxHeartbeats 4000000 in
theorem lawPlays_c (sa : Option Addr) (sc : Nat) (os : List OpD) (room : Int) (w : World) (hg : Gl w) (hs : Sl w sa (opRow os)) (hl : os.length ≤ 1048576) (hok : ∀ o ∈ os, OpR w o 1048576) :
    Calls Tryd.prog 9 #[.int .i64 room, .slice sa os.length sc] w fun e w' => e = .returned (.bool true) ∧ Below w.heap.size w w' := by
  go_enter Tryd.func9, Tryd.ntmps9
  go_wp2_with fail
  refine (awake14_c w hg).mono ?_
  rintro e w0 ⟨rfl, hb0⟩
  have hg0 := hg.below hb0 (Nat.le_refl _)
  go_wp2_with fail
  refine (new_a room w0 hg0).mono ?_
  rintro e w1 (⟨hbad, rfl, rfl⟩ | ⟨hgood, p, rfl, H1⟩)
  · have hcode : Hid ((if room < 0 ∨ 4194304 < room then (1 : Int) else 0) = 1) := if_pos hbad
    have HW := rwrong_c room w1
    rw [hcode.out] at HW
    clear hcode hbad
    go_wp2_with (first | (go_at_call 15; refine HW.mono ?_; rintro e w' ⟨rfl, rfl⟩))
    go_ret
    exact ⟨rfl, hb0⟩
  obtain ⟨r, rfl⟩ : ∃ r : Nat, room = r := ⟨room.toNat, by omega⟩
  have hcode : Hid ((if (r : Int) < 0 ∨ 4194304 < (r : Int) then (1 : Int) else 0) = 0) := if_neg (by omega)
  have HW := rwrong_c r w1
  rw [hcode.out] at HW
  rw [Int.toNat_natCast] at H1
  have hr4 : r ≤ 4194304 := by omega
  clear hcode hgood
  go_upto_region 7 with (first | (go_at_call 15; refine HW.mono ?_; rintro e w' ⟨rfl, rfl⟩))
  have HN : Calls Tryd.prog 18 #[.int .i64 (r : Int)] w' fun e w'' => e = .returned (.agg (newC r)) ∧ Below w'.heap.size w' w'' := rnew_c r w'
  go_upto_region 8 with (first
    | (go_at_call 18; refine HN.mono ?_; rintro e w2 ⟨rfl, hb2⟩; have hB2 : (w2.alloc (.cells #[.slice none 0 0, .slice none 0 0, .slice none 0 0, .slice none 0 0, .int .i64 0, .int .i64 0, .int .i64 0] 36)).heap[w2.heap.size]? = some (.cells fs0 36 (0, 0)) := Array.getElem?_push_size)
    | (refine wp_storeFS hB2 rfl _ _ rfl rfl rfl rfl rfl (by simp [newC, Value.oneCell']) ?_; intro w3 h3 hg3))
  have hL : ∃ cs E, LV w0 w3 p w2.heap.size (VfsS.newS r) 0 cs E := by
    have hb3 : Below w'.heap.size w' (w2.alloc (.cells #[.slice none 0 0, .slice none 0 0, .slice none 0 0, .slice none 0 0, .int .i64 0, .int .i64 0, .int .i64 0] 36)) := hb2.alloc hb2.size _
    have hv := H1.toE.below hb3
    exact ⟨newC r, _, LV.put hv (rr_new _ _ r hr4) (So.new r) (.inr ⟨hb2.size, by simp⟩) hB2 h3 hg3⟩
  clear H1 HW HN hb2 hB2 hg3 h3
  have hsW := hs.below hb0
  have hok0 : ∀ o ∈ os, o.Ok w0 := fun o ho => (hok o ho).ok (Nat.le_refl _) hb0
  have HOK := Lib.hid hok0
  clear hok hok0 hs hg hg0
  generalize w2.heap.size = b at *
  go_wp2_with fail
  go_loopw [42] (fun iv wx => ∃ (j : Nat) (cs : Array Value) (E : Nat → Prop), j ≤ os.length ∧ iv = .int .i64 j ∧ LV w0 wx p b (run (VfsS.newS r) os j) (3 * j) cs E) (fun iv _ => (os.length - intOf iv).toNat)
  case atStart =>
    obtain ⟨cs, E, hL⟩ := hL
    exact ⟨0, cs, E, Nat.zero_le _, rfl, by rw [run_zero]; exact hL⟩
  case round =>
    clear hL
    obtain ⟨j, cs, E, hj, rfl, hL⟩ := hrel
    by_cases hjl : j < os.length
    · have hd : decide ((j : Int) < (os.length : Int)) = true := decide_eq_true (by omega)
      have HRS := Lib.hid (run_step (VfsS.newS r) os j hjl)
      have hoj := HOK.out _ (List.getElem_mem hjl)
      obtain ⟨ab, ao, rfl, hab, hcel⟩ := (hsW.below hL.v.out).at (k := j * 6) (by rw [opRow_len]; omega)
      have far : ∀ i u, i < 6 → (opCells os[j])[i]? = some u → wr.cell? ⟨ab, ao + j * 6 + i, none⟩ = some u := fun i u hi hu => by
        have h1 := opRow_at os j hjl i hi
        rw [hu] at h1
        obtain ⟨h2, h3⟩ := List.getElem?_eq_some_iff.1 h1
        rw [Nat.add_assoc, hcel _ h2, h3]
      have q0 : wr.cell? ⟨ab, ao + j * 6, none⟩ = some (.int .i64 os[j].kind) := far 0 _ (by omega) rfl
      have q1 : wr.cell? ⟨ab, ao + j * 6 + 1, none⟩ = some (.string os[j].name) := far 1 _ (by omega) rfl
      have q2 : wr.cell? ⟨ab, ao + j * 6 + 2, none⟩ = some (.string os[j].dst) := far 2 _ (by omega) rfl
      have q3 : wr.cell? ⟨ab, ao + j * 6 + 3, none⟩ = some (.slice os[j].da os[j].data.size os[j].dc) := far 3 _ (by omega) rfl
      have q4 : wr.cell? ⟨ab, ao + j * 6 + 4, none⟩ = some (.int .i64 os[j].n) := far 4 _ (by omega) rfl
      have q5 : wr.cell? ⟨ab, ao + j * 6 + 5, none⟩ = some (.int .i64 os[j].m) := far 5 _ (by omega) rfl
      have b1 : (0 : Int) ≤ (j : Int) := by omega
      have b2 : (j : Int) < os.length := by omega
      have hw : IntKind.i64.wrap ((j : Int) + 1) = (j : Int) + 1 := IntWalk.i64_in _ (by omega)
      generalize os[j] = o at *
      clear far hcel
      go_upto_region 12 with fail
      have hbA : Below wr.heap.size wr (wr.alloc (.cells #[.int .i64 o.kind, .string o.name, .string o.dst, .slice o.da o.data.size o.dc, .int .i64 o.n, .int .i64 o.m] 96)) := (Below.refl _ wr).alloc (Nat.le_refl _) _
      have hO : (wr.alloc (.cells #[.int .i64 o.kind, .string o.name, .string o.dst, .slice o.da o.data.size o.dc, .int .i64 o.n, .int .i64 o.m] 96)).heap[wr.heap.size]? = some (.cells (opCells o) 96 (0, 0)) := Array.getElem?_push_size
      have hL1 := hL.below hbA
      have HST := Lib.hid (lawstep_c hL1.v hL1.r o hoj (by omega))
      have hcs := hL1.r.size
      have hSo := So.stepO hL1.o o
      have hLh := hL1.h
      have hLe := hL1.e
      clear hL
      generalize wr.alloc (.cells #[.int .i64 o.kind, .string o.name, .string o.dst, .slice o.da o.data.size o.dc, .int .i64 o.n, .int .i64 o.m] 96) = W1 at *
      go_upto_region 13 with (first
        | (refine wp_loadFS hLh rfl _ rfl rfl hcs ?_)
        | (refine wp_loadOp hO rfl _ rfl rfl ?_)
        | (go_at_call 52; refine HST.out.mono ?_; rintro e w4 ⟨cs4, E4, rfl, hsub4, hv4, hr4, hk4⟩; have hB4 := (hk4 _ hLe).trans hLh; have hs4 := hr4.size; have ho4 := hr4.one)
        | (refine wp_storeFS hB4 rfl _ _ rfl rfl rfl hcs hs4 ho4 ?_; intro w5 h5 hg5; have hL5 := LV.put hv4 hr4 hSo (hsub4 _ hLe) hB4 h5 hg5))
      clear HST hLh hLe hO hL1 hv4 hr4 hk4 hB4 hSo h5 hg5 hcs q0 q1 q2 q3 q4 q5
      have HL5 : Hid (LV w0 w5 p b (run (VfsS.newS r) os (j + 1)) (3 * (j + 1)) cs4 E4) := by
        have := hL5
        rw [← HRS.out] at this
        exact this
      generalize (stepO (run (VfsS.newS r) os j) o).1 = T at *
      obtain ⟨K5, hrep⟩ := hL5.rep
      obtain ⟨fa, na, sa', aa, fc, nc, sc', ac, rfl, -⟩ := hL5.r
      have hlt5 := hL5.lt
      have f0 := fun p' => bw_cell (a := ⟨b, 0, none⟩) hlt5 (show w5.cell? ⟨b, 0, none⟩ = some (.slice fa (cl T).files.length fc) from hL5.c 0 rfl) p'
      have f1 := fun p' => bw_cell (a := ⟨b, 1, none⟩) hlt5 (show w5.cell? ⟨b, 1, none⟩ = some (.slice na (cl T).now.length nc) from hL5.c 1 rfl) p'
      have f2 := fun p' => bw_cell (a := ⟨b, 2, none⟩) hlt5 (show w5.cell? ⟨b, 2, none⟩ = some (.slice sa' (cl T).sure.length sc') from hL5.c 2 rfl) p'
      have f3 := fun p' => bw_cell (a := ⟨b, 3, none⟩) hlt5 (show w5.cell? ⟨b, 3, none⟩ = some (.slice aa (cl T).acts.length ac) from hL5.c 3 rfl) p'
      have f4 := fun p' => bw_cell (a := ⟨b, 4, none⟩) hlt5 (show w5.cell? ⟨b, 4, none⟩ = some (.int .i64 (cl T).room) from hL5.c 4 rfl) p'
      have f5 := fun p' => bw_cell (a := ⟨b, 5, none⟩) hlt5 (show w5.cell? ⟨b, 5, none⟩ = some (.int .i64 T.steps) from hL5.c 5 rfl) p'
      have f6 := fun p' => bw_cell (a := ⟨b, 6, none⟩) hlt5 (show w5.cell? ⟨b, 6, none⟩ = some (.int .i64 (cl T).limit) from hL5.c 6 rfl) p'
      have HSM : Hid (∀ p', Calls Tryd.prog 53 #[.pointer (some ⟨p, 0, none⟩), .agg #[.slice fa (cl T).files.length fc, .slice na (cl T).now.length nc, .slice sa' (cl T).sure.length sc', .slice aa (cl T).acts.length ac, .int .i64 (cl T).room, .int .i64 T.steps, .int .i64 (cl T).limit]] (bw w5 p') fun e w'' => e = .returned (.bool true) ∧ ∃ q : BW, w'' = bw w5 q) := fun p' =>
        calls_bw (same_c (hrep.below (bw_below w5 p')) (hL5.r.below (bw_below w5 p')) (SameFS.cl T) hL5.o.n)
      have HSP : Hid (∀ p', Calls Tryd.prog 54 #[.pointer (some ⟨p, 0, none⟩)] (bw w5 p') fun e w'' => e = .returned (.int .i64 T.steps) ∧ ∃ q : BW, w'' = bw w5 q) := fun p' =>
        calls_bw ((steps_c (hrep.below (bw_below w5 p'))).mono fun e w' h => ⟨h.1, by rw [h.2]; exact Below.refl _ _⟩)
      clear hL5 hrep
      refine wp_region_bw (by kernel_rfl) (by kernel_rfl) ?_
      iterate 5 quiet_step (fail)
      quiet_step (exact HSM.out _)
      iterate 4 quiet_step (fail)
      quiet_step (exact HSP.out _)
      iterate 4 quiet_step (fail)
      refine wpQuiet_nil ?_
      rintro Wn ⟨pn, hWn⟩
      have hbn : Below w5.heap.size w5 Wn := by rw [hWn]; exact bw_below _ _
      clear hWn f0 f1 f2 f3 f4 f5 f6 HSM HSP
      go_wp2_with fail
      go_roundw
      case rel => exact ⟨j + 1, _, _, by omega, by go_num, HL5.out.below hbn⟩
      case measure => simp [intOf]; omega
    · have hd : decide ((j : Int) < (os.length : Int)) = false := decide_eq_false (by omega)
      go_wp2_with fail
      go_ret
      exact ⟨rfl, hb0.trans (hL.v.out.mono hb0.size)⟩
end Go.Proofs.YtfoamcobpfflbaaDoor
namespace Go.Proofs.YtfoamcobpfflbaaDoor
open Go Go.RowKit Go.Maps
open VfsS (St cl clp So)

section
open Go.ChangeShapes Go.WideShapes Go.ChangeAt
set_option maxRecDepth 100000 in
theorem open_op {H : Type} {enc : TypeId × Value → H} {W : World} {base : Nat} {v : Value} {d : DataW H} {p : List MemPlace} (hv : Value.okWide Tryd.prog W .any base 96 v)
    (h : DataW.Trod enc Tryd.prog W 0 (fun _ => true) true 96 v d p) (hk : Rows.uptoBulk d ≤ 1048576) : ∃ o : OpD, v = .agg (opCells o) ∧ OpR W o 1048576 := by
  obtain ⟨o, h1, h2⟩ := (opn_op (W := W)).arg h
  have ht := Tryd.underlying96
  simp only [Value.okWide, ht] at hv
  obtain ⟨cs, rfl, _⟩ := hv
  refine ⟨o, ?_, OpR.mono o _ _ hk h2⟩
  congr 1
  exact Array.toList_inj.1 h1
end

/-- With the power gone no call but a crash and a stop changes anything. -/
theorem stepO_cut {S : St} (h : S.limit = 0) (o : OpD) (h7 : o.kind ≠ 7) (h8 : o.kind ≠ 8) : (stepO S o).1 = S := by
  unfold stepO
  split
  · unfold VfsS.createS; simp only [h, if_true]; split <;> (try rfl); split <;> rfl
  split
  · unfold VfsS.appendS; cases VfsS.find S.now o.name <;> simp only [h, if_true]; split <;> rfl
  split
  · unfold VfsS.cutS; cases VfsS.find S.now o.name <;> simp only [h, if_true]; split <;> rfl
  split
  · unfold VfsS.syncS; cases VfsS.find S.now o.name <;> simp only [h, if_true]
  split
  · unfold VfsS.renameS; cases VfsS.find S.now o.name <;> simp only [h, if_true]; split <;> (try rfl); split <;> rfl
  split
  · unfold VfsS.removeS; simp only [h, if_true]; split <;> rfl
  split
  · unfold VfsS.flushAllS; simp only [h, if_true]
  first | rfl | rw [if_neg h7, if_neg h8]

def powerB : ByteArray := ⟨#[112, 111, 119, 101, 114]⟩
theorem power_ok : PathS.check powerB = 0 := by decide +kernel

theorem create_cut {S : St} (h : S.limit = 0) : VfsS.createS S powerB = (S, 5) ∨ VfsS.createS S powerB = (S, 190) := by
  unfold VfsS.createS
  rw [if_neg (fun e => e power_ok)]
  by_cases hf : (VfsS.find S.now powerB).isSome
  · left; rw [if_pos hf]
  · right; rw [if_neg hf, if_pos h]
theorem flush_cut {S : St} (h : S.limit = 0) : VfsS.flushAllS S = (S, 190) := by unfold VfsS.flushAllS; rw [if_pos h]

theorem LV.prog {w0 W W' : World} {p b : Nat} {S S' : St} {N N' : Nat} {cs : Array Value} {E : Nat → Prop} (h : LV w0 W p b S N cs E) (hv : VE E w0 W' p S' N') (hb : ∀ k, E k → W'.heap[k]? = W.heap[k]?) : VE E w0 W' p S' N' ∧ RR E W' cs (cl S) N ∧ W'.heap[b]? = some (.cells cs 36 (0, 0)) :=
  ⟨hv, h.r.blocks hb, (hb _ h.e).trans h.h⟩

theorem LV.keep {w0 W W' : World} {p b : Nat} {S : St} {N N' : Nat} {cs : Array Value} {E : Nat → Prop} (h : LV w0 W p b S N cs E) (hv : VE E w0 W' p S N') (hb : ∀ k, E k → W'.heap[k]? = W.heap[k]?) (hN : N ≤ N') (hb' : N' ≤ 40000000) : LV w0 W' p b S N' cs E :=
  ⟨hv, (h.r.blocks hb).mono hN hb', h.o, h.e, (hb _ h.e).trans h.h⟩

theorem LV.setLim {w0 W : World} {p b : Nat} {S : St} {N : Nat} {cs : Array Value} {E : Nat → Prop} {n : Int} (hv : VE E w0 W p { S with limit := n } N) (hr : RR E W cs (cl S) N) (ho : So S) (he : E b) (hb : W.heap[b]? = some (.cells cs 36 (0, 0))) (m : Int) (hm : m = max n (-1)) (hm2 : m ≤ 9223372036854775807) :
    ∃ cs', LV w0 (W.setCell ⟨b, 6, none⟩ (.int .i64 m)) p b { S with limit := n } N cs' E := by
  subst hm
  obtain ⟨fa, na, sa, aa, fc, nc, sc, ac, rfl, hx⟩ := hr
  have h1 := hx.setLim (max n (-1)) (by omega)
  have h2 : RR E W (rcells (cl { S with limit := n }) fa na sa aa fc nc sc ac) (cl { S with limit := n }) N := ⟨fa, na, sa, aa, fc, nc, sc, ac, rfl, h1⟩
  obtain ⟨s, g⟩ := set_block hb 6 (.int .i64 (max n (-1)))
  exact ⟨_, LV.put hv h2 ⟨ho.n, ho.s⟩ he hb s g⟩

set_option maxRecDepth 100000 in
set_option maxHeartbeats 4000000 in
theorem lawStops_c (sa : Option Addr) (sc : Nat) (os : List OpD) (x : OpD) (w : World) (hg : Gl w) (hs : Sl w sa (opRow os)) (hl : os.length ≤ 1048576) (hok : ∀ o ∈ os, OpR w o 1048576) (hx : OpR w x 1048576) :
    Calls Tryd.prog 10 #[.slice sa os.length sc, .agg (opCells x)] w fun e w' => e = .returned (.bool true) ∧ Below w.heap.size w w' := by
  show Calls _ _ #[.slice sa os.length sc, .agg #[.int .i64 x.kind, .string x.name, .string x.dst, .slice x.da x.data.size x.dc, .int .i64 x.n, .int .i64 x.m]] _ _
  go_enter Tryd.func10, Tryd.ntmps10
  go_upto_region 1 with fail
  have hbX : Below w.heap.size w (w.alloc (.cells #[.int .i64 x.kind, .string x.name, .string x.dst, .slice x.da x.data.size x.dc, .int .i64 x.n, .int .i64 x.m] 96)) := (Below.refl _ w).alloc (Nat.le_refl _) _
  have hX : (w.alloc (.cells #[.int .i64 x.kind, .string x.name, .string x.dst, .slice x.da x.data.size x.dc, .int .i64 x.n, .int .i64 x.m] 96)).heap[w.heap.size]? = some (.cells (opCells x) 96 (0, 0)) := Array.getElem?_push_size
  generalize w.alloc (.cells #[.int .i64 x.kind, .string x.name, .string x.dst, .slice x.da x.data.size x.dc, .int .i64 x.n, .int .i64 x.m] 96) = wX at *
  have hgX := hg.below hbX (Nat.le_refl _)
  go_wp2_with fail
  refine (awake14_c wX hgX).mono ?_
  rintro e w0 ⟨rfl, hbw⟩
  have hb0 := hbX.trans (hbw.mono hbX.size)
  have hXlt := (Array.getElem?_eq_some_iff.1 hX).1
  have hX0 := (hbw.block _ hXlt).trans hX
  have hXl0 := (Array.getElem?_eq_some_iff.1 hX0).1
  have hg0 := hgX.below hbw (Nat.le_refl _)
  clear hX hXlt hgX hbX
  go_wp2_with fail
  refine (new_a 2000 w0 hg0).mono ?_
  rintro e w1 (⟨hbad, -, -⟩ | ⟨-, p, rfl, H1⟩)
  · omega
  have HN : Calls Tryd.prog 18 #[.int .i64 2000] w1 fun e w'' => e = .returned (.agg (newC 2000)) ∧ Below w1.heap.size w1 w'' := rnew_c 2000 w1
  go_upto_region 7 with (first
    | (go_at_call 18; refine HN.mono ?_; rintro e w2 ⟨rfl, hb2⟩; have hB2 : (w2.alloc (.cells #[.slice none 0 0, .slice none 0 0, .slice none 0 0, .slice none 0 0, .int .i64 0, .int .i64 0, .int .i64 0] 36)).heap[w2.heap.size]? = some (.cells fs0 36 (0, 0)) := Array.getElem?_push_size)
    | (refine wp_storeFS hB2 rfl _ _ rfl rfl rfl rfl rfl (by simp [newC, Value.oneCell']) ?_; intro w3 h3 hg3))
  have hL : ∃ cs E, LV w0 w3 p w2.heap.size (VfsS.newS 2000) 0 cs E := by
    have hb3 : Below w1.heap.size w1 (w2.alloc (.cells #[.slice none 0 0, .slice none 0 0, .slice none 0 0, .slice none 0 0, .int .i64 0, .int .i64 0, .int .i64 0] 36)) := hb2.alloc hb2.size _
    have hv := H1.toE.below hb3
    exact ⟨newC 2000, _, LV.put hv (rr_new _ _ 2000 (by omega)) (So.new 2000) (.inr ⟨hb2.size, by simp⟩) hB2 h3 hg3⟩
  clear H1 HN hb2 hB2 hg3 h3
  have hsW := hs.below hb0
  have HOK : Hid (∀ o ∈ os, o.Ok w0) := fun o ho => (hok o ho).ok (Nat.le_refl _) hb0
  have HOX : Hid (x.Ok w0) := hx.ok (Nat.le_refl _) hb0
  clear hok hx hs hg hg0 hbw
  generalize w2.heap.size = b at *
  go_wp2_with fail
  go_loopw [22] (fun iv wx => ∃ (j : Nat) (cs : Array Value) (E : Nat → Prop), j ≤ os.length ∧ iv = .int .i64 j ∧ LV w0 wx p b (run (VfsS.newS 2000) os j) (0 + 3 * j) cs E) (fun iv _ => (os.length - intOf iv).toNat)
  case atStart =>
    obtain ⟨cs, E, hL⟩ := hL
    exact ⟨0, cs, E, Nat.zero_le _, rfl, by rw [run_zero]; exact hL⟩
  case round =>
    clear hL
    obtain ⟨j, cs, E, hj, rfl, hL⟩ := hrel
    by_cases hjl : j < os.length
    · have hd : decide ((j : Int) < (os.length : Int)) = true := decide_eq_true (by omega)
      have HRS := Lib.hid (run_step (VfsS.newS 2000) os j hjl)
      have hoj := HOK.out _ (List.getElem_mem hjl)
      obtain ⟨ab, ao, rfl, hab, hcel⟩ := (hsW.below hL.v.out).at (k := j * 6) (by rw [opRow_len]; omega)
      have far : ∀ i u, i < 6 → (opCells os[j])[i]? = some u → wr.cell? ⟨ab, ao + j * 6 + i, none⟩ = some u := fun i u hi hu => by
        have h1 := opRow_at os j hjl i hi
        rw [hu] at h1
        obtain ⟨h2, h3⟩ := List.getElem?_eq_some_iff.1 h1
        rw [Nat.add_assoc, hcel _ h2, h3]
      have q0 : wr.cell? ⟨ab, ao + j * 6, none⟩ = some (.int .i64 os[j].kind) := far 0 _ (by omega) rfl
      have q1 : wr.cell? ⟨ab, ao + j * 6 + 1, none⟩ = some (.string os[j].name) := far 1 _ (by omega) rfl
      have q2 : wr.cell? ⟨ab, ao + j * 6 + 2, none⟩ = some (.string os[j].dst) := far 2 _ (by omega) rfl
      have q3 : wr.cell? ⟨ab, ao + j * 6 + 3, none⟩ = some (.slice os[j].da os[j].data.size os[j].dc) := far 3 _ (by omega) rfl
      have q4 : wr.cell? ⟨ab, ao + j * 6 + 4, none⟩ = some (.int .i64 os[j].n) := far 4 _ (by omega) rfl
      have q5 : wr.cell? ⟨ab, ao + j * 6 + 5, none⟩ = some (.int .i64 os[j].m) := far 5 _ (by omega) rfl
      have b1 : (0 : Int) ≤ (j : Int) := by omega
      have b2 : (j : Int) < os.length := by omega
      have hw : IntKind.i64.wrap ((j : Int) + 1) = (j : Int) + 1 := IntWalk.i64_in _ (by omega)
      generalize os[j] = o at *
      clear far hcel
      go_upto_region 10 with fail
      have hbA : Below wr.heap.size wr (wr.alloc (.cells #[.int .i64 o.kind, .string o.name, .string o.dst, .slice o.da o.data.size o.dc, .int .i64 o.n, .int .i64 o.m] 96)) := (Below.refl _ wr).alloc (Nat.le_refl _) _
      have hO : (wr.alloc (.cells #[.int .i64 o.kind, .string o.name, .string o.dst, .slice o.da o.data.size o.dc, .int .i64 o.n, .int .i64 o.m] 96)).heap[wr.heap.size]? = some (.cells (opCells o) 96 (0, 0)) := Array.getElem?_push_size
      have hL1 := hL.below hbA
      have HST := Lib.hid (lawstep_c hL1.v hL1.r o hoj (by omega))
      have hcs := hL1.r.size
      have hSo := So.stepO hL1.o o
      have hLh := hL1.h
      have hLe := hL1.e
      generalize wr.alloc (.cells #[.int .i64 o.kind, .string o.name, .string o.dst, .slice o.da o.data.size o.dc, .int .i64 o.n, .int .i64 o.m] 96) = W1 at *
      clear hL
      go_upto_region 11 with (first
        | (refine wp_loadFS hLh rfl _ rfl rfl hcs ?_)
        | (refine wp_loadOp hO rfl _ rfl rfl ?_)
        | (go_at_call 52; refine HST.out.mono ?_; rintro e w4 ⟨cs4, E4, rfl, hsub4, hv4, hr4, hk4⟩; have hB4 := (hk4 _ hLe).trans hLh; have hs4 := hr4.size; have ho4 := hr4.one)
        | (refine wp_storeFS hB4 rfl _ _ rfl rfl rfl hcs hs4 ho4 ?_; intro w5 h5 hg5; have hL5 := LV.put hv4 hr4 hSo (hsub4 _ hLe) hB4 h5 hg5))
      have HL5 : Hid (LV w0 w5 p b (run (VfsS.newS 2000) os (j + 1)) (0 + 3 * (j + 1)) cs4 E4) := by
        have := hL5
        rw [← HRS.out] at this
        exact this
      clear HST hLh hLe hO hL1 hv4 hr4 hk4 hB4 hSo h5 hg5 hcs q0 q1 q2 q3 q4 q5 hL5 HRS
      go_wp2_with fail
      go_roundw
      case rel => exact ⟨j + 1, _, _, by omega, by go_num, HL5.out⟩
      case measure => simp [intOf]; omega
    · obtain rfl : j = os.length := by omega
      have hd : decide ((os.length : Int) < (os.length : Int)) = false := decide_eq_false (by omega)
      generalize run (VfsS.newS 2000) os os.length = T at *
      have HSP := Lib.hid (stop_e hL.v 0 (by omega))
      have hLh := hL.h
      go_upto_region 13 with (go_at_call 47; refine HSP.out.mono ?_; rintro e w4 ⟨rfl, hv4, hk4⟩; obtain ⟨-, hr4, hB4⟩ := hL.prog hv4 hk4)
      obtain ⟨fa, na, sa', aa, fc, nc, sc', ac, ecs, -⟩ := hr4
      have e6 : w4.cell? ⟨b, 6, none⟩ = some (.int .i64 (cl T).limit) := by rw [cell_of hB4, ecs]; rfl
      have f6 := frozen_of hB4 6
      obtain ⟨-, hr4, -⟩ := hL.prog hv4 hk4
      obtain ⟨cs5, hL5⟩ := LV.setLim hv4 hr4 hL.o hL.e hB4 0 (by decide) (by decide)
      have hlim : ({ T with limit := 0 } : St).limit = 0 := rfl
      clear ecs hr4 hv4 hk4 hLh HSP hL
      go_upto_region 14 with fail
      generalize w4.setCell ⟨b, 6, none⟩ (.int .i64 0) = w5 at *
      generalize ({ T with limit := 0 } : St) = U at *
      clear e6 f6 hB4
      obtain ⟨K5, hrep5⟩ := hL5.rep
      have HFL := Lib.hid (flush_e hL5.v (by omega))
      rw [flush_cut hlim] at HFL
      have HCR := Lib.hid (fun (W : World) (N : Nat) (hv : VE E w0 W p U N) (hN : N + 3 ≤ 100000000) => create_e hv powerB (by decide) hN)
      have hkind : ∀ (W : World), Below w0.heap.size w0 W → W.cell? ⟨w.heap.size, 0, none⟩ = some (.int .i64 x.kind) ∧ W.heap[w.heap.size]? = some (.cells (opCells x) 96 (0, 0)) := fun W hb => by
        have := (hb.block _ hXl0).trans hX0
        exact ⟨by rw [cell_of this]; rfl, this⟩
      have HKD := Lib.hid hkind
      clear hkind
      have HCUT := Lib.hid (fun h7 h8 => stepO_cut hlim x h7 h8)
      have hcases := create_cut hlim
      clear hlim
      rcases hcases with hc | hc
      all_goals
        rw [hc] at HCR
        clear hc
        go_upto_region 17 with (first
          | (go_at_call 54; refine (steps_c hrep5).mono ?_; rintro e w' ⟨rfl, rfl⟩)
          | (go_at_call 19; refine HFL.out.mono ?_; rintro e w6 ⟨rfl, hv6, hk6⟩; have hL6 := hL5.keep hv6 hk6 (by omega) (by omega); have hL8 := hL6)
          | (go_at_call 45; refine (HCR.out w6 _ hL6.v (by omega)).mono ?_; rintro e w7 ⟨rfl, hv7, hk7⟩; have hL7 := hL6.keep hv7 hk7 (by omega) (by omega); have hL8 := hL7)
          | (go_at_call 45; refine (HCR.out w7 _ hL7.v (by omega)).mono ?_; rintro e w8 ⟨rfl, hv8, hk8⟩; have hL8 := hL7.keep hv8 hk8 (by omega) (by omega)))
      all_goals
        have hkk := HKD.out _ hL8.v.out
        obtain ⟨k0, hXB⟩ := hkk
        clear HFL HCR HKD hL5
        have hcs := hL8.r.size
        have hLh := hL8.h
        by_cases h7 : x.kind = 7
        · have n7 : (x.kind != 7) = false := by rw [bne_eq_false_iff_eq]; exact h7
          have m7 : (x.kind == 7) = true := by rw [beq_iff_eq]; exact h7
          clear h7 HCUT
          obtain ⟨K8, hrep8⟩ := hL8.rep
          have HSM := Lib.hid (same_c hrep8 hL8.r (SameFS.cl _) hL8.o.n)
          have hout := hL8.v.out
          clear hL8
          go_wp2_with (first
            | (refine wp_loadFS hLh rfl _ rfl rfl hcs ?_)
            | (go_at_call 53; refine HSM.out.mono ?_; rintro e w9 ⟨rfl, hb9⟩; have hrep9 := hrep8.below hb9)
            | (go_at_call 54; refine (steps_c hrep9).mono ?_; rintro e w' ⟨rfl, rfl⟩))
          go_ret
          exact ⟨by simp, hb0.trans ((hout.trans (hb9.mono hout.size)).mono hb0.size)⟩
        · have n7 : (x.kind != 7) = true := by rw [bne_iff_ne]; exact h7
          have m7 : (x.kind == 7) = false := by rw [beq_eq_false_iff_ne]; exact h7
          by_cases h8 : x.kind = 8
          · have n8 : (x.kind != 8) = false := by rw [bne_eq_false_iff_eq]; exact h8
            have m8 : (x.kind == 8) = true := by rw [beq_iff_eq]; exact h8
            clear h7 h8 HCUT
            obtain ⟨K8, hrep8⟩ := hL8.rep
            have HSM := Lib.hid (same_c hrep8 hL8.r (SameFS.cl _) hL8.o.n)
            have hout := hL8.v.out
            clear hL8
            go_wp2_with (first
              | (refine wp_loadFS hLh rfl _ rfl rfl hcs ?_)
              | (go_at_call 53; refine HSM.out.mono ?_; rintro e w9 ⟨rfl, hb9⟩; have hrep9 := hrep8.below hb9)
              | (go_at_call 54; refine (steps_c hrep9).mono ?_; rintro e w' ⟨rfl, rfl⟩))
            go_ret
            exact ⟨by simp, hb0.trans ((hout.trans (hb9.mono hout.size)).mono hb0.size)⟩
          · have n8 : (x.kind != 8) = true := by rw [bne_iff_ne]; exact h8
            have m8 : (x.kind == 8) = false := by rw [beq_eq_false_iff_ne]; exact h8
            have HCU := Lib.hid (HCUT.out h7 h8)
            have HST := Lib.hid (lawstep_c hL8.v hL8.r x HOX.out (by omega))
            have hLe := hL8.e
            have hSo := So.stepO hL8.o x
            rw [HCU.out] at HST hSo
            clear h7 h8 HCUT hL8 HCU
            go_upto_region 19 with (first
              | (refine wp_loadFS hLh rfl _ rfl rfl hcs ?_)
              | (refine wp_loadOp hXB rfl _ rfl rfl ?_)
              | (go_at_call 52; refine HST.out.mono ?_; rintro e wa ⟨csa, Ea, rfl, hsuba, hva, hra, hka⟩; have hBa := (hka _ hLe).trans hLh; have hsa := hra.size; have hoa := hra.one)
              | (refine wp_storeFS hBa rfl _ _ rfl rfl rfl hcs hsa hoa ?_; intro wb hhb hgb; have hLb := LV.put hva hra hSo (hsuba _ hLe) hBa hhb hgb))
            obtain ⟨K8, hrep8⟩ := hLb.rep
            have HSM := Lib.hid (same_c hrep8 hLb.r (SameFS.cl _) hLb.o.n)
            have hout := hLb.v.out
            clear hLb
            go_wp2_with (first
              | (refine wp_loadFS hhb rfl _ rfl rfl hsa ?_)
              | (go_at_call 53; refine HSM.out.mono ?_; rintro e w9 ⟨rfl, hb9⟩; have hrep9 := hrep8.below hb9)
              | (go_at_call 54; refine (steps_c hrep9).mono ?_; rintro e w' ⟨rfl, rfl⟩))
            go_ret
            exact ⟨by simp, hb0.trans ((hout.trans (hb9.mono hout.size)).mono hb0.size)⟩
end Go.Proofs.YtfoamcobpfflbaaDoor
namespace Go.Proofs.YtfoamcobpfflbaaDoor
open Go Go.RowKit Go.Maps

section
variable {P : Program} {ops : Array Oper} {rest : List Oper} {a : Act} {Q : Exit → Act → World → Prop} {w : World} {t k e : TypeId} {κ α : Type} {C : MC P t k e κ α} {b n : Nat} {F : κ → Option α}

theorem MapG.entry [DecidableEq κ] (L : WideMaps.KeyLaw P k) (h : MapG C w b n F) (y : κ) (c : α) (hy : C.okK y) (hc : C.ok c) (hn : n < maxLen) :
    ∃ v0 st w1 w', (Instr.mapEntry t (.map (some b)) (C.mkK y)).run P w = .ok (.tuple #[v0, st]) w1 ∧ (Instr.entryStore t (.map (some b)) st (C.mkE c)).run P w1 = .ok () w' ∧ MapG C w' b (n + 1) (fun z => if z = y then some c else F z) ∧ w.grownBy w' (some b) := by
  obtain ⟨w', hrun, r1, r2⟩ := h.put y hy c hc hn
  obtain ⟨D, ⟨es, clock, hb, Ft, -⟩, -⟩ := h
  obtain ⟨v0, st, es1, clock1, q1, -, q3⟩ := Go.WideElems.entry_then_store L C.under C.zero hb Ft (C.key y hy)
  have hbl := (Array.getElem?_eq_some_iff.1 hb).1
  have hb1 : (Go.ChangeMaps.setBlock w b (.map es1 clock1)).heap[b]? = some (.map es1 clock1) := by
    simp [Go.ChangeMaps.setBlock, hbl]
  obtain ⟨es', clock', q4, q5⟩ := q3 _ (C.mkE c) hb1
  rw [hrun] at q5
  injection q5 with _ q5
  refine ⟨v0, goInt st, _, _, q1, q4, ?_, ?_⟩
  · have : Go.ChangeMaps.setBlock (Go.ChangeMaps.setBlock w b (.map es1 clock1)) b (.map es' clock') = w' := by
      rw [q5]; simp [Go.ChangeMaps.setBlock]
    rw [this]; exact r1
  · have : Go.ChangeMaps.setBlock (Go.ChangeMaps.setBlock w b (.map es1 clock1)) b (.map es' clock') = w' := by
      rw [q5]; simp [Go.ChangeMaps.setBlock]
    rw [this]; exact r2

/-- .. the three operations. -/
theorem wp_entryG [DecidableEq κ] (L : WideMaps.KeyLaw P k) {o1 o2 o3 : Oper} {d1 d2 : Tmp} (g1 : o1.guard = none) (g2 : o2.guard = none) (g3 : o3.guard = none) (e1 : o1.dst = some d1) (e2 : o2.dst = some d2) (m x m2 v : Operand)
    (h1 : o1.op = .mapEntry t m x) (h2 : o2.op = .extract (.tmp d1) 1) (h3 : o3.op = .entryStore t m2 (.tmp d2) v) (hm : a.eval m = .map (some b)) (y : κ) (c : α) (hx : a.eval x = C.mkK y)
    (hd : ∀ u, (a.put (some d1) u).eval (.tmp d1) = u) (hd2 : ∀ u s, ((a.put (some d1) u).put (some d2) s).eval (.tmp d2) = s) (hm2 : ∀ u s, ((a.put (some d1) u).put (some d2) s).eval m2 = .map (some b)) (hv : ∀ u s, ((a.put (some d1) u).put (some d2) s).eval v = C.mkE c)
    (h : MapG C w b n F) (hy : C.okK y) (hc : C.ok c) (hn : n < maxLen)
    (hK : ∀ w' u s, MapG C w' b (n + 1) (fun z => if z = y then some c else F z) → w.grownBy w' (some b) → wpList P ops Q rest (((a.put (some d1) u).put (some d2) s).put o3.dst undef) w') : wpList P ops Q (o1 :: o2 :: o3 :: rest) a w := by
  obtain ⟨v0, st, w1, w', q1, q2, r1, r2⟩ := h.entry L y c hy hc hn
  refine wpList_plain g1 fun K hK1 => ?_
  unfold Oper.wp
  simp only [execOp, h1, hm, hx, Sem.run_bind, q1, Result.andThen, Sem.run_pure, Oper.upon]
  refine hK1 _ _ ?_
  rw [e1]
  refine wpList_plain g2 fun K2 hK2 => ?_
  unfold Oper.wp
  simp only [execOp, h2, hd, Instr.extract]
  simp [Oper.upon]
  refine hK2 _ _ ?_
  rw [e2]
  refine wpList_plain g3 fun K3 hK3 => ?_
  unfold Oper.wp
  simp only [execOp, h3, hm2, hd2, hv, Sem.run_bind, q2, Result.andThen, Sem.run_pure, Oper.upon]
  exact hK3 _ _ (hK w' _ _ r1 r2)
end
end Go.Proofs.YtfoamcobpfflbaaDoor
namespace Go.Proofs.YtfoamcobpfflbaaDoor
open Go Go.RowKit Go.Maps
open VfsS (File Chg Nm St find doL)

set_option maxRecDepth 100000 in
set_option maxHeartbeats 1000000 in
theorem copied_c {w : World} {b : Nat} {v : Value} {f : File} (h : FileAt w b v f) (hn : f.text.size ≤ 100000000) :
    Calls Tryd.prog 84 #[.pointer (some ⟨b, 0, none⟩)] w fun e w' => ∃ b' v', e = .returned (.pointer (some ⟨b', 0, none⟩)) ∧ FileAt w' b' v' f ∧ w.heap.size ≤ b' ∧ (∀ k, v'.ownBlock = some k → w.heap.size ≤ k) ∧ Below w.heap.size w w' := by
  obtain ⟨h1, h2⟩ := h
  have hblt := (Array.getElem?_eq_some_iff.1 h1).1
  have k0 : w.cell? ⟨b, 0, none⟩ = some v := by rw [cell_of h1]; rfl
  have k1 : w.cell? ⟨b, 1, none⟩ = some (.int .i64 f.dur) := by rw [cell_of h1]; rfl
  obtain ⟨va, vc, hva, -, -, -⟩ := h2.form
  have HC := Lib.hid (fun q => clone_c (h2.drewN q) hn)
  clear h1 h2
  subst hva
  go_enter Tryd.func84, Tryd.ntmps84
  go_wp2_with fail
  go_region_held3 (fun w' => w'.cell? ⟨b, 0, none⟩ = some (.slice va f.text.size vc) ∧ w'.cell? ⟨b, 1, none⟩ = some (.int .i64 f.dur)) (first | exact ⟨cell_later hb' k0, cell_later hb' k1⟩ | exact ⟨k0, k1⟩ | go_keep)
    (first | (go_at_call 76; refine (HC.out 1).mono ?_; rintro e w' ⟨v', rfl, ho', hk', hb'⟩; obtain ⟨va', vc', rfl, -, -, -⟩ := ho'.form))
  go_wp2_with fail
  go_ret
  have hs := hb'.size
  refine ⟨_, _, rfl, ⟨(Go.MapKept.heap_alloc w' _).1, ho'.alloc _⟩, hs, hk', ?_⟩
  exact ((below_dN (Below.refl _ w) 1).trans hb').alloc hs _

namespace VfsS
/-- Names with their places. -/
def forkN (l : Nm) : Nm := l.zipIdx.map fun q => (q.1.1, q.2)
/-- Another file system with the same files, all durable. -/
def forkS (S : St) : St := ⟨S.now.map fun q => ⟨(fl S q.2).text, (fl S q.2).text.size⟩, forkN S.now, forkN S.now, [], S.room, 0, -1⟩

theorem mem_forkN {l : Nm} {s : ByteArray} {i : Nat} : (s, i) ∈ forkN l ↔ ∃ j, l[i]? = some (s, j) := by
  unfold forkN
  rw [List.mem_map]
  constructor
  · rintro ⟨⟨⟨t, j⟩, k⟩, h, e⟩
    simp only [Prod.mk.injEq] at e
    obtain ⟨rfl, rfl⟩ := e
    exact ⟨j, List.mem_zipIdx_iff_getElem?.1 h⟩
  · rintro ⟨j, h⟩
    exact ⟨((s, j), i), List.mem_zipIdx_iff_getElem?.2 h, rfl⟩

theorem forkN_fst (l : Nm) : (forkN l).map (·.1) = l.map (·.1) := by
  unfold forkN
  rw [List.map_map]
  have : ((fun q : ByteArray × Nat => q.1) ∘ fun q : (ByteArray × Nat) × Nat => (q.1.1, q.2)) = (fun q => q.1) ∘ Prod.fst := rfl
  rw [this, ← List.map_map, List.zipIdx_map_fst]

theorem fl_fork {S : St} {i : Nat} {q : ByteArray × Nat} (h : S.now[i]? = some q) : fl (forkS S) i = ⟨(fl S q.2).text, (fl S q.2).text.size⟩ := by
  have : (forkS S).files[i]? = some ⟨(fl S q.2).text, (fl S q.2).text.size⟩ := by
    show (S.now.map _)[i]? = _
    rw [List.getElem?_map, h]; rfl
  show (forkS S).files.getD i default = _
  rw [List.getD_eq_getElem?_getD, this]; rfl

theorem live_fork {S : St} {i : Nat} (h : Live (forkS S) i) : ∃ q, S.now[i]? = some q := by
  rcases h with ⟨s, h⟩ | ⟨s, h⟩ | ⟨a, h, _⟩
  · obtain ⟨j, h⟩ := mem_forkN.1 h; exact ⟨_, h⟩
  · obtain ⟨j, h⟩ := mem_forkN.1 h; exact ⟨_, h⟩
  · cases h

theorem Wf.fork {S : St} (h : Wf S) : Wf (forkS S) where
  idx i hi := by
    obtain ⟨q, hq⟩ := live_fork hi
    show i < (S.now.map _).length
    rw [List.length_map]
    exact (List.getElem?_eq_some_iff.1 hq).1
  dn := by show ((forkN S.now).map (·.1)).Nodup; rw [forkN_fst]; exact h.dn
  ds := by show ((forkN S.now).map (·.1)).Nodup; rw [forkN_fst]; exact h.dn
  zn p hp := by
    obtain ⟨j, hj⟩ := mem_forkN.1 (show (p.1, p.2) ∈ _ from hp)
    exact h.zn (p.1, j) (List.mem_of_getElem? hj)
  zs p hp := by
    obtain ⟨j, hj⟩ := mem_forkN.1 (show (p.1, p.2) ∈ _ from hp)
    exact h.zn (p.1, j) (List.mem_of_getElem? hj)
  za a ha := by cases ha
  dur f hf := by
    obtain ⟨q, hq, rfl⟩ := List.mem_map.1 hf
    refine ⟨Nat.le_refl _, ?_⟩
    have hi := h.idx q.2 (.inl ⟨q.1, hq⟩)
    unfold fl
    rw [List.getD_eq_getElem?_getD, List.getElem?_eq_getElem hi]
    exact (h.dur _ (List.getElem_mem hi)).2
  room := h.room
  lim := by show (-9223372036854775808 : Int) ≤ -1 ∧ (-1 : Int) ≤ 9223372036854775807; decide
end VfsS

theorem nmF_fork {S : St} (h : (S.now.map (·.1)).Nodup) (B : ByteArray → Nat) (s : ByteArray) : nmF (fun i => B (S.now.getD i default).1) (VfsS.forkN S.now) s = (find S.now s).map fun _ => some (B s) := by
  unfold nmF
  cases hf : find S.now s with
  | none =>
    have : find (VfsS.forkN S.now) s = none := VfsS.find_none.2 fun p hp e => by
      obtain ⟨j, hj⟩ := VfsS.mem_forkN.1 (show (p.1, p.2) ∈ _ from hp)
      exact VfsS.find_none.1 hf _ (List.mem_of_getElem? hj) e
    rw [this]; rfl
  | some j =>
    obtain ⟨k, hk⟩ := List.getElem?_of_mem (VfsS.find_mem hf)
    have hm : (s, k) ∈ VfsS.forkN S.now := VfsS.mem_forkN.2 ⟨j, hk⟩
    have := VfsS.find_of_mem (by rw [VfsS.forkN_fst]; exact h) hm
    simp only at this
    rw [this]
    simp only [Option.map_some, List.getD_eq_getElem?_getD, hk, Option.getD_some]

theorem fork_fun {l : Nm} {L : List ByteArray} {x : ByteArray} {i b' : Nat} {B : ByteArray → Nat} (hi : find l x = some i) (z : ByteArray) :
    (if z = x then some (some b') else if inL L z then none else (find l z).map fun _ => some (B z)) = (if inL (lessOne L x) z then none else (find l z).map fun _ => some (if z = x then b' else B z)) := by
  by_cases e : z = x
  · subst e
    rw [if_pos rfl, if_neg (fun h => (mem_lessOne.1 (inL_iff.1 h)).2 rfl), hi, if_pos rfl]; rfl
  · rw [if_neg e]
    by_cases h : z ∈ L
    · rw [if_pos (inL_iff.2 h), if_pos (inL_iff.2 (mem_lessOne.2 ⟨h, e⟩))]
    · rw [if_neg (fun h2 => h (inL_iff.1 h2)), if_neg (fun h2 => h (mem_lessOne.1 (inL_iff.1 h2)).1), if_neg e]

theorem fork_idx {l : Nm} (h : (l.map (·.1)).Nodup) {i j : Nat} {q q' : ByteArray × Nat} (hi : l[i]? = some q) (hj : l[j]? = some q') (e : q.1 = q'.1) : i = j := by
  have hi' : (l.map (·.1))[i]? = some q.1 := by rw [List.getElem?_map, hi]; rfl
  have hj' : (l.map (·.1))[j]? = some q.1 := by rw [List.getElem?_map, hj, e]; rfl
  exact (List.getElem?_inj (List.getElem?_eq_some_iff.1 hi').1 h).1 (hi'.trans hj'.symm)

/-- The files copied so far. -/
structure FFs (w wr : World) (S : St) (L : List ByteArray) (B : ByteArray → Nat) (V : ByteArray → Value) : Prop where
  file : ∀ s i, (s, i) ∈ S.now → s ∉ L → FileAt wr (B s) (V s) ⟨(VfsS.fl S i).text, (VfsS.fl S i).text.size⟩
  lo : ∀ s i, (s, i) ∈ S.now → s ∉ L → w.heap.size ≤ B s ∧ ∀ k, (V s).ownBlock = some k → w.heap.size ≤ k
  inj : ∀ s i t j, (s, i) ∈ S.now → s ∉ L → (t, j) ∈ S.now → t ∉ L → B s = B t → s = t
  apart : ∀ s i t j k, (s, i) ∈ S.now → s ∉ L → (t, j) ∈ S.now → t ∉ L → s ≠ t → (V s).ownBlock = some k → (V t).ownBlock ≠ some k

/-- A fork under way: L's names are left. -/
structure FInv (w wr : World) (bn r n m1 m2 bo : Nat) (S : St) (φ : Nat → Nat) (L : List ByteArray) : Prop where
  rng : RanG NC wr bn r n (nmF φ S.now) L
  low : Below w.heap.size w wr
  lr : w.heap.size ≤ r
  l1 : w.heap.size ≤ m1
  l2 : w.heap.size ≤ m2
  n12 : m1 ≠ m2
  ob : wr.heap[bo]? = some (.cells #[.map (some m1), .map (some m2), .slice none 0 0, .int .i64 S.room, .int .i64 0, .int .i64 (-1)] 112 (0, 0))
  fs : ∃ B V, FFs w wr S L B V ∧ ∃ nn, nn + wr.rangeLeft bn r ≤ n ∧ MapG NC wr m1 nn (fun s => if inL L s then none else (find S.now s).map fun _ => some (B s)) ∧ MapG NC wr m2 nn (fun s => if inL L s then none else (find S.now s).map fun _ => some (B s))

theorem FInv.step {w wr w5 w6 w7 w8 w9 : World} {bn r n m1 m2 bo nn : Nat} {S : St} {φ : Nat → Nat} {L : List ByteArray} {B : ByteArray → Nat} {V : ByteArray → Value} {x : ByteArray} {i b' : Nat} {v' : Value} {f : File}
    (h : FInv w wr bn r n m1 m2 bo S φ L) (hnd : (S.now.map (·.1)).Nodup) (hbn : bn < w.heap.size) (hf : FFs w wr S L B V) (hx : x ∈ L) (hi : find S.now x = some i)
    (hr5 : RanG NC w5 bn r n (nmF φ S.now) (lessOne L x)) (hlt : w5.rangeLeft bn r < wr.rangeLeft bn r) (hg5 : wr.grownBy w5 (some r))
    (hf6 : FileAt w6 b' v' f) (hb' : w5.heap.size ≤ b') (hv' : ∀ k, v'.ownBlock = some k → w5.heap.size ≤ k) (hb6 : Below w5.heap.size w5 w6) (htx : f.text = (VfsS.fl S i).text)
    (hg7 : w6.grownBy w7 (some b')) (h7 : w7.heap[b']? = some (.cells #[v', .int .i64 f.text.size] 130 (0, 0)))
    (hnn : nn + wr.rangeLeft bn r ≤ n)
    (h8 : MapG NC w8 m1 (nn + 1) (fun z => if z = x then some (some b') else if inL L z then none else (find S.now z).map fun _ => some (B z))) (hg8 : w7.grownBy w8 (some m1))
    (h9 : MapG NC w9 m2 (nn + 1) (fun z => if z = x then some (some b') else if inL L z then none else (find S.now z).map fun _ => some (B z))) (hg9 : w8.grownBy w9 (some m2)) :
    FInv w w9 bn r n m1 m2 bo S φ (lessOne L x) ∧ w9.rangeLeft bn r < wr.rangeLeft bn r := by
  obtain ⟨rng, low, lr, l1, l2, n12, ob, B0, V0, -, nn0, -, q1, q2⟩ := h
  have s5 := hg5.size
  have s6 := hb6.size
  have s7 := hg7.size
  have s8 := hg8.size
  have hr := rng.lt
  obtain ⟨i1, i2, i3, i4, bit⟩ := rng.iter
  obtain ⟨es8, cl8, b8⟩ := q1.isMap
  obtain ⟨es9, cl9, b9⟩ := q2.isMap
  have t1 := q1.lt
  have t2 := q2.lt
  have hlo := low.size
  have far5 : ∀ k, k < w5.heap.size → k ≠ m1 → k ≠ m2 → w9.heap[k]? = w5.heap[k]? := fun k hk h2 h3 => by
    rw [hg9.block k (by omega) (fun e => h3 (by injection e)), hg8.block k (by omega) (fun e => h2 (by injection e)), hg7.block k (by omega) (fun e => by injection e; omega), hb6.block k (by omega)]
  have far : ∀ k, k < wr.heap.size → k ≠ r → k ≠ m1 → k ≠ m2 → w9.heap[k]? = wr.heap[k]? := fun k hk h1 h2 h3 => by
    rw [far5 k (by omega) h2 h3]
    exact hg5.block k hk (fun e => h1 (by injection e))
  have farC : ∀ (k : Nat) (cs : Array Value) (e : TypeId), wr.heap[k]? = some (Obj.cells cs e (0, 0)) → w9.heap[k]? = some (Obj.cells cs e (0, 0)) := fun k cs e hk => by
    rw [far k (Array.getElem?_eq_some_iff.1 hk).1 (fun e2 => by rw [e2, bit] at hk; cases hk) (fun e2 => by rw [e2, b8] at hk; cases hk) (fun e2 => by rw [e2, b9] at hk; cases hk)]
    exact hk
  have hbs9 : w9.heap[bn]? = w5.heap[bn]? := far5 bn (by omega) (by omega) (by omega)
  have hr9 : w9.heap[r]? = w5.heap[r]? := far5 r (by omega) (fun e => by rw [e, b8] at bit; cases bit) (fun e => by rw [e, b9] at bit; cases bit)
  have hleft : w9.rangeLeft bn r = w5.rangeLeft bn r := rangeLeft_block hbs9 hr9
  have uniq : ∀ j, (x, j) ∈ S.now → j = i := fun j hj => by
    have := VfsS.find_of_mem hnd hj
    rw [hi] at this; injection this with this; exact this.symm
  have hnew : FileAt w9 b' v' ⟨f.text, f.text.size⟩ := by
    refine ⟨?_, hf6.2.block fun k hk => ?_⟩
    · have hbl := (Array.getElem?_eq_some_iff.1 h7).1
      rw [hg9.block b' (by omega) (fun e => by injection e; omega), hg8.block b' (by omega) (fun e => by injection e; omega)]
      exact h7
    · have hkl := hf6.2.lt hk
      have := hv' k hk
      rw [hg9.block k (by omega) (fun e => by injection e; omega), hg8.block k (by omega) (fun e => by injection e; omega)]
      refine hg7.block k hkl (fun e => ?_)
      injection e with e
      subst e
      obtain ⟨cur, hc⟩ := hf6.2.tag hk
      rw [hf6.1] at hc; injection hc with hc; injection hc with _ hc _; exact absurd hc (by decide)
  have old : ∀ s j, (s, j) ∈ S.now → s ∉ lessOne L x → s ≠ x → s ∉ L := fun s j _ h2 h3 h4 => h2 (mem_lessOne.2 ⟨h4, h3⟩)
  have ltB : ∀ s j, (s, j) ∈ S.now → s ∉ L → B s < wr.heap.size := fun s j h1 h2 => (Array.getElem?_eq_some_iff.1 (hf.file s j h1 h2).1).1
  have ltV : ∀ s j k, (s, j) ∈ S.now → s ∉ L → (V s).ownBlock = some k → k < wr.heap.size := fun s j k h1 h2 h3 => (hf.file s j h1 h2).2.lt h3
  refine ⟨⟨hr5.block hbs9 hr9, ⟨?_, ?_, ?_, by have := hg9.size; omega, fun k hk => ?_⟩, lr, l1, l2, n12, farC _ _ _ ob, fun s => if s = x then b' else B s, fun s => if s = x then v' else V s, ⟨fun s j h1 h2 => ?_, fun s j h1 h2 => ?_, fun s j t j2 h1 h2 h3 h4 e => ?_, fun s j t j2 k h1 h2 h3 h4 hne e => ?_⟩, nn + 1, by rw [hleft]; omega, ?_, h9.congr fun z => ?_⟩, by rw [hleft]; exact hlt⟩
  · exact hg9.os.trans (hg8.os.trans (hg7.os.trans (hb6.os.trans (hg5.os.trans low.os))))
  · exact hg9.tape.trans (hg8.tape.trans (hg7.tape.trans (hb6.tape.trans (hg5.tape.trans low.tape))))
  · exact hg9.output.trans (hg8.output.trans (hg7.output.trans (hb6.output.trans (hg5.output.trans low.output))))
  · rw [far k (by omega) (by omega) (by omega) (by omega)]
    exact low.block k hk
  · by_cases e : s = x
    · subst e
      simp only [if_pos]
      rw [uniq j h1, ← htx]
      exact hnew
    · simp only [if_neg e]
      obtain ⟨f1, f2⟩ := hf.file s j h1 (old s j h1 h2 e)
      exact ⟨farC _ _ _ f1, f2.block fun k hk => by obtain ⟨cur, hc⟩ := f2.tag hk; rw [farC _ _ _ hc, hc]⟩
  · by_cases e : s = x
    · simp only [if_pos e]; exact ⟨by omega, fun k hk => by have := hv' k hk; omega⟩
    · simp only [if_neg e]; exact hf.lo s j h1 (old s j h1 h2 e)
  · by_cases e1 : s = x
    · by_cases e2 : t = x
      · rw [e1, e2]
      · simp only [if_pos e1, if_neg e2] at e
        have := ltB t j2 h3 (old t j2 h3 h4 e2); omega
    · by_cases e2 : t = x
      · simp only [if_neg e1, if_pos e2] at e
        have := ltB s j h1 (old s j h1 h2 e1); omega
      · simp only [if_neg e1, if_neg e2] at e
        exact hf.inj s j t j2 h1 (old s j h1 h2 e1) h3 (old t j2 h3 h4 e2) e
  · by_cases e1 : s = x
    · by_cases e2 : t = x
      · exact absurd (e1.trans e2.symm) hne
      · simp only [if_pos e1, if_neg e2] at e ⊢
        intro e3
        have := ltV t j2 k h3 (old t j2 h3 h4 e2) e3
        have := hv' k e; omega
    · by_cases e2 : t = x
      · simp only [if_neg e1, if_pos e2] at e ⊢
        intro e3
        have := ltV s j k h1 (old s j h1 h2 e1) e
        have := hv' k e3; omega
      · simp only [if_neg e1, if_neg e2] at e ⊢
        exact hf.apart s j t j2 k h1 (old s j h1 h2 e1) h3 (old t j2 h3 h4 e2) hne e
  · have h89 : w9.heap[m1]? = w8.heap[m1]? := hg9.block m1 (by omega) (fun e => n12 (by injection e))
    refine (h8.block h89).congr fun z => ?_
    exact fork_fun hi z
  · exact fork_fun hi z

set_option maxRecDepth 100000 in
set_option maxHeartbeats 2000000 in
theorem fork_c {w : World} {p : Nat} {S : St} {K : Nat → Prop} {N : Nat} (h : VRep w p S K N) :
    Calls Tryd.prog 55 #[.pointer (some ⟨p, 0, none⟩)] w fun e w' => ∃ p', e = .returned (.pointer (some ⟨p', 0, none⟩)) ∧ VRep w' p' (VfsS.forkS S) (fun k => w.heap.size ≤ k ∧ k < w'.heap.size) N ∧ Below w.heap.size w w' := by
  obtain ⟨bn, bs, av, φ, ψ, hB, hp, -, -⟩ := h
  obtain ⟨n, hn, m1⟩ := hB.now
  have hbig := hB.big
  have hbn := m1.lt
  have hplt := (Array.getElem?_eq_some_iff.1 hp).1
  have hmm := fun (t : TypeId) (w : World) => run_makeMap (P := Tryd.prog) t w
  have hnd := hB.wf.dn
  have hr := fun z => nmF_mem φ S.now z
  have ga := World.grownBy_alloc w (.map #[] 0) none
  have gb := World.grownBy_alloc (w.alloc (.map #[] 0)) (.map #[] 0) none
  have sa : (w.alloc (.map #[] 0)).heap.size = w.heap.size + 1 := by simp
  have sb : ((w.alloc (.map #[] 0)).alloc (.map #[] 0)).heap.size = w.heap.size + 1 + 1 := by simp
  have MA := ((MapG.made NC w).alloc (.map #[] 0))
  have MB := MapG.made NC (w.alloc (.map #[] 0))
  rw [sa] at MB
  have pb := (gb.block p (by omega) (by simp)).trans ((ga.block p hplt (by simp)).trans hp)
  have k3 : ((w.alloc (.map #[] 0)).alloc (.map #[] 0)).cell? ⟨p, 3, none⟩ = some (.int .i64 S.room) := by rw [cell_of pb]; rfl
  have lowb : Below w.heap.size w ((w.alloc (.map #[] 0)).alloc (.map #[] 0)) := ((Below.refl _ w).alloc (Nat.le_refl _) _).alloc (by omega) _
  obtain ⟨W2, hW2⟩ : ∃ W2, W2 = ((w.alloc (.map #[] 0)).alloc (.map #[] 0)) := ⟨_, rfl⟩
  rw [← hW2] at sb MA MB pb k3 lowb
  have gc := World.grownBy_alloc W2 (.cells #[.map (some w.heap.size), .map (some (w.heap.size + 1)), .slice none 0 0, .int .i64 S.room, .int .i64 0, .int .i64 (-1)] 112) none
  have pc := (gc.block p (by omega) (by simp)).trans pb
  have k0 : (W2.alloc (.cells #[.map (some w.heap.size), .map (some (w.heap.size + 1)), .slice none 0 0, .int .i64 S.room, .int .i64 0, .int .i64 (-1)] 112)).cell? ⟨p, 0, none⟩ = some (.map (some bn)) := by rw [cell_of pc]; rfl
  have MA3 := MA.alloc (.cells #[.map (some w.heap.size), .map (some (w.heap.size + 1)), .slice none 0 0, .int .i64 S.room, .int .i64 0, .int .i64 (-1)] 112)
  have MB3 := MB.alloc (.cells #[.map (some w.heap.size), .map (some (w.heap.size + 1)), .slice none 0 0, .int .i64 S.room, .int .i64 0, .int .i64 (-1)] 112)
  have MS3 := (m1.below lowb).alloc (.cells #[.map (some w.heap.size), .map (some (w.heap.size + 1)), .slice none 0 0, .int .i64 S.room, .int .i64 0, .int .i64 (-1)] 112)
  have ob3 := (Go.MapKept.heap_alloc W2 (.cells #[.map (some w.heap.size), .map (some (w.heap.size + 1)), .slice none 0 0, .int .i64 S.room, .int .i64 0, .int .i64 (-1)] 112)).1
  rw [sb] at ob3
  have low3 := lowb.alloc (by omega) (.cells #[.map (some w.heap.size), .map (some (w.heap.size + 1)), .slice none 0 0, .int .i64 S.room, .int .i64 0, .int .i64 (-1)] 112)
  have s3 : (W2.alloc (.cells #[.map (some w.heap.size), .map (some (w.heap.size + 1)), .slice none 0 0, .int .i64 S.room, .int .i64 0, .int .i64 (-1)] 112)).heap.size = w.heap.size + 1 + 1 + 1 := by simp [sb]
  have HK := Lib.hid hB
  have HOB := Lib.hid ob3
  have HLOW := Lib.hid low3
  have HMA := Lib.hid MA3
  have HMB := Lib.hid MB3
  clear hp hB ga gb gc MA MB m1 ob3 low3 MA3 MB3 pc lowb
  rw [hW2] at k3 k0 MS3
  go_enter Tryd.func55, Tryd.ntmps55
  go_wp2_with (at_range; refine wp_rangeG (C := NC) rfl _ rfl rfl MS3 (S.now.map (·.1)) hr hnd ?_)
  rw [← hW2]
  intro w4 hrg hg4 hsz4 hcnt
  try rw [s3] at hrg
  try rw [s3] at hsz4
  try rw [s3] at hcnt
  have HI0 : Hid (FInv w w4 bn (w.heap.size + 1 + 1 + 1) n w.heap.size (w.heap.size + 1) (w.heap.size + 1 + 1) S φ (S.now.map (·.1))) := by
    have nof : ∀ s i, (s, i) ∈ S.now → s ∉ S.now.map (·.1) → False := fun s i h1 h2 => h2 (List.mem_map.2 ⟨_, h1, rfl⟩)
    have fn : ∀ s, (none : Option (Option Nat)) = if inL (S.now.map (·.1)) s then none else (find S.now s).map fun _ => some ((fun _ => 0 : ByteArray → Nat) s) := fun s => by
      by_cases h : inL (S.now.map (·.1)) s = true
      · rw [if_pos h]
      · rw [if_neg h]
        cases hz : find S.now s with
        | none => rfl
        | some _ => exact absurd (inL_iff.2 (VfsS.find_some_iff.1 (by rw [hz]; rfl))) h
    refine ⟨hrg, HLOW.out.grown hg4 HLOW.out.size (by intro k hk; cases hk), by omega, Nat.le_refl _, by omega, by omega, ?_, fun _ => 0, fun _ => undef, ⟨fun s i h1 h2 => (nof s i h1 h2).elim, fun s i h1 h2 => (nof s i h1 h2).elim, fun s i _ _ h1 h2 => (nof s i h1 h2).elim, fun s i _ _ _ h1 h2 => (nof s i h1 h2).elim⟩, 0, by omega, ?_, ?_⟩
    · exact (hg4.block _ (by rw [s3]; omega) (by simp)).trans HOB.out
    · exact (HMA.out.kept hg4 (by simp)).congr fn
    · exact (HMB.out.kept hg4 (by simp)).congr fn
  have HS : Hid (w4.heap.size = w.heap.size + 1 + 1 + 1 + 1) := hsz4
  have HND := Lib.hid hnd
  have HW := Lib.hid hW2
  clear hrg hg4 hsz4 hcnt k0 k3 MS3 HMA HMB hmm hr hnd HOB HLOW s3 sb sa pb hW2
  go_wp2_with fail
  go_loopw [6] (fun _ wr => ∃ L, Hid (FInv w wr bn (w.heap.size + 1 + 1 + 1) n w.heap.size (w.heap.size + 1) (w.heap.size + 1 + 1) S φ L)) (fun _ wr => wr.rangeLeft bn (w.heap.size + 1 + 1 + 1))
  case atStart => exact ⟨_, HI0⟩
  case round =>
    clear HI0
    obtain ⟨L, HI⟩ := hrel
    have hrn := HI.out.rng
    go_wp2_with (at_next; refine wp_nextG (C := NC) rfl _ rfl rfl hrn ?_ ?_)
    · intro hl
      subst hl
      go_wp2_with fail
      go_ret
      obtain ⟨B, V, hff, nn, hnn, q1, q2⟩ := HI.out.fs
      have nl : ∀ s : ByteArray, s ∉ ([] : List ByteArray) := fun s => List.not_mem_nil
      have hwf := HK.out.wf
      have hg : ∀ (i : Nat) (q : ByteArray × Nat), S.now[i]? = some q → (S.now.getD i default).1 = q.1 := fun i q h => by rw [List.getD_eq_getElem?_getD, h]; rfl
      have hgm : ∀ (i : Nat) (q : ByteArray × Nat), S.now[i]? = some q → (q.1, q.2) ∈ S.now := fun i q h => List.mem_of_getElem? h
      refine ⟨_, rfl, ⟨w.heap.size, w.heap.size + 1, .slice none 0 0, fun i => B (S.now.getD i default).1, fun i => V (S.now.getD i default).1, ⟨⟨nn, by omega, q1.congr fun s => ?_⟩, ⟨nn, by show nn + 0 ≤ N; omega, q2.congr fun s => ?_⟩, OwnG.nil _ _ _, fun i hi => ?_, by omega, fun i j hi hj e => ?_, fun i j k hi hj hij hk => ?_, ⟨by omega, q1.lt⟩, ⟨by omega, q2.lt⟩, (fun k hk => by cases hk), fun i hi => ?_, fun i k hi hk => ?_, hwf.fork, ?_, hbig⟩, HI.out.ob, ⟨by omega, (Array.getElem?_eq_some_iff.1 HI.out.ob).1⟩, Nat.zero_le _⟩, HI.out.low⟩
      · exact (nmF_fork HND.out B s).symm
      · exact (nmF_fork HND.out B s).symm
      · obtain ⟨q, hq⟩ := VfsS.live_fork hi
        rw [VfsS.fl_fork hq]
        simp only [hg i q hq]
        exact hff.file q.1 q.2 (hgm i q hq) (nl _)
      · obtain ⟨q, hq⟩ := VfsS.live_fork hi
        obtain ⟨q', hq'⟩ := VfsS.live_fork hj
        simp only [hg i q hq, hg j q' hq'] at e
        have := hff.inj q.1 q.2 q'.1 q'.2 (hgm i q hq) (nl _) (hgm j q' hq') (nl _) e
        exact fork_idx HND.out hq hq' this
      · obtain ⟨q, hq⟩ := VfsS.live_fork hi
        obtain ⟨q', hq'⟩ := VfsS.live_fork hj
        simp only [hg i q hq, hg j q' hq'] at hk ⊢
        exact hff.apart q.1 q.2 q'.1 q'.2 k (hgm i q hq) (nl _) (hgm j q' hq') (nl _) (fun e => hij (fork_idx HND.out hq hq' e)) hk
      · obtain ⟨q, hq⟩ := VfsS.live_fork hi
        simp only [hg i q hq]
        exact ⟨(hff.lo q.1 q.2 (hgm i q hq) (nl _)).1, (Array.getElem?_eq_some_iff.1 (hff.file q.1 q.2 (hgm i q hq) (nl _)).1).1⟩
      · obtain ⟨q, hq⟩ := VfsS.live_fork hi
        simp only [hg i q hq] at hk
        exact ⟨(hff.lo q.1 q.2 (hgm i q hq) (nl _)).2 k hk, (hff.file q.1 q.2 (hgm i q hq) (nl _)).2.lt hk⟩
      · show (S.now.map _).length ≤ N
        rw [List.length_map]
        exact HK.out.names_le
    · intro x c w5 hx hF hxk _ hr5 hlt hg5 hsz5 hen
      obtain ⟨i, hi, rfl⟩ : ∃ i, find S.now x = some i ∧ c = some (φ i) := by
        unfold nmF at hF
        rw [Option.map_eq_some_iff] at hF
        obtain ⟨i, h1, h2⟩ := hF
        exact ⟨i, h1, h2.symm⟩
      have hli : VfsS.Live S i := .inl ⟨x, VfsS.find_mem hi⟩
      have hen2 : (Instr.entry (.pointer (some ⟨w.heap.size + 1 + 1 + 1, 0, none⟩))).run Tryd.prog w5 = .ok (.tuple #[.string x, .pointer (some ⟨φ i, 0, none⟩)]) w5 := hen
      have hfa := HK.out.file i hli
      have low5 := HI.out.low.grown hg5 HI.out.low.size (by intro k hk; injection hk with hk; omega)
      have hfa5 : FileAt w5 (φ i) (ψ i) (VfsS.fl S i) := ⟨(low5.block _ (Array.getElem?_eq_some_iff.1 hfa.1).1).trans hfa.1, hfa.2.below low5⟩
      obtain ⟨-, hfz⟩ := file_ok HK.out.wf hli
      have HC := Lib.hid (copied_c hfa5 (by omega))
      have LOW5 := Lib.hid low5
      have HF2 := Lib.hid hfz
      have HI2 := Lib.hid hi
      have HRN := Lib.hid hrn
      have HR5 := Lib.hid hr5
      have HG5 := Lib.hid hg5
      have HLT := Lib.hid hlt
      obtain ⟨f, hf⟩ : ∃ f, f = VfsS.fl S i := ⟨_, rfl⟩
      rw [← hf] at HC hfz
      have HFL := Lib.hid hf
      clear hfa hfa5 low5 hi hrn hr5 hg5 hlt hen hF hf
      go_wp2_with (go_at_call 84; refine HC.out.mono ?_; rintro e w6 ⟨b', v', rfl, hf6, hb', hv', hb6⟩; obtain ⟨va, vc, rfl, -, -, -⟩ := hf6.2.form; have k0 : w6.cell? ⟨b', 0, none⟩ = some (.slice va f.text.size vc) := (by rw [cell_of hf6.1]; rfl); have k1 : w6.cell? ⟨b', 1, none⟩ = some (.int .i64 f.dur) := (by rw [cell_of hf6.1]; rfl); have f1 := frozen_of hf6.1 1)
      obtain ⟨s7, g7⟩ := set_block hf6.1 1 (.int .i64 f.text.size)
      have f7 : (w6.setCell ⟨b', 1, none⟩ (.int .i64 f.text.size)).heap[b']? = some (.cells #[.slice va f.text.size vc, .int .i64 f.text.size] 130 (0, 0)) := by simpa using s7
      obtain ⟨B, V, hff, nn, hnn, q1, q2⟩ := HI.out.fs
      have t1 := q1.lt
      have t2 := q2.lt
      have hob := HI.out.ob
      have tob := (Array.getElem?_eq_some_iff.1 hob).1
      have q15 := ((q1.kept HG5.out (fun e => by injection e with e; omega)).below hb6).kept g7 (fun e => by injection e; omega)
      have q25 := ((q2.kept HG5.out (fun e => by injection e with e; omega)).below hb6).kept g7 (fun e => by injection e; omega)
      have s65 := hb6.size
      have ob7 : (w6.setCell ⟨b', 1, none⟩ (.int .i64 f.text.size)).heap[w.heap.size + 1 + 1]? = _ := (g7.block _ (by omega) (fun e => by injection e; omega)).trans ((hb6.block _ (by omega)).trans ((HG5.out.block _ tob (fun e => by injection e; omega)).trans hob))
      have hnn8 : nn < maxLen := by simp only [maxLen]; omega
      have HNN := Lib.hid hnn
      have HF7 := Lib.hid f7
      have HG7 := Lib.hid g7
      have HFF := Lib.hid hff
      have HF6 := Lib.hid hf6
      have HV' := Lib.hid hv'
      clear hnn f7 g7 s7 q1 q2 hob hff hf6 hv' k0 k1 f1 hen2 t1 t2
      generalize w6.setCell ⟨b', 1, none⟩ (.int .i64 f.text.size) = W7 at *
      have c0 : W7.cell? ⟨w.heap.size + 1 + 1, 0, none⟩ = some (.map (some w.heap.size)) := by rw [cell_of ob7]; rfl
      have c1 : W7.cell? ⟨w.heap.size + 1 + 1, 1, none⟩ = some (.map (some (w.heap.size + 1))) := by rw [cell_of ob7]; rfl
      refine wp_region_dn [.take 9, .take 10, .take 11, .blk [0, 1, 2, 3, 4, 5, 6, 7, 8], .frc [12, 13, 14, 15, 16, 17]] (by kernel_rfl) (by kernel_rfl) (fun _ _ _ _ _ h => h) ?_
      refine goS_take (v := .string x) rfl rfl (fun _ => rfl) ?_
      refine goS_take (v := .pointer (some ⟨b', 0, none⟩)) rfl rfl (fun _ => rfl) ?_
      refine goS_take (v := .pointer (some ⟨b', 0, none⟩)) rfl rfl (fun _ => rfl) ?_
      refine goS_dn ?_
      simp only [opsAt, List.filterMap_cons, List.filterMap_nil, List.getElem?_toArray, List.getElem?_cons_zero, List.getElem?_cons_succ]
      iterate 9 quiet_step (fail)
      refine wpQuiet_nil ?_
      rintro _ ⟨nq, rfl⟩
      refine goS_last ?_
      simp only [opsAt, List.filterMap_cons, List.filterMap_nil, List.getElem?_toArray, List.getElem?_cons_zero, List.getElem?_cons_succ]
      refine wp_entryG (C := NC) (WideMaps.string_law Tryd.underlying9) rfl rfl rfl rfl rfl _ _ _ _ rfl rfl rfl rfl x (some b') rfl (fun _ => rfl) (fun _ _ => rfl) (fun _ _ => rfl) (fun _ _ => rfl) ((q15.drewN 1).drewN nq) hxk trivial hnn8 ?_
      intro w8 u1 u2 h8 hg8
      refine wp_entryG (C := NC) (WideMaps.string_law Tryd.underlying9) rfl rfl rfl rfl rfl _ _ _ _ rfl rfl rfl rfl x (some b') rfl (fun _ => rfl) (fun _ _ => rfl) (fun _ _ => rfl) (fun _ _ => rfl) (((q25.drewN 1).drewN nq).kept hg8 (fun e => by injection e; omega)) hxk trivial hnn8 ?_
      intro w9 u3 u4 h9 hg9
      obtain ⟨r1, r2⟩ := HI.out.step (w7 := (W7.drewN 1).drewN nq) HND.out hbn HFF.out hx HI2.out HR5.out HLT.out HG5.out HF6.out hb' HV'.out hb6 (by rw [HFL.out]) ⟨HG7.out.os, HG7.out.tape, HG7.out.output, HG7.out.size, HG7.out.block⟩ HF7.out HNN.out h8 hg8 h9 hg9
      have R1 := Lib.hid r1
      clear r1
      simp only [Act.put, List.setIfInBounds_toArray, List.set_cons_zero, List.set_cons_succ]
      go_wp2_with fail
      go_roundw
      case rel => exact ⟨_, R1⟩
      case measure => exact r2
end Go.Proofs.YtfoamcobpfflbaaDoor
namespace Go.Proofs.YtfoamcobpfflbaaDoor
open VfsS (St)
namespace VfsT

def old1 (x : ByteArray) (n : Int) : St := ⟨[⟨x, x.size⟩], [(f, 0)], [(f, 0)], [], 1000, 4, n⟩
theorem bz : ByteArray.empty.size = 0 := rfl

theorem be_append (x : ByteArray) : ByteArray.empty ++ x = x := by
  apply ByteArray.ext; rw [ByteArray.data_append]; simp [ByteArray.empty, ByteArray.emptyWithCapacity]; rfl

theorem f1 : VfsS.createS (VfsS.newS (1000 : Int).toNat) f = (⟨[⟨ByteArray.empty, 0⟩], [(f, 0)], [], [⟨ByteArray.empty, f, some 0⟩], 1000, 1, -1⟩, 0) := by
  rw [VfsS.createS, check_f, if_neg (by decide)]; rfl
theorem f2 (x : ByteArray) (h : x.size ≤ 1000) : VfsS.appendS ⟨[⟨ByteArray.empty, 0⟩], [(f, 0)], [], [⟨ByteArray.empty, f, some 0⟩], 1000, 1, -1⟩ f x = (⟨[⟨x, 0⟩], [(f, 0)], [], [⟨ByteArray.empty, f, some 0⟩], 1000, 2, -1⟩, 0) := by
  show (if ((1000 : Nat) : Int) - ((0 + 0 : Nat) : Int) < (x.size : Int) then _ else _) = _
  rw [if_neg (by omega)]
  show ((⟨[⟨ByteArray.empty ++ x, 0⟩], _, _, _, _, _, _⟩ : St), (0 : Int)) = _
  rw [be_append]; rfl
theorem f3 (x : ByteArray) : VfsS.syncS ⟨[⟨x, 0⟩], [(f, 0)], [], [⟨ByteArray.empty, f, some 0⟩], 1000, 2, -1⟩ f = (⟨[⟨x, x.size⟩], [(f, 0)], [], [⟨ByteArray.empty, f, some 0⟩], 1000, 3, -1⟩, 0) := rfl
theorem f4 (x : ByteArray) : VfsS.flushAllS ⟨[⟨x, x.size⟩], [(f, 0)], [], [⟨ByteArray.empty, f, some 0⟩], 1000, 3, -1⟩ = (old1 x (-1), 0) := rfl

/-- A limit that is one less. -/
def lim (n : Int) : Int := if 0 < n then n - 1 else n

def g1 (x : ByteArray) (n : Int) : St := ⟨[⟨x, x.size⟩, ⟨ByteArray.empty, 0⟩], [(f, 0), (g, 1)], [(f, 0)], [⟨ByteArray.empty, g, some 1⟩], 1000, 5, n⟩
def g2 (x y : ByteArray) (n : Int) : St := ⟨[⟨x, x.size⟩, ⟨y, 0⟩], [(f, 0), (g, 1)], [(f, 0)], [⟨ByteArray.empty, g, some 1⟩], 1000, 6, n⟩
def g3 (x y : ByteArray) (n : Int) : St := ⟨[⟨x, x.size⟩, ⟨y, y.size⟩], [(f, 0), (g, 1)], [(f, 0)], [⟨ByteArray.empty, g, some 1⟩], 1000, 7, n⟩
def g4 (x y : ByteArray) (n : Int) : St := ⟨[⟨x, x.size⟩, ⟨y, y.size⟩], [(f, 1)], [(f, 0)], [⟨ByteArray.empty, g, some 1⟩, ⟨g, f, some 1⟩], 1000, 8, n⟩
def g5 (x y : ByteArray) (n : Int) : St := ⟨[⟨x, x.size⟩, ⟨y, y.size⟩], [(f, 1)], [(f, 1)], [], 1000, 9, n⟩

theorem lim_step (S : St) (h : S.limit ≠ 0) : VfsS.stepS S = { S with limit := lim S.limit, steps := S.steps + 1 } := by unfold VfsS.stepS; rw [if_neg h]; rfl

theorem o1 (x : ByteArray) (n : Int) : VfsS.createS (old1 x n) g = if n = 0 then (old1 x n, 190) else (g1 x (lim n), 0) := by
  rw [VfsS.createS, check_g, if_neg (by decide)]
  show (if n = 0 then _ else _) = _
  by_cases h : n = 0
  · rw [if_pos h, if_pos h]
  · rw [if_neg h, if_neg h, lim_step _ h]; rfl
theorem o2 (x y : ByteArray) (n : Int) (h : x.size + y.size ≤ 1000) : VfsS.appendS (g1 x n) g y = if n = 0 then (g1 x n, 190) else (g2 x y (lim n), 0) := by
  show (if ((1000 : Nat) : Int) - ((x.size + (0 + 0) : Nat) : Int) < (y.size : Int) then _ else if n = 0 then _ else _) = _
  rw [if_neg (by omega)]
  by_cases h : n = 0
  · rw [if_pos h, if_pos h]
  · rw [if_neg h, if_neg h, lim_step _ h]
    show ((⟨[⟨x, x.size⟩, ⟨ByteArray.empty ++ y, 0⟩], _, _, _, _, _, _⟩ : St), (0 : Int)) = _
    rw [be_append]; rfl
theorem o3 (x y : ByteArray) (n : Int) : VfsS.syncS (g2 x y n) g = if n = 0 then (g2 x y n, 190) else (g3 x y (lim n), 0) := by
  show (if n = 0 then _ else _) = _
  by_cases h : n = 0
  · rw [if_pos h, if_pos h]
  · rw [if_neg h, if_neg h, lim_step _ h]; rfl
theorem o4 (x y : ByteArray) (n : Int) : VfsS.renameS (g3 x y n) g f = if n = 0 then (g3 x y n, 190) else (g4 x y (lim n), 0) := by
  rw [VfsS.renameS, check_f, show VfsS.find (g3 x y n).now g = some 1 from rfl]
  show (if n = 0 then _ else _) = _
  by_cases h : n = 0
  · rw [if_pos h, if_pos h]
  · rw [if_neg h, if_neg h, lim_step _ h]; rfl
theorem o5 (x y : ByteArray) (n : Int) : VfsS.flushAllS (g4 x y n) = if n = 0 then (g4 x y n, 190) else (g5 x y (lim n), 0) := by
  show (if n = 0 then _ else _) = _
  by_cases h : n = 0
  · rw [if_pos h, if_pos h]
  · rw [if_neg h, if_neg h, lim_step _ h]; rfl

theorem cut_full (x : ByteArray) (n : Int) : (VfsS.cutF n ⟨x, x.size⟩).text = x := by
  show x.extract 0 (x.size + min n.toNat (x.size - x.size)) = x
  rw [Nat.sub_self, Nat.min_zero, Nat.add_zero]
  exact ByteArray.extract_zero_size

theorem clamp_cases (m : Int) (k : Nat) : VfsS.clampN m k ≤ k := Nat.min_le_right _ _

/-- A crash that keeps k changes of names. -/
def crK (S : St) (k : Nat) (b : Int) : St := ⟨(VfsS.flushS S k).files.map (VfsS.cutF b), (VfsS.flushS S k).sure, (VfsS.flushS S k).sure, [], (VfsS.flushS S k).room, (VfsS.flushS S k).steps, -1⟩
theorem crash_eq (S : St) (a b : Int) : VfsS.crashS S a b = crK S (VfsS.clampN a S.acts.length) b := rfl

/-- What is read behind the crash. -/
theorem rd0 (x : ByteArray) (n a b : Int) : VfsS.readS (VfsS.crashS (old1 x n) a b) f = some x := by
  have e : VfsS.clampN a (old1 x n).acts.length = 0 := Nat.min_zero _
  rw [crash_eq, e]
  show some (VfsS.cutF b ⟨x, x.size⟩).text = _
  rw [cut_full]
theorem rd1 (x : ByteArray) (F : VfsS.File) (n a b : Int) (k : Nat) : VfsS.readS (VfsS.crashS ⟨[⟨x, x.size⟩, F], [(f, 0), (g, 1)], [(f, 0)], [⟨ByteArray.empty, g, some 1⟩], 1000, k, n⟩ a b) f = some x := by
  have h := clamp_cases a 1
  rw [crash_eq]
  show VfsS.readS (crK _ (VfsS.clampN a 1) b) f = _
  have h2 : ∀ j, j ≤ 1 → VfsS.readS (crK ⟨[⟨x, x.size⟩, F], [(f, 0), (g, 1)], [(f, 0)], [⟨ByteArray.empty, g, some 1⟩], 1000, k, n⟩ j b) f = some (VfsS.cutF b ⟨x, x.size⟩).text := by
    intro j hj
    match j, hj with
    | 0, _ => rfl
    | 1, _ => rfl
  rw [h2 _ h, cut_full]
theorem rd4 (x y : ByteArray) (n a b : Int) : VfsS.readS (VfsS.crashS (g4 x y n) a b) f = some x ∨ VfsS.readS (VfsS.crashS (g4 x y n) a b) f = some y := by
  have h := clamp_cases a 2
  rw [crash_eq]
  show VfsS.readS (crK _ (VfsS.clampN a 2) b) f = _ ∨ VfsS.readS (crK _ (VfsS.clampN a 2) b) f = _
  have h2 : ∀ j, j ≤ 2 → VfsS.readS (crK (g4 x y n) j b) f = some (VfsS.cutF b ⟨x, x.size⟩).text ∨ VfsS.readS (crK (g4 x y n) j b) f = some (VfsS.cutF b ⟨y, y.size⟩).text := by
    intro j hj
    match j, hj with
    | 0, _ => exact .inl rfl
    | 1, _ => exact .inl rfl
    | 2, _ => exact .inr rfl
  have h3 := h2 _ h
  rw [cut_full, cut_full] at h3
  exact h3
theorem rd5 (x y : ByteArray) (n a b : Int) : VfsS.readS (VfsS.crashS (g5 x y n) a b) f = some y := by
  have e : VfsS.clampN a (g5 x y n).acts.length = 0 := Nat.min_zero _
  rw [crash_eq, e]
  show some (VfsS.cutF b ⟨y, y.size⟩).text = _
  rw [cut_full]
end VfsT
end Go.Proofs.YtfoamcobpfflbaaDoor
namespace Go.Proofs.YtfoamcobpfflbaaDoor
open VfsS (St Chg Nm find doL fl)
namespace VfsU

def sB : ByteArray := ⟨#[115, 117, 114, 101]⟩
def uB : ByteArray := ⟨#[117, 110, 115, 117, 114, 101]⟩
theorem check_s : PathS.check sB = 0 := by decide +kernel
theorem check_u : PathS.check uB = 0 := by decide +kernel

/-- A change of names that has nothing to do with both names, nor with file i. -/
structure Far (i : Nat) (c : Chg) : Prop where
  s : c.src ≠ sB
  d : c.dst ≠ sB
  u : c.dst ≠ uB
  f : c.file ≠ some i

structure Su (S : St) (i : Nat) (t : ByteArray) : Prop where
  n : find S.now sB = some i
  s : find S.sure sB = some i
  un : find S.now uB = none
  us : find S.sure uB = none
  on : ∀ q ∈ S.now, q.2 = i → q.1 = sB
  os : ∀ q ∈ S.sure, q.2 = i → q.1 = sB
  a : ∀ c ∈ S.acts, Far i c
  f : fl S i = ⟨t, t.size⟩

theorem far_s {i : Nat} {c : Chg} (h : Far i c) (l : Nm) : find (doL l c) sB = find l sB := by
  rw [VfsS.find_doL]
  cases c.file with
  | none => simp only; rw [if_neg (fun e => h.s e.2.symm)]
  | some j => simp only; rw [if_neg (fun e => h.d e.symm), if_neg (fun e => h.s e.2.symm)]
theorem far_u {i : Nat} {c : Chg} (h : Far i c) {l : Nm} (hl : find l uB = none) : find (doL l c) uB = none := by
  rw [VfsS.find_doL]
  cases c.file with
  | none =>
    simp only
    split
    · rfl
    · exact hl
  | some j =>
    simp only
    rw [if_neg (fun e => h.u e.symm)]
    split
    · rfl
    · exact hl
theorem far_o {i : Nat} {c : Chg} (h : Far i c) {l : Nm} (hl : ∀ q ∈ l, q.2 = i → q.1 = sB) : ∀ q ∈ doL l c, q.2 = i → q.1 = sB := by
  intro q hq e
  rcases VfsS.doL_mem hq with h1 | h1
  · exact hl q h1 e
  · exact absurd (by rw [← e]; exact h1.1) h.f

theorem fold_far {i : Nat} : ∀ (cs : List Chg) (l : Nm), (∀ c ∈ cs, Far i c) → find l sB = some i → find l uB = none → (∀ q ∈ l, q.2 = i → q.1 = sB) →
    find (cs.foldl doL l) sB = some i ∧ find (cs.foldl doL l) uB = none ∧ ∀ q ∈ cs.foldl doL l, q.2 = i → q.1 = sB
  | [], l, _, h1, h2, h3 => ⟨h1, h2, h3⟩
  | c :: cs, l, h, h1, h2, h3 => by
    have hc := h c (by simp)
    rw [List.foldl_cons]
    exact fold_far cs _ (fun d hd => h d (by simp [hd])) (by rw [far_s hc]; exact h1) (far_u hc h2) (far_o hc h3)

section
variable {S : St} {i : Nat} {t : ByteArray}

theorem Su.lt (h : Su S i t) (hw : VfsS.Wf S) : i < S.files.length := hw.idx i (.inl ⟨sB, VfsS.find_mem h.n⟩)
theorem Su.step (h : Su S i t) : Su (VfsS.stepS S) i t :=
  ⟨by rw [VfsS.stepS_now]; exact h.n, by rw [VfsS.stepS_sure]; exact h.s, by rw [VfsS.stepS_now]; exact h.un, by rw [VfsS.stepS_sure]; exact h.us, by rw [VfsS.stepS_now]; exact h.on, by rw [VfsS.stepS_sure]; exact h.os, by rw [VfsS.stepS_acts]; exact h.a, by rw [VfsS.fl_step]; exact h.f⟩
theorem Su.change (h : Su S i t) {c : Chg} (hc : Far i c) : Su (VfsS.changeS S c) i t :=
  ⟨(far_s hc _).trans h.n, h.s, far_u hc h.un, h.us, far_o hc h.on, h.os, fun d hd => by
    rcases List.mem_append.1 hd with h1 | h1
    · exact h.a d h1
    · rw [List.mem_singleton] at h1; subst h1; exact hc, h.f⟩
theorem Su.put (h : Su S i t) {j : Nat} (hj : j < S.files.length) (hne : j ≠ i) (f : VfsS.File) : Su (VfsS.putS S j f) i t :=
  ⟨h.n, h.s, h.un, h.us, h.on, h.os, h.a, by rw [VfsS.fl_put hj, if_neg (fun e => hne e.symm)]; exact h.f⟩
theorem Su.more (h : Su S i t) (hl : i < S.files.length) (f : VfsS.File) : Su { S with files := S.files ++ [f] } i t :=
  ⟨h.n, h.s, h.un, h.us, h.on, h.os, h.a, by
    have := h.f
    unfold fl at this ⊢
    simp only [List.getD_eq_getElem?_getD] at this ⊢
    rw [List.getElem?_append_left hl]; exact this⟩
theorem Su.lim (h : Su S i t) (n : Int) : Su { S with limit := n } i t := ⟨h.n, h.s, h.un, h.us, h.on, h.os, h.a, h.f⟩
theorem Su.flush (h : Su S i t) (n : Nat) : Su (VfsS.flushS S n) i t := by
  obtain ⟨h1, h2, h3⟩ := fold_far (S.acts.take n) S.sure (fun c hc => h.a c (List.mem_of_mem_take hc)) h.s h.us h.os
  exact ⟨h.n, h1, h.un, h2, h.on, h3, fun c hc => h.a c (List.mem_of_mem_drop hc), h.f⟩

theorem cut_same (y : Int) (t : ByteArray) : VfsS.cutF y ⟨t, t.size⟩ = ⟨t, t.size⟩ := by
  have h1 := VfsT.cut_full t y
  have h2 : (VfsS.cutF y ⟨t, t.size⟩).dur = t.size := by
    show t.size + VfsS.clampN y (t.size - t.size) = t.size
    unfold VfsS.clampN
    omega
  cases h : VfsS.cutF y ⟨t, t.size⟩ with
  | mk a b => rw [h] at h1 h2; simp only at h1 h2; rw [h1, h2]

theorem fl_map {fs : List VfsS.File} {g : VfsS.File → VfsS.File} {i : Nat} (hi : i < fs.length) : (fs.map g).getD i default = g (fs.getD i default) := by
  rw [List.getD_eq_getElem?_getD, List.getD_eq_getElem?_getD, List.getElem?_map, List.getElem?_eq_getElem hi]; rfl

theorem Su.crash (h : Su S i t) (hw : VfsS.Wf S) (x y : Int) : Su (VfsS.crashS S x y) i t := by
  have h1 := h.flush (VfsS.clampN x S.acts.length)
  refine ⟨h1.s, h1.s, h1.us, h1.us, h1.os, h1.os, fun c hc => (nomatch hc), ?_⟩
  show (((VfsS.flushS S (VfsS.clampN x S.acts.length)).files.map (VfsS.cutF y)).getD i default) = _
  rw [fl_map (show i < (VfsS.flushS S (VfsS.clampN x S.acts.length)).files.length from h.lt hw)]
  have : (VfsS.flushS S (VfsS.clampN x S.acts.length)).files.getD i default = ⟨t, t.size⟩ := h1.f
  rw [this, cut_same]

/-- A call on other names. -/
theorem Su.stepO (h : Su S i t) (hw : VfsS.Wf S) (o : OpD) (h1 : o.name ≠ sB) (h2 : o.dst ≠ sB) (h4 : o.dst ≠ uB) (h3 : o.name ≠ uB) : Su (stepO S o).1 i t := by
  have hl := h.lt hw
  have other : ∀ {j : Nat}, find S.now o.name = some j → j ≠ i := fun hj e => h1 (h.on _ (VfsS.find_mem hj) e)
  have jlt : ∀ {j : Nat}, find S.now o.name = some j → j < (VfsS.stepS S).files.length := fun hj => by rw [VfsS.stepS_files]; exact hw.idx _ (.inl ⟨_, VfsS.find_mem hj⟩)
  have e0 : ByteArray.empty ≠ sB := by decide
  have e1 : ByteArray.empty ≠ uB := by decide
  unfold Go.Proofs.YtfoamcobpfflbaaDoor.stepO
  split
  · unfold VfsS.createS
    split
    · exact h
    · split
      · exact h
      · split
        · exact h
        · have h5 : Su { VfsS.stepS S with files := S.files ++ [⟨ByteArray.empty, 0⟩] } i t := by
            have := h.step.more (by rw [VfsS.stepS_files]; exact hl) ⟨ByteArray.empty, 0⟩
            rw [VfsS.stepS_files] at this
            exact this
          exact h5.change ⟨e0, h1, h3, fun e => by injection e with e; omega⟩
  split
  · unfold VfsS.appendS
    cases hf : find S.now o.name with
    | none => exact h
    | some j =>
      simp only
      split
      · exact h
      · split
        · exact h
        · exact h.step.put (jlt hf) (other hf) _
  split
  · unfold VfsS.cutS
    cases hf : find S.now o.name with
    | none => exact h
    | some j =>
      simp only
      split
      · exact h
      · split
        · exact h
        · exact h.step.put (jlt hf) (other hf) _
  split
  · unfold VfsS.syncS
    cases hf : find S.now o.name with
    | none => exact h
    | some j =>
      simp only
      split
      · exact h
      · exact h.step.put (jlt hf) (other hf) _
  split
  · unfold VfsS.renameS
    cases hf : find S.now o.name with
    | none => exact h
    | some j =>
      simp only
      split
      · exact h
      · split
        · exact h
        · split
          · exact h
          · exact h.step.change ⟨h1, h2, h4, fun e => by injection e with e; exact other hf e⟩
  split
  · unfold VfsS.removeS
    split
    · split
      · exact h
      · exact h.step.change ⟨h1, e0, e1, fun e => by cases e⟩
    · exact h
  split
  · unfold VfsS.flushAllS
    split
    · exact h
    · exact h.step.flush _
  split
  · exact h.crash hw _ _
  split
  · exact h.lim _
  · exact h

/-- The name that never was durable. -/
theorem Su.unsure (h : Su S i t) : (VfsS.createS { S with limit := -1 } uB).2 = 0 ∧ (VfsS.createS { S with limit := -1 } uB).1.sure = S.sure ∧ ∃ r, (VfsS.createS { S with limit := -1 } uB).1.files = S.files ++ r := by
  unfold VfsS.createS
  rw [if_neg (fun e => e check_u)]
  rw [if_neg (by rw [h.un]; decide), if_neg (by show ¬ (-1 : Int) = 0; decide)]
  exact ⟨rfl, rfl, _, rfl⟩

/-- Behind a crash that keeps no change of names. -/
theorem Su.gone (h : Su S i t) (hl : i < S.files.length) {U : St} (hs : U.sure = S.sure) {r : List VfsS.File} (hf : U.files = S.files ++ r) (y : Int) : Su (VfsS.crashS U 0 y) i t := by
  have hz : VfsS.clampN 0 U.acts.length = 0 := by unfold VfsS.clampN; omega
  have e : (VfsS.crashS U 0 y) = ⟨(U.files.map (VfsS.cutF y)), S.sure, S.sure, [], U.room, U.steps, -1⟩ := by
    unfold VfsS.crashS VfsS.flushS
    rw [hz, List.take_zero]
    simp only [List.foldl_nil, hs]
  rw [e]
  refine ⟨h.s, h.s, h.us, h.us, h.os, h.os, fun c hc => (nomatch hc), ?_⟩
  show ((U.files.map (VfsS.cutF y)).getD i default) = _
  have hl2 : i < U.files.length := by rw [hf, List.length_append]; omega
  rw [fl_map hl2]
  have : U.files.getD i default = ⟨t, t.size⟩ := by
    have := h.f
    unfold fl at this
    rw [List.getD_eq_getElem?_getD] at this ⊢
    rw [hf, List.getElem?_append_left hl]; exact this
  rw [this, cut_same]

theorem Su.read (h : Su S i t) : VfsS.readS S sB = some t := by
  unfold VfsS.readS; rw [h.n]; show some (fl S i).text = _; rw [h.f]
theorem Su.readu (h : Su S i t) : VfsS.readS S uB = none := by unfold VfsS.readS; rw [h.un]; rfl
end

def s4 (x : ByteArray) : St := ⟨[⟨x, x.size⟩], [(sB, 0)], [(sB, 0)], [], 1048576, 4, -1⟩
theorem b1 : VfsS.createS (VfsS.newS (1048576 : Int).toNat) sB = (⟨[⟨ByteArray.empty, 0⟩], [(sB, 0)], [], [⟨ByteArray.empty, sB, some 0⟩], 1048576, 1, -1⟩, 0) := by
  rw [VfsS.createS, check_s, if_neg (by decide)]; rfl
theorem b2 (x : ByteArray) (h : x.size ≤ 100000) : VfsS.appendS ⟨[⟨ByteArray.empty, 0⟩], [(sB, 0)], [], [⟨ByteArray.empty, sB, some 0⟩], 1048576, 1, -1⟩ sB x = (⟨[⟨x, 0⟩], [(sB, 0)], [], [⟨ByteArray.empty, sB, some 0⟩], 1048576, 2, -1⟩, 0) := by
  show (if ((1048576 : Nat) : Int) - ((0 + 0 : Nat) : Int) < (x.size : Int) then _ else _) = _
  rw [if_neg (by omega)]
  show ((⟨[⟨ByteArray.empty ++ x, 0⟩], _, _, _, _, _, _⟩ : St), (0 : Int)) = _
  rw [VfsT.be_append]; rfl
theorem b3 (x : ByteArray) : VfsS.syncS ⟨[⟨x, 0⟩], [(sB, 0)], [], [⟨ByteArray.empty, sB, some 0⟩], 1048576, 2, -1⟩ sB = (⟨[⟨x, x.size⟩], [(sB, 0)], [], [⟨ByteArray.empty, sB, some 0⟩], 1048576, 3, -1⟩, 0) := rfl
theorem b4 (x : ByteArray) : VfsS.flushAllS ⟨[⟨x, x.size⟩], [(sB, 0)], [], [⟨ByteArray.empty, sB, some 0⟩], 1048576, 3, -1⟩ = (s4 x, 0) := rfl
theorem su4 (x : ByteArray) : Su (s4 x) 0 x :=
  ⟨rfl, rfl, show find [(sB, 0)] uB = none by decide, show find [(sB, 0)] uB = none by decide, fun q hq _ => by simp [s4] at hq; rw [hq], fun q hq _ => by simp [s4] at hq; rw [hq], fun c hc => (nomatch hc), rfl⟩
end VfsU
end Go.Proofs.YtfoamcobpfflbaaDoor
namespace Go.Proofs.YtfoamcobpfflbaaDoor
open Go Go.RowKit Go.Maps
open VfsS (St cl clp So Srt)

theorem forkN_get (l : VfsS.Nm) (i : Nat) : (VfsS.forkN l)[i]? = l[i]?.map fun q => (q.1, i) := by
  unfold VfsS.forkN
  rw [List.getElem?_map, List.getElem?_zipIdx, Option.map_map, Nat.zero_add]
  rfl

theorem shown_fork (S : St) : shown (VfsS.forkS S) = shown S := by
  unfold shown
  apply List.ext_getElem?
  intro i
  rw [List.getElem?_map, List.getElem?_map, show (VfsS.forkS S).now = VfsS.forkN S.now from rfl, forkN_get]
  cases h : S.now[i]? with
  | none => rfl
  | some q => simp only [Option.map_some, VfsS.fl_fork h]

theorem fork_same (S : St) : SameFS (VfsS.forkS S) (cl S) := ⟨(shown_fork S).trans (SameFS.cl S).sh, rfl⟩

theorem fork_crash (S : St) : VfsS.crashS (VfsS.forkS S) 0 0 = VfsS.forkS S := by
  unfold VfsS.crashS
  have h1 : VfsS.flushS (VfsS.forkS S) (VfsS.clampN 0 (VfsS.forkS S).acts.length) = VfsS.forkS S := rfl
  have h2 : (VfsS.forkS S).files.map (VfsS.cutF 0) = (VfsS.forkS S).files := by
    unfold VfsS.forkS
    simp only [List.map_map]
    apply List.map_congr_left
    intro q _
    exact VfsU.cut_same 0 _
  simp only [h1, h2]
  rfl

theorem srt_fork {l : VfsS.Nm} (h : Srt l) : Srt (VfsS.forkN l) := by
  unfold Srt at *
  have e : ∀ m : VfsS.Nm, (m.Pairwise fun p q => VfsS.less p.1 q.1) ↔ (m.map (·.1)).Pairwise VfsS.less := fun m => by rw [List.pairwise_map]
  rw [e, VfsS.forkN_fst, ← e]
  exact h

/-- The fork beside the file system and the document's struct. -/
structure FV (w0 W w : World) (p p' b : Nat) (S F : St) (N : Nat) (cs : Array Value) (E : Nat → Prop) : Prop where
  v : VE (fun k => E k ∨ (W.heap.size ≤ k ∧ k < w.heap.size)) w0 w p S N
  lt : ∀ k, E k → k < W.heap.size
  sz : W.heap.size ≤ w.heap.size
  r : RR E w cs (cl S) N
  o : So S
  e : E b
  h : w.heap[b]? = some (.cells cs 36 (0, 0))
  f : VRep w p' F (fun k => W.heap.size ≤ k ∧ k < w.heap.size) N

section
variable {w0 W w w' : World} {p p' b : Nat} {S F F' : St} {N : Nat} {cs : Array Value} {E : Nat → Prop}

theorem FV.start (h : LV w0 W p b S N cs E) (hb : Below W.heap.size W w) (hf : VRep w p' F (fun k => W.heap.size ≤ k ∧ k < w.heap.size) N) : FV w0 W w p p' b S F N cs E :=
  ⟨h.v.below hb, fun _ hk => h.v.lt hk, hb.size, h.r.below hb, h.o, h.e, (hb.block _ h.lt).trans h.h, hf⟩

theorem FV.ltb (h : FV w0 W w p p' b S F N cs E) : b < w.heap.size := (Array.getElem?_eq_some_iff.1 h.h).1

theorem FV.below (h : FV w0 W w p p' b S F N cs E) (hb : Below w.heap.size w w') : FV w0 W w' p p' b S F N cs E := by
  have hs := hb.size
  have hz := h.sz
  refine ⟨(h.v.below hb).sub fun k hk => ?_, h.lt, by omega, h.r.below hb, h.o, h.e, (hb.block _ h.ltb).trans h.h, (h.f.below hb).mono (fun k hk => ⟨hk.1, by omega⟩) (Nat.le_refl _) h.f.big⟩
  by_cases hkw : k < w.heap.size
  · exact .inl (hk.elim .inl fun hk => .inr ⟨hk.1, hkw⟩)
  · refine .inr (hk.elim (fun hk => by have := h.lt k hk; omega) fun hk => ⟨by omega, hk.2⟩)

theorem FV.call (h : FV w0 W w p p' b S F N cs E) (ho : Only (fun k => W.heap.size ≤ k ∧ k < w.heap.size) w w') (hf : VRep w' p' F' (Kx (fun k => W.heap.size ≤ k ∧ k < w.heap.size) w.heap.size w'.heap.size) N) : FV w0 W w' p p' b S F' N cs E := by
  have hs := ho.size
  have hz := h.sz
  have ho' : Only (fun k => E k ∨ (W.heap.size ≤ k ∧ k < w.heap.size)) w w' := ⟨ho.os, ho.tape, ho.output, ho.size, fun k hk hn => ho.block k hk fun h => hn (.inr h)⟩
  have hE : ∀ k, E k → w'.heap[k]? = w.heap[k]? := fun k hk => by
    have := h.lt k hk
    exact ho.block k (by omega) (fun h => by omega)
  refine ⟨(h.v.foreign ho').sub fun k hk => ?_, h.lt, by omega, h.r.blocks hE, h.o, h.e, (hE b h.e).trans h.h, hf.mono (fun k hk => ?_) (Nat.le_refl _) h.f.big⟩
  · by_cases hkw : k < w.heap.size
    · exact .inl (hk.elim .inl fun hk => .inr ⟨hk.1, hkw⟩)
    · refine .inr (hk.elim (fun hk => by have := h.lt k hk; omega) fun hk => ⟨by omega, hk.2⟩)
  · rcases hk with hk | hk
    · exact ⟨hk.1, by omega⟩
    · exact ⟨by omega, hk.2⟩

/-- F's blocks are as they were. -/
structure Kp (F : Nat → Prop) (W5 : World) (b : Nat) (E : Nat → Prop) (wx : World) : Prop where
  e : ∀ k, F k → E k
  n : ∀ k, F k → k ≠ b
  k : ∀ k, F k → wx.heap[k]? = W5.heap[k]?

theorem Kp.below {G : Nat → Prop} {W5 : World} (h : Kp G W5 b E w) (hlt : ∀ k, E k → k < w.heap.size) (hb : Below w.heap.size w w') : Kp G W5 b (Kx E w.heap.size w'.heap.size) w' :=
  ⟨fun k hk => .inl (h.e k hk), h.n, fun k hk => (hb.block k (hlt k (h.e k hk))).trans (h.k k hk)⟩
theorem Kp.step {G : Nat → Prop} {W5 : World} {E' : Nat → Prop} (h : Kp G W5 b E w) (hs : ∀ k, E k → E' k) (hk : ∀ k, E k → w'.heap[k]? = w.heap[k]?) : Kp G W5 b E' w' :=
  ⟨fun k hk => hs k (h.e k hk), h.n, fun k hg => (hk k (h.e k hg)).trans (h.k k hg)⟩
theorem Kp.put {G : Nat → Prop} {W5 : World} (h : Kp G W5 b E w) (hlt : ∀ k, E k → k < w.heap.size) (hg : w.grownBy w' (some b)) : Kp G W5 b E w' :=
  ⟨h.e, h.n, fun k hk => (hg.block k (hlt k (h.e k hk)) (fun e => h.n k hk (by injection e))).trans (h.k k hk)⟩
end

section
variable {W : World} {b : Nat} {ops : Array Oper} {rest : List Oper} {op : Oper} {a : Act} {Q : Exit → Act → World → Prop}
/-- A load under a guard that lets it be. -/
theorem wp_loadFSg {cs : Array Value} (hb : W.heap[b]? = some (.cells cs 36 (0, 0))) (hw : Region.wanted op (yielded ops a.tmps) = true) (x : Operand) (ho : op.op = .load 36 x) (hx : a.eval x = .pointer (some ⟨b, 0, none⟩)) (hsz : cs.size = 7)
    (K : wpList Tryd.prog ops Q rest (a.put op.dst (.agg cs)) W) : wpList Tryd.prog ops Q (op :: rest) a W :=
  wpList_step fun _ hK => by
    rw [if_pos hw]
    exact wp_load_mid 36 x ho b 0 hx cs.toList _ (fun j v hj => by
      rw [Nat.zero_add]; simp only [World.cell?, hb]; rw [← Array.getElem?_toList]; exact hj) Tryd.underlying36 rfl (by rw [Array.length_toList, hsz]; kernel_rfl) (hK _ _ K)
end

/-- The fork and the document's struct as they were. -/
structure FK (w : World) (p' b : Nat) (S : St) (N : Nat) (cs : Array Value) (G : Nat → Prop) : Prop where
  r : RR G w cs (cl S) N
  f : VRep w p' (VfsS.forkS S) G N
  h : w.heap[b]? = some (.cells cs 36 (0, 0))
  g : G b

theorem FK.move {w w' : World} {p' b : Nat} {S : St} {N : Nat} {cs : Array Value} {G : Nat → Prop} (h : FK w p' b S N cs G) (hk : ∀ k, G k → w'.heap[k]? = w.heap[k]?) : FK w' p' b S N cs G :=
  ⟨h.r.blocks hk, h.f.keep fun k _ hg => hk k hg, (hk b h.g).trans h.h, h.g⟩

theorem FV.fork {w0 W w wa w8 : World} {p p' b : Nat} {S : St} {N : Nat} {cs : Array Value} {E : Nat → Prop} (h : FV w0 W w p p' b S (VfsS.forkS S) N cs E) (hb : Below w.heap.size w wa) (h1 : w.heap.size < wa.heap.size) {c0 : Array Value} (hB : wa.heap[w.heap.size]? = some (.cells c0 36 (0, 0)))
    (h8 : w8.heap[w.heap.size]? = some (.cells cs 36 (0, 0))) (hg : wa.grownBy w8 (some w.heap.size)) : ∃ (G : Nat → Prop) (E' : Nat → Prop), LV w0 w8 p w.heap.size S N cs E' ∧ Kp G w8 w.heap.size E' w8 ∧ FK w8 p' b S N cs G := by
  have hz := h.sz
  have far : ∀ k, k < w.heap.size → w8.heap[k]? = w.heap[k]? := fun k hk => (hg.block k (by omega) (fun e => by injection e; omega)).trans (hb.block k hk)
  have hF := h.below hb
  have hlt : ∀ k, E k ∨ (W.heap.size ≤ k ∧ k < w.heap.size) → k < w.heap.size := fun k hk => hk.elim (fun hk => by have := h.lt k hk; omega) (·.2)
  refine ⟨fun k => E k ∨ (W.heap.size ≤ k ∧ k < w.heap.size), _, LV.put hF.v (hF.r.sub fun k hk _ => .inl hk) h.o (.inr ⟨hz, h1⟩) hB h8 hg, ⟨fun k hk => ?_, fun k hk => ?_, fun _ _ => rfl⟩, ⟨?_, ?_, (far b h.ltb).trans h.h, .inl h.e⟩⟩
  · have := hlt k hk
    exact hk.elim .inl fun hk => .inr ⟨hk.1, by omega⟩
  · have := hlt k hk; omega
  · exact (h.r.blocks fun k hk => far k (hlt k (.inl hk))).sub fun k hk _ => .inl hk
  · exact (h.f.keep fun k hk _ => far k hk).mono (fun k hk => .inr hk) (Nat.le_refl _) h.f.big

set_option maxRecDepth 100000 in
set_option maxHeartbeats 4000000 in
theorem lawForks_c (sa : Option Addr) (sc : Nat) (os : List OpD) (ma : Option Addr) (mc : Nat) (ms : List OpD) (w : World) (hg : Gl w) (hs : Sl w sa (opRow os)) (hl : os.length ≤ 1048576) (hok : ∀ o ∈ os, OpR w o 1048576) (hs2 : Sl w ma (opRow ms)) (hl2 : ms.length ≤ 1048576) (hok2 : ∀ o ∈ ms, OpR w o 1048576) :
    Calls Tryd.prog 12 #[.slice sa os.length sc, .slice ma ms.length mc] w fun e w' => e = .returned (.bool true) ∧ Below w.heap.size w w' := by
  go_enter Tryd.func12, Tryd.ntmps12
  go_wp2_with fail
  refine (awake14_c w hg).mono ?_
  rintro e w0 ⟨rfl, hb0⟩
  have hg0 := hg.below hb0 (Nat.le_refl _)
  go_wp2_with fail
  refine (new_a 2000 w0 hg0).mono ?_
  rintro e w1 (⟨hbad, -, -⟩ | ⟨-, p, rfl, H1⟩)
  · omega
  have HN : Calls Tryd.prog 18 #[.int .i64 2000] w1 fun e w'' => e = .returned (.agg (newC 2000)) ∧ Below w1.heap.size w1 w'' := rnew_c 2000 w1
  go_upto_region 7 with (first
    | (go_at_call 18; refine HN.mono ?_; rintro e w2 ⟨rfl, hb2⟩; have hB2 : (w2.alloc (.cells #[.slice none 0 0, .slice none 0 0, .slice none 0 0, .slice none 0 0, .int .i64 0, .int .i64 0, .int .i64 0] 36)).heap[w2.heap.size]? = some (.cells fs0 36 (0, 0)) := Array.getElem?_push_size)
    | (refine wp_storeFS hB2 rfl _ _ rfl rfl rfl rfl rfl (by simp [newC, Value.oneCell']) ?_; intro w3 h3 hg3))
  have hL : ∃ cs E, LV w0 w3 p w2.heap.size (VfsS.newS 2000) 0 cs E := by
    have hb3 : Below w1.heap.size w1 (w2.alloc (.cells #[.slice none 0 0, .slice none 0 0, .slice none 0 0, .slice none 0 0, .int .i64 0, .int .i64 0, .int .i64 0] 36)) := hb2.alloc hb2.size _
    have hv := H1.toE.below hb3
    exact ⟨newC 2000, _, LV.put hv (rr_new _ _ 2000 (by omega)) (So.new 2000) (.inr ⟨hb2.size, by simp⟩) hB2 h3 hg3⟩
  clear H1 HN hb2 hB2 hg3 h3
  have hsW := hs.below hb0
  have hmW := hs2.below hb0
  have HOK : Hid (∀ o ∈ os, o.Ok w0) := fun o ho => (hok o ho).ok (Nat.le_refl _) hb0
  have HOM : Hid (∀ o ∈ ms, o.Ok w0) := fun o ho => (hok2 o ho).ok (Nat.le_refl _) hb0
  clear hok hok2 hs hs2 hg hg0
  generalize w2.heap.size = b at *
  go_wp2_with fail
  go_loopw [25] (fun iv wx => ∃ (j : Nat) (cs : Array Value) (E : Nat → Prop), j ≤ os.length ∧ iv = .int .i64 j ∧ LV w0 wx p b (run (VfsS.newS 2000) os j) (0 + 3 * j) cs E) (fun iv _ => (os.length - intOf iv).toNat)
  case atStart =>
    obtain ⟨cs, E, hL⟩ := hL
    exact ⟨0, cs, E, Nat.zero_le _, rfl, by rw [run_zero]; exact hL⟩
  case round =>
    clear hL
    obtain ⟨j, cs, E, hj, rfl, hL⟩ := hrel
    by_cases hjl : j < os.length
    · have hd : decide ((j : Int) < (os.length : Int)) = true := decide_eq_true (by omega)
      have HRS := Lib.hid (run_step (VfsS.newS 2000) os j hjl)
      have hoj := HOK.out _ (List.getElem_mem hjl)
      obtain ⟨ab, ao, rfl, hab, hcel⟩ := (hsW.below hL.v.out).at (k := j * 6) (by rw [opRow_len]; omega)
      have far : ∀ i u, i < 6 → (opCells os[j])[i]? = some u → wr.cell? ⟨ab, ao + j * 6 + i, none⟩ = some u := fun i u hi hu => by
        have h1 := opRow_at os j hjl i hi
        rw [hu] at h1
        obtain ⟨h2, h3⟩ := List.getElem?_eq_some_iff.1 h1
        rw [Nat.add_assoc, hcel _ h2, h3]
      have q0 : wr.cell? ⟨ab, ao + j * 6, none⟩ = some (.int .i64 os[j].kind) := far 0 _ (by omega) rfl
      have q1 : wr.cell? ⟨ab, ao + j * 6 + 1, none⟩ = some (.string os[j].name) := far 1 _ (by omega) rfl
      have q2 : wr.cell? ⟨ab, ao + j * 6 + 2, none⟩ = some (.string os[j].dst) := far 2 _ (by omega) rfl
      have q3 : wr.cell? ⟨ab, ao + j * 6 + 3, none⟩ = some (.slice os[j].da os[j].data.size os[j].dc) := far 3 _ (by omega) rfl
      have q4 : wr.cell? ⟨ab, ao + j * 6 + 4, none⟩ = some (.int .i64 os[j].n) := far 4 _ (by omega) rfl
      have q5 : wr.cell? ⟨ab, ao + j * 6 + 5, none⟩ = some (.int .i64 os[j].m) := far 5 _ (by omega) rfl
      have b1 : (0 : Int) ≤ (j : Int) := by omega
      have b2 : (j : Int) < os.length := by omega
      have hw : IntKind.i64.wrap ((j : Int) + 1) = (j : Int) + 1 := IntWalk.i64_in _ (by omega)
      generalize os[j] = o at *
      clear far hcel
      go_upto_region 10 with fail
      have hbA : Below wr.heap.size wr (wr.alloc (.cells #[.int .i64 o.kind, .string o.name, .string o.dst, .slice o.da o.data.size o.dc, .int .i64 o.n, .int .i64 o.m] 96)) := (Below.refl _ wr).alloc (Nat.le_refl _) _
      have hO : (wr.alloc (.cells #[.int .i64 o.kind, .string o.name, .string o.dst, .slice o.da o.data.size o.dc, .int .i64 o.n, .int .i64 o.m] 96)).heap[wr.heap.size]? = some (.cells (opCells o) 96 (0, 0)) := Array.getElem?_push_size
      have hL1 := hL.below hbA
      have HST := Lib.hid (lawstep_c hL1.v hL1.r o hoj (by omega))
      have hcs := hL1.r.size
      have hSo := So.stepO hL1.o o
      have hLh := hL1.h
      have hLe := hL1.e
      generalize wr.alloc (.cells #[.int .i64 o.kind, .string o.name, .string o.dst, .slice o.da o.data.size o.dc, .int .i64 o.n, .int .i64 o.m] 96) = W1 at *
      clear hL
      go_upto_region 11 with (first
        | (refine wp_loadFS hLh rfl _ rfl rfl hcs ?_)
        | (refine wp_loadOp hO rfl _ rfl rfl ?_)
        | (go_at_call 52; refine HST.out.mono ?_; rintro e w4 ⟨cs4, E4, rfl, hsub4, hv4, hr4, hk4⟩; have hB4 := (hk4 _ hLe).trans hLh; have hs4 := hr4.size; have ho4 := hr4.one)
        | (refine wp_storeFS hB4 rfl _ _ rfl rfl rfl hcs hs4 ho4 ?_; intro w5 h5 hg5; have hL5 := LV.put hv4 hr4 hSo (hsub4 _ hLe) hB4 h5 hg5))
      have HL5 : Hid (LV w0 w5 p b (run (VfsS.newS 2000) os (j + 1)) (0 + 3 * (j + 1)) cs4 E4) := by
        have := hL5
        rw [← HRS.out] at this
        exact this
      clear HST hLh hLe hO hL1 hv4 hr4 hk4 hB4 hSo h5 hg5 hcs q0 q1 q2 q3 q4 q5 hL5 HRS
      go_wp2_with fail
      go_roundw
      case rel => exact ⟨j + 1, _, _, by omega, by go_num, HL5.out⟩
      case measure => simp [intOf]; omega
    · obtain rfl : j = os.length := by omega
      have hd : decide ((os.length : Int) < (os.length : Int)) = false := decide_eq_false (by omega)
      generalize run (VfsS.newS 2000) os os.length = S at *
      obtain ⟨K0, hrep⟩ := hL.rep
      have HF := Lib.hid (fork_c hrep)
      clear hrep
      go_upto_region 13 with (go_at_call 55; refine HF.out.mono ?_; rintro e w4 ⟨p', rfl, hf4, hb4⟩)
      have hF4 := FV.start hL hb4 hf4
      clear HF hf4 hb4 hL
      have hcs := hF4.r.size
      have hLh := hF4.h
      have HSM := Lib.hid (same_c hF4.f hF4.r (fork_same S) (srt_fork hF4.o.n))
      go_upto_region 15 with (first
        | (refine wp_loadFSg hLh rfl _ rfl rfl hcs ?_)
        | (go_at_call 53; refine HSM.out.mono ?_; rintro e w5 ⟨rfl, hb5⟩))
      have hF5 := hF4.below hb5
      clear hF4 hLh HSM hb5
      have HCR := crash_c hF5.f 0 0
      rw [fork_crash] at HCR
      have HCR := Lib.hid HCR
      go_upto_region 16 with (go_at_call 25; refine HCR.out.mono ?_; rintro e w6 ⟨rfl, hv6, ho6⟩)
      have hF6 := hF5.call ho6 hv6
      clear hF5 HCR hv6 ho6
      have hLh := hF6.h
      have HSM := Lib.hid (same_c hF6.f hF6.r (fork_same S) (srt_fork hF6.o.n))
      go_upto_region 18 with (first
        | (refine wp_loadFS hLh rfl _ rfl rfl hcs ?_)
        | (go_at_call 53; refine HSM.out.mono ?_; rintro e w7 ⟨rfl, hb7⟩; have hF7 := hF6.below hb7)
        | (go_at_call 54; refine (steps_c hF7.f).mono ?_; rintro e w' ⟨rfl, rfl⟩))
      clear HSM hb7 hLh hF6
      have hLh := hF7.h
      have hB8 : (w'.alloc (.cells #[.slice none 0 0, .slice none 0 0, .slice none 0 0, .slice none 0 0, .int .i64 0, .int .i64 0, .int .i64 0] 36)).heap[w'.heap.size]? = some (.cells fs0 36 (0, 0)) := Array.getElem?_push_size
      have hb8 : Below w'.heap.size w' (w'.alloc (.cells #[.slice none 0 0, .slice none 0 0, .slice none 0 0, .slice none 0 0, .int .i64 0, .int .i64 0, .int .i64 0] 36)) := (Below.refl _ w').alloc (Nat.le_refl _) _
      have ho7 := hF7.r.one
      go_upto_region 19 with (first
        | (refine wp_loadFS hLh rfl _ rfl rfl hcs ?_)
        | (refine wp_storeFS hB8 rfl _ _ rfl rfl rfl rfl hcs ho7 ?_; intro w8 h8 hg8))
      have HSo := Lib.hid hF7.o
      obtain ⟨G, E8, hL, hX, hFK⟩ := hF7.fork hb8 (by simp) hB8 h8 hg8
      have HFK := Lib.hid hFK
      have hL := (⟨cs, E8, hL, hX⟩ : ∃ cs E, LV w0 w8 p w'.heap.size S (0 + 3 * os.length) cs E ∧ Kp G w8 w'.heap.size E w8)
      have HCS := Lib.hid hcs
      clear hF7 hFK hX hB8 hb8 h8 hg8 ho7 hLh hcs hd hjl hj
      generalize w'.heap.size = bx at *
      obtain ⟨N8, hN8⟩ : ∃ N8, N8 = 0 + 3 * os.length := ⟨_, rfl⟩
      rw [← hN8] at hL HFK
      have hN8b : N8 ≤ 3 * 1048576 := by omega
      clear hN8 hsW HOK
      go_wp2_with fail
      go_loopw [61] (fun iv wx => ∃ (j : Nat) (cs : Array Value) (E : Nat → Prop), j ≤ ms.length ∧ iv = .int .i64 j ∧ LV w0 wx p bx (run S ms j) (N8 + 3 * j) cs E ∧ Kp G w8 bx E wx) (fun iv _ => (ms.length - intOf iv).toNat)
      case atStart =>
        obtain ⟨cs, E, hL, hX⟩ := hL
        exact ⟨0, cs, E, Nat.zero_le _, rfl, by rw [run_zero]; exact hL, hX⟩
      case round =>
        clear hL
        obtain ⟨j, cs, E, hj, rfl, hL, hX⟩ := hrel
        by_cases hjl : j < ms.length
        · have hd : decide ((j : Int) < (ms.length : Int)) = true := decide_eq_true (by omega)
          have HRS := Lib.hid (run_step S ms j hjl)
          have hoj := HOM.out _ (List.getElem_mem hjl)
          obtain ⟨ab, ao, rfl, hab, hcel⟩ := (hmW.below hL.v.out).at (k := j * 6) (by rw [opRow_len]; omega)
          have far : ∀ i u, i < 6 → (opCells ms[j])[i]? = some u → wr.cell? ⟨ab, ao + j * 6 + i, none⟩ = some u := fun i u hi hu => by
            have h1 := opRow_at ms j hjl i hi
            rw [hu] at h1
            obtain ⟨h2, h3⟩ := List.getElem?_eq_some_iff.1 h1
            rw [Nat.add_assoc, hcel _ h2, h3]
          have q0 : wr.cell? ⟨ab, ao + j * 6, none⟩ = some (.int .i64 ms[j].kind) := far 0 _ (by omega) rfl
          have q1 : wr.cell? ⟨ab, ao + j * 6 + 1, none⟩ = some (.string ms[j].name) := far 1 _ (by omega) rfl
          have q2 : wr.cell? ⟨ab, ao + j * 6 + 2, none⟩ = some (.string ms[j].dst) := far 2 _ (by omega) rfl
          have q3 : wr.cell? ⟨ab, ao + j * 6 + 3, none⟩ = some (.slice ms[j].da ms[j].data.size ms[j].dc) := far 3 _ (by omega) rfl
          have q4 : wr.cell? ⟨ab, ao + j * 6 + 4, none⟩ = some (.int .i64 ms[j].n) := far 4 _ (by omega) rfl
          have q5 : wr.cell? ⟨ab, ao + j * 6 + 5, none⟩ = some (.int .i64 ms[j].m) := far 5 _ (by omega) rfl
          have b1 : (0 : Int) ≤ (j : Int) := by omega
          have b2 : (j : Int) < ms.length := by omega
          have hw : IntKind.i64.wrap ((j : Int) + 1) = (j : Int) + 1 := IntWalk.i64_in _ (by omega)
          generalize ms[j] = o at *
          clear far hcel
          go_upto_region 22 with fail
          have hbA : Below wr.heap.size wr (wr.alloc (.cells #[.int .i64 o.kind, .string o.name, .string o.dst, .slice o.da o.data.size o.dc, .int .i64 o.n, .int .i64 o.m] 96)) := (Below.refl _ wr).alloc (Nat.le_refl _) _
          have hO : (wr.alloc (.cells #[.int .i64 o.kind, .string o.name, .string o.dst, .slice o.da o.data.size o.dc, .int .i64 o.n, .int .i64 o.m] 96)).heap[wr.heap.size]? = some (.cells (opCells o) 96 (0, 0)) := Array.getElem?_push_size
          have hL1 := hL.below hbA
          have hX1 := hX.below (fun k hk => hL.v.lt hk) hbA
          have HST := Lib.hid (lawstep_c hL1.v hL1.r o hoj (by omega))
          have hcs := hL1.r.size
          have hSo := So.stepO hL1.o o
          have hLh := hL1.h
          have hLe := hL1.e
          generalize wr.alloc (.cells #[.int .i64 o.kind, .string o.name, .string o.dst, .slice o.da o.data.size o.dc, .int .i64 o.n, .int .i64 o.m] 96) = W1 at *
          clear hL hX
          go_upto_region 23 with (first
            | (refine wp_loadFS hLh rfl _ rfl rfl hcs ?_)
            | (refine wp_loadOp hO rfl _ rfl rfl ?_)
            | (go_at_call 52; refine HST.out.mono ?_; rintro e w4 ⟨cs4, E4, rfl, hsub4, hv4, hr4, hk4⟩; have hX4 := hX1.step hsub4 hk4; have hB4 := (hk4 _ hLe).trans hLh; have hs4 := hr4.size; have ho4 := hr4.one)
            | (refine wp_storeFS hB4 rfl _ _ rfl rfl rfl hcs hs4 ho4 ?_; intro w5 h5 hg5; have hL5 := LV.put hv4 hr4 hSo (hsub4 _ hLe) hB4 h5 hg5; have hX5 := hX4.put (fun k hk => hv4.lt hk) hg5))
          have HX5 := Lib.hid hX5
          have HL5 : Hid (LV w0 w5 p bx (run S ms (j + 1)) (N8 + 3 * (j + 1)) cs4 E4) := by
            have := hL5
            rw [← HRS.out] at this
            exact this
          clear hX1 hX4 hX5 HST hLh hLe hO hL1 hv4 hr4 hk4 hB4 hSo h5 hg5 hcs q0 q1 q2 q3 q4 q5 hL5 HRS
          go_wp2_with fail
          go_roundw
          case rel => exact ⟨j + 1, _, _, by omega, by go_num, HL5.out, HX5.out⟩
          case measure => simp [intOf]; omega
        · obtain rfl : j = ms.length := by omega
          have hd : decide ((ms.length : Int) < (ms.length : Int)) = false := decide_eq_false (by omega)
          generalize run S ms ms.length = T at *
          have hK := HFK.out.move hX.k
          have hcs := HCS.out
          have hKh := hK.h
          have HSM := Lib.hid (same_c hK.f hK.r (fork_same S) (srt_fork HSo.out.n))
          clear hK hX HFK HCS HSo
          go_upto_region 24 with fail
          go_wp2_with (first
            | (refine wp_loadFSg hKh rfl _ rfl rfl hcs ?_)
            | (go_at_call 53; refine HSM.out.mono ?_; rintro e w9 ⟨rfl, hb9⟩; have hL9 := hL.below hb9; obtain ⟨K9, hrep9⟩ := hL9.rep; have hLh9 := hL9.h; have hcs9 := hL9.r.size; have HS9 := Lib.hid (same_c hrep9 hL9.r (SameFS.cl _) hL9.o.n); have hout9 := hL9.v.out; clear hL9 hrep9 HSM)
            | (refine wp_loadFSg hLh9 rfl _ rfl rfl hcs9 ?_)
            | (go_at_call 53; refine HS9.out.mono ?_; rintro e w10 ⟨rfl, hb10⟩))
          go_ret
          exact ⟨rfl, hb0.trans ((hout9.trans (hb10.mono hout9.size)).mono hb0.size)⟩
end Go.Proofs.YtfoamcobpfflbaaDoor
namespace Go.Proofs.YtfoamcobpfflbaaDoor.vfsForks
open Go.ChangeShapes Go.WideShapes Go.ChangeAt Go.RowKit
open Go.WideMaps Go.WideElems
open Go.ChangeMaps (open_string shut_string)

theorem reads (os : Os) {H : Type} (enc : TypeId × Value → H) : ∃ places, DataW.whole enc Tryd.prog ((laidWorld os).forCall (fun _ _ => 0) ⟨#[], #[Value.slice none 0 0, .slice none 0 0], []⟩).memory Tryd.f12.params.toList Rows.vfsForksSpec.vars false (#[Value.slice none 0 0, .slice none 0 0] : Array Value).toList 8 = some ([.nil, .nil], [], places) :=
  ⟨[], by kernel_rfl⟩

set_option maxRecDepth 100000 in
theorem contract (H : Type) (enc : TypeId × Value → H) (W : World) (base : Nat) (args : Array Value) (ds : List (DataW H)) (p : List MemPlace)
    (hval : ∀ (j : Nat) t v, Tryd.f12.params[j]? = some t → args[j]? = some v → Value.okWide Tryd.prog W .any base t v)
    (hA : DataW.TrodAll enc Tryd.prog W 0 (fun _ => true) true Tryd.f12.params.toList args.toList ds p) (hk : Rows.uptoSmall H ds = true) (_hL : laidMetH Tryd.prog Rows.vfsForksUptoRow.laid W) (hshape : W.ShapedOpen Tryd.prog) :
    Calls Tryd.prog 12 args W fun e W' => e = .returned (.bool true) ∧ Below W.heap.size W W' := by
  rw [Tryd.params12] at hA hval
  obtain ⟨v0, vs0, d0, ds0, p0, q0, hargs0, rfl, rfl, h0, r0⟩ := trodAll_cons hA
  obtain ⟨v1, vs1, d1, ds1, p1, q1, hargs1, rfl, rfl, h1, r1⟩ := trodAll_cons r0
  obtain ⟨rfl, rfl, rfl⟩ := trodAll_nil r1
  rw [hargs1] at hargs0
  obtain rfl : args = #[v0, v1] := by cases args; simp_all
  have k0 := bulk_mem hk (d := d0) (by simp)
  obtain ⟨a0, c0, x0, rfl, sl0, l0, z0⟩ := open_ops (hval 0 94 v0 rfl rfl) h0 k0
  have k1 := bulk_mem hk (d := d1) (by simp)
  obtain ⟨a1, c1, x1, rfl, sl1, l1, z1⟩ := open_ops (hval 1 94 v1 rfl rfl) h1 k1
  exact lawForks_c a0 c0 x0 a1 c1 x1 W (gl_of_shaped hshape) sl0 l0 z0 sl1 l1 z1

set_option maxRecDepth 100000 in
theorem lifted (os : Os) (started : os.Started) (H : Type) (enc : TypeId × Value → H) (F : Stop.Interp) :
    ReturnsInHanded {} Tryd.checked os 12 .any ((Rows.OpenSpec.upto Rows.vfsForksSpec).preRow enc Tryd.prog Tryd.f12 Rows.vfsForksUptoRow.domain false Rows.vfsForksUptoRow.laid) (((Rows.OpenSpec.upto Rows.vfsForksSpec).at F).post enc Tryd.prog Tryd.f12 false true false false) := by
  obtain ⟨places, hx⟩ := reads os enc
  refine law_lifted (laid := Rows.vfsForksUptoRow.laid) started Tryd.func12 (by kernel_rfl) rfl rfl ?_ (by kernel_rfl) ?_ ?_ ?_
  · intro ds h
    match ds, h with
    | [_, _], _ => rfl
  · rw [Tryd.params12]
    intro t ht
    have ht : t ∈ [94, 94] := ht
    simp only [List.mem_cons, List.mem_nil_iff, or_false] at ht
    rcases ht with rfl | rfl <;> exact ⟨by kernel_rfl, of_decide_eq_true (by kernel_rfl)⟩
  · exact witness_row_at (enc := enc) (C := Tryd.checked) false (laidWorld os) #[Value.slice none 0 0, .slice none 0 0] rfl (by kernel_rfl) (by kernel_rfl) (by kernel_rfl)
      (OpenSpec.preRow_of_cond 8 hx (by kernel_rfl) (fun k hk => by cases hk; kernel_rfl) (by kernel_rfl) (laid_met os _))
  · exact contract H enc

theorem saidUpto : Rows.VfsForksUptoSaid :=
  OpenClaim.holds_of_cond 12 Tryd.f12 rfl rfl rfl rfl rfl rfl rfl ⟨rfl, rfl, rfl, rfl, rfl⟩ rfl rfl rfl rfl rfl (by kernel_rfl) Tryd.func12 (by kernel_rfl)
    (of_decide_eq_true (by kernel_rfl)) (by unfold Func.isWrapper; rw [if_neg (by decide +kernel)]; exact ⟨rfl, rfl⟩)
    (fun os started H enc _ F => by rw [OpenClaim.pre_eq_preRow]; exact lifted os started H enc F)

theorem plain (f : FuncId) (fn : Func) (hf : Tryd.pinned.checked.prog.funcNamed "towline/towlinelaw14.VfsForks" = some f) (hfn : Tryd.pinned.checked.prog.funcs[f]? = some fn) :
    false = Tryd.pinned.checked.prog.looks [] ∧ ∀ (j : Nat) t, fn.params[j]? = some t → Tryd.pinned.checked.prog.wantsStandIn t = false := by
  obtain rfl : f = 12 := Option.some.inj ((show Tryd.prog.funcNamed "towline/towlinelaw14.VfsForks" = some 12 by kernel_rfl).symm.trans hf) |>.symm
  obtain rfl : fn = Tryd.f12 := (Option.some.inj (Tryd.func12.symm.trans hfn)).symm
  refine ⟨by kernel_rfl, fun j t ht => ?_⟩
  rw [Tryd.params12] at ht
  have ht : t ∈ [94, 94] := by simpa using Array.mem_of_getElem? ht
  simp only [List.mem_cons, List.mem_nil_iff, or_false] at ht
  rcases ht with rfl | rfl <;> exact (show Tryd.prog.wantsStandIn _ = false by kernel_rfl)

theorem cardUpto : Rows.VfsForksUptoCardSaid :=
  Claim7.holds_tied_plain_at .later [] _ _ _ _ saidUpto (fun _ h => by cases h) (by kernel_rfl) (fun _ h => by cases h) vfsForksUpto_row_tie rfl ⟨rfl, rfl⟩ (by kernel_rfl) rfl plain (by kernel_rfl)
end Go.Proofs.YtfoamcobpfflbaaDoor.vfsForks
