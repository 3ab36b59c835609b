/- Texts of mine, joined: Walk: a block taken in. -/
import Derived.Test.YtfoamcobpfflbaaDoorZ8
namespace Go.Proofs.YtfoamcobpfflbaaDoor
open Go Go.RowKit

/-- Bytes as cells. -/
def nb (l : List Nat) : List Value := l.map fun x : Nat => Value.int .u8 x
theorem nb_len (l : List Nat) : (nb l).length = l.length := by simp [nb]
theorem nb_at {l : List Nat} {i : Nat} (h : i < l.length) : (nb l)[i]? = some (.int .u8 (Sha.byteAt l i)) := by
  unfold nb Sha.byteAt
  rw [List.getElem?_map, List.getD_eq_getElem?_getD, List.getElem?_eq_getElem h]; rfl

/-- The schedule's array, a new block; nothing old has turned. -/
structure WA (w wr : World) (f : Nat → Nat) : Prop where
  b : Below w.heap.size w wr
  a : ∃ cs, ArrF wr w.heap.size 160 .u32 64 cs f
theorem WA.c {w wr : World} {f : Nat → Nat} (h : WA w wr f) (i : Nat) (hi : i < 64) : wr.cell? ⟨w.heap.size, i, none⟩ = some (.int .u32 (f i)) := by obtain ⟨cs, h⟩ := h.a; exact h.c i hi
theorem WA.fz {w wr : World} {f : Nat → Nat} (h : WA w wr f) (i : Nat) : wr.frozen? ⟨w.heap.size, i, none⟩ = false := by obtain ⟨cs, h⟩ := h.a; exact h.fz i
theorem WA.set {w wr : World} {f : Nat → Nat} (h : WA w wr f) (j v : Nat) : WA w (wr.setCell ⟨w.heap.size, j, none⟩ (.int .u32 v)) (Sha.upd f j v) := by
  obtain ⟨cs, ha⟩ := h.a
  obtain ⟨h1, h2⟩ := ha.set j v
  exact ⟨h.b.grown h2 h.b.size (fun k e => by injection e with e; omega), ⟨_, h1⟩⟩
theorem WA.set' {w wr : World} {f : Nat → Nat} (h : WA w wr f) (j : Nat) (z : Int) (v : Nat) (hz : z = v) : WA w (wr.setCell ⟨w.heap.size, j, none⟩ (.int .u32 z)) (Sha.upd f j v) := by subst hz; exact h.set j v
theorem WA.drewN {w wr : World} {f : Nat → Nat} (h : WA w wr f) (q : Nat) : WA w (wr.drewN q) f := ⟨below_dN h.b q, by obtain ⟨cs, ha⟩ := h.a; exact ⟨cs, ha.h, ha.sz, ha.at_⟩⟩
theorem WA.congr {w wr : World} {f g : Nat → Nat} (h : WA w wr f) (e : ∀ i, f i = g i) : WA w wr g := by rw [← show f = g from funext e]; exact h
theorem WA.start (w : World) (cs : Array Value) (h : cs = nums .u32 (List.replicate 64 0)) : WA w (w.alloc (.cells cs 160)) (fun _ => 0) := by
  subst h
  exact ⟨(Below.refl _ w).alloc (Nat.le_refl _) _, ⟨_, (arr_nums (List.replicate 64 0) Array.getElem?_push_size).congr fun i hi => by rw [List.getD_eq_getElem?_getD, List.getElem?_eq_getElem hi, List.getElem_replicate]; rfl⟩⟩

/-- The schedule and the state's copy. -/
structure RA (w wx : World) (bv : Nat) (S f : Nat → Nat) : Prop where
  b : Below w.heap.size w wx
  a : ∃ cs, ArrF wx w.heap.size 160 .u32 64 cs S
  v : ∃ cs, ArrF wx bv 145 .u32 8 cs f
  lo : w.heap.size < bv
theorem RA.cw {w wx : World} {bv : Nat} {S f : Nat → Nat} (h : RA w wx bv S f) (i : Nat) (hi : i < 64) : wx.cell? ⟨w.heap.size, i, none⟩ = some (.int .u32 (S i)) := by obtain ⟨cs, h⟩ := h.a; exact h.c i hi
theorem RA.cv {w wx : World} {bv : Nat} {S f : Nat → Nat} (h : RA w wx bv S f) (i : Nat) (hi : i < 8) : wx.cell? ⟨bv, i, none⟩ = some (.int .u32 (f i)) := by obtain ⟨cs, h⟩ := h.v; exact h.c i hi
theorem RA.fz {w wx : World} {bv : Nat} {S f : Nat → Nat} (h : RA w wx bv S f) (i : Nat) : wx.frozen? ⟨bv, i, none⟩ = false := by obtain ⟨cs, h⟩ := h.v; exact h.fz i
theorem RA.drewN {w wx : World} {bv : Nat} {S f : Nat → Nat} (h : RA w wx bv S f) (q : Nat) : RA w (wx.drewN q) bv S f := ⟨below_dN h.b q, by obtain ⟨cs, ha⟩ := h.a; exact ⟨cs, ha.h, ha.sz, ha.at_⟩, by obtain ⟨cs, ha⟩ := h.v; exact ⟨cs, ha.h, ha.sz, ha.at_⟩, h.lo⟩
theorem RA.set {w wx : World} {bv : Nat} {S f : Nat → Nat} (h : RA w wx bv S f) (j : Nat) (z : Int) (v : Nat) (hz : z = v) : RA w (wx.setCell ⟨bv, j, none⟩ (.int .u32 z)) bv S (Sha.upd f j v) := by
  subst hz
  obtain ⟨cs, ha⟩ := h.a
  obtain ⟨cv, hv⟩ := h.v
  have hlo := h.lo
  obtain ⟨h1, h2⟩ := hv.set j v
  exact ⟨h.b.grown h2 h.b.size (fun k e => by injection e with e; omega), ⟨cs, ha.kept h2 (fun e => by injection e; omega)⟩, ⟨_, h1⟩, h.lo⟩
theorem RA.congr {w wx : World} {bv : Nat} {S f g : Nat → Nat} (h : RA w wx bv S f) (e : ∀ i, i < 8 → f i = g i) : RA w wx bv S g := ⟨h.b, h.a, by obtain ⟨cs, hv⟩ := h.v; exact ⟨cs, hv.congr e⟩, h.lo⟩
/-- 'copy(v[1:], v[:7])'. -/
theorem RA.copy {w wx : World} {bv : Nat} {S f : Nat → Nat} (h : RA w wx bv S f) (ty : TypeId) : ∃ w', (Builtin.copy_ #[163, 163] ty #[.slice (some ⟨bv, 1, none⟩) 7 7, .slice (some ⟨bv, 0, none⟩) 7 8]).run Tryd.prog wx = .ok (goInt 7) w' ∧ RA w w' bv S (fun i => if i = 0 then f 0 else f (i - 1)) := by
  obtain ⟨cs, ha⟩ := h.a
  obtain ⟨cv, hv⟩ := h.v
  have hlo := h.lo
  have hl : ((List.range 7).map fun i => Value.int .u32 (f i)).length = 7 := by simp
  have hat : ∀ j, j < 7 → ((List.range 7).map fun i => Value.int .u32 (f i))[j]? = some (.int .u32 (f j)) := fun j hj => by rw [List.getElem?_map, List.getElem?_range hj]; rfl
  have hrun := run_copy_cells (P := Tryd.prog) wx 163 163 ty 143 bv 1 7 7 ⟨bv, 0, none⟩ 7 8 ((List.range 7).map fun i => Value.int .u32 (f i)) Tryd.underlying163 (by kernel_rfl) hl
    (fun j v hj => by
      have hj7 : j < 7 := by have := (List.getElem?_eq_some_iff.1 hj).1; rw [hl] at this; exact this
      rw [hat j hj7] at hj; injection hj with hj; subst hj
      rw [Addr.add_mid, Nat.zero_add]; exact hv.c j (by omega))
    (fun j hj => by rw [hl] at hj; rw [hv.c (1 + j) (by omega)]; rfl) (fun j _ => hv.fz _) (fun v hm => by obtain ⟨i, -, rfl⟩ := List.mem_map.1 hm; rfl)
  rw [hl] at hrun
  obtain ⟨cur', k1, k2, k3⟩ := setCells_block bv ((List.range 7).map fun i => Value.int .u32 (f i)) 1 wx cv _ _ hv.h (by rw [hl, hv.sz]; omega)
  have hg := setCells_grown wx bv 1 ((List.range 7).map fun i => Value.int .u32 (f i))
  refine ⟨_, hrun, h.b.grown hg h.b.size (fun k e => by injection e with e; omega), ⟨cs, ha.kept hg (fun e => by injection e; omega)⟩, ⟨cur', k1, by rw [k2, hv.sz], fun i hi => ?_⟩, h.lo⟩
  rw [k3, hl]
  by_cases h0 : i = 0
  · subst h0
    rw [if_neg (by omega), hv.at_ 0 (by omega)]; rfl
  · rw [if_pos (by omega), hat _ (by omega), if_neg h0]

theorem wp_copyV {ops : Array Oper} {rest : List Oper} {op : Oper} {act : Act} {Q : Exit → Act → World → Prop} {w wx : World} {bv : Nat} {S f : Nat → Nat} (h : RA w wx bv S f) (hgd : op.guard = none) (x y : Operand) (hop : op.op = Op.call { callee := Callee.builtin Builtin.copy, args := #[x, y], argTypes := #[163, 163] })
    (hx : act.eval x = .slice (some ⟨bv, 1, none⟩) 7 7) (hy : act.eval y = .slice (some ⟨bv, 0, none⟩) 7 8) (K : ∀ w', RA w w' bv S (fun i => if i = 0 then f 0 else f (i - 1)) → wpList Tryd.prog ops Q rest (act.put op.dst (goInt 7)) w') : wpList Tryd.prog ops Q (op :: rest) act wx := by
  refine wpList_plain hgd fun K' hK' => ?_
  obtain ⟨w', hrun, r1⟩ := h.copy op.type
  unfold Oper.wp
  simp [execOp, hop, resolve, invoke, builtin, hx, hy, hrun, Result.andThen]
  exact hK' _ _ (K w' r1)

theorem wrap_u32i (z : Int) : IntKind.u32.wrap z = z % 4294967296 := by simp [IntKind.wrap, IntKind.bits, IntKind.signed]

theorem not_u32 (e : Nat) (he : e < 4294967296) : bits .xor .u32 (if IntKind.u32.signed = true then -1 else IntKind.u32.max) (e : Int) = ((4294967295 - e : Nat) : Int) := by
  rw [if_neg (by decide)]
  have h1 : (BitVec.ofInt 32 (e : Int)).toNat = e := by
    rw [BitVec.ofInt_natCast, BitVec.toNat_ofNat]; exact Nat.mod_eq_of_lt (by omega)
  have h2 : BitVec.ofInt 32 IntKind.u32.max = BitVec.allOnes 32 := by decide
  show IntKind.u32.wrap ((BitVec.ofInt 32 IntKind.u32.max ^^^ BitVec.ofInt 32 (e : Int)).toNat : Int) = _
  rw [h2, BitVec.allOnes_xor, BitVec.toNat_not, h1, wrap_u32n, Nat.mod_eq_of_lt (by omega)]

/-- The state's own block, the others as they were. -/
structure DA (w wx : World) (p bv : Nat) (F f : Nat → Nat) : Prop where
  o : Only (fun k => k = p) w wx
  s : ∃ cs, ArrF wx p 145 .u32 8 cs F
  v : ∃ cs, ArrF wx bv 145 .u32 8 cs f
  ne : p ≠ bv
theorem DA.cs {w wx : World} {p bv : Nat} {F f : Nat → Nat} (h : DA w wx p bv F f) (i : Nat) (hi : i < 8) : wx.cell? ⟨p, i, none⟩ = some (.int .u32 (F i)) := by obtain ⟨cs, h⟩ := h.s; exact h.c i hi
theorem DA.cv {w wx : World} {p bv : Nat} {F f : Nat → Nat} (h : DA w wx p bv F f) (i : Nat) (hi : i < 8) : wx.cell? ⟨bv, i, none⟩ = some (.int .u32 (f i)) := by obtain ⟨cs, h⟩ := h.v; exact h.c i hi
theorem DA.fz {w wx : World} {p bv : Nat} {F f : Nat → Nat} (h : DA w wx p bv F f) (i : Nat) : wx.frozen? ⟨p, i, none⟩ = false := by obtain ⟨cs, h⟩ := h.s; exact h.fz i
theorem DA.drewN {w wx : World} {p bv : Nat} {F f : Nat → Nat} (h : DA w wx p bv F f) (q : Nat) : DA w (wx.drewN q) p bv F f := ⟨h.o.drewN q, by obtain ⟨cs, ha⟩ := h.s; exact ⟨cs, ha.h, ha.sz, ha.at_⟩, by obtain ⟨cs, ha⟩ := h.v; exact ⟨cs, ha.h, ha.sz, ha.at_⟩, h.ne⟩
theorem DA.set {w wx : World} {p bv : Nat} {F f : Nat → Nat} (h : DA w wx p bv F f) (j : Nat) (z : Int) (v : Nat) (hz : z = v) : DA w (wx.setCell ⟨p, j, none⟩ (.int .u32 z)) p bv (Sha.upd F j v) f := by
  subst hz
  obtain ⟨cs, ha⟩ := h.s
  obtain ⟨cv, hv⟩ := h.v
  obtain ⟨h1, h2⟩ := ha.set j v
  exact ⟨h.o.trans' (Only.of_grown h2 fun k e => by injection e with e; exact e.symm), ⟨_, h1⟩, ⟨cv, hv.kept h2 (fun e => by injection e with e; exact h.ne e.symm)⟩, h.ne⟩
theorem DA.congr {w wx : World} {p bv : Nat} {F G f : Nat → Nat} (h : DA w wx p bv F f) (e : ∀ i, i < 8 → F i = G i) : DA w wx p bv G f := ⟨h.o, by obtain ⟨cs, hv⟩ := h.s; exact ⟨cs, hv.congr e⟩, h.v, h.ne⟩

set_option maxRecDepth 100000 in
set_option maxHeartbeats 2000000 in
theorem block_c {w : World} {p : Nat} {h : Nat → Nat} {cs : Array Value} (hs : ArrF w p 145 .u32 8 cs h) (hbd : Sha.Bd h) {a : Option Addr} {c : Nat} {l : List Nat} (hl : Sl w a (nb l)) (h64 : 64 ≤ l.length) (hlc : l.length ≤ c) (hb : ∀ x ∈ l, x < 256) :
    Calls Tryd.prog 78 #[.pointer (some ⟨p, 0, none⟩), .slice a l.length c] w fun e w' => e = .returned (.tuple #[]) ∧ (∃ cs', ArrF w' p 145 .u32 8 cs' (Sha.blk h (Sha.byteAt l))) ∧ Only (fun k => k = p) w w' := by
  obtain ⟨g, o, rfl, hg, hcel⟩ := hl.at (k := 0) (by rw [nb_len]; omega)
  go_enter Tryd.func78, Tryd.ntmps78
  go_upto_region 2 with fail
  have hA := fun cs h => WA.start w cs h
  go_loopw [19] (fun iv wx => ∃ i : Nat, i ≤ 16 ∧ iv = .int .i64 i ∧ WA w wx (Sha.sched (Sha.byteAt l) i)) (fun iv _ => (16 - intOf iv).toNat)
  case atStart => exact ⟨0, by omega, rfl, hA _ rfl⟩
  case round =>
    clear hA
    obtain ⟨i, hi, rfl, hW⟩ := hrel
    by_cases hi2 : i < 16
    · have hd : decide ((i : Int) < 16) = true := decide_eq_true (by omega)
      have w4 : IntKind.i64.wrap (4 * (i : Int)) = ((4 * i : Nat) : Int) := by rw [IntWalk.i64_in _ (by omega)]; omega
      have w5 : IntKind.i64.wrap (((4 * i : Nat) : Int) + 4) = ((4 * i + 4 : Nat) : Int) := by rw [IntWalk.i64_in _ (by omega)]; omega
      have b1 : 4 * i ≤ 4 * i + 4 := by omega
      have b2 : 4 * i + 4 ≤ c := by omega
      have b3 : ¬ c = 4 * i := by omega
      go_upto_region 5 with fail
      go_loopw [30] (fun iv wx => ∃ j : Nat, j ≤ 4 ∧ iv = .int .i64 j ∧ WA w wx (Sha.upd (Sha.sched (Sha.byteAt l) i) i (Sha.wrd (Sha.byteAt l) i j))) (fun iv _ => (4 - intOf iv).toNat)
      case atStart => exact ⟨0, by omega, rfl, hW.congr fun z => by unfold Sha.upd; split; · subst z; exact Sha.sched_zero _ _ _ (Nat.le_refl _)
                                                                    · rfl⟩
      case round =>
        obtain ⟨j, hj, rfl, hW2⟩ := hrel
        by_cases hj2 : j < 4
        · have hd2 : decide ((j : Int) < 4) = true := decide_eq_true (by omega)
          have hcj : wr.cell? ⟨g, o + 4 * i + j, none⟩ = some (.int .u8 (Sha.byteAt l (4 * i + j))) := by
            rw [Nat.add_assoc]
            have h2 := nb_at (l := l) (i := 4 * i + j) (by omega)
            obtain ⟨h3, h4⟩ := List.getElem?_eq_some_iff.1 h2
            have h5 := hcel _ h3
            rw [h4] at h5
            exact (hW2.b.cell (p := ⟨g, _, none⟩) hg).trans h5
          have hci : wr.cell? ⟨w.heap.size, i, none⟩ = some (.int .u32 (Sha.wrd (Sha.byteAt l) i j)) := by
            rw [hW2.c i (by omega)]; unfold Sha.upd; rw [if_pos rfl]
          have hfi := hW2.fz i
          have hby : ∀ k, Sha.byteAt l k < 256 := Sha.byteAt_lt hb
          have hv := Sha.wrd_lt hby i j
          have hv2 : 256 ^ j ≤ 256 ^ 3 := Nat.pow_le_pow_right (by omega) (by omega)
          have hy := hby (4 * i + j)
          have hor : bits .or .u32 ((Sha.wrd (Sha.byteAt l) i j : Int) * 256 % 4294967296) ((Sha.byteAt l (4 * i + j) : Nat) : Int) = ((Sha.wrd (Sha.byteAt l) i (j + 1) : Nat) : Int) := by
            show _ = ((Sha.wrd (Sha.byteAt l) i j * 256 + Sha.byteAt l (4 * i + j) : Nat) : Int)
            generalize Sha.wrd (Sha.byteAt l) i j = v at *
            generalize Sha.byteAt l (4 * i + j) = y at *
            rw [show (v : Int) * 256 % 4294967296 = ((2 ^ 8 * v : Nat) : Int) by omega, (bits_u32 _ _ (by omega) (by omega)).2.2, ← Nat.two_pow_add_eq_or_of_lt (by omega)]
            congr 1; omega
          have hwy : IntKind.u32.wrap ((Sha.byteAt l (4 * i + j) : Nat) : Int) = ((Sha.byteAt l (4 * i + j) : Nat) : Int) := by rw [wrap_u32n, Nat.mod_eq_of_lt (by omega)]
          have hset := Lib.hid (hW2.set i (Sha.wrd (Sha.byteAt l) i (j + 1)))
          have hw1 : IntKind.i64.wrap ((j : Int) + 1) = (j : Int) + 1 := IntWalk.i64_in _ (by omega)
          generalize Sha.wrd (Sha.byteAt l) i j = v at *
          generalize Sha.byteAt l (4 * i + j) = y at *
          clear hW2 hv hv2 hby hW
          go_wp2_with fail
          go_roundw
          case rel => exact ⟨j + 1, by omega, by go_num, hset.out.congr fun z => by unfold Sha.upd; split <;> rfl⟩
          case measure => simp [intOf]; omega
        · have hd2 : decide ((j : Int) < 4) = false := decide_eq_false (by omega)
          obtain rfl : j = 4 := by omega
          have hw1 : IntKind.i64.wrap ((i : Int) + 1) = (i : Int) + 1 := IntWalk.i64_in _ (by omega)
          have HW2 : Hid (WA w wr (Sha.sched (Sha.byteAt l) (i + 1))) := hW2.congr fun z => by
            show _ = Sha.upd (Sha.sched (Sha.byteAt l) i) i (if i < 16 then Sha.wrd (Sha.byteAt l) i 4 else _) z
            rw [if_pos hi2]
          clear hW2 hW
          go_wp2_with fail
          go_roundw
          case rel => exact ⟨i + 1, by omega, by go_num, HW2.out⟩
          case measure => simp [intOf]; omega
    · have hd : decide ((i : Int) < 16) = false := decide_eq_false (by omega)
      have h16 : i = 16 := by omega
      have hW := (show WA w wr (Sha.sched (Sha.byteAt l) 16) from h16 ▸ hW)
      clear hi hi2 h16
      go_wp2_with fail
      go_loopw [8] (fun iv wx => ∃ i : Nat, 16 ≤ i ∧ i ≤ 64 ∧ iv = .int .i64 i ∧ WA w wx (Sha.sched (Sha.byteAt l) i)) (fun iv _ => (64 - intOf iv).toNat)
      case atStart => exact ⟨16, by omega, by omega, rfl, hW⟩
      case round =>
        clear hW
        obtain ⟨i, hi0, hi, rfl, hW⟩ := hrel
        have hd0 := hd
        clear hd
        by_cases hi2 : i < 64
        · have hd : decide ((i : Int) < 64) = true := decide_eq_true (by omega)
          have x15 : IntKind.i64.wrap ((i : Int) - 15) = ((i - 15 : Nat) : Int) := by rw [IntWalk.i64_in _ (by omega)]; omega
          have x2 : IntKind.i64.wrap ((i : Int) - 2) = ((i - 2 : Nat) : Int) := by rw [IntWalk.i64_in _ (by omega)]; omega
          have x16 : IntKind.i64.wrap ((i : Int) - 16) = ((i - 16 : Nat) : Int) := by rw [IntWalk.i64_in _ (by omega)]; omega
          have x7 : IntKind.i64.wrap ((i : Int) - 7) = ((i - 7 : Nat) : Int) := by rw [IntWalk.i64_in _ (by omega)]; omega
          have c15 := hW.c (i - 15) (by omega)
          have c2 := hW.c (i - 2) (by omega)
          have c16 := hW.c (i - 16) (by omega)
          have c7 := hW.c (i - 7) (by omega)
          have l1 : i - 15 < 64 := by omega
          have l2 : i - 2 < 64 := by omega
          have l3 : i - 16 < 64 := by omega
          have l4 : i - 7 < 64 := by omega
          have HBD := Lib.hid (Sha.sched_bd (Sha.byteAt_lt hb) i)
          go_wp2_with fail
          go_quiet (fail)
          go_upto_region 14 with fail
          have HNEW : Hid (Sha.wnew (Sha.sched (Sha.byteAt l) i) i = (Sha.sched (Sha.byteAt l) i (i - 16) + Sha.sched (Sha.byteAt l) i (i - 7) + Sha.sg0 (Sha.sched (Sha.byteAt l) i (i - 15)) + Sha.sg1 (Sha.sched (Sha.byteAt l) i (i - 2))) % 4294967296) := rfl
          have hx := HBD.out (i - 15)
          have hy := HBD.out (i - 2)
          have hWd := hW.drewN nq
          clear hW c15 c2 c16 c7
          generalize wr.drewN nq = W at *
          have c16 := hWd.c (i - 16) (by omega)
          have c7 := hWd.c (i - 7) (by omega)
          have fz := hWd.fz i
          have ci := hWd.c i hi2
          have m3 : ((i - 16 : Nat) : Int) < 64 := by omega
          have m4 : ((i - 7 : Nat) : Int) < 64 := by omega
          have m5 : (i : Int) < 64 := by omega
          have HWD := Lib.hid hWd
          clear hWd
          generalize Sha.sched (Sha.byteAt l) i (i - 15) = x at *
          generalize Sha.sched (Sha.byteAt l) i (i - 2) = y at *
          generalize Sha.sched (Sha.byteAt l) i (i - 16) = u at *
          generalize Sha.sched (Sha.byteAt l) i (i - 7) = v at *
          have R : ∀ (x : Nat), x < 4294967296 → ∀ n : Nat, 0 < n ∧ n < 32 → ∀ q, Calls Tryd.prog 91 #[.int .u32 x, .int .i64 (-(n : Int))] (W.drewN (1 + q)) fun e w' => e = .returned (.int .u32 (Sha.rotr x n)) ∧ ∃ q', w' = W.drewN (1 + q') :=
            fun x hx n hn q => (rot_c (w := W.drewN (1 + q)) hx n hn).mono fun e w' h => ⟨h.1, q, h.2⟩
          have R1 := Lib.hid (R x hx 7 (by omega))
          have R2 := Lib.hid (R x hx 18 (by omega))
          have R3 := Lib.hid (R y hy 17 (by omega))
          have R4 := Lib.hid (R y hy 19 (by omega))
          have X1 := (bits_u32 _ _ (Sha.rotr_lt hx (show 7 ≤ 32 by omega)) (Sha.rotr_lt hx (show 18 ≤ 32 by omega))).1
          have Y1 := (bits_u32 _ _ (Sha.rotr_lt hy (show 17 ≤ 32 by omega)) (Sha.rotr_lt hy (show 19 ≤ 32 by omega))).1
          have X2 : bits .xor .u32 ((Sha.rotr x 7 ^^^ Sha.rotr x 18 : Nat) : Int) ((x : Int) / 8) = ((Sha.sg0 x : Nat) : Int) := by
            rw [show (x : Int) / 8 = ((x / 8 : Nat) : Int) by omega, (bits_u32 _ _ (Sha.xor_lt (Sha.rotr_lt hx (by omega)) (Sha.rotr_lt hx (by omega))) (by omega)).1]; rfl
          have Y2 : bits .xor .u32 ((Sha.rotr y 17 ^^^ Sha.rotr y 19 : Nat) : Int) ((y : Int) / 1024) = ((Sha.sg1 y : Nat) : Int) := by
            rw [show (y : Int) / 1024 = ((y / 1024 : Nat) : Int) by omega, (bits_u32 _ _ (Sha.xor_lt (Sha.rotr_lt hy (by omega)) (Sha.rotr_lt hy (by omega))) (by omega)).1]; rfl
          clear R
          generalize hX7 : Sha.rotr x 7 ^^^ Sha.rotr x 18 = xx at *
          generalize hY7 : Sha.rotr y 17 ^^^ Sha.rotr y 19 = yy at *
          generalize Sha.rotr x 7 = x7' at *
          generalize Sha.rotr x 18 = x18 at *
          generalize Sha.rotr y 17 = y17 at *
          generalize Sha.rotr y 19 = y19 at *
          generalize Sha.sg0 x = s0 at *
          generalize Sha.sg1 y = s1 at *
          clear hX7 hY7
          refine wp_region_dn [.blk [0, 1, 2, 3, 4, 5, 6, 7, 8, 9, 10, 11, 12, 13, 14, 15, 16, 17, 18, 19, 20, 21, 22, 23, 24, 25, 26, 27, 28], .frc [29]] (by kernel_rfl) (by kernel_rfl) (fun _ _ _ _ _ h => h) ?_
          refine goS_dn ?_
          simp only [opsAt, List.filterMap_cons, List.filterMap_nil, List.getElem?_toArray, List.getElem?_cons_zero, List.getElem?_cons_succ]
          iterate 11 quiet_step (fail)
          quiet_step (exact R1.out _)
          quiet_step (fail)
          quiet_step (exact R2.out _)
          iterate 6 quiet_step (fail)
          quiet_step (exact R3.out _)
          quiet_step (fail)
          quiet_step (exact R4.out _)
          iterate 6 quiet_step (fail)
          refine wpQuiet_nil ?_
          rintro _ ⟨nq2, rfl⟩
          refine goS_last ?_
          simp only [opsAt, List.filterMap_cons, List.filterMap_nil, List.getElem?_toArray, List.getElem?_cons_zero, List.getElem?_cons_succ]
          have hWq := HWD.out.drewN (1 + nq2)
          have cq := hWq.c i hi2
          have fq := hWq.fz i
          have HWQ := Lib.hid hWq
          have hw1 : IntKind.i64.wrap ((i : Int) + 1) = (i : Int) + 1 := IntWalk.i64_in _ (by omega)
          clear hWq ci fz c16 c7 X1 X2 Y1 Y2 R1 R2 R3 R4 HWD
          go_wp2_with fail
          go_roundw
          case rel =>
            refine ⟨i + 1, by omega, by omega, by go_num, ?_⟩
            show WA w _ (Sha.upd (Sha.sched (Sha.byteAt l) i) i (if i < 16 then Sha.wrd (Sha.byteAt l) i 4 else Sha.wnew (Sha.sched (Sha.byteAt l) i) i))
            rw [if_neg (by omega), HNEW.out]
            exact HWQ.out.set' i _ _ (by omega)
          case measure => simp [intOf]; omega
        · have hd : decide ((i : Int) < 64) = false := decide_eq_false (by omega)
          have h64' : i = 64 := by omega
          have hW := (show WA w wr (Sha.sched (Sha.byteAt l) 64) from h64' ▸ hW)
          clear hi hi2 hi0 h64'
          have hsr := hs.below hW.b
          have HS := Lib.hid hsr
          have hpb := hsr.h
          have hone := hsr.one
          have hsz := hsr.sz
          have hBv : ∀ cs0, (wr.alloc (.cells cs0 145)).heap[wr.heap.size]? = some (.cells cs0 145 (0, 0)) := fun cs0 => Array.getElem?_push_size
          have HR := Lib.hid rounds_c
          clear hsr
          go_upto_region 16 with (first
            | (refine wp_loadB rfl 145 _ rfl p rfl hpb _ Tryd.underlying145 rfl (by rw [Array.length_toList, hsz]; kernel_rfl) ?_)
            | (refine wp_storeB rfl 145 _ _ rfl wr.heap.size cs rfl rfl (hBv _) (by rw [hsz]; rfl) (by rw [hsz]; kernel_rfl) hone ?_; intro w3 h3 g3))
          have hbw := hW.b.size
          obtain ⟨csw, haw⟩ := hW.a
          have hltw := haw.lt
          have hba : Below wr.heap.size wr w3 := ((Below.refl _ wr).alloc (Nat.le_refl _) _).grown g3 (by simp) (fun k e => by injection e; omega)
          have hR3 : RA w w3 wr.heap.size (Sha.sched (Sha.byteAt l) 64) (Sha.rnds h (Sha.sched (Sha.byteAt l) 64) 0) := ⟨hW.b.trans (hba.mono hbw), ⟨csw, haw.below hba⟩, ⟨cs, ⟨h3, hsz, hs.at_⟩⟩, hltw⟩
          have HSB := Lib.hid (Sha.sched_bd (Sha.byteAt_lt hb) 64)
          have HRB := Lib.hid (Sha.rnds_bd hbd (Sha.sched (Sha.byteAt l) 64))
          have HS0 := Lib.hid hs
          have HL := Lib.hid hl
          generalize wr.heap.size = bv at *
          clear hW haw hltw hba hpb hone hBv h3 g3 HS hs hl hcel hbw
          go_upto_region 17 with (go_at_call 92; refine (HR.out w3).mono ?_; rintro e w4 ⟨rfl, hb4⟩)
          have hR4 : RA w w4 bv (Sha.sched (Sha.byteAt l) 64) (Sha.rnds h (Sha.sched (Sha.byteAt l) 64) 0) := by
            obtain ⟨r1, ⟨c1, r2⟩, ⟨c2, r3⟩, r4⟩ := hR3
            exact ⟨r1.trans (hb4.mono r1.size), ⟨c1, r2.below hb4⟩, ⟨c2, r3.below hb4⟩, r4⟩
          clear hR3 hb4 HR
          generalize hSC : Sha.sched (Sha.byteAt l) 64 = SC at *
          have HSC := Lib.hid hSC
          clear hSC
          go_loopw [90] (fun iv wx => ∃ i : Nat, i ≤ 64 ∧ iv = .int .i64 i ∧ RA w wx bv SC (Sha.rnds h SC i)) (fun iv _ => (64 - intOf iv).toNat)
          case atStart => exact ⟨0, by omega, rfl, hR4⟩
          case round =>
            clear hR4
            obtain ⟨n, hn, rfl, hR⟩ := hrel
            have hd1 := hd
            clear hd
            by_cases hn2 : n < 64
            · have hd : decide ((n : Int) < 64) = true := decide_eq_true (by omega)
              have hkn : (nums .u32 Sha.KS)[n]? = some (.int .u32 (Sha.kk n)) := (arr_nums (w := { w with heap := #[.cells (nums .u32 Sha.KS) 145 (0, 0)] }) (b := 0) (e := 145) (k := .u32) Sha.KS rfl).at_ n hn2
              have HKB := Lib.hid (Sha.kk_bd n)
              have HRn : Hid (Sha.rnds h SC (n + 1) = Sha.rnd (Sha.rnds h SC n) (Sha.kk n) (SC n)) := rfl
              have HFB := Lib.hid (HRB.out n)
              have HSn := Lib.hid (HSB.out n)
              have m5 : (n : Int) < 64 := by omega
              generalize Sha.rnds h SC n = f at *
              generalize Sha.kk n = kn at *
              have v4 := hR.cv 4 (by omega)
              have v0 := hR.cv 0 (by omega)
              have hix : ∀ W : World, (Instr.index 160 (.agg (nums .u32 Sha.KS)) (.int .i64 n)).run Tryd.prog W = .ok (.int .u32 kn) W := run_index_agg Tryd.underlying160 (by kernel_rfl) (fun w => by simp [isAgg, run_underlying Tryd.underlying143]; try rfl) hn2 hkn
              clear hkn
              go_upto_region 19 with fail
              go_quiet (fail)
              go_upto_region 20 with fail
              have hR2 := hR.drewN nq
              clear hR v4 v0
              generalize wr.drewN nq = W at *
              have hf := HFB.out
              have HT : Hid (Sha.t1 f kn (SC n) = f 7 + (Sha.rotr (f 4) 6 ^^^ Sha.rotr (f 4) 11 ^^^ Sha.rotr (f 4) 25) + ((f 4 &&& f 5) ^^^ ((4294967295 - f 4) &&& f 6)) + kn + SC n) := rfl
              have R : ∀ (x : Nat), x < 4294967296 → ∀ n : Nat, 0 < n ∧ n < 32 → ∀ q, Calls Tryd.prog 91 #[.int .u32 x, .int .i64 (-(n : Int))] (W.drewN (1 + q)) fun e w' => e = .returned (.int .u32 (Sha.rotr x n)) ∧ ∃ q', w' = W.drewN (1 + q') :=
                fun x hx n hn q => (rot_c (w := W.drewN (1 + q)) hx n hn).mono fun e w' h => ⟨h.1, q, h.2⟩
              have R1 := Lib.hid (R _ (hf 4) 6 (by omega))
              have R2 := Lib.hid (R _ (hf 4) 11 (by omega))
              have R3 := Lib.hid (R _ (hf 4) 25 (by omega))
              have l6 := Sha.rotr_lt (hf 4) (show 6 ≤ 32 by omega)
              have l11 := Sha.rotr_lt (hf 4) (show 11 ≤ 32 by omega)
              have l25 := Sha.rotr_lt (hf 4) (show 25 ≤ 32 by omega)
              have X1 := (bits_u32 _ _ l6 l11).1
              have X2 := (bits_u32 _ _ (Sha.xor_lt l6 l11) l25).1
              have A1 := (bits_u32 _ _ (hf 4) (hf 5)).2.1
              have NE := not_u32 _ (hf 4)
              have A2 := (bits_u32 (4294967295 - f 4) (f 6) (by omega) (hf 6)).2.1
              have X3 := (bits_u32 (f 4 &&& f 5) ((4294967295 - f 4) &&& f 6) (Sha.and_lt (hf 4)) (Sha.and_lt (by omega))).1
              clear R l6 l11 l25
              have v7 := hR2.cv 7 (by omega)
              have v5 := hR2.cv 5 (by omega)
              have v6 := hR2.cv 6 (by omega)
              have wn := hR2.cw n hn2
              have HR2 := Lib.hid hR2
              clear hR2 hf
              generalize Sha.rotr (f 4) 6 ^^^ Sha.rotr (f 4) 11 ^^^ Sha.rotr (f 4) 25 = x2 at *
              generalize Sha.rotr (f 4) 6 ^^^ Sha.rotr (f 4) 11 = x1 at *
              generalize Sha.rotr (f 4) 6 = r6 at *
              generalize Sha.rotr (f 4) 11 = r11 at *
              generalize Sha.rotr (f 4) 25 = r25 at *
              generalize (f 4 &&& f 5) ^^^ ((4294967295 - f 4) &&& f 6) = x3 at *
              generalize f 4 &&& f 5 = a1 at *
              generalize (4294967295 - f 4) &&& f 6 = a2 at *
              generalize 4294967295 - f 4 = ne at *
              refine wp_region_dn [.blk [0, 1, 2, 3, 4, 5, 6, 7, 8, 9, 10, 11, 12, 13, 14, 15, 16, 17, 18, 19, 20, 21, 22, 23, 24, 25, 26, 27, 28]] (by kernel_rfl) (by kernel_rfl) (fun _ _ _ _ _ h => h) ?_
              refine goS_dn ?_
              simp only [opsAt, List.filterMap_cons, List.filterMap_nil, List.getElem?_toArray, List.getElem?_cons_zero, List.getElem?_cons_succ]
              iterate 3 quiet_step (fail)
              quiet_step (exact R1.out _)
              quiet_step (fail)
              quiet_step (exact R2.out _)
              iterate 2 quiet_step (fail)
              quiet_step (exact R3.out _)
              iterate 20 quiet_step (fail)
              refine wpQuiet_nil ?_
              rintro _ ⟨nq2, rfl⟩
              simp only [goS]
              have e16 : IntKind.u32.wrap (IntKind.u32.wrap (IntKind.u32.wrap (IntKind.u32.wrap ((f 7 : Int) + (x2 : Int)) + (x3 : Int)) + (kn : Int)) + (SC n : Int)) = ((Sha.t1 f kn (SC n) % 4294967296 : Nat) : Int) := by rw [HT.out]; simp only [wrap_u32i]; omega
              rw [e16]
              have hR3 := (HR2.out.drewN 1).drewN nq2
              clear e16 HT v7 v5 v6 wn HR2 R1 R2 R3 X1 X2 X3 A1 NE A2 hix
              obtain ⟨tt, htt⟩ : ∃ tt, tt = Sha.t1 f kn (SC n) % 4294967296 := ⟨_, rfl⟩
              rw [← htt]
              have HTT := Lib.hid htt
              clear htt
              generalize (W.drewN 1).drewN nq2 = W at *
              go_upto_region 21 with fail
              have hf := HFB.out
              have HT : Hid (Sha.t2 f = (Sha.rotr (f 0) 2 ^^^ Sha.rotr (f 0) 13 ^^^ Sha.rotr (f 0) 22) + ((f 0 &&& f 1) ^^^ (f 0 &&& f 2) ^^^ (f 1 &&& f 2))) := rfl
              have R : ∀ (x : Nat), x < 4294967296 → ∀ n : Nat, 0 < n ∧ n < 32 → ∀ q, Calls Tryd.prog 91 #[.int .u32 x, .int .i64 (-(n : Int))] (W.drewN (1 + q)) fun e w' => e = .returned (.int .u32 (Sha.rotr x n)) ∧ ∃ q', w' = W.drewN (1 + q') :=
                fun x hx n hn q => (rot_c (w := W.drewN (1 + q)) hx n hn).mono fun e w' h => ⟨h.1, q, h.2⟩
              have R1 := Lib.hid (R _ (hf 0) 2 (by omega))
              have R2 := Lib.hid (R _ (hf 0) 13 (by omega))
              have R3 := Lib.hid (R _ (hf 0) 22 (by omega))
              have l6 := Sha.rotr_lt (hf 0) (show 2 ≤ 32 by omega)
              have l11 := Sha.rotr_lt (hf 0) (show 13 ≤ 32 by omega)
              have l25 := Sha.rotr_lt (hf 0) (show 22 ≤ 32 by omega)
              have X1 := (bits_u32 _ _ l6 l11).1
              have X2 := (bits_u32 _ _ (Sha.xor_lt l6 l11) l25).1
              have B1 := (bits_u32 _ _ (hf 0) (hf 1)).2.1
              have B2 := (bits_u32 _ _ (hf 0) (hf 2)).2.1
              have B3 := (bits_u32 _ _ (hf 1) (hf 2)).2.1
              have B4 := (bits_u32 (f 0 &&& f 1) (f 0 &&& f 2) (Sha.and_lt (hf 0)) (Sha.and_lt (hf 0))).1
              have B5 := (bits_u32 ((f 0 &&& f 1) ^^^ (f 0 &&& f 2)) (f 1 &&& f 2) (Sha.xor_lt (Sha.and_lt (hf 0)) (Sha.and_lt (hf 0))) (Sha.and_lt (hf 1))).1
              clear R l6 l11 l25
              have v1 := hR3.cv 1 (by omega)
              have v2 := hR3.cv 2 (by omega)
              have HR2 := Lib.hid hR3
              clear hR3 hf
              generalize Sha.rotr (f 0) 2 ^^^ Sha.rotr (f 0) 13 ^^^ Sha.rotr (f 0) 22 = x2 at *
              generalize Sha.rotr (f 0) 2 ^^^ Sha.rotr (f 0) 13 = x1 at *
              generalize Sha.rotr (f 0) 2 = r6 at *
              generalize Sha.rotr (f 0) 13 = r11 at *
              generalize Sha.rotr (f 0) 22 = r25 at *
              generalize (f 0 &&& f 1) ^^^ (f 0 &&& f 2) ^^^ (f 1 &&& f 2) = x3 at *
              generalize (f 0 &&& f 1) ^^^ (f 0 &&& f 2) = x4 at *
              generalize f 0 &&& f 1 = a1 at *
              generalize f 0 &&& f 2 = a2 at *
              generalize f 1 &&& f 2 = a3 at *
              refine wp_region_dn [.blk [0, 1, 2, 3, 4, 5, 6, 7, 8, 9, 10, 11, 12, 13, 14, 15, 16, 17, 18, 19, 20, 21, 22, 23, 24]] (by kernel_rfl) (by kernel_rfl) (fun _ _ _ _ _ h => h) ?_
              refine goS_dn ?_
              simp only [opsAt, List.filterMap_cons, List.filterMap_nil, List.getElem?_toArray, List.getElem?_cons_zero, List.getElem?_cons_succ]
              quiet_step (fail)
              quiet_step (exact R1.out _)
              quiet_step (fail)
              quiet_step (exact R2.out _)
              iterate 2 quiet_step (fail)
              quiet_step (exact R3.out _)
              iterate 18 quiet_step (fail)
              refine wpQuiet_nil ?_
              rintro _ ⟨nq3, rfl⟩
              simp only [goS]
              have e17 : IntKind.u32.wrap ((x2 : Int) + (x3 : Int)) = ((Sha.t2 f % 4294967296 : Nat) : Int) := by rw [HT.out]; simp only [wrap_u32i]; omega
              rw [e17]
              have hR3 := (HR2.out.drewN 1).drewN nq3
              clear e17 HT v1 v2 HR2 R1 R2 R3 X1 X2 B1 B2 B3 B4 B5
              obtain ⟨uu, huu⟩ : ∃ uu, uu = Sha.t2 f % 4294967296 := ⟨_, rfl⟩
              rw [← huu]
              have HUU := Lib.hid huu
              clear huu
              generalize (W.drewN 1).drewN nq3 = W at *
              go_upto_region 22 with fail
              refine wp_region_dn [.blk [0, 1], .frc [2]] (by kernel_rfl) (by kernel_rfl) (fun _ _ _ _ _ h => h) ?_
              refine goS_dn ?_
              simp only [opsAt, List.filterMap_cons, List.filterMap_nil, List.getElem?_toArray, List.getElem?_cons_zero, List.getElem?_cons_succ]
              iterate 2 quiet_step (fail)
              refine wpQuiet_nil ?_
              rintro _ ⟨nq4, rfl⟩
              refine goS_last ?_
              simp only [opsAt, List.filterMap_cons, List.filterMap_nil, List.getElem?_toArray, List.getElem?_cons_zero, List.getElem?_cons_succ]
              refine wp_copyV ((hR3.drewN 1).drewN nq4) rfl _ _ rfl rfl rfl ?_
              intro w5 hR5
              clear hR3
              have c4 : w5.cell? ⟨bv, 4, none⟩ = some (.int .u32 (f 3)) := hR5.cv 4 (by omega)
              have f4 := hR5.fz 4
              simp only [Act.put, List.setIfInBounds_toArray, List.set_cons_zero, List.set_cons_succ]
              go_upto_region 24 with fail
              have hR6 := hR5.set 4 (((f 3 : Int) + (tt : Int)) % 4294967296) ((f 3 + tt) % 4294967296) (by omega)
              clear hR5 c4 f4
              generalize w5.setCell ⟨bv, 4, none⟩ (.int .u32 (((f 3 : Int) + (tt : Int)) % 4294967296)) = w6 at *
              have c0 := hR6.cv 0 (by omega)
              have f0 := hR6.fz 0
              go_upto_region 25 with fail
              have hR7 := hR6.set 0 (((tt : Int) + (uu : Int)) % 4294967296) ((tt + uu) % 4294967296) (by omega)
              clear hR6 c0 f0
              generalize w6.setCell ⟨bv, 0, none⟩ (.int .u32 (((tt : Int) + (uu : Int)) % 4294967296)) = w7 at *
              have HR8 : Hid (RA w w7 bv SC (Sha.rnds h SC (n + 1))) := hR7.congr fun i hi => by
                rw [HRn.out]
                have h1 := HTT.out
                have h2 := HUU.out
                unfold Sha.upd Sha.rnd
                by_cases e0 : i = 0
                · rw [if_pos e0, if_pos e0]; omega
                · rw [if_neg e0, if_neg e0]
                  by_cases e4 : i = 4
                  · rw [if_pos e4, if_pos e4]; omega
                  · rw [if_neg e4, if_neg e4]; simp only [if_neg e0]
              have hw1 : IntKind.i64.wrap ((n : Int) + 1) = (n : Int) + 1 := IntWalk.i64_in _ (by omega)
              clear hR7 HTT HUU HRn HFB HSn HKB
              go_wp2_with fail
              go_roundw
              case rel => exact ⟨n + 1, by omega, by go_num, HR8.out⟩
              case measure => simp [intOf]; omega
            · have hd : decide ((n : Int) < 64) = false := decide_eq_false (by omega)
              have hn64 : n = 64 := by omega
              have hR := (show RA w wr bv SC (Sha.rnds h SC 64) from hn64 ▸ hR)
              clear hn hn2 hn64
              have hD : DA w wr p bv h (Sha.rnds h SC 64) := by
                obtain ⟨cv, hv⟩ := hR.v
                have := HS0.out.lt
                have := hR.lo
                exact ⟨Only.of_below hR.b, ⟨cs, HS0.out.below hR.b⟩, ⟨cv, hv⟩, by omega⟩
              have hF := HRB.out 64
              have HF := Lib.hid hF
              clear hR hF HS0
              generalize hV : Sha.rnds h SC 64 = V at *
              have HV := Lib.hid hV
              clear hV
              go_wp2_with fail
              go_loopw [163] (fun iv wx => ∃ i : Nat, i ≤ 8 ∧ iv = .int .i64 i ∧ DA w wx p bv (fun k => if k < i then (h k + V k) % 4294967296 else h k) V) (fun iv _ => (8 - intOf iv).toNat)
              case atStart => exact ⟨0, by omega, rfl, hD.congr fun k _ => by rw [if_neg (by omega)]⟩
              case round =>
                clear hD
                obtain ⟨m, hm, rfl, hD⟩ := hrel
                have hd2 := hd
                clear hd
                by_cases hm2 : m < 8
                · have hd : decide ((m : Int) < 8) = true := decide_eq_true (by omega)
                  have m5 : (m : Int) < 8 := by omega
                  have cp : wr.cell? ⟨p, m, none⟩ = some (.int .u32 (h m)) := by
                    rw [hD.cs m hm2]; simp only [if_neg (Nat.lt_irrefl m)]
                  have cv := hD.cv m hm2
                  have hw1 : IntKind.i64.wrap ((m : Int) + 1) = (m : Int) + 1 := IntWalk.i64_in _ (by omega)
                  have HD := Lib.hid hD
                  clear hD
                  go_upto_region 29 with fail
                  refine wp_region_dn [.blk [0, 1, 2, 3, 4, 5, 6, 7, 8, 9, 10], .frc [11]] (by kernel_rfl) (by kernel_rfl) (fun _ _ _ _ _ h => h) ?_
                  refine goS_dn ?_
                  simp only [opsAt, List.filterMap_cons, List.filterMap_nil, List.getElem?_toArray, List.getElem?_cons_zero, List.getElem?_cons_succ]
                  iterate 11 quiet_step (fail)
                  refine wpQuiet_nil ?_
                  rintro _ ⟨nq, rfl⟩
                  refine goS_last ?_
                  simp only [opsAt, List.filterMap_cons, List.filterMap_nil, List.getElem?_toArray, List.getElem?_cons_zero, List.getElem?_cons_succ]
                  have hD := (HD.out.drewN 1).drewN nq
                  have cq := hD.cs m hm2
                  simp only [if_neg (Nat.lt_irrefl m)] at cq
                  have fq := hD.fz m
                  have HD2 := Lib.hid hD
                  clear hD cp cv
                  generalize (wr.drewN 1).drewN nq = W at *
                  go_wp2_with fail
                  go_roundw
                  case rel =>
                    refine ⟨m + 1, by omega, by go_num, (HD2.out.set m _ ((h m + V m) % 4294967296) ?_).congr fun k _ => ?_⟩
                    · first | omega | (simp only [wrap_u32i]; omega)
                    · unfold Sha.upd
                      by_cases e : k = m
                      · subst e; rw [if_pos rfl, if_pos (by omega)]
                      · rw [if_neg e]
                        by_cases e2 : k < m
                        · simp only [if_pos e2]; rw [if_pos (by omega)]
                        · simp only [if_neg e2]; rw [if_neg (by omega)]
                  case measure => simp [intOf]; omega
                · have hd : decide ((m : Int) < 8) = false := decide_eq_false (by omega)
                  go_wp2_with fail
                  go_end0
                  obtain ⟨cs', hA⟩ := hD.s
                  refine ⟨rfl, ⟨cs', hA.congr fun k hk => ?_⟩, hD.o⟩
                  rw [if_pos (by omega), ← HV.out, ← HSC.out]
                  rfl
end Go.Proofs.YtfoamcobpfflbaaDoor
