/- Texts of mine, joined: Walks: the document's frame. -/
import Derived.Test.YtfoamcobpfflbaaDoorZ20
namespace Go.Proofs.YtfoamcobpfflbaaDoor
open Go Go.RowKit

theorem make4 (w : World) : (Instr.makeSlice 43 (.int .i64 4) (.int .i64 4)).run Tryd.prog w = .ok (.slice (some ⟨w.heap.size, 0, none⟩) 4 4) (w.alloc (.cells (nums .u8 [0, 0, 0, 0]) 5)) := by
  obtain ⟨i, hi, hz, hs, hb⟩ := info_parts (show (Tryd.prog.info? 5).map (fun i => (i.zero, i.size, i.bytes)) = some (some (.int .u8 0), 1, 1) by kernel_rfl)
  have := run_make (P := Tryd.prog) w 43 5 i (.int .u8 0) Tryd.underlying43 hi hz .i64 .i64 4 4 (by omega) (by omega) (by rw [hb]; omega) (by omega)
  rw [this, hs, show madeCells (Value.int .u8 0).cells (Int.toNat 4 * 1) = nums .u8 [0, 0, 0, 0] by kernel_rfl]
  rfl

/-- The head under way. -/
structure HdA (w wx : World) (bi : Nat) (F : Nat → Nat) : Prop where
  b : Below w.heap.size w wx
  a : ∃ cs, ArrF wx bi 5 .u8 4 cs F
  lo : w.heap.size ≤ bi
theorem HdA.c {w wx : World} {bi : Nat} {F : Nat → Nat} (h : HdA w wx bi F) (i : Nat) (hi : i < 4) : wx.cell? ⟨bi, i, none⟩ = some (.int .u8 (F i)) := by obtain ⟨cs, h⟩ := h.a; exact h.c i hi
theorem HdA.fz {w wx : World} {bi : Nat} {F : Nat → Nat} (h : HdA w wx bi F) (i : Nat) : wx.frozen? ⟨bi, i, none⟩ = false := by obtain ⟨cs, h⟩ := h.a; exact h.fz i
theorem HdA.set {w wx : World} {bi : Nat} {F G : Nat → Nat} (h : HdA w wx bi F) (j : Nat) (v : Nat) (e : ∀ i, i < 4 → (if i = j then v else F i) = G i) : HdA w (wx.setCell ⟨bi, j, none⟩ (.int .u8 v)) bi G := by
  obtain ⟨cs, ha⟩ := h.a
  have hlo := h.lo
  obtain ⟨h1, h2⟩ := ha.set j v
  exact ⟨h.b.grown h2 h.b.size (fun k e => by injection e with e; omega), ⟨_, h1.congr e⟩, h.lo⟩

def hdF (N c j : Nat) : Nat := if 4 ≤ j + c then N / 256 ^ (3 - j) % 256 else 0

theorem ofL_snoc (l : List Nat) (x : Nat) : ofL l ++ ofL [x] = ofL (l ++ [x]) := by
  apply ByteArray.ext
  rw [ByteArray.data_append]
  unfold ofL
  simp
theorem ofL_app (l m : List Nat) : ofL l ++ ofL m = ofL (l ++ m) := by
  apply ByteArray.ext
  rw [ByteArray.data_append]
  unfold ofL
  simp

set_option maxRecDepth 100000 in
set_option maxHeartbeats 1000000 in
theorem rframe_c {w : World} (s : ByteArray) (hs : s.size ≤ 10000000) :
    Calls Tryd.prog 67 #[.string s] w fun e w' => e = .returned (.string (ofL (PackS.frame (bl s)))) ∧ Below w.heap.size w w' := by
  go_enter Tryd.func67, Tryd.ntmps67
  have hmk := make4
  go_upto_region 3 with fail
  have hA : HdA w (w.alloc (.cells (nums .u8 [0, 0, 0, 0]) 5)) w.heap.size (hdF s.size 0) :=
    ⟨(Below.refl _ w).alloc (Nat.le_refl _) _, ⟨_, (arr_nums [0, 0, 0, 0] Array.getElem?_push_size).congr fun i hi => by
      have hi : i < 4 := hi
      unfold hdF; rw [if_neg (by omega)]
      match i, hi with
      | 0, _ => rfl
      | 1, _ => rfl
      | 2, _ => rfl
      | 3, _ => rfl⟩, Nat.le_refl _⟩
  generalize w.alloc (.cells (nums .u8 [0, 0, 0, 0]) 5) = w0 at *
  generalize hbi : w.heap.size = bi at *
  clear hmk
  have HBI := Lib.hid hbi
  clear hbi
  go_wp2_with fail
  go_loopw [3, 5] (fun nv iv wx => ∃ (c m : Nat) (i : Int), c ≤ 4 ∧ i = 3 - (c : Int) ∧ iv = .int .i64 i ∧ m = s.size / 256 ^ c ∧ nv = .int .i64 m ∧ HdA w wx bi (hdF s.size c)) (fun _ iv _ => (intOf iv + 1).toNat)
  case atStart => exact ⟨0, s.size, 3, by omega, by omega, rfl, by simp, rfl, hA⟩
  case round =>
    clear hA
    obtain ⟨c, m, i, hc, hi, rfl, hm, rfl, hA⟩ := hrel
    by_cases hc4 : c < 4
    · obtain ⟨j, rfl⟩ : ∃ j : Nat, i = j := ⟨3 - c, by omega⟩
      have hj4 : j < 4 := by omega
      have hj : j = 3 - c := by omega
      have hd : decide ((j : Int) ≥ 0) = true := decide_eq_true (by omega)
      have hd' : decide ((0 : Int) ≤ (j : Int)) = true := decide_eq_true (by omega)
      have hm256 : (m : Int) % 256 = ((m % 256 : Nat) : Int) := by omega
      have hm256' : Int.tmod (m : Int) 256 = ((m % 256 : Nat) : Int) := by rw [Int.tmod_eq_emod_of_nonneg (by omega)]; omega
      have hmd : (m : Int) / 256 = ((m / 256 : Nat) : Int) := by omega
      have hmd' : Int.tdiv (m : Int) 256 = ((m / 256 : Nat) : Int) := by rw [Int.tdiv_eq_ediv_of_nonneg (by omega)]; omega
      have hml : m ≤ s.size := by rw [hm]; exact Nat.div_le_self _ _
      have HSET : Hid (HdA w (wr.setCell ⟨bi, j, none⟩ (.int .u8 (m % 256 : Nat))) bi (hdF s.size (c + 1))) := hA.set j _ fun q hq => by
        unfold hdF
        by_cases e : q = j
        · subst e; rw [if_pos rfl, if_pos (by omega), hm, show 3 - q = c by omega]
        · rw [if_neg e]
          by_cases e2 : 4 ≤ q + c
          · rw [if_pos e2, if_pos (by omega)]
          · rw [if_neg e2, if_neg (by omega)]
      have HM2 : Hid (m / 256 = s.size / 256 ^ (c + 1)) := by
        show _ = _
        rw [hm, Nat.pow_succ, Nat.div_div_eq_div_mul]
      have hyl : m % 256 < 256 := Nat.mod_lt _ (by omega)
      have cj := hA.c j hj4
      have fj := hA.fz j
      have hml2 : m / 256 ≤ s.size := by omega
      generalize m % 256 = y at *
      generalize m / 256 = m2 at *
      have hy8 : IntKind.u8.wrap (y : Int) = (y : Int) := by simp [IntKind.wrap, IntKind.bits, IntKind.signed]; omega
      have hy8' : (y : Int) % 256 = (y : Int) := by omega
      have hw2 : IntKind.i64.wrap (m2 : Int) = (m2 : Int) := IntWalk.i64_in _ (by omega)
      have hw1 : IntKind.i64.wrap ((j : Int) - 1) = (j : Int) - 1 := IntWalk.i64_in _ (by omega)
      have hj4' : (j : Int) < 4 := by omega
      have HI := Lib.hid hi
      clear hA hm hyl hi hj
      go_wp2_with fail
      go_roundw
      case rel => exact ⟨c + 1, m2, (j : Int) - 1, by omega, by have := HI.out; omega, rfl, HM2.out, rfl, HSET.out⟩
      case measure => simp [intOf]
    · have hd : decide (i ≥ 0) = false := decide_eq_false (by omega)
      have hd' : decide (0 ≤ i) = false := decide_eq_false (by omega)
      have hc4' : c = 4 := by omega
      subst hc4'
      have hhead : Sl wr (some ⟨bi, 0, none⟩) (byteCells (ofL (PackS.be4 s.size))) := by
        rw [byteCells_ofL (PackS.be4_lt _)]
        obtain ⟨cs, ha⟩ := hA.a
        refine .inr ⟨bi, 0, rfl, ha.lt, fun q u hu => ?_⟩
        have hq : q < 4 := by
          have := (List.getElem?_eq_some_iff.1 hu).1
          rw [nb_len, PackS.be4_len] at this; exact this
        rw [Nat.zero_add, ha.c q hq]
        rw [nb_at (by rw [PackS.be4_len]; exact hq)] at hu
        rw [← hu]
        unfold hdF
        rw [if_pos (by omega)]
        congr 3
        match q, hq with
        | 0, _ => rfl
        | 1, _ => rfl
        | 2, _ => first | done | simp [PackS.be4, Sha.byteAt]
        | 3, _ => first | done | simp [PackS.be4, Sha.byteAt]
      have hbw := hA.b
      clear hA hm hi
      have HS := Lib.hid (refsum_c (w := wr) s (by omega))
      go_upto_region 9 with (first
        | (go_at_call 32; refine HS.out.mono ?_; rintro e w1 ⟨rfl, hb1⟩; have hI : (w1.alloc (.cells #[Value.int .u8 0, Value.int .u8 0, Value.int .u8 0, Value.int .u8 0, Value.int .u8 0, Value.int .u8 0, Value.int .u8 0, Value.int .u8 0, Value.int .u8 0, Value.int .u8 0, Value.int .u8 0, Value.int .u8 0, Value.int .u8 0, Value.int .u8 0, Value.int .u8 0, Value.int .u8 0, Value.int .u8 0, Value.int .u8 0, Value.int .u8 0, Value.int .u8 0, Value.int .u8 0, Value.int .u8 0, Value.int .u8 0, Value.int .u8 0, Value.int .u8 0, Value.int .u8 0, Value.int .u8 0, Value.int .u8 0, Value.int .u8 0, Value.int .u8 0, Value.int .u8 0, Value.int .u8 0] 47)).heap[w1.heap.size]? = some (.cells #[Value.int .u8 0, Value.int .u8 0, Value.int .u8 0, Value.int .u8 0, Value.int .u8 0, Value.int .u8 0, Value.int .u8 0, Value.int .u8 0, Value.int .u8 0, Value.int .u8 0, Value.int .u8 0, Value.int .u8 0, Value.int .u8 0, Value.int .u8 0, Value.int .u8 0, Value.int .u8 0, Value.int .u8 0, Value.int .u8 0, Value.int .u8 0, Value.int .u8 0, Value.int .u8 0, Value.int .u8 0, Value.int .u8 0, Value.int .u8 0, Value.int .u8 0, Value.int .u8 0, Value.int .u8 0, Value.int .u8 0, Value.int .u8 0, Value.int .u8 0, Value.int .u8 0, Value.int .u8 0] 47 (0, 0)) := Array.getElem?_push_size)
        | (refine wp_storeB rfl 47 _ _ rfl w1.heap.size (nums .u8 (Sha.sum (bl s))) rfl rfl hI (by rw [nums_size, PackS.sum_len]; kernel_rfl) (by rw [nums_size, PackS.sum_len]; kernel_rfl) (nums_one _ _) ?_; intro w2 h2 g2))
      have hB2 : Below wr.heap.size wr w2 := ((hb1.alloc hb1.size _).grown g2 (hb1.alloc hb1.size _).size (fun k e => by injection e with e; have := hb1.size; omega))
      have hh2 := hhead.below hB2
      have hz := ofL_size (PackS.be4 s.size)
      rw [PackS.be4_len] at hz
      have ks := run_str_of (P := Tryd.prog) (w := w2) Tryd.underlying43 Tryd.underlying5 Tryd.underlying9 hh2 4
      rw [hz] at ks
      have hid := id_arr h2
      have HB := Lib.hid (hbw.trans (hB2.mono hbw.size))
      have HID : Hid (∀ i (hi : i < 32), w2.cell? ⟨w1.heap.size, i, none⟩ = some (.int .u8 (Sha.byteAt (Sha.sum (bl s)) i))) := fun i hi => by
        obtain ⟨b', o', e, -, hc⟩ := hid.at (k := 0) (by rw [nb_len, PackS.sum_len]; omega)
        injection e with e
        injection e with e1 e2
        subst e1 e2
        have h3 := nb_at (l := Sha.sum (bl s)) (i := i) (by rw [PackS.sum_len]; exact hi)
        obtain ⟨h4, h5⟩ := List.getElem?_eq_some_iff.1 h3
        have := hc i h4
        rw [h5, Nat.zero_add] at this
        exact this
      have HLT : Hid (w1.heap.size < w2.heap.size) := by
        rcases hid with e | ⟨b', o', e, h, -⟩
        · have := congrArg List.length e
          rw [nb_len, PackS.sum_len] at this; simp at this
        · injection e with e; injection e with e1 _; subst e1; exact h
      clear hhead hbw hI HS hb1 g2 h2 hB2 hh2 hz hid
      generalize w1.heap.size = b9 at *
      generalize hbs : bl s = L at *
      have HBS := Lib.hid hbs
      clear hbs
      go_wp2_with fail
      clear ks
      go_loopw [7, 8] (fun ov iv wx => ∃ i : Nat, i ≤ 8 ∧ iv = .int .i64 i ∧ ov = .string (ofL (PackS.be4 s.size ++ (Sha.sum L).take i)) ∧ Below w2.heap.size w2 wx) (fun _ iv _ => (8 - intOf iv).toNat)
      case atStart => exact ⟨0, by omega, rfl, by simp, Below.refl _ _⟩
      case round =>
        obtain ⟨i, hi, rfl, rfl, hb⟩ := hrel
        by_cases hi8 : i < 8
        · have hd : decide ((i : Int) < 8) = true := decide_eq_true (by omega)
          have hc9 : wr.cell? ⟨b9, i, none⟩ = some (.int .u8 (Sha.byteAt (Sha.sum L) i)) := by
            rw [hb.cell (p := ⟨b9, i, none⟩) HLT.out]; exact HID.out i (by omega)
          have hi32 : (i : Int) < 32 := by omega
          have HTK : Hid ((Sha.sum L).take (i + 1) = (Sha.sum L).take i ++ [Sha.byteAt (Sha.sum L) i]) := by
            show _ = _
            have hil : i < (Sha.sum L).length := by rw [PackS.sum_len]; omega
            rw [List.take_succ_eq_append_getElem hil]
            unfold Sha.byteAt
            rw [List.getD_eq_getElem?_getD, List.getElem?_eq_getElem hil]; rfl
          have hyl : Sha.byteAt (Sha.sum L) i < 256 := Sha.byteAt_lt (PackS.sum_lt L) i
          generalize Sha.byteAt (Sha.sum L) i = y at *
          have hsn : Sl (wr.alloc (.cells #[.int .u8 y] 5)) (some ⟨wr.heap.size, 0, none⟩) (byteCells (ofL [y])) := by
            rw [byteCells_ofL (by intro x hx; simp at hx; omega)]
            exact sl_new wr (nb [y]) 5 (0, 0)
          have ks1 := run_str_of (P := Tryd.prog) Tryd.underlying43 Tryd.underlying5 Tryd.underlying9 hsn 1
          have hz1 : (ofL [y]).size = 1 := ofL_size _
          rw [hz1] at ks1
          have hw1 : IntKind.i64.wrap ((i : Int) + 1) = (i : Int) + 1 := IntWalk.i64_in _ (by omega)
          have hcat := ofL_snoc (PackS.be4 s.size ++ (Sha.sum L).take i) y
          rw [List.append_assoc, ← HTK.out] at hcat
          have hbA := hb.alloc hb.size (.cells #[.int .u8 y] 5)
          have hsz : (ofL (PackS.be4 s.size ++ (Sha.sum L).take i)).size + (ofL [y]).size ≤ 9223372036854775807 := by
            rw [ofL_size, hz1, List.length_append, List.length_take, PackS.be4_len, PackS.sum_len]; omega
          clear hsn hz1 hyl hb
          go_wp2_with fail
          go_roundw
          case rel => exact ⟨i + 1, by omega, by go_num, rfl, hbA⟩
          case measure => simp [intOf]; omega
        · have hd : decide ((i : Int) < 8) = false := decide_eq_false (by omega)
          have hi8' : i = 8 := by omega
          subst hi8'
          have hcat := ofL_app (PackS.be4 s.size ++ (Sha.sum L).take 8) L
          have hfr : ofL (PackS.be4 s.size ++ (Sha.sum L).take 8) ++ s = ofL (PackS.frame L) := by
            have e : PackS.frame L = PackS.be4 s.size ++ (Sha.sum L).take 8 ++ L := by
              unfold PackS.frame PackS.id8
              rw [← HBS.out, bl_len]
            have h9 := ofL_bl s
            rw [HBS.out] at h9
            rw [h9] at hcat
            rw [e, ← hcat]
          have HFR := Lib.hid hfr
          have hsz : (ofL (PackS.be4 s.size ++ (Sha.sum L).take 8)).size + s.size ≤ 9223372036854775807 := by
            rw [ofL_size, List.length_append, List.length_take, PackS.be4_len, PackS.sum_len]; omega
          clear hcat hfr
          go_wp2_with fail
          go_ret
          refine ⟨?_, HB.out.trans (hb.mono HB.out.size)⟩
          rw [HBS.out, ← HFR.out]; rfl
end Go.Proofs.YtfoamcobpfflbaaDoor
