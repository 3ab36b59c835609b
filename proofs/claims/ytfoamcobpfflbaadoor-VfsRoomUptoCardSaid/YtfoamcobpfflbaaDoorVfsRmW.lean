/- What is left is what can be appended: the law's walk. -/
import Derived.Test.YtfoamcobpfflbaaDoorVfsRm
import Derived.Test.YtfoamcobpfflbaaDoorVfsE
import Derived.Test.YtfoamcobpfflbaaDoorVfsAwW
namespace Go.Proofs.YtfoamcobpfflbaaDoor
open Go Go.RowKit Go.Maps
open VfsS (St)

/-- The sizes as cells. -/
def hvC (hs : List Nat) : Array Value := (hs.map fun (n : Nat) => Value.int .i64 (n : Int)).toArray

theorem hvC_at (hs : List Nat) (k : Nat) (h : k < hs.length) : (hvC hs)[k]? = some (.int .i64 ((hs.getD k 0 : Nat) : Int)) := by
  unfold hvC; simp [h, List.getD]

theorem hvC_set (hs : List Nat) (k n : Nat) : (hvC hs).setIfInBounds k (.int .i64 (n : Int)) = hvC (hs.set k n) := by
  unfold hvC; simp [List.map_set]

/-- n bytes that are 0. -/
def zeroB (n : Nat) : ByteArray := ⟨Array.replicate n 0⟩
theorem zeroB_size (n : Nat) : (zeroB n).size = n := by simp [zeroB, ByteArray.size]
theorem zeroB_cells (n : Nat) : byteCells (zeroB n) = List.replicate n (Value.int .u8 0) := by
  unfold byteCells zeroB; simp

theorem make_u8 (n : Nat) (h : n ≤ 3000) (w : World) : (Instr.makeSlice 43 (.int .i64 (n : Int)) (.int .i64 (n : Int))).run Tryd.prog w = .ok (.slice (some ⟨w.heap.size, 0, none⟩) n n) (w.alloc (.cells (byteCells (zeroB n)).toArray 5)) := by
  obtain ⟨i, hi, hz, hs, hb⟩ := info_parts (show (Tryd.prog.info? 5).map (fun i => (i.zero, i.size, i.bytes)) = some (some (.int .u8 0), 1, 1) by kernel_rfl)
  have := run_make (P := Tryd.prog) w 43 5 i (.int .u8 0) Tryd.underlying43 hi hz .i64 .i64 n n (by omega) (by omega) (by rw [hb]; omega) (by omega)
  rw [this, hs, Int.toNat_natCast, Nat.mul_one, zeroB_cells, ← toList_madeCells_one]
  rfl

/-- The i-th of four names. -/
theorem run_index_str4 (cs : Array Value) (i : Nat) (s : ByteArray) (w : World) (hi : i < 4) (hc : cs[i]? = some (.string s)) : (Instr.index 90 (.agg cs) (.int .i64 (i : Int))).run Tryd.prog w = .ok (.string s) w := by
  have hlt : (0 : Int) ≤ (i : Int) ∧ (i : Int) < 4 := by omega
  have hu : Tryd.prog.underlying 90 = some (.array 4 9) := Tryd.underlying90
  have hs := Tryd.sizeOf9
  have ha := Tryd.isAgg9
  simp [Instr.index, run_underlying hu, asIntOf, hi, part, hc, go_sem]

set_option maxRecDepth 100000 in
set_option maxHeartbeats 1000000 in
theorem lawRoom_c (room : Int) (a : Option Addr) (c : Nat) (zs : List Int) (w : World) (hg : Gl w) (sl : Sl w a (zs.map (Value.int .i64))) (hl : zs.length ≤ 1048576) (hz : ∀ z ∈ zs, -9223372036854775808 ≤ z ∧ z ≤ 9223372036854775807) :
    Calls Tryd.prog 8 #[.int .i64 room, .slice a zs.length c] w fun e w' => e = .returned (.bool true) ∧ Below w.heap.size w w' := by
  go_enter Tryd.func8, Tryd.ntmps8
  go_wp2_with fail
  refine (awake14_c _ hg).mono ?_
  rintro e w0 ⟨rfl, hb0⟩
  have hg0 := hg.below hb0 (Nat.le_refl _)
  have hs0 := sl.below hb0
  go_wp2_with fail
  refine (new_a room w0 hg0).mono ?_
  rintro e v1 (⟨h, rfl, rfl⟩ | ⟨hr, p, rfl, H1⟩)
  · go_wp2_with fail
    go_ret
    exact ⟨rfl, hb0⟩
  obtain ⟨r, rfl⟩ : ∃ r : Nat, room = (r : Int) := ⟨room.toNat, by omega⟩
  rw [Int.toNat_natCast, VfsT.c40] at H1
  have E1 : VE (fun k => k = v1.heap.size ∨ k = v1.heap.size + 1) w0 ((v1.alloc (.cells #[.string VfsT.a, .string VfsT.b, .string VfsT.c, .string VfsT.d] 90)).alloc (.cells #[.int .i64 0, .int .i64 0, .int .i64 0, .int .i64 0] 91)) p (VfsT.C4 r 0) (3 * 0) :=
    ((H1.toE.alloc _).alloc _).sub (fun k hk => hk.elim (fun h => .inl (.inr h)) (fun h => .inr (by rw [h]; simp)))
  have B1 : ((v1.alloc (.cells #[.string VfsT.a, .string VfsT.b, .string VfsT.c, .string VfsT.d] 90)).alloc (.cells #[.int .i64 0, .int .i64 0, .int .i64 0, .int .i64 0] 91)).heap[v1.heap.size]? = some (.cells #[.string VfsT.a, .string VfsT.b, .string VfsT.c, .string VfsT.d] 90 (0, 0)) :=
    ((below_alloc (v1.alloc (.cells #[.string VfsT.a, .string VfsT.b, .string VfsT.c, .string VfsT.d] 90)) _).block _ (by simp)).trans Array.getElem?_push_size
  have B2 : ((v1.alloc (.cells #[.string VfsT.a, .string VfsT.b, .string VfsT.c, .string VfsT.d] 90)).alloc (.cells #[.int .i64 0, .int .i64 0, .int .i64 0, .int .i64 0] 91)).heap[v1.heap.size + 1]? = some (.cells #[.int .i64 0, .int .i64 0, .int .i64 0, .int .i64 0] 91 (0, 0)) := by
    have : v1.heap.size + 1 = (v1.alloc (.cells #[.string VfsT.a, .string VfsT.b, .string VfsT.c, .string VfsT.d] 90)).heap.size := by simp
    rw [this]; exact Array.getElem?_push_size
  clear H1
  go_wp2_with fail
  go_loopw [29] (fun iv wr => ∃ k : Nat, k ≤ 4 ∧ iv = .int .i64 k ∧ VE (fun k => k = v1.heap.size ∨ k = v1.heap.size + 1) w0 wr p (VfsT.C4 r k) (3 * k) ∧
    wr.heap[v1.heap.size]? = some (.cells #[.string VfsT.a, .string VfsT.b, .string VfsT.c, .string VfsT.d] 90 (0, 0)) ∧ wr.heap[v1.heap.size + 1]? = some (.cells #[.int .i64 0, .int .i64 0, .int .i64 0, .int .i64 0] 91 (0, 0))) (fun iv _ => (4 - intOf iv).toNat)
  case atStart => exact ⟨0, by omega, rfl, E1, B1, B2⟩
  case round =>
    clear E1 B1 B2
    obtain ⟨k, hk, rfl, E2, B1, B2⟩ := hrel
    by_cases hk4 : k < 4
    · have hidx : (Instr.index 90 (.agg #[.string ⟨#[97]⟩, .string ⟨#[98]⟩, .string ⟨#[99]⟩, .string ⟨#[100]⟩]) (.int .i64 (k : Int))).run Tryd.prog wr = .ok (.string (VfsT.nm4 k)) wr :=
        run_index_str4 _ k _ wr hk4 (by rcases (by omega : k = 0 ∨ k = 1 ∨ k = 2 ∨ k = 3) with rfl | rfl | rfl | rfl <;> rfl)
      have hns : (VfsT.nm4 k).size ≤ 10000000 := by rcases (by omega : k = 0 ∨ k = 1 ∨ k = 2 ∨ k = 3) with rfl | rfl | rfl | rfl <;> decide
      have hd : decide ((k : Int) < 4) = true := decide_eq_true (by omega)
      have hw : IntKind.i64.wrap ((k : Int) + 1) = ((k + 1 : Nat) : Int) := IntWalk.i64_in _ (by omega)
      have HC := Lib.hid (VfsT.c4s r k hk4)
      go_wp2_with fail
      refine (create_e E2 (VfsT.nm4 k) hns (by omega)).mono ?_
      rw [HC.out]
      rintro e w2 ⟨rfl, E3, hh⟩
      replace B1 := (hh _ (.inl rfl)).trans B1
      replace B2 := (hh _ (.inr rfl)).trans B2
      clear E2 hh hidx HC
      go_wp2_with fail
      go_roundw
      case rel => exact ⟨k + 1, by omega, by first | rfl | go_num, E3, B1, B2⟩
      case measure => simp [intOf]; omega
    · obtain rfl : k = 4 := by omega
      have hd : decide (((4 : Nat) : Int) < 4) = false := by decide
      go_wp2_with fail
      have R0 := VfsT.r40 r
      rw [show ((4 : Nat) : Int) = 4 from rfl]
      generalize VfsT.C4 r 4 = S0 at E2 R0
      go_loopw [39] (fun iv wx => ∃ (j : Nat) (S : St) (hs : List Nat), j ≤ zs.length ∧ iv = .int .i64 j ∧ VE (fun k => k = v1.heap.size ∨ k = v1.heap.size + 1) w0 wx p S (12 + 2 * j) ∧ VfsT.R4 S r hs ∧
        wx.heap[v1.heap.size]? = some (.cells #[.string VfsT.a, .string VfsT.b, .string VfsT.c, .string VfsT.d] 90 (0, 0)) ∧ wx.heap[v1.heap.size + 1]? = some (.cells (hvC hs) 91 (0, 0))) (fun iv _ => (zs.length - intOf iv).toNat)
      case atStart => exact ⟨0, S0, _, by omega, rfl, E2, R0, B1, B2⟩
      case round =>
        clear E2 B1 B2 R0
        obtain ⟨j, S, hs, hj, rfl, E2, HR, B1, B2⟩ := hrel
        by_cases hjl : j < zs.length
        · have hd : decide ((j : Int) < (zs.length : Int)) = true := decide_eq_true (by omega)
          obtain ⟨x, o, rfl, -, hc⟩ := (hs0.below E2.out).at (k := j) (by simpa using hjl)
          have hc0 : wr.cell? ⟨x, o + j, none⟩ = some (.int .i64 zs[j]) := by rw [hc j (by simpa using hjl)]; simp
          have hzr := hz zs[j] (List.getElem_mem hjl)
          generalize zs[j] = z at hc0 hzr
          clear hc
          have hw1 : IntKind.i64.wrap ((j : Int) + 1) = ((j + 1 : Nat) : Int) := IntWalk.i64_in _ (by omega)
          by_cases hsk : z < 0 ∨ 3000 < z
          · have hd1 : (decide (z < 0) || decide (z > 3000)) = true := by simpa using hsk
            by_cases hz0 : z < 0
            · have hd2 : decide (z < 0) = true := decide_eq_true hz0
              go_wp2_with fail
              go_roundw
              case rel => exact ⟨j + 1, S, hs, by omega, by first | rfl | go_num, E2.mono (by omega) (by omega), HR, B1, B2⟩
              case measure => simp [intOf]; omega
            · have hd2 : decide (z < 0) = false := decide_eq_false hz0
              have hd3 : decide (z > 3000) = true := decide_eq_true (by omega)
              go_wp2_with fail
              go_roundw
              case rel => exact ⟨j + 1, S, hs, by omega, by first | rfl | go_num, E2.mono (by omega) (by omega), HR, B1, B2⟩
              case measure => simp [intOf]; omega
          · have hd2 : decide (z < 0) = false := decide_eq_false (by omega)
            have hd3 : decide (z > 3000) = false := decide_eq_false (by omega)
            obtain ⟨n, rfl⟩ : ∃ n : Nat, z = (n : Int) := ⟨z.toNat, by omega⟩
            have hsum := HR.fit
            have hlen := HR.len
            obtain ⟨k, hkj, hk4'⟩ : ∃ k : Nat, (j : Int) % 4 = (k : Int) ∧ k < 4 := ⟨j % 4, by omega, by omega⟩
            have c7 : wr.cell? ⟨v1.heap.size, k, none⟩ = some (.string (VfsT.nm4 k)) := by
              rw [cell_of B1]
              rcases (by omega : k = 0 ∨ k = 1 ∨ k = 2 ∨ k = 3) with rfl | rfl | rfl | rfl <;> rfl
            have hns : (VfsT.nm4 k).size ≤ 10000000 := by rcases (by omega : k = 0 ∨ k = 1 ∨ k = 2 ∨ k = 3) with rfl | rfl | rfl | rfl <;> decide
            have hgr : hs.getD k 0 ≤ r := by have := VfsT.sum_set hs hlen k 0 hk4'; omega
            have hA := HR.append k hk4'
            have hC := HR.cut k hk4'
            have c8 : wr.cell? ⟨v1.heap.size + 1, k, none⟩ = some (.int .i64 ((hs.getD k 0 : Nat) : Int)) := by rw [cell_of B2, hvC_at _ _ (by rw [HR.len]; exact hk4')]
            have h4 := VfsT.four hs hlen
            have h0 : wr.cell? ⟨v1.heap.size + 1, 0, none⟩ = some (.int .i64 ((hs.getD 0 0 : Nat) : Int)) := by rw [cell_of B2, hvC_at _ _ (by rw [HR.len]; decide)]
            have h1 : wr.cell? ⟨v1.heap.size + 1, 1, none⟩ = some (.int .i64 ((hs.getD 1 0 : Nat) : Int)) := by rw [cell_of B2, hvC_at _ _ (by rw [HR.len]; decide)]
            have h2 : wr.cell? ⟨v1.heap.size + 1, 2, none⟩ = some (.int .i64 ((hs.getD 2 0 : Nat) : Int)) := by rw [cell_of B2, hvC_at _ _ (by rw [HR.len]; decide)]
            have h3 : wr.cell? ⟨v1.heap.size + 1, 3, none⟩ = some (.int .i64 ((hs.getD 3 0 : Nat) : Int)) := by rw [cell_of B2, hvC_at _ _ (by rw [HR.len]; decide)]
            have hsm : hs.getD 0 0 + hs.getD 1 0 + hs.getD 2 0 + hs.getD 3 0 = hs.sum := by rw [h4]; simp; omega
            have hss := fun m => VfsT.sum_set hs hlen k m hk4'
            have hus := HR.used
            generalize hs.getD k 0 = g at hgr hA hC c8 hss
            generalize hs.getD 0 0 = g0 at h0 hsm
            generalize hs.getD 1 0 = g1 at h1 hsm
            generalize hs.getD 2 0 = g2 at h2 hsm
            generalize hs.getD 3 0 = g3 at h3 hsm
            clear h4
            have hs1 : IntKind.i64.wrap ((g0 : Int) + (g1 : Int)) = (g0 : Int) + (g1 : Int) := IntWalk.i64_in _ (by omega)
            have hs2 : IntKind.i64.wrap ((g0 : Int) + (g1 : Int) + (g2 : Int)) = (g0 : Int) + (g1 : Int) + (g2 : Int) := IntWalk.i64_in _ (by omega)
            have hs3 : IntKind.i64.wrap ((g0 : Int) + (g1 : Int) + (g2 : Int) + (g3 : Int)) = (hs.sum : Int) := by rw [← hsm]; push_cast; exact IntWalk.i64_in _ (by omega)
            have hq : IntKind.i64.wrap ((g : Int) / 2) = (g : Int) / 2 := IntWalk.i64_in _ (by omega)
            have hgc : ((g / 2 : Nat) : Int) = (g : Int) / 2 := by omega
            rw [hgc] at hC
            clear hgc
            have HA := Lib.hid hA
            have HC := Lib.hid hC
            clear hA hC hsm
            generalize hs.sum = tot at *
            by_cases h7 : ((j : Int) % 7 == 6) = true
            · go_wp2_with fail
              rw [hkj]
              have b1 : (0 : Int) ≤ (k : Int) := by omega
              have b2 : (k : Int) < 4 := by omega
              go_region_held3 (fun w' => w'.cell? ⟨v1.heap.size, k, none⟩ = some (.string (VfsT.nm4 k)) ∧ w'.cell? ⟨v1.heap.size + 1, k, none⟩ = some (.int .i64 (g : Int)))
                (first | exact ⟨q7, q8⟩ | exact ⟨c7, c8⟩ | go_keep)
                (first | (go_at_call 49; refine (cut_e (E2.drewN 1) (VfsT.nm4 k) ((g : Int) / 2) hns (by omega)).mono ?_; rw [HC.out.1]; rintro e w' ⟨rfl, E3, hh⟩; have B1' := (hh _ (.inl rfl)).trans B1; have B2' := (hh _ (.inr rfl)).trans B2; have q7 : w'.cell? ⟨v1.heap.size, k, none⟩ = some (.string (VfsT.nm4 k)) := (by rw [World.cell?_of_block (a := ⟨v1.heap.size, k, none⟩) (hh _ (.inl rfl))]; exact c7); have q8 : w'.cell? ⟨v1.heap.size + 1, k, none⟩ = some (.int .i64 (g : Int)) := (by rw [World.cell?_of_block (a := ⟨v1.heap.size + 1, k, none⟩) (hh _ (.inr rfl))]; exact c8)))
              obtain ⟨s4, g4⟩ := set_block B2' k (.int .i64 ((g : Int) / 2))
              have fz := frozen_of B2' k
              clear B2
              go_wp2_with fail
              go_roundw
              case rel =>
                refine ⟨j + 1, _, _, by omega, by first | rfl | go_num, (E3.grown g4 (.inr rfl)).mono (by omega) (by omega), HC.out.2, (g4.block _ (Array.getElem?_eq_some_iff.1 B1').1 (by intro e; injection e with e; omega)).trans B1', ?_⟩
                rw [show (g : Int) / 2 = ((g / 2 : Nat) : Int) by omega, hvC_set] at s4
                rw [show (g : Int) / 2 = ((g / 2 : Nat) : Int) by omega]
                exact s4
              case measure => simp [intOf]; omega
            · have h7 : ((j : Int) % 7 == 6) = false := by simpa using h7
              go_wp2_with fail
              rw [hkj]
              have b1 : (0 : Int) ≤ (k : Int) := by omega
              have b2 : (k : Int) < 4 := by omega
              have b3 : (0 : Int) ≤ (n : Int) := by omega
              have b4 : (n : Int) ≤ 3000 := by omega
              have hmk := make_u8 n (by omega)
              have hsl : SlE (fun q => (q = v1.heap.size ∨ q = v1.heap.size + 1) ∨ q = wr.heap.size) w0 ((wr.alloc (.cells (byteCells (zeroB n)).toArray 5)).drewN 1) (some ⟨wr.heap.size, 0, none⟩) (byteCells (zeroB n)) :=
                .inr ⟨_, _, rfl, .inr (.inr rfl), fun i u hu => by
                  rw [Nat.zero_add]
                  simp only [World.cell?]
                  rw [show ((wr.alloc (.cells (byteCells (zeroB n)).toArray 5)).drewN 1).heap[wr.heap.size]? = some (.cells (byteCells (zeroB n)).toArray 5 (0, 0)) from Array.getElem?_push_size]
                  simpa using hu⟩
              have HAP := append_e ((E2.alloc (.cells (byteCells (zeroB n)).toArray 5)).drewN 1) (VfsT.nm4 k) (zeroB n) (some ⟨wr.heap.size, 0, none⟩) n hns (by rw [zeroB_size]; omega) hsl (by omega)
              obtain ⟨ap1, ap2, ap3⟩ := HA.out (zeroB n)
              rw [zeroB_size] at HAP ap1 ap2 ap3
              rw [ap1] at HAP
              clear hsl HA HC ap1
              have hs5 : IntKind.i64.wrap ((tot : Int) + (n : Int)) = (tot : Int) + (n : Int) := IntWalk.i64_in _ (by omega)
              have hs6 : IntKind.i64.wrap ((g : Int) + (n : Int)) = (g : Int) + (n : Int) := IntWalk.i64_in _ (by omega)
              by_cases hc : tot + n ≤ r
              · have hdc : decide ((tot : Int) + (n : Int) ≤ (r : Int)) = true := decide_eq_true (by omega)
                rw [if_pos hc] at HAP
                have R3 := ap2 hc
                clear ap2 ap3
                generalize (VfsS.appendS S (VfsT.nm4 k) (zeroB n)).1 = S3 at HAP R3
                have HAP := Lib.hid HAP
                go_region_held3 (fun w' => w'.cell? ⟨v1.heap.size, k, none⟩ = some (.string (VfsT.nm4 k)))
                  (first | exact q7 | exact c7 | exact c7a | go_keep)
                  (first | (go_at_call 27; refine HAP.out.mono ?_; rintro e w' ⟨rfl, E3, hh⟩; have B1' := (hh _ (.inl (.inl rfl))).trans (((below_alloc wr (.cells (byteCells (zeroB n)).toArray 5)).block _ (Array.getElem?_eq_some_iff.1 B1).1).trans B1); have B2' := (hh _ (.inl (.inr rfl))).trans (((below_alloc wr (.cells (byteCells (zeroB n)).toArray 5)).block _ (Array.getElem?_eq_some_iff.1 B2).1).trans B2); have q7 : w'.cell? ⟨v1.heap.size, k, none⟩ = some (.string (VfsT.nm4 k)) := (by rw [World.cell?_of_block (a := ⟨v1.heap.size, k, none⟩) (B1'.trans B1.symm)]; exact c7); have q8 : w'.cell? ⟨v1.heap.size + 1, k, none⟩ = some (.int .i64 (g : Int)) := (by rw [World.cell?_of_block (a := ⟨v1.heap.size + 1, k, none⟩) (B2'.trans B2.symm)]; exact c8)))
                obtain ⟨s4, g4⟩ := set_block B2' k (.int .i64 ((g : Int) + (n : Int)))
                have fz := frozen_of B2' k
                replace B1' := (g4.block _ (Array.getElem?_eq_some_iff.1 B1').1 (by intro e; injection e with e; omega)).trans B1'
                have E4 := (E3.sub (fun k hk => .inl hk)).grown g4 (.inr rfl)
                clear B1 B2 hh HAP hmk g4
                go_wp2_with fail
                have hu3 : ((VfsS.used S3 : Nat) : Int) = (tot : Int) + (n : Int) := by
                  have := hss (g + n)
                  rw [R3.used]; omega
                refine (left_e E4).mono ?_
                rw [R3.room, hu3]
                rintro e w3 ⟨rfl, E5, hh5⟩
                have hs7 : IntKind.i64.wrap ((r : Int) - ((tot : Int) + (n : Int))) = (r : Int) - ((tot : Int) + (n : Int)) := IntWalk.i64_in _ (by omega)
                clear E3 E4 q7 q8 fz B2'
                go_wp2_with fail
                refine (used_e E5).mono ?_
                rw [hu3]
                rintro e w4 ⟨rfl, E6, hh6⟩
                clear E5
                go_wp2_with fail
                go_roundw
                case rel =>
                  refine ⟨j + 1, S3, _, by omega, by first | rfl | go_num, E6.mono (by omega) (by omega), R3, (hh6 _ (.inl rfl)).trans ((hh5 _ (.inl rfl)).trans B1'), (hh6 _ (.inr rfl)).trans ((hh5 _ (.inr rfl)).trans ?_)⟩
                  rw [show (g : Int) + (n : Int) = ((g + n : Nat) : Int) by omega, hvC_set] at s4
                  rw [show (g : Int) + (n : Int) = ((g + n : Nat) : Int) by omega]
                  exact s4
                case measure => simp [intOf]; omega
              · have hdc : decide ((tot : Int) + (n : Int) ≤ (r : Int)) = false := decide_eq_false (by omega)
                rw [if_neg hc, ap3 hc] at HAP
                clear ap2 ap3
                have HAP := Lib.hid HAP
                go_region_held3 (fun w' => w'.cell? ⟨v1.heap.size, k, none⟩ = some (.string (VfsT.nm4 k)))
                  (first | exact q7 | exact c7 | exact c7a | go_keep)
                  (first | (go_at_call 27; refine HAP.out.mono ?_; rintro e w' ⟨rfl, E3, hh⟩; have B1' := (hh _ (.inl (.inl rfl))).trans (((below_alloc wr (.cells (byteCells (zeroB n)).toArray 5)).block _ (Array.getElem?_eq_some_iff.1 B1).1).trans B1); have B2' := (hh _ (.inl (.inr rfl))).trans (((below_alloc wr (.cells (byteCells (zeroB n)).toArray 5)).block _ (Array.getElem?_eq_some_iff.1 B2).1).trans B2); have q7 : w'.cell? ⟨v1.heap.size, k, none⟩ = some (.string (VfsT.nm4 k)) := (by rw [World.cell?_of_block (a := ⟨v1.heap.size, k, none⟩) (B1'.trans B1.symm)]; exact c7)))
                have E4 := E3.sub (E' := fun k => k = v1.heap.size ∨ k = v1.heap.size + 1) (fun k hk => .inl hk)
                clear B1 B2 hh HAP hmk
                go_wp2_with fail
                refine (left_e E4).mono ?_
                rw [HR.room, hus]
                rintro e w3 ⟨rfl, E5, hh5⟩
                have hs7 : IntKind.i64.wrap ((r : Int) - (tot : Int)) = (r : Int) - (tot : Int) := IntWalk.i64_in _ (by omega)
                clear E3 E4 q7
                go_wp2_with fail
                refine (used_e E5).mono ?_
                rw [hus]
                rintro e w4 ⟨rfl, E6, hh6⟩
                clear E5
                go_wp2_with fail
                go_roundw
                case rel =>
                  exact ⟨j + 1, S, hs, by omega, by first | rfl | go_num, E6.mono (by omega) (by omega), HR, (hh6 _ (.inl rfl)).trans ((hh5 _ (.inl rfl)).trans B1'), (hh6 _ (.inr rfl)).trans ((hh5 _ (.inr rfl)).trans B2')⟩
                case measure => simp [intOf]; omega
        · have hd : decide ((j : Int) < (zs.length : Int)) = false := decide_eq_false (by omega)
          have hlen := HR.len
          have hsum := HR.fit
          have h1 : wr.cell? ⟨v1.heap.size + 1, 1, none⟩ = some (.int .i64 ((hs.getD 1 0 : Nat) : Int)) := by rw [cell_of B2, hvC_at _ _ (by rw [HR.len]; decide)]
          have h2 : wr.cell? ⟨v1.heap.size + 1, 2, none⟩ = some (.int .i64 ((hs.getD 2 0 : Nat) : Int)) := by rw [cell_of B2, hvC_at _ _ (by rw [HR.len]; decide)]
          have h3 : wr.cell? ⟨v1.heap.size + 1, 3, none⟩ = some (.int .i64 ((hs.getD 3 0 : Nat) : Int)) := by rw [cell_of B2, hvC_at _ _ (by rw [HR.len]; decide)]
          have hsm : hs.getD 0 0 + hs.getD 1 0 + hs.getD 2 0 + hs.getD 3 0 = hs.sum := by rw [VfsT.four hs hlen]; simp; omega
          obtain ⟨hr1, hr2⟩ := HR.rem
          generalize hs.getD 0 0 = g0 at hsm
          generalize hs.getD 1 0 = g1 at h1 hsm hr2
          generalize hs.getD 2 0 = g2 at h2 hsm hr2
          generalize hs.getD 3 0 = g3 at h3 hsm hr2
          have hs1 : IntKind.i64.wrap ((g1 : Int) + (g2 : Int)) = (g1 : Int) + (g2 : Int) := IntWalk.i64_in _ (by omega)
          have hs2 : IntKind.i64.wrap ((g1 : Int) + (g2 : Int) + (g3 : Int)) = (g1 : Int) + (g2 : Int) + (g3 : Int) := IntWalk.i64_in _ (by omega)
          have hu : ((VfsS.used (VfsS.removeS S VfsT.a).1 : Nat) : Int) = (g1 : Int) + (g2 : Int) + (g3 : Int) := by rw [hr2]; omega
          have HRM := remove_e (E2.drewN 1) VfsT.a (by decide) (by omega)
          rw [hr1] at HRM
          generalize (VfsS.removeS S VfsT.a).1 = S5 at HRM hu
          have HRM := Lib.hid HRM
          have HU := Lib.hid hu
          clear hr1 hr2 hu hsm hsum
          go_wp2_with fail
          go_region_held3 (fun w' => w'.cell? ⟨v1.heap.size + 1, 1, none⟩ = some (.int .i64 (g1 : Int)) ∧ w'.cell? ⟨v1.heap.size + 1, 2, none⟩ = some (.int .i64 (g2 : Int)) ∧ w'.cell? ⟨v1.heap.size + 1, 3, none⟩ = some (.int .i64 (g3 : Int)))
            (first | exact ⟨r1, r2, r3⟩ | exact ⟨q1, q2, q3⟩ | exact ⟨h1, h2, h3⟩ | go_keep)
            (first
              | (go_at_call 51; refine HRM.out.mono ?_; rintro e w' ⟨rfl, E3, hh⟩; have q1 : w'.cell? ⟨v1.heap.size + 1, 1, none⟩ = some (.int .i64 (g1 : Int)) := (by rw [World.cell?_of_block (a := ⟨v1.heap.size + 1, 1, none⟩) (hh _ (.inr rfl))]; exact h1); have q2 : w'.cell? ⟨v1.heap.size + 1, 2, none⟩ = some (.int .i64 (g2 : Int)) := (by rw [World.cell?_of_block (a := ⟨v1.heap.size + 1, 2, none⟩) (hh _ (.inr rfl))]; exact h2); have q3 : w'.cell? ⟨v1.heap.size + 1, 3, none⟩ = some (.int .i64 (g3 : Int)) := (by rw [World.cell?_of_block (a := ⟨v1.heap.size + 1, 3, none⟩) (hh _ (.inr rfl))]; exact h3))
              | (go_at_call 42; refine (used_e E3).mono ?_; rw [HU.out]; rintro e w2 ⟨rfl, E4, hh2⟩; have r1 : w2.cell? ⟨v1.heap.size + 1, 1, none⟩ = some (.int .i64 (g1 : Int)) := (by rw [World.cell?_of_block (a := ⟨v1.heap.size + 1, 1, none⟩) (hh2 _ (.inr rfl))]; exact q1); have r2 : w2.cell? ⟨v1.heap.size + 1, 2, none⟩ = some (.int .i64 (g2 : Int)) := (by rw [World.cell?_of_block (a := ⟨v1.heap.size + 1, 2, none⟩) (hh2 _ (.inr rfl))]; exact q2); have r3 : w2.cell? ⟨v1.heap.size + 1, 3, none⟩ = some (.int .i64 (g3 : Int)) := (by rw [World.cell?_of_block (a := ⟨v1.heap.size + 1, 3, none⟩) (hh2 _ (.inr rfl))]; exact q3)))
          all_goals
            first | go_ret | (go_wp2_with fail; go_ret) | go_end0
            exact ⟨rfl, hb0.trans (E4.out.mono hb0.size)⟩
end Go.Proofs.YtfoamcobpfflbaaDoor
