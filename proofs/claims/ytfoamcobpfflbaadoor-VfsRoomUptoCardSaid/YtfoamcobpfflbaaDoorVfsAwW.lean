/- The benches' first question of the file system: the walk. -/
import Derived.Test.YtfoamcobpfflbaaDoorVfsAw
import Derived.Test.YtfoamcobpfflbaaDoorKitB
namespace Go.Proofs.YtfoamcobpfflbaaDoor
open Go Go.RowKit Go.Maps
open VfsS (St)

theorem slA_new {w0 w1 : World} (cs : List Value) (e : TypeId) (f : Nat × Nat) : SlA w0 w1 (w1.alloc (.cells cs.toArray e f)) (some ⟨w1.heap.size, 0, none⟩) cs := by
  rcases sl_new w1 cs e f with h | ⟨b, o, h1, h2, h3⟩
  · exact .inl h
  · injection h1 with h1; injection h1 with h1 _; exact .inr ⟨_, _, rfl, by simp, .inr (Nat.le_refl _), fun i u hu => by have := h3 i u hu; subst h1; simp_all⟩

theorem SlA.sl {w0 w1 w : World} {a : Option Addr} {xs : List Value} (h : SlA w0 w1 w a xs) : Sl w a xs := by
  rcases h with h | ⟨b, o, h1, h2, h3, h4⟩
  · exact .inl h
  · exact .inr ⟨b, o, h1, h2, h4⟩

theorem below_alloc (w : World) (o : Obj) : Below w.heap.size w (w.alloc o) := (Below.refl _ w).alloc (Nat.le_refl _) o

set_option maxRecDepth 100000 in
set_option maxHeartbeats 4000000 in
theorem awake14_c (w : World) (hg : Gl w) : Calls Tryd.prog 44 #[] w fun e w' => e = .returned (.bool true) ∧ Below w.heap.size w w' := by
  have kc := fun (w : World) (C : Array Value) (n c : Nat) => Lib.run_convert_bytes_const (P := Tryd.prog) w 43 5 C n c Tryd.underlying43 Tryd.underlying5
  have ks := fun {w : World} {a : Option Addr} {b : ByteArray} (h : Sl w a (byteCells b)) (c : Nat) => run_str_of (P := Tryd.prog) Tryd.underlying43 Tryd.underlying5 Tryd.underlying9 h c
  go_enter Tryd.func44, Tryd.ntmps44
  go_wp2_with fail
  refine (new_a 100 w hg).mono ?_
  rintro e w1 (⟨h, _⟩ | ⟨-, p, rfl, h1⟩)
  · omega
  go_wp2_with fail
  refine (create_a h1 VfsT.a (by decide) (by omega)).mono ?_
  rw [VfsT.e1]
  rintro e w2 ⟨rfl, h2⟩
  clear h1
  go_wp2_with fail
  refine (append_a h2 (below_alloc w2 _) VfsT.a ⟨#[120, 121]⟩ (some ⟨w2.heap.size, 0, none⟩) 2 (by decide) (by decide) (slA_new _ _ _) (by omega)).mono ?_
  rw [VfsT.e2]
  rintro e w3 ⟨rfl, h3⟩
  clear h2
  go_wp2_with fail
  refine (sync_a h3 VfsT.a (by decide) (by omega)).mono ?_
  rw [VfsT.e3]
  rintro e w4 ⟨rfl, h4⟩
  clear h3
  go_wp2_with fail
  refine (flush_a h4 (by omega)).mono ?_
  rw [VfsT.e4]
  rintro e w5 ⟨rfl, h5⟩
  clear h4
  go_wp2_with fail
  refine (rename_a h5 VfsT.a VfsT.b (by decide) (by decide) (by omega)).mono ?_
  rw [VfsT.e5]
  rintro e w6 ⟨rfl, h6⟩
  clear h5
  go_wp2_with fail
  refine (append_a h6 (below_alloc w6 _) VfsT.b ⟨#[122]⟩ (some ⟨w6.heap.size, 0, none⟩) 1 (by decide) (by decide) (slA_new _ _ _) (by omega)).mono ?_
  rw [VfsT.e6]
  rintro e w7 ⟨rfl, h7⟩
  clear h6
  go_wp2_with fail
  refine (crash_a h7 0 0).mono ?_
  rw [VfsT.e7]
  rintro e w8 ⟨rfl, h8⟩
  clear h7
  go_wp2_with fail
  refine (read_a h8 VfsT.a (by decide)).mono ?_
  rw [VfsT.r7a]
  simp only [Option.getD_some, Option.isSome_some, if_true]
  rintro e w9 ⟨ra, rc, rfl, hsl, -, h9⟩
  clear h8
  go_wp2_with fail
  refine (read_a h9 VfsT.b (by decide)).mono ?_
  rw [VfsT.r7b]
  simp only [Option.getD_none, Option.isSome_none]
  rintro e wA ⟨sa, sc, rfl, -, hbA, hA⟩
  have hconv := ks (hsl.sl.below hbA) rc
  rw [show (ByteArray.size ⟨#[120, 121]⟩) = 2 from rfl] at hconv
  clear h9 hsl hbA
  go_wp2_with fail
  refine (left_a hA).mono ?_
  rw [VfsT.u7]
  rintro e wB ⟨rfl, hB⟩
  clear hA hconv
  go_wp2_with fail
  refine (list_a hB).mono ?_
  rintro e wC ⟨la, lc, rfl, -, -, hC⟩
  clear hB
  go_wp2_with fail
  refine (steps_a hC).mono ?_
  rintro e wD ⟨rfl, rfl⟩
  go_wp2_with fail
  go_ret
  exact ⟨rfl, hC.out⟩
end Go.Proofs.YtfoamcobpfflbaaDoor
