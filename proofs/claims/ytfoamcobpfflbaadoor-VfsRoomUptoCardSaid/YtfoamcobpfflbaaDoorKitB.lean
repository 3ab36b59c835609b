/- string(b), []byte("..") over slices of bytes. Of every program. -/
import Derived.Test.YtfoamcobpfflbaaDoorKitA
import Derived.Test.YtfoamcobpfflbaaDoorKitF
import Derived.Laws.BytesArg
import Derived.Lib.SlBytesConst
namespace Go.Proofs.YtfoamcobpfflbaaDoor
open Go Go.RowKit

theorem byteCells_ints (b : ByteArray) : byteCells b = (b.data.toList.map fun x => (x.toNat : Int)).map (Value.int .u8) := by
  unfold byteCells; rw [List.map_map]; rfl

theorem run_str_of {P : Program} {src dst e : TypeId} (hs : P.underlying src = some (.slice e)) (he : P.underlying e = some (.int .u8)) (hd : P.underlying dst = some .string) {w : World} {a : Option Addr} {b : ByteArray} (h : Sl w a (byteCells b)) (c : Nat) :
    (convert src dst (.slice a b.size c)).run P w = .ok (.string b) w := by
  rcases h with h | ⟨x, o, rfl, _, h⟩
  · have hb : b.size = 0 := by
      have := congrArg List.length h
      rw [byteCells_ints, List.length_map, List.length_map, List.length_nil, Array.length_toList] at this
      exact this
    obtain rfl : b = ⟨#[]⟩ := by
      cases b with | mk d => congr 1; exact Array.eq_empty_of_size_eq_zero hb
    cases a with
    | none => exact run_convert_bytes_nil w src e hs he _ c dst hd
    | some a =>
      rw [run_convert_bytes_string w src dst e _ _ c hs he hd, show (⟨#[]⟩ : ByteArray).size = 0 from rfl, run_bytesToString w a 0 c [] (by
        have := run_loadCells_list (P := P) w a [] (fun j v hj => by simp at hj)
        simpa using this)]
      rfl
  · have hlen : (b.data.toList.map fun x => (x.toNat : Int)).length = b.size := by rw [List.length_map, Array.length_toList]; rfl
    rw [run_convert_bytes_arg w src e hs he x o b.size c _ hlen (fun i hi => by
      refine h i _ ?_
      rw [byteCells_ints, List.getElem?_map, List.getElem?_eq_getElem (by rw [hlen]; exact hi)]
      simp [List.getD, List.getElem?_eq_getElem (by rw [hlen]; exact hi)]) dst hd]
    congr 2
    unfold strOfNums
    cases b with | mk d => simp [Function.comp_def]

theorem sl_new (w : World) (cs : List Value) (e : TypeId) (f : Nat × Nat) : Sl (w.alloc (.cells cs.toArray e f)) (some ⟨w.heap.size, 0, none⟩) cs := by
  refine .inr ⟨_, _, rfl, by simp, fun i u hu => ?_⟩
  rw [Nat.zero_add]
  simp only [World.cell?]
  rw [show (w.alloc (.cells cs.toArray e f)).heap[w.heap.size]? = some (.cells cs.toArray e f) from Array.getElem?_push_size]
  simpa using hu
end Go.Proofs.YtfoamcobpfflbaaDoor
