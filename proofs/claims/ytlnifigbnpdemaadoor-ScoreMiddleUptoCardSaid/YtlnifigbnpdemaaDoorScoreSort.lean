/- Walks: the stable sort of moves. -/
import Derived.Test.YtlnifigbnpdemaaDoorScoreOrd
import Derived.Shelf.SlSortCmp.InsertionK
namespace Go.Proofs.YtlnifigbnpdemaaDoor
open Go Go.RowKit Go.Sort Go.Shelf

def renI : Ren := ⟨fun | 20 => 45 | n => n, fun | 22 => 34 | 24 => 43 | 25 => 70 | n => n, fun | n => n⟩

theorem laysI : SlLaysF0.n20 Tryd.prog renI := {
  mixed := by kernel_rfl
  f20 := ⟨(Tryd.f45).name, by kernel_rfl, Tryd.func45.trans (congrArg some (by kernel_rfl))⟩
  t0 := Tryd.underlying0
  a0 := Tryd.isAgg0
  z0 := Tryd.sizeOf0
  v0 := Tryd.zeroValue0
  t3 := Tryd.underlying3
  a3 := Tryd.isAgg3
  z3 := Tryd.sizeOf3
  v3 := Tryd.zeroValue3
  t4 := Tryd.underlying4
  a4 := Tryd.isAgg4
  z4 := Tryd.sizeOf4
  v4 := Tryd.zeroValue4
  t22 := Tryd.underlying34
  a22 := Tryd.isAgg34
  z22 := Tryd.sizeOf34
  v22 := Tryd.zeroValue34
  t25 := Tryd.underlying70
  a25 := Tryd.isAgg70
  z25 := Tryd.sizeOf70
  v25 := Tryd.zeroValue70 }

/-- A move that is no greater than the walks take. -/
structure Mb where
  val : Mv
  ok1 : val.src.size ≤ 10000000
  ok2 : val.dst.size ≤ 10000000
  ok3 : val.sc < 2 ^ 64
  ok4 : cn val.sc = val.sc
instance : Inhabited Mb := ⟨⟨⟨ByteArray.empty, ByteArray.empty, 9221120237041090560⟩, by decide, by decide, by decide, by rw [cn]; split <;> rfl⟩⟩
def encB (x : Mb) : List Value := encM x.val
def ordB (x y : Mb) : Int := ordI x.val y.val

theorem enter_order : ∀ args w, (callFunc 28 args).run Tryd.prog w = .ok (.enter 28 args) w := enters_of Tryd.func28 (by kernel_rfl) rfl

theorem Gl.below2 {w w' : World} {B : Nat} (h : Gl w) (hb : Below B w w') (hB : 1 < B) : Gl w' := by
  obtain ⟨⟨m, hm⟩, hs⟩ := h
  exact ⟨⟨m, by rw [hb.cell (p := ⟨1, 0, none⟩) hB]; exact hm⟩, Nat.lt_of_lt_of_le hs hb.size⟩

theorem below_sortWorldK {α : Type} [Inhabited α] (enc : α → List Value) (k : Nat) (w : World) (blk off m : Nat) (dk : Array α) (os : Array Obj) (h : blk < w.heap.size) : Below blk w (sortWorldK enc k w blk off m dk os) := by
  refine ⟨rfl, rfl, rfl, ?_, fun j hj => ?_⟩
  · simp [sortWorldK, putRowK, grow, putRow, mapBlock, Sort.ahead]
  · show ((Array.modify w.heap blk _) ++ os)[j]? = w.heap[j]?
    rw [Array.getElem?_append, if_pos (by simp; omega), Array.getElem?_modify, if_neg (by omega)]

theorem cmp_lays (g : Nat) (d : Array Mb) (w : World) (hg : Gl w) (hgg : 1 < g) (hgl : g < w.heap.size) : CmpLays Tryd.prog 28 #[] encB 3 ordB g 0 d.size w := by
  intro m os dk _ x y
  have hb := below_sortWorldK encB 3 w g 0 m dk os hgl
  refine (order_g x.val y.val _ (hg.below2 hb hgg) x.ok1 x.ok2 x.ok3 y.ok1 y.ok2 y.ok3).mono ?_
  rintro e w' ⟨rfl, h⟩
  exact ⟨rfl, h.form⟩

set_option maxRecDepth 100000 in
set_option maxHeartbeats 2000000 in
theorem stable_small (g c : Nat) (d : Array Mb) (w : World) (hg : Gl w) (hgg : 1 < g) (hgl : g < w.heap.size) (hH : HoldsK encB 3 w g 0 d) (hn : d.size < 20) :
    Calls Tryd.prog 39 #[.slice (some ⟨g, 0, none⟩) d.size c, .int .i64 d.size, .func (.func 28) #[] #[]] w fun e w' => e = .returned (.tuple #[]) ∧ ∃ m os, w' = sortWorldK encB 3 w g 0 m (Sort.insertionSort (ltOf ordB) d 0 d.size) os := by
  have HI := Lib.hid (AnyQ.insertionSortCmpFunc laysI 3 (Tryd.isAgg43) (Tryd.sizeOf43) encB (fun _ => rfl) (fun x v hv => by
    simp only [encB, encM, List.mem_cons, List.not_mem_nil, or_false] at hv
    rcases hv with rfl | rfl | rfl <;> rfl) ordB 28 #[] g 0 c 0 d.size d w enter_order (cmp_lays g d w hg hgg hgl) hH hgl (Nat.zero_le _) (Nat.le_refl _) (by omega))
  have h1 : ¬ (20 : Int) ≤ d.size := by omega
  have h2 : ¬ (20 : Int) < d.size := by omega
  clear hH hg
  go_enter Tryd.func39, Tryd.ntmps39
  go_wp2_with fail
  go_loopw [7, 8] (fun a b wr => a = .int .i64 0 ∧ b = .int .i64 20 ∧ wr = w) (fun _ _ _ => 0)
  case atStart => exact ⟨rfl, rfl, rfl⟩
  case round =>
    obtain ⟨rfl, rfl, rfl⟩ := hrel
    go_wp2_with fail
    refine (show Calls Tryd.prog 45 #[.slice (some ⟨g, 0, none⟩) d.size c, .int .i64 0, .int .i64 d.size, .func (.func 28) #[] #[]] wr _ from HI.out).mono ?_
    rintro e w2 ⟨rfl, m, os, rfl⟩
    generalize hW : sortWorldK encB 3 wr g 0 m (Sort.insertionSort (ltOf ordB) d 0 d.size) os = W at *
    go_wp2_with fail
    go_loopw [6] (fun a wx => a = .int .i64 20 ∧ wx = W) (fun _ _ => 0)
    case atStart => exact ⟨rfl, rfl⟩
    case round =>
      obtain ⟨rfl, rfl⟩ := hrel
      go_wp2_with fail
      go_end0
      exact ⟨rfl, m, os, hW.symm⟩
end Go.Proofs.YtlnifigbnpdemaaDoor
