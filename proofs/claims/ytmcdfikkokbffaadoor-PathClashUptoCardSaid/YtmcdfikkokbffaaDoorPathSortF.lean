/- slices.SortFunc over paths with Compare: the row holds the sorted list. -/
import Derived.Test.YtmcdfikkokbffaaDoorPathMore
import Derived.Test.YtmcdfikkokbffaaDoorPathClashS
namespace Go.Proofs.YtmcdfikkokbffaaDoor
open Go Go.RowKit Go.Sort

theorem Gl.below2 {w w' : World} {B : Nat} (h : Gl w) (hb : Below B w w') (hB : 0 < B) : Gl w' := by
  obtain ⟨⟨m, hm⟩, hs⟩ := h
  exact ⟨⟨m, by rw [hb.cell (p := ⟨0, 0, none⟩) hB]; exact hm⟩, Nat.lt_of_lt_of_le hs hb.size⟩

/-- A text that is no longer than the walks take. -/
structure Sh where
  val : ByteArray
  ok : val.size ≤ 10000000
instance : Inhabited Sh := ⟨⟨ByteArray.empty, by decide⟩⟩
def encS (x : Sh) : Value := .string x.val
def cmpS (x y : Sh) : Int := PathS.cmp x.val y.val

theorem ltS {x y : Sh} : ltOf cmpS x y = true ↔ PathS.cmp x.val y.val < 0 := decide_eq_true_iff
theorem ltS_not {x y : Sh} : ltOf cmpS x y = false ↔ ¬ PathS.cmp x.val y.val < 0 := decide_eq_false_iff_not

theorem swoS : SWO (ltOf cmpS) where
  irrefl x := by
    have := (PathS.cmp_tw.eq0 x.val x.val).2 rfl
    exact ltS_not.2 (by omega)
  trans x y z h1 h2 := ltS.2 (PathS.cmp_tw.tr _ _ _ (ltS.1 h1) (ltS.1 h2))
  ntrans x y z h1 h2 := by
    have h1 := ltS_not.1 h1
    have h2 := ltS_not.1 h2
    refine ltS_not.2 ?_
    have a1 := PathS.cmp_tw.anti x.val y.val
    have a2 := PathS.cmp_tw.anti y.val z.val
    have a3 := PathS.cmp_tw.anti x.val z.val
    have := PathS.cmp_tw.le z.val y.val x.val (by omega) (by omega)
    omega

theorem sh_ext {x y : Sh} (h : x.val = y.val) : x = y := by cases x; cases y; simp at h; subst h; rfl

theorem totS (x y : Sh) (h1 : ltOf cmpS x y = false) (h2 : ltOf cmpS y x = false) : x = y := by
  have h1 := ltS_not.1 h1
  have h2 := ltS_not.1 h2
  have a1 := PathS.cmp_tw.anti x.val y.val
  exact sh_ext ((PathS.cmp_tw.eq0 _ _).1 (by omega))

theorem enter_cmp : ∀ args w, (callFunc 11 args).run Tryd.prog w = .ok (.enter 11 args) w := enters_of Tryd.func11 (by kernel_rfl) rfl

theorem below_sortWorld {α : Type} [Inhabited α] (enc : α → Value) (w : World) (blk off m : Nat) (dk : Array α) (os : Array Obj) (h : blk < w.heap.size) : Below blk w (sortWorld enc w blk off m dk os) := by
  refine ⟨rfl, rfl, rfl, ?_, fun k hk => ?_⟩
  · simp [sortWorld, grow, putRow, mapBlock, Sort.ahead]
  · show ((Array.modify w.heap blk _) ++ os)[k]? = w.heap[k]?
    rw [Array.getElem?_append, if_pos (by simp; omega), Array.getElem?_modify, if_neg (by omega)]

def pack : (l : List ByteArray) → (∀ s ∈ l, s.size ≤ 10000000) → List Sh
  | [], _ => []
  | s :: l, h => ⟨s, h s (by simp)⟩ :: pack l (fun x hx => h x (by simp [hx]))

theorem pack_val : ∀ (l : List ByteArray) (hz : ∀ s ∈ l, s.size ≤ 10000000), (pack l hz).map (·.val) = l
  | [], _ => rfl
  | s :: l, h => by rw [pack, List.map_cons, pack_val l]

theorem psort_c (base g c : Nat) (l : List ByteArray) (w : World) (hg : Gl w) (hbase : 0 < base) (hown : w.ownsRow base 9 1 (.slice (some ⟨g, 0, none⟩) l.length c) l.length (l.map Value.string)) (hz : ∀ s ∈ l, s.size ≤ 10000000) (hl : l.length ≤ 10000000) :
    Calls Tryd.prog 40 #[.slice (some ⟨g, 0, none⟩) l.length c, .func (.func 11) #[] #[]] w fun e w' => e = .returned (.tuple #[]) ∧ Sl w' (some ⟨g, 0, none⟩) ((PathS.sorted l).map Value.string) ∧ Below base w w' := by
  have hgb := hown.lt g rfl
  have hlen : (pack l hz).toArray.size = l.length := by have := congrArg List.length (pack_val l hz); simpa using this
  have hget : ∀ j (hj : j < l.length), ((pack l hz).toArray[j]!).val = l[j] := by
    intro j hj
    rw [getElem!_pos _ j (by rw [hlen]; exact hj)]
    have h := pack_val l hz
    have h2 : ((pack l hz).map (·.val))[j]? = l[j]? := by rw [h]
    rw [List.getElem?_map, List.getElem?_eq_getElem (by have := hlen; simp at this; omega), List.getElem?_eq_getElem hj] at h2
    simpa using h2
  have hH : Holds encS w g 0 (pack l hz).toArray := by
    intro j hj
    rw [hlen] at hj
    rw [Nat.zero_add]
    refine ⟨?_, hown.frozenAt j⟩
    rw [hown.cellAt j (by omega), List.getElem?_map, List.getElem?_eq_getElem hj]
    show some (Value.string l[j]) = some (Value.string ((pack l hz).toArray[j]!).val)
    rw [hget j hj]
  have hcmp : CmpLays1 Tryd.prog 11 #[] encS cmpS g 0 (pack l hz).toArray.size w := by
    intro m os dk _ x y
    have hb := below_sortWorld encS w g 0 m dk os hgb.2
    refine (cmp_g x.val y.val _ (hg.below2 hb (by omega)) x.ok y.ok).mono ?_
    rintro e w' ⟨rfl, h⟩
    exact ⟨rfl, h.form⟩
  have h := Tryd.slices_SortFunc_total encS (fun _ => rfl) cmpS swoS 11 #[] g 0 c (pack l hz).toArray w enter_cmp hcmp hH hgb.2 (by rw [hlen]; omega) totS
  rw [hlen] at h
  refine h.mono ?_
  rintro e w' ⟨rfl, n, os, rfl⟩
  refine ⟨rfl, ?_, (below_sortWorld encS w g 0 n _ os hgb.2).mono hgb.1⟩
  have hd : ((pack l hz).mergeSort fun x y => !(ltOf cmpS) y x).map (·.val) = PathS.sorted l := by
    apply PathS.sorted_one
    · have := (List.mergeSort_perm (pack l hz) (fun x y => !(ltOf cmpS) y x)).map (·.val)
      rwa [pack_val] at this
    · rw [List.pairwise_map]
      refine List.Pairwise.imp ?_ (List.pairwise_mergeSort ?_ ?_ (pack l hz))
      · intro a b hab
        have hab := ltS_not.1 (by simpa using hab : ltOf cmpS b a = false)
        have := PathS.cmp_tw.anti a.val b.val
        unfold PathS.le; omega
      · intro a b d h1 h2
        simp only [Bool.not_eq_true'] at h1 h2 ⊢
        exact swoS.ntrans _ _ _ h2 h1
      · intro a b
        cases h1 : ltOf cmpS b a
        · simp
        · cases h2 : ltOf cmpS a b
          · simp
          · have := swoS.trans _ _ _ h1 h2
            rw [swoS.irrefl] at this; cases this
  generalize (pack l hz).mergeSort (fun x y => !(ltOf cmpS) y x) = srt at *
  have hsl : srt.toArray.size = (pack l hz).toArray.size := by
    have := congrArg List.length hd
    rw [List.length_map, PathS.sorted_length] at this
    rw [hlen]; simpa using this
  by_cases h0 : l.length = 0
  · left
    rw [List.map_eq_nil_iff]
    exact List.eq_nil_of_length_eq_zero (by rw [PathS.sorted_length]; exact h0)
  · refine .inr ⟨g, 0, rfl, ?_, fun i u hu => ?_⟩
    · simp [sortWorld, grow, putRow, mapBlock, Sort.ahead]; have := hgb.2; omega
    · have hi : i < srt.toArray.size := by
        have := (List.getElem?_eq_some_iff.1 hu).1
        rw [List.length_map, PathS.sorted_length] at this
        rw [hsl, hlen]; exact this
      have h1 := cell?_putRow encS (Sort.ahead w n) g 0 (pack l hz).toArray srt.toArray (holds_ahead encS w n g 0 _ hH) hsl i hi
      have h2 : (sortWorld encS w g 0 n srt.toArray os).cell? ⟨g, 0 + i, none⟩ = (putRow encS (Sort.ahead w n) g 0 srt.toArray).cell? ⟨g, 0 + i, none⟩ := by
        simp only [sortWorld, grow, World.cell?]
        rw [Array.getElem?_append, if_pos (by simp [putRow, mapBlock, Sort.ahead]; exact hgb.2)]
      rw [h2, h1]
      rw [← hd, List.getElem?_map, List.getElem?_map] at hu
      have hi' : i < srt.length := by simpa using hi
      rw [List.getElem?_eq_getElem hi'] at hu
      rw [getElem!_pos _ i hi]
      simpa [encS] using hu
end Go.Proofs.YtmcdfikkokbffaaDoor
