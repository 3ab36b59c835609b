/- The middle one of numbers: sorting them, plain and walked. -/
import Derived.Test.YtlnifigbnpdemaaDoorScoreMidF
namespace Go.Proofs.YtlnifigbnpdemaaDoor
open Go Go.RowKit Go.Sort

/-- m is the middle one of xs in its one form. -/
def MidOf (xs : List Nat) (m : Nat) : Prop := ∃ s : List Nat, s.Perm xs ∧ s.Pairwise (fun a b => fkey a ≤ fkey b) ∧ ∃ y, s[(xs.length - 1) / 2]? = some y ∧ m = cn y

theorem fkey_cn (x : Nat) : fkey (cn x) = fkey x := by unfold fkey; rw [cn_idem]

def cntB (m : Nat) (l : List Nat) : Nat := (l.filter fun x => decide (fkey x < fkey m)).length
def cntA (m : Nat) (l : List Nat) : Nat := (l.filter fun x => decide (fkey m < fkey x)).length

theorem cntB_perm {m : Nat} {l l' : List Nat} (h : l.Perm l') : cntB m l = cntB m l' := (h.filter _).length_eq
theorem cntA_perm {m : Nat} {l l' : List Nat} (h : l.Perm l') : cntA m l = cntA m l' := (h.filter _).length_eq

theorem cnt_none {p : Nat → Bool} {l : List Nat} (h : ∀ x ∈ l, p x = false) : (l.filter p).length = 0 := by
  rw [List.length_eq_zero_iff, List.filter_eq_nil_iff]
  intro x hx; rw [h x hx]; decide

theorem sorted_cnt {s : List Nat} (hs : s.Pairwise (fun a b => fkey a ≤ fkey b)) {k : Nat} {y : Nat} (hk : s[k]? = some y) :
    (s.filter fun x => decide (fkey x < fkey y)).length ≤ k ∧ (s.filter fun x => decide (fkey y < fkey x)).length ≤ s.length - (k + 1) := by
  obtain ⟨hlt, hy⟩ := List.getElem?_eq_some_iff.1 hk
  rw [List.pairwise_iff_getElem] at hs
  have up : ∀ i (hi : i < s.length), k ≤ i → fkey y ≤ fkey s[i] := by
    intro i hi h
    rw [← hy]
    rcases Nat.eq_or_lt_of_le h with h | h
    · subst h; exact Nat.le_refl _
    · exact hs k i hlt hi h
  have dn : ∀ i (hi : i < s.length), i ≤ k → fkey s[i] ≤ fkey y := by
    intro i hi h
    rw [← hy]
    rcases Nat.eq_or_lt_of_le h with h | h
    · subst h; exact Nat.le_refl _
    · exact hs i k hi hlt h
  clear hy hk hs
  generalize fkey y = q at *
  constructor
  · conv => lhs; rw [← List.take_append_drop k s, List.filter_append, List.length_append]
    have h0 : ((s.drop k).filter fun x => decide (fkey x < q)).length = 0 := by
      refine cnt_none fun x hx => ?_
      obtain ⟨i, hi, rfl⟩ := List.getElem_of_mem hx
      rw [List.length_drop] at hi
      rw [List.getElem_drop, decide_eq_false_iff_not]
      have := up (k + i) (by omega) (by omega); omega
    have h1 := List.length_filter_le (fun x => decide (fkey x < q)) (s.take k)
    rw [List.length_take] at h1
    omega
  · conv => lhs; rw [← List.take_append_drop (k + 1) s, List.filter_append, List.length_append]
    have h0 : ((s.take (k + 1)).filter fun x => decide (q < fkey x)).length = 0 := by
      refine cnt_none fun x hx => ?_
      obtain ⟨i, hi, rfl⟩ := List.getElem_of_mem hx
      rw [List.length_take] at hi
      rw [List.getElem_take, decide_eq_false_iff_not]
      have := dn i (by omega) (by omega); omega
    have h1 := List.length_filter_le (fun x => decide (q < fkey x)) (s.drop (k + 1))
    rw [List.length_drop] at h1
    omega

theorem mid_cnt {xs : List Nat} {m : Nat} (h : MidOf xs m) : cntB m xs ≤ (xs.length - 1) / 2 ∧ cntA m xs ≤ xs.length / 2 := by
  obtain ⟨s, hp, hs, y, hy, rfl⟩ := h
  obtain ⟨h1, h2⟩ := sorted_cnt hs hy
  rw [← cntB_perm hp, ← cntA_perm hp]
  unfold cntB cntA
  rw [fkey_cn]
  have hl := hp.length_eq
  have hlt := (List.getElem?_eq_some_iff.1 hy).1
  refine ⟨h1, ?_⟩
  omega

theorem keys_eq {s t : List Nat} (hs : s.Pairwise (fun a b => fkey a ≤ fkey b)) (ht : t.Pairwise (fun a b => fkey a ≤ fkey b)) (hp : s.Perm t) : s.map fkey = t.map fkey := by
  refine List.Perm.eq_of_pairwise (le := fun a b => a ≤ b) ?_ ?_ ?_ (hp.map fkey)
  · intro a b _ _ h1 h2; omega
  · rw [List.pairwise_map]; exact hs
  · rw [List.pairwise_map]; exact ht

theorem mid_one {xs ys : List Nat} {m n : Nat} (h : MidOf xs m) (k : MidOf ys n) (hp : xs.Perm ys) (hx : ∀ x ∈ xs, x < 2 ^ 64) : m = n := by
  obtain ⟨s, hps, hs, y, hy, rfl⟩ := h
  obtain ⟨t, hpt, ht, z, hz, rfl⟩ := k
  have hst : s.Perm t := hps.trans (hp.trans hpt.symm)
  have e := keys_eq hs ht hst
  have e1 : (s.map fkey)[(xs.length - 1) / 2]? = some (fkey y) := by rw [List.getElem?_map, hy]; rfl
  have e2 : (t.map fkey)[(xs.length - 1) / 2]? = some (fkey z) := by rw [List.getElem?_map, hp.length_eq, hz]; rfl
  rw [e, e2] at e1
  injection e1 with e1
  have hy64 := hx y (hps.mem_iff.1 (List.mem_of_getElem? hy))
  have hz64 := hx z (hps.mem_iff.1 (hst.mem_iff.2 (List.mem_of_getElem? hz)))
  exact (fkey_inj (cn_lt hz64) (cn_lt hy64) e1).symm

/-- A word. -/
structure Wd where
  val : Nat
  ok : val < 2 ^ 64
instance : Inhabited Wd := ⟨⟨0, by decide⟩⟩
def encW (x : Wd) : Value := .float .f64 x.val
def cmpW (x y : Wd) : Int := if fkey x.val < fkey y.val then -1 else if fkey y.val < fkey x.val then 1 else 0

theorem ltW {x y : Wd} : ltOf cmpW x y = true ↔ fkey x.val < fkey y.val := by
  unfold ltOf cmpW
  rw [decide_eq_true_iff]
  split
  · rename_i h; simp [h]
  · rename_i h; split <;> simp [h]

theorem ltW_not {x y : Wd} : ltOf cmpW x y = false ↔ ¬ fkey x.val < fkey y.val := by
  rw [← ltW]; simp

theorem swoW : SWO (ltOf cmpW) where
  irrefl x := ltW_not.2 (Nat.lt_irrefl _)
  trans x y z h1 h2 := ltW.2 (Nat.lt_trans (ltW.1 h1) (ltW.1 h2))
  ntrans x y z h1 h2 := by
    have h1 := ltW_not.1 h1
    have h2 := ltW_not.1 h2
    exact ltW_not.2 (by omega)

theorem enter_compare : ∀ args w, (callFunc 26 args).run Tryd.prog w = .ok (.enter 26 args) w := enters_of Tryd.func26 (by kernel_rfl) rfl

theorem below_sortWorld {α : Type} [Inhabited α] (enc : α → Value) (w : World) (blk off m : Nat) (dk : Array α) (os : Array Obj) (h : blk < w.heap.size) : RowKit.Below blk w (sortWorld enc w blk off m dk os) := by
  refine ⟨rfl, rfl, rfl, ?_, fun k hk => ?_⟩
  · simp [sortWorld, grow, putRow, mapBlock, Sort.ahead]
  · show ((Array.modify w.heap blk _) ++ os)[k]? = w.heap[k]?
    rw [Array.getElem?_append, if_pos (by simp; omega), Array.getElem?_modify, if_neg (by omega)]

def packW : (l : List Nat) → (∀ s ∈ l, s < 2 ^ 64) → List Wd
  | [], _ => []
  | s :: l, h => ⟨s, h s (by simp)⟩ :: packW l (fun x hx => h x (by simp [hx]))

theorem packW_val : ∀ (l : List Nat) (hz : ∀ s ∈ l, s < 2 ^ 64), (packW l hz).map (·.val) = l
  | [], _ => rfl
  | s :: l, h => by rw [packW, List.map_cons, packW_val l]

theorem fsort_c (base g c : Nat) (l : List Nat) (w : World) (hown : w.ownsRow base 24 1 (.slice (some ⟨g, 0, none⟩) l.length c) l.length (l.map (Value.float .f64))) (hz : ∀ s ∈ l, s < 2 ^ 64) (hl : l.length ≤ 10000000) :
    Calls Tryd.prog 32 #[.slice (some ⟨g, 0, none⟩) l.length c, .func (.func 26) #[] #[]] w fun e w' => e = .returned (.tuple #[]) ∧ ∃ s : List Nat, s.Perm l ∧ s.Pairwise (fun a b => fkey a ≤ fkey b) ∧ Sl w' (some ⟨g, 0, none⟩) (s.map (Value.float .f64)) ∧ RowKit.Below base w w' := by
  have hgb := hown.lt g rfl
  have hlen : (packW l hz).toArray.size = l.length := by have := congrArg List.length (packW_val l hz); simpa using this
  have hget : ∀ j (hj : j < l.length), ((packW l hz).toArray[j]!).val = l[j] := by
    intro j hj
    rw [getElem!_pos _ j (by rw [hlen]; exact hj)]
    have h := packW_val l hz
    have h2 : ((packW l hz).map (·.val))[j]? = l[j]? := by rw [h]
    rw [List.getElem?_map, List.getElem?_eq_getElem (by have := hlen; simp at this; omega), List.getElem?_eq_getElem hj] at h2
    simpa using h2
  have hH : Holds encW w g 0 (packW l hz).toArray := by
    intro j hj
    rw [hlen] at hj
    rw [Nat.zero_add]
    refine ⟨?_, hown.frozenAt j⟩
    rw [hown.cellAt j (by omega), List.getElem?_map, List.getElem?_eq_getElem hj]
    show some (Value.float .f64 l[j]) = some (Value.float .f64 ((packW l hz).toArray[j]!).val)
    rw [hget j hj]
  have hcmp : CmpLays1 Tryd.prog 26 #[] encW cmpW g 0 (packW l hz).toArray.size w := by
    intro m os dk _ x y
    refine (compare_c x.val y.val _ x.ok y.ok).mono ?_
    rintro e w' ⟨rfl, rfl⟩
    exact ⟨rfl, (Gr.refl _).form⟩
  have h := Tryd.slices_SortFunc encW (fun _ => rfl) cmpW swoW 26 #[] g 0 c (packW l hz).toArray w enter_compare hcmp hH hgb.2 (by rw [hlen]; omega)
  rw [hlen] at h
  refine h.mono ?_
  rintro e w' ⟨rfl, d', n, os, hperm, hsort, rfl⟩
  have hsz : d'.size = l.length := by rw [hperm.1, hlen]
  have hpl : d'.toList.Perm (packW l hz) := by
    have := hperm.2.2
    have e1 : d'.extract 0 l.length = d' := by rw [← hsz]; exact Array.extract_size
    have e2 : (packW l hz).toArray.extract 0 l.length = (packW l hz).toArray := by rw [← hlen]; exact Array.extract_size
    rw [e1, e2] at this
    simpa using this
  refine ⟨rfl, d'.toList.map (·.val), ?_, ?_, ?_, (below_sortWorld encW w g 0 n _ os hgb.2).mono hgb.1⟩
  · have := hpl.map (·.val)
    rwa [packW_val] at this
  · rw [List.pairwise_map, List.pairwise_iff_getElem]
    intro i j hi hj hij
    have hi' : i < d'.size := by simpa using hi
    have hj' : j < d'.size := by simpa using hj
    have h1 := hsort i j (Nat.zero_le _) hij (by omega)
    rw [getElem!_pos _ i hi', getElem!_pos _ j hj'] at h1
    have := ltW_not.1 h1
    simp only [Array.getElem_toList]
    omega
  · by_cases h0 : l.length = 0
    · left
      rw [List.map_eq_nil_iff, List.map_eq_nil_iff]
      exact List.eq_nil_of_length_eq_zero (by rw [Array.length_toList]; omega)
    · refine .inr ⟨g, 0, rfl, ?_, fun i u hu => ?_⟩
      · simp [sortWorld, grow, putRow, mapBlock, Sort.ahead]; have := hgb.2; omega
      · have hi : i < d'.size := by
          have := (List.getElem?_eq_some_iff.1 hu).1
          simpa using this
        have h1 := cell?_putRow encW (Sort.ahead w n) g 0 (packW l hz).toArray d' (holds_ahead encW w n g 0 _ hH) hperm.1 i hi
        have h2 : (sortWorld encW w g 0 n d' os).cell? ⟨g, 0 + i, none⟩ = (putRow encW (Sort.ahead w n) g 0 d').cell? ⟨g, 0 + i, none⟩ := by
          simp only [sortWorld, grow, World.cell?]
          rw [Array.getElem?_append, if_pos (by simp [putRow, mapBlock, Sort.ahead]; exact hgb.2)]
        rw [h2, h1]
        rw [List.getElem?_map, List.getElem?_map] at hu
        rw [Array.getElem?_toList, Array.getElem?_eq_getElem hi] at hu
        rw [getElem!_pos _ i hi]
        simpa [encW] using hu

set_option maxRecDepth 100000 in
theorem middle_none (a : Option Addr) (c : Nat) (w : World) : Calls Tryd.prog 18 #[.slice a 0 c] w fun e w' => e = .returned (.tuple #[.float .f64 0, .bool false]) ∧ w' = w := by
  go_enter Tryd.func18, Tryd.ntmps18
  go_wp2_with fail
  go_ret2
  exact ⟨rfl, rfl⟩

theorem infoF : ∃ i0 : TypeInfo, Tryd.prog.info? 24 = some i0 ∧ i0.zero = some (.float .f64 0) ∧ i0.size = 1 ∧ i0.bytes = 8 :=
  info_parts (show (Tryd.prog.info? 24).map (fun i => (i.zero, i.size, i.bytes)) = some (some (.float .f64 0), 1, 8) by kernel_rfl)

set_option maxRecDepth 100000 in
theorem middle_c (a : Option Addr) (c : Nat) (xs : List Nat) (w : World) (hs : Sl w a (xs.map (Value.float .f64))) (hx : ∀ x ∈ xs, x < 2 ^ 64) (hl : xs.length ≤ 10000000) (h0 : 0 < xs.length) :
    Calls Tryd.prog 18 #[.slice a xs.length c] w fun e w' => ∃ m, e = .returned (.tuple #[.float .f64 m, .bool true]) ∧ MidOf xs m ∧ m < 2 ^ 64 ∧ RowKit.Below w.heap.size w w' := by
  obtain ⟨b, o, rfl, hbl, hc⟩ := hs.at (k := 0) (by simpa using h0)
  obtain ⟨i0, hi, hz0, hz1, hz2⟩ := infoF
  have HCL := Lib.hid (Tryd.slices_Clone i0 (.float .f64 0) 1 8 hi hz0 hz1 hz2 rfl (by decide) Tryd.sizeOf24 b o xs.length c (xs.map (Value.float .f64)) w (by simp) (by simp [maxLen]; omega) (by omega) (fun j u hu => by
    obtain ⟨hj, rfl⟩ := List.getElem?_eq_some_iff.1 hu
    exact hc j hj) (by simp [Value.oneCell']))
  clear hc hi hz0 hz1 hz2
  have hne : ((xs.length : Int) == 0) = false := by rw [beq_eq_false_iff_ne]; omega
  have hw1 : IntKind.i64.wrap ((xs.length : Int) - 1) = ((xs.length - 1 : Nat) : Int) := by rw [IntWalk.i64_in _ (by omega)]; omega
  have hw2 : IntKind.i64.wrap (((xs.length - 1 : Nat) : Int).tdiv 2) = (((xs.length - 1) / 2 : Nat) : Int) := by
    rw [show ((xs.length - 1 : Nat) : Int).tdiv 2 = (((xs.length - 1) / 2 : Nat) : Int) from rfl]; exact IntWalk.i64_in _ (by omega)
  go_enter Tryd.func18, Tryd.ntmps18
  go_wp2_with fail
  refine HCL.out.mono ?_
  rintro e w1 ⟨v1, rfl, hown, hnn, hb⟩
  obtain ⟨g, c1, rfl, hc1, hbg, hgl, hsl⟩ := own_some hown hnn
  have HS := Lib.hid (fsort_c w.heap.size g c1 xs w1 hown hx hl)
  clear hown hnn hsl HCL
  go_wp2_with fail
  refine HS.out.mono ?_
  rintro e w2 ⟨rfl, s, hp, hso, hsl, hb2⟩
  have hpl := hp.length_eq
  obtain ⟨b2, o2, e2, hbl2, hc2⟩ := hsl.at (k := (xs.length - 1) / 2) (by rw [List.length_map]; omega)
  have hk := hc2 ((xs.length - 1) / 2) (by rw [List.length_map]; omega)
  rw [List.getElem_map] at hk
  cases e2
  have hM := Lib.hid (show MidOf xs (cn (s[(xs.length - 1) / 2]'(by omega))) from ⟨s, hp, hso, _, List.getElem?_eq_getElem (by omega), rfl⟩)
  have h64 := cn_lt (hx _ (hp.mem_iff.1 (List.getElem_mem (l := s) (n := (xs.length - 1) / 2) (by omega))))
  have hlt : ((((xs.length - 1) / 2 : Nat)) : Int) < xs.length := by omega
  have hlt2 : ((xs.length - 1 : Nat) : Int) / 2 < xs.length := by omega
  have h0i : (0 : Int) ≤ ((xs.length - 1 : Nat) : Int) / 2 := by omega
  have hw3 : IntKind.i64.wrap (((xs.length - 1 : Nat) : Int) / 2) = ((xs.length - 1 : Nat) : Int) / 2 := IntWalk.i64_in _ (by omega)
  have hb3 := hb.trans hb2
  generalize s[(xs.length - 1) / 2]'(by omega) = y at *
  rw [Nat.zero_add] at hk
  clear hc2 hp hso hsl hpl HS hb hb2
  go_wp2_with fail
  refine (canon_c y w2).mono ?_
  rintro e w3 ⟨rfl, rfl⟩
  go_wp2_with fail
  go_ret2
  exact ⟨_, rfl, hM.out, h64, hb3⟩
end Go.Proofs.YtlnifigbnpdemaaDoor
