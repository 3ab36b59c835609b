/- Walks: which texts became which others: the collecting of moves. -/
import Derived.Test.YtlnifigbnpdemaaDoorScoreMap
namespace Go.Proofs.YtlnifigbnpdemaaDoor
open Go Go.RowKit Go.Sort Go.Maps

/-- A file's lines. -/
structure Tx where
  path : ByteArray
  lines : List ByteArray
  deriving Inhabited

/-- At address a lies a row of texts. -/
def TxS (w : World) (a : Option Addr) (ts : List Tx) : Prop :=
  ts = [] ∨ ∃ b o, a = some ⟨b, o, none⟩ ∧ b < w.heap.size ∧ ∀ i (hi : i < ts.length), w.cell? ⟨b, o + i * 2, none⟩ = some (.string ts[i].path) ∧
    ∃ ad c, w.cell? ⟨b, o + i * 2 + 1, none⟩ = some (.slice ad ts[i].lines.length c) ∧ Sl w ad (ts[i].lines.map Value.string)

theorem TxS.below {w w' : World} {a : Option Addr} {ts : List Tx} (h : TxS w a ts) (hb : Below w.heap.size w w') : TxS w' a ts := by
  rcases h with h | ⟨b, o, ha, hlt, hc⟩
  · exact .inl h
  · refine .inr ⟨b, o, ha, Nat.lt_of_lt_of_le hlt hb.size, fun i hi => ?_⟩
    obtain ⟨h1, ad, c, h2, h3⟩ := hc i hi
    exact ⟨by rw [hb.cell (p := ⟨b, _, none⟩) hlt]; exact h1, ad, c, by rw [hb.cell (p := ⟨b, _, none⟩) hlt]; exact h2, h3.below hb⟩

theorem TxS.at {w : World} {a : Option Addr} {ts : List Tx} (h : TxS w a ts) {i : Nat} (hi : i < ts.length) : ∃ b o, a = some ⟨b, o, none⟩ ∧ b < w.heap.size ∧ w.cell? ⟨b, o + i * 2, none⟩ = some (.string ts[i].path) ∧
    ∃ ad c, w.cell? ⟨b, o + i * 2 + 1, none⟩ = some (.slice ad ts[i].lines.length c) ∧ Sl w ad (ts[i].lines.map Value.string) := by
  rcases h with h | ⟨b, o, ha, hlt, hc⟩
  · subst h; simp at hi
  · exact ⟨b, o, ha, hlt, hc i hi⟩

/-- One pair's move, if they are alike enough. -/
def mv1 (least : Nat) (a b : Tx) : List Mv := if fkey (alw a.lines b.lines) < fkey least then [] else [⟨a.path, b.path, alw a.lines b.lines⟩]

def mvRow (least : Nat) (a : Tx) (come : List Tx) : List Mv := come.flatMap (mv1 least a)

/-- All moves that are alike enough. -/
def allM (gone come : List Tx) (least : Nat) : List Mv := gone.flatMap fun a => mvRow least a come

def used (out : List Mv) (m : Mv) : Bool := out.any fun x => decide (x.src = m.src) || decide (x.dst = m.dst)

/-- Each move whose ends are free is taken. -/
def grd (out : List Mv) : List Mv → List Mv
  | [] => out
  | m :: l => if used out m then grd out l else grd (out ++ [m]) l

theorem cn_idem (x : Nat) : cn (cn x) = cn x := by
  by_cases h : nanB x = true
  · have e : cn x = 9221120237041090560 := by rw [cn, if_pos h]
    rw [e, cn]; split <;> rfl
  · have e : cn x = x := by rw [cn, if_neg h]
    rw [e, e]

theorem rt_lt (x y : Nat) : rt x y < 2 ^ 64 := by
  unfold rt
  split
  · rename_i r hr
    exact cn_lt (Ieee.Format.div_lt Ieee.double hr)
  · decide

theorem rt_cn (x y : Nat) : cn (rt x y) = rt x y := by
  unfold rt
  split
  · exact cn_idem _
  · rw [cn]; split <;> rfl

theorem allM_ok {gone come : List Tx} {least : Nat} (h1 : ∀ t ∈ gone, t.path.size ≤ 10000000) (h2 : ∀ t ∈ come, t.path.size ≤ 10000000) : ∀ m ∈ allM gone come least, okM m := by
  intro m hm
  obtain ⟨a, ha, hm⟩ := List.mem_flatMap.1 hm
  obtain ⟨b, hb, hm⟩ := List.mem_flatMap.1 hm
  unfold mv1 at hm
  split at hm
  · cases hm
  · rw [List.mem_singleton] at hm
    subst hm
    exact ⟨h1 a ha, h2 b hb, rt_lt _ _, rt_cn _ _⟩

theorem mvRow_take (least : Nat) (a : Tx) (come : List Tx) (k : Nat) (hk : k < come.length) : mvRow least a (come.take (k + 1)) = mvRow least a (come.take k) ++ mv1 least a come[k] := by
  rw [List.take_succ_eq_append_getElem hk, mvRow, List.flatMap_append]; simp [mvRow]

theorem allM_take (least : Nat) (gone come : List Tx) (k : Nat) (hk : k < gone.length) : allM (gone.take (k + 1)) come least = allM (gone.take k) come least ++ mvRow least gone[k] come := by
  rw [List.take_succ_eq_append_getElem hk, allM, List.flatMap_append]; simp [allM]

theorem mvRow_le (least : Nat) (a : Tx) (come : List Tx) : (mvRow least a come).length ≤ come.length := by
  unfold mvRow
  induction come with
  | nil => simp
  | cons b l ih =>
    have h1 : (mv1 least a b).length ≤ 1 := by unfold mv1; split <;> simp
    rw [List.flatMap_cons, List.length_append, List.length_cons]
    omega

theorem allM_le (least : Nat) (gone come : List Tx) : (allM gone come least).length ≤ gone.length * come.length := by
  unfold allM
  induction gone with
  | nil => simp
  | cons b l ih => rw [List.flatMap_cons, List.length_append, List.length_cons, Nat.add_mul, Nat.one_mul]; have := mvRow_le least b come; omega

theorem mvElem : Elem Tryd.prog 34 43 (.agg #[.string ByteArray.empty, .string ByteArray.empty, .float .f64 0]) 3 40 := ⟨by kernel_rfl, by kernel_rfl⟩

/-- The sort's contract for lists shorter than B. -/
def StableTo (B : Nat) : Prop := ∀ (base g c : Nat) (l : List Mv) (w : World), Gl w → 1 < base → w.ownsRow base 43 3 (.slice (some ⟨g, 0, none⟩) l.length c) l.length (mrow l) → (∀ s ∈ l, okM s) → l.length < B →
    Calls Tryd.prog 27 #[.slice (some ⟨g, 0, none⟩) l.length c, .func (.func 28) #[] #[]] w fun e w' => e = .returned (.tuple #[]) ∧
      ∃ l' : List Mv, l'.Perm l ∧ l'.Pairwise (fun x y => ¬ ordI y x < 0) ∧ Sl w' (some ⟨g, 0, none⟩) (mrow l') ∧ Below base w w'

theorem stableTo20 : StableTo 20 := fun base g c l w hg hb ho hz hn => sortst_c base g c l w hg hb ho hz hn

def cntS (out : List Mv) (s : ByteArray) : Int := ((out.filter fun x => decide (x.src = s)).length : Nat)
def cntD (out : List Mv) (s : ByteArray) : Int := ((out.filter fun x => decide (x.dst = s)).length : Nat)

theorem cnt_used (out : List Mv) (m : Mv) : used out m = false ↔ cntS out m.src = 0 ∧ cntD out m.dst = 0 := by
  have e1 : cntS out m.src = 0 ↔ ∀ x ∈ out, ¬ decide (x.src = m.src) = true := by
    rw [← List.filter_eq_nil_iff, ← List.length_eq_zero_iff]; unfold cntS; omega
  have e2 : cntD out m.dst = 0 ↔ ∀ x ∈ out, ¬ decide (x.dst = m.dst) = true := by
    rw [← List.filter_eq_nil_iff, ← List.length_eq_zero_iff]; unfold cntD; omega
  rw [e1, e2, used, List.any_eq_false]
  constructor
  · intro h
    exact ⟨fun x hx hs => h x hx (by rw [hs]; rfl), fun x hx hs => h x hx (by rw [hs, Bool.or_true])⟩
  · rintro ⟨h1, h2⟩ x hx hs
    rw [Bool.or_eq_true] at hs
    rcases hs with h | h
    · exact h1 x hx h
    · exact h2 x hx h

theorem cntS_snoc (out : List Mv) (m : Mv) (h : cntS out m.src = 0) (s : ByteArray) : (if s = m.src then 1 else cntS out s) = cntS (out ++ [m]) s := by
  unfold cntS at *
  rw [List.filter_append, List.length_append]
  by_cases e : s = m.src
  · subst e
    have h1 : ([m].filter fun x => decide (x.src = m.src)) = [m] := by rw [List.filter_cons_of_pos (p := fun x : Mv => decide (x.src = m.src)) (decide_eq_true rfl)]; rfl
    rw [if_pos rfl, h1, List.length_singleton]
    omega
  · have h1 : ([m].filter fun x => decide (x.src = s)) = [] := by rw [List.filter_cons_of_neg (fun e2 => e (of_decide_eq_true e2).symm)]; rfl
    rw [if_neg e, h1, List.length_nil, Nat.add_zero]

theorem cntD_snoc (out : List Mv) (m : Mv) (h : cntD out m.dst = 0) (s : ByteArray) : (if s = m.dst then 1 else cntD out s) = cntD (out ++ [m]) s := by
  unfold cntD at *
  rw [List.filter_append, List.length_append]
  by_cases e : s = m.dst
  · subst e
    have h1 : ([m].filter fun x => decide (x.dst = m.dst)) = [m] := by rw [List.filter_cons_of_pos (p := fun x : Mv => decide (x.dst = m.dst)) (decide_eq_true rfl)]; rfl
    rw [if_pos rfl, h1, List.length_singleton]
    omega
  · have h1 : ([m].filter fun x => decide (x.dst = s)) = [] := by rw [List.filter_cons_of_neg (fun e2 => e (of_decide_eq_true e2).symm)]; rfl
    rw [if_neg e, h1, List.length_nil, Nat.add_zero]

theorem cntS_bnd (out : List Mv) (s : ByteArray) : 0 ≤ cntS out s ∧ cntS out s ≤ out.length := by
  unfold cntS; have := List.length_filter_le (fun x : Mv => decide (x.src = s)) out; omega
theorem cntD_bnd (out : List Mv) (s : ByteArray) : 0 ≤ cntD out s ∧ cntD out s ≤ out.length := by
  unfold cntD; have := List.length_filter_le (fun x : Mv => decide (x.dst = s)) out; omega

theorem MapI.congr {w : World} {b n : Nat} {F G : ByteArray → Int} (h : MapI w b n F) (e : ∀ s, F s = G s) : MapI w b n G := by
  rw [← show F = G from funext e]; exact h

theorem run_storef (P : Program) (w : World) (a : Addr) (m : Mode) (k : FloatKind) (b : Nat) : (store a (.float k b) m).run P w = stored P w a (.float k b) m := run_store P w a _ m rfl

theorem sort_any {B : Nat} (HS : StableTo B) {base : Nat} {v : Value} {l : List Mv} {w : World} (hg : Gl w) (hb : 1 < base) (hown : w.ownsRow base 43 3 v l.length (mrow l)) (hz : ∀ s ∈ l, okM s) (hn : l.length < B) :
    ∃ a c, v = .slice a l.length c ∧ Calls Tryd.prog 27 #[.slice a l.length c, .func (.func 28) #[] #[]] w fun e w' => e = .returned (.tuple #[]) ∧
      ∃ l' : List Mv, l'.Perm l ∧ l'.Pairwise (fun x y => ¬ ordI y x < 0) ∧ Sl w' a (mrow l') ∧ RowKit.Below base w w' := by
  rcases hown.2 with ⟨h1, h2⟩ | ⟨g, cap, cur, h1, _⟩
  · subst h1
    have : l = [] := List.eq_nil_of_length_eq_zero h2
    subst this
    refine ⟨none, 0, rfl, (sortst_nil none 0 w).mono ?_⟩
    rintro e w' ⟨rfl, rfl⟩
    exact ⟨rfl, [], List.Perm.refl _, List.Pairwise.nil, Sl.nil _ _, RowKit.Below.refl _ _⟩
  · subst h1
    exact ⟨_, _, rfl, HS base g cap l w hg hb hown hz hn⟩

theorem mrow_get {w : World} {g o : Nat} {l : List Mv} (h : ∀ i u, (mrow l)[i]? = some u → w.cell? ⟨g, o + i, none⟩ = some u) (j : Nat) (hj : j < l.length) :
    w.cell? ⟨g, o + j * 3, none⟩ = some (.string l[j].src) ∧ w.cell? ⟨g, o + j * 3 + 1, none⟩ = some (.string l[j].dst) ∧ w.cell? ⟨g, o + j * 3 + 2, none⟩ = some (.float .f64 l[j].sc) := by
  have h0 := mrow_at l (j * 3) (by omega)
  have h1 := mrow_at l (j * 3 + 1) (by omega)
  have h2 := mrow_at l (j * 3 + 2) (by omega)
  have e0 : j * 3 / 3 = j := by omega
  have e1 : (j * 3 + 1) / 3 = j := by omega
  have e2 : (j * 3 + 2) / 3 = j := by omega
  have m0 : j * 3 % 3 = 0 := by omega
  have m1 : (j * 3 + 1) % 3 = 1 := by omega
  have m2 : (j * 3 + 2) % 3 = 2 := by omega
  simp only [e0, m0] at h0
  simp only [e1, m1] at h1
  simp only [e2, m2] at h2
  exact ⟨h _ _ h0, by rw [Nat.add_assoc]; exact h _ _ h1, by rw [Nat.add_assoc]; exact h _ _ h2⟩

set_option maxRecDepth 100000 in
set_option maxHeartbeats 4000000 in
theorem moves_c {B : Nat} (HS : StableTo B) (ag ac : Option Addr) (cg cc : Nat) (gone come : List Tx) (least : Nat) (w : World) (hg : Gl w) (hsg : TxS w ag gone) (hsc : TxS w ac come) (hlg : gone.length ≤ 64) (hlc : come.length ≤ 64)
    (hzg : ∀ t ∈ gone, t.path.size ≤ 10000000 ∧ t.lines.length ≤ 1000) (hzc : ∀ t ∈ come, t.path.size ≤ 10000000 ∧ t.lines.length ≤ 1000) (hl : least < 2 ^ 64) (hn : (allM gone come least).length < B) :
    Calls Tryd.prog 13 #[.slice ag gone.length cg, .slice ac come.length cc, .float .f64 least] w fun e w' => ∃ v, e = .returned (.tuple #[v, .int .i64 0]) ∧ ∃ l' : List Mv, l'.Perm (allM gone come least) ∧ l'.Pairwise (fun x y => ¬ ordI y x < 0) ∧
      w'.ownsRow w.heap.size 43 3 v (grd [] l').length (mrow (grd [] l')) ∧ RowKit.Below w.heap.size w w' := by
  have hle : (allM gone come least).length ≤ 4096 := Nat.le_trans (allM_le _ _ _) (Nat.mul_le_mul hlg hlc)
  have HOK := Lib.hid (allM_ok (least := least) (fun t h => (hzg t h).1) (fun t h => (hzc t h).1))
  have HZG := Lib.hid hzg
  have HZC := Lib.hid hzc
  have HT := Lib.hid (fun k (hk : k < gone.length) => allM_take least gone come k hk)
  have HALL : Hid (allM (gone.take gone.length) come least = allM gone come least) := by show _ = _; rw [List.take_length]
  have HLE := Lib.hid (fun k => (Nat.le_trans (allM_le least (gone.take k) come) (Nat.mul_le_mul (by simp; omega) hlc) : (allM (gone.take k) come least).length ≤ 64 * 64))
  have h1 : ¬ (64 : Int) < gone.length := by omega
  have h2 : ¬ (64 : Int) < come.length := by omega
  clear hzg hzc
  go_enter Tryd.func13, Tryd.ntmps13
  go_wp2_with fail
  go_loopw [8, 29] (fun v iv wr => ∃ i : Nat, i ≤ gone.length ∧ iv = .int .i64 i ∧ wr.ownsRow w.heap.size 43 3 v (allM (gone.take i) come least).length (mrow (allM (gone.take i) come least)) ∧ RowKit.Below w.heap.size w wr) (fun _ iv _ => gone.length - (intOf iv).toNat)
  case atStart => exact ⟨0, by omega, rfl, by rw [List.take_zero]; exact World.ownsRow_nil _ _ _ _, Below.refl _ _⟩
  case round =>
    obtain ⟨i, hi, rfl, hown, hb⟩ := hrel
    obtain ⟨wo, rfl⟩ : ∃ wo : World, wo = wr := ⟨_, rfl⟩
    by_cases hig : i < gone.length
    · obtain ⟨ba, oa, rfl, hal, hap, ada, ca, hac, hsa⟩ := hsg.at hig
      have hap' : wo.cell? ⟨ba, oa + i * 2, none⟩ = some (.string gone[i].path) := by rw [hb.cell (p := ⟨ba, _, none⟩) hal]; exact hap
      have hac' : wo.cell? ⟨ba, oa + i * 2 + 1, none⟩ = some (.slice ada gone[i].lines.length ca) := by rw [hb.cell (p := ⟨ba, _, none⟩) hal]; exact hac
      have hii : (i : Int) < gone.length := by omega
      have hii0 : (0 : Int) ≤ i := by omega
      have HTi := Lib.hid (HT.out i hig)
      have hle1 := HLE.out i
      obtain ⟨hza1, hza2⟩ := HZG.out _ (List.getElem_mem hig)
      generalize allM (gone.take i) come least = A at *
      generalize gone[i] = ta at *
      have hA0 : Hid (A ++ mvRow least ta (come.take 0) = A) := by show _ = _; simp [mvRow]
      have hMR := Lib.hid (fun k (hk : k < come.length) => mvRow_take least ta come k hk)
      have hML := Lib.hid (fun k => (Nat.le_trans (mvRow_le least ta (come.take k)) (by simp; omega) : (mvRow least ta (come.take k)).length ≤ 64))
      have hMA : Hid (mvRow least ta (come.take come.length) = mvRow least ta come) := by show _ = _; rw [List.take_length]
      have hap2 : (wo.alloc (.cells #[.string ta.path, .slice ada ta.lines.length ca] 48)).heap[wo.heap.size]? = some (.cells #[.string ta.path, .slice ada ta.lines.length ca] 48 (0, 0)) := (Go.MapKept.heap_alloc wo _).1
      have hb2 := hb.alloc hb.size (.cells #[.string ta.path, .slice ada ta.lines.length ca] 48)
      have hown2 := hown.alloc (.cells #[.string ta.path, .slice ada ta.lines.length ca] 48)
      go_wp2_with fail
      go_loopw [8, 35] (fun v kv wi => ∃ k : Nat, k ≤ come.length ∧ kv = .int .i64 k ∧ wi.ownsRow w.heap.size 43 3 v (A ++ mvRow least ta (come.take k)).length (mrow (A ++ mvRow least ta (come.take k))) ∧ wi.heap[wo.heap.size]? = some (.cells #[.string ta.path, .slice ada ta.lines.length ca] 48 (0, 0)) ∧ RowKit.Below w.heap.size w wi) (fun _ kv _ => come.length - (intOf kv).toNat)
      case atStart => exact ⟨0, by omega, rfl, by rw [hA0.out]; exact hown2, hap2, hb2⟩
      case round =>
        clear hown2 hap2 hb2 hap' hac' hap hac hown
        obtain ⟨k, hk, rfl, hown, hpa, hbi⟩ := hrel
        by_cases hkc : k < come.length
        · obtain ⟨bb, ob, rfl, hbl, hbp, adb, cb, hbc, hsb⟩ := hsc.at hkc
          have hbp' : wr.cell? ⟨bb, ob + k * 2, none⟩ = some (.string come[k].path) := by rw [hbi.cell (p := ⟨bb, _, none⟩) hbl]; exact hbp
          have hbc' : wr.cell? ⟨bb, ob + k * 2 + 1, none⟩ = some (.slice adb come[k].lines.length cb) := by rw [hbi.cell (p := ⟨bb, _, none⟩) hbl]; exact hbc
          have hkk : (k : Int) < come.length := by omega
          have hkk0 : (0 : Int) ≤ k := by omega
          have hMRk := Lib.hid (hMR.out k hkc)
          have hMLk := hML.out k
          obtain ⟨hzb1, hzb2⟩ := HZC.out _ (List.getElem_mem hkc)
          generalize mvRow least ta (come.take k) = M at *
          generalize come[k] = tb at *
          have hpc1 : wr.cell? ⟨wo.heap.size, 1, none⟩ = some (.slice ada ta.lines.length ca) := by rw [blk_cell hpa]; rfl
          have hpl : wo.heap.size < wr.heap.size := (Array.getElem?_eq_some_iff.1 hpa).1
          have hpb2 : (wr.alloc (.cells #[.string tb.path, .slice adb tb.lines.length cb] 48)).heap[wr.heap.size]? = some (.cells #[.string tb.path, .slice adb tb.lines.length cb] 48 (0, 0)) := (Go.MapKept.heap_alloc wr _).1
          have hpa2 : (wr.alloc (.cells #[.string tb.path, .slice adb tb.lines.length cb] 48)).heap[wo.heap.size]? = some (.cells #[.string ta.path, .slice ada ta.lines.length ca] 48 (0, 0)) := by
            rw [(World.grownBy_alloc wr _ none).block wo.heap.size hpl (by simp)]; exact hpa
          have hb2 := hbi.alloc hbi.size (.cells #[.string tb.path, .slice adb tb.lines.length cb] 48)
          have hown2 := hown.alloc (.cells #[.string tb.path, .slice adb tb.lines.length cb] 48)
          have hsz2 : (wr.alloc (.cells #[.string tb.path, .slice adb tb.lines.length cb] 48)).heap.size = wr.heap.size + 1 := by simp
          have hsa2 := hsa.below hb2
          have hsb2 := hsb.below hb2
          have hmul : ta.lines.length * tb.lines.length ≤ 1048576 := Nat.le_trans (Nat.mul_le_mul hza2 hzb2) (by decide)
          clear hpa hown hbi
          go_wp2_with fail
          refine (alike_c ada adb ca cb ta.lines tb.lines _ hsa2 hsb2 (by omega) (by omega)).mono ?_
          rw [if_pos hmul]
          rintro e w3 ⟨rfl, hb3⟩
          generalize wr.alloc (.cells #[.string tb.path, .slice adb tb.lines.length cb] 48) = W2 at *
          have hlo : wo.heap.size < W2.heap.size := by omega
          have hlr : wr.heap.size < W2.heap.size := by omega
          have hown3 := own_below hown2 hb3
          have hpa3 := (hb3.block _ hlo).trans hpa2
          have hpb3 := (hb3.block _ hlr).trans hpb2
          have hca0 : w3.cell? ⟨wo.heap.size, 0, none⟩ = some (.string ta.path) := by rw [blk_cell hpa3]; rfl
          have hcb0 : w3.cell? ⟨wr.heap.size, 0, none⟩ = some (.string tb.path) := by rw [blk_cell hpb3]; rfl
          have hbw3 : RowKit.Below w.heap.size w w3 := hb2.trans (hb3.mono hb2.size)
          have hs64 : alw ta.lines tb.lines < 2 ^ 64 := rt_lt _ _
          have HV : Hid (mv1 least ta tb = if fkey (alw ta.lines tb.lines) < fkey least then [] else [⟨ta.path, tb.path, alw ta.lines tb.lines⟩]) := rfl
          have hlen : (A ++ M).length ≤ 5000 := by rw [List.length_append]; omega
          clear hb2 hown2 hpa2 hpb2 hsa2 hsb2 hb3 hmul hpc1 hbp hbc hbp' hbc'
          generalize alw ta.lines tb.lines = sc at *
          by_cases hlt : fkey sc < fkey least
          · have HN : Hid (A ++ M = A ++ mvRow least ta (come.take (k + 1))) := by show _ = _; rw [hMRk.out, HV.out, if_pos hlt, List.append_nil]
            rw [HN.out] at hown3
            have HCM := Lib.hid (compare_c sc least w3 hs64 hl)
            rw [if_pos hlt] at HCM
            clear hlt
            go_wp2_with fail
            refine HCM.out.mono ?_
            rintro e w4 ⟨rfl, rfl⟩
            go_wp2_with fail
            go_roundw
            case rel => exact ⟨k + 1, by omega, by go_num, hown3, hpa3, hbw3⟩
            case measure => simp [intOf]; omega
          · have HN : Hid ((A ++ M) ++ [⟨ta.path, tb.path, sc⟩] = A ++ mvRow least ta (come.take (k + 1))) := by show _ = _; rw [hMRk.out, HV.out, if_neg hlt, List.append_assoc]
            have HCM := Lib.hid (compare_c sc least w3 hs64 hl)
            rw [if_neg hlt] at HCM
            obtain ⟨c, hc, HC⟩ : ∃ c : Int, 0 ≤ c ∧ c = (if fkey least < fkey sc then 1 else 0) := ⟨_, by split <;> omega, rfl⟩
            rw [← HC] at HCM
            clear hlt HC
            go_wp2_with fail
            refine HCM.out.mono ?_
            rintro e w4 ⟨rfl, rfl⟩
            go_wp2_with (at_builtin; refine wp_appN (news := encM ⟨ta.path, tb.path, sc⟩) rfl _ _ _ rfl mvElem rfl (by decide) rfl hown3 rfl rfl (by simp [encM, Value.oneCell']) (by omega) (by simp [maxLen]; omega) hbw3.size ?_)
            intro v' w5 hown5 hg5 hb5
            have hpa5 := (hg5.block _ (Array.getElem?_eq_some_iff.1 hpa3).1 (own_ne_blk hown3 hpa3 (by decide))).trans hpa3
            have hown6 : w5.ownsRow w.heap.size 43 3 v' (A ++ mvRow least ta (come.take (k + 1))).length (mrow (A ++ mvRow least ta (come.take (k + 1)))) := by
              rw [← HN.out, List.length_append, mrow, List.flatMap_append]; simpa [mrow, encM] using hown5
            go_wp2_with fail
            go_roundw
            case rel => exact ⟨k + 1, by omega, by go_num, hown6, hpa5, hbw3.trans hb5⟩
            case measure => simp [intOf]; omega
        · have HN : Hid (A ++ mvRow least ta (come.take k) = allM (gone.take (i + 1)) come least) := by
            show _ = _; rw [HTi.out, show k = come.length by omega, hMA.out]
          have hkk : ¬ (k : Int) < come.length := by omega
          rw [HN.out] at hown
          go_wp2_with fail
          go_roundw
          case rel => exact ⟨i + 1, by omega, by go_num, hown, hbi⟩
          case measure => simp [intOf]; omega
    · have hii : ¬ (i : Int) < gone.length := by omega
      have HA : Hid (allM (gone.take i) come least = allM gone come least) := by show _ = _; rw [← HALL.out, show i = gone.length by omega]
      rw [HA.out] at hown
      obtain ⟨a8, c8, rfl, hsort⟩ := sort_any HS (hg.below hb (Nat.le_refl _)) hg.sz hown HOK.out hn
      have HSO := Lib.hid hsort
      clear hsort HT HALL HLE HA hsg hsc HZG HZC hown
      have hsf := fun (W : World) (p : Addr) (m : Mode) (b : Nat) => run_storef Tryd.prog W p m .f64 b
      have hmm := fun (t : TypeId) (w : World) => run_makeMap (P := Tryd.prog) t w
      go_wp2_with fail
      refine HSO.out.mono ?_
      rintro e w6 ⟨rfl, l', hperm, hpw, hsl, hb6⟩
      have hb06 := hb.trans hb6
      have hlen : (allM gone come least).length = l'.length := hperm.length_eq.symm
      rw [hlen]
      rw [hlen] at hle
      have HPE := Lib.hid hperm
      have HPW := Lib.hid hpw
      have HOK2 := Lib.hid (fun m (h : m ∈ l') => HOK.out m (hperm.mem_iff.1 h))
      clear hperm hpw HSO HOK hn hlen hb6
      go_wp2_with fail
      have hm0 : MapI (((w6.alloc (.map #[] 0)).alloc (.map #[] 0)).alloc (.cells #[.map (some w6.heap.size), .map (some (w6.heap.size + 1))] 71)) w6.heap.size 0 (cntS []) := ((MapI.made w6).alloc _).alloc _
      have hm1 : MapI (((w6.alloc (.map #[] 0)).alloc (.map #[] 0)).alloc (.cells #[.map (some w6.heap.size), .map (some (w6.heap.size + 1))] 71)) (w6.heap.size + 1) 0 (cntD []) := by
        have := (MapI.made (w6.alloc (.map #[] 0))).alloc (.cells #[.map (some w6.heap.size), .map (some (w6.heap.size + 1))] 71)
        rwa [show (w6.alloc (.map #[] 0)).heap.size = w6.heap.size + 1 by simp] at this
      have hpp : (((w6.alloc (.map #[] 0)).alloc (.map #[] 0)).alloc (.cells #[.map (some w6.heap.size), .map (some (w6.heap.size + 1))] 71)).heap[w6.heap.size + 1 + 1]? = some (.cells #[.map (some w6.heap.size), .map (some (w6.heap.size + 1))] 71 (0, 0)) := by
        have := (Go.MapKept.heap_alloc ((w6.alloc (.map #[] 0)).alloc (.map #[] 0)) (.cells #[.map (some w6.heap.size), .map (some (w6.heap.size + 1))] 71)).1
        rwa [show ((w6.alloc (.map #[] 0)).alloc (.map #[] 0)).heap.size = w6.heap.size + 1 + 1 by simp] at this
      have hb67 : RowKit.Below w6.heap.size w6 (((w6.alloc (.map #[] 0)).alloc (.map #[] 0)).alloc (.cells #[.map (some w6.heap.size), .map (some (w6.heap.size + 1))] 71)) :=
        (((RowKit.Below.refl _ w6).alloc (Nat.le_refl _) _).alloc (by simp) _).alloc (by simp; omega) _
      have HG0 : Hid (grd [] (l'.drop 0) = grd [] l') := by show _ = _; rw [List.drop_zero]
      go_loopw [15, 72] (fun v iv wr => ∃ (j : Nat) (out : List Mv), j ≤ l'.length ∧ iv = .int .i64 j ∧ wr.ownsRow w6.heap.size 43 3 v out.length (mrow out) ∧ MapI wr w6.heap.size j (cntS out) ∧ MapI wr (w6.heap.size + 1) j (cntD out) ∧ wr.heap[w6.heap.size + 1 + 1]? = some (.cells #[.map (some w6.heap.size), .map (some (w6.heap.size + 1))] 71 (0, 0)) ∧ Hid (grd out (l'.drop j) = grd [] l') ∧ out.length ≤ j ∧ RowKit.Below w6.heap.size w6 wr) (fun _ iv _ => l'.length - (intOf iv).toNat)
      case atStart => exact ⟨0, [], by omega, rfl, World.ownsRow_nil _ _ _ _, hm0, hm1, hpp, HG0, Nat.le_refl _, hb67⟩
      case round =>
        clear hm0 hm1 hpp hb67 HG0
        obtain ⟨j, out, hj, rfl, hown, hm0, hm1, hpp, HG, hol, hbr⟩ := hrel
        by_cases hjl : j < l'.length
        · have hjj : (j : Int) < l'.length := by omega
          have hjj0 : (0 : Int) ≤ j := by omega
          obtain ⟨g8, o8, rfl, hgl8, hc8⟩ := hsl.at (k := j * 3) (by rw [mrow_len]; omega)
          obtain ⟨d0, d1, d2⟩ := mrow_get (w := w6) (g := g8) (o := o8) (l := l') (fun i u hu => by
            obtain ⟨hi', hu'⟩ := List.getElem?_eq_some_iff.1 hu
            rw [hc8 i hi', hu']) j hjl
          have hok := HOK2.out _ (List.getElem_mem hjl)
          have e0 : wr.cell? ⟨g8, o8 + j * 3, none⟩ = some (.string l'[j].src) := by rw [hbr.cell (p := ⟨g8, _, none⟩) hgl8]; exact d0
          have e1 : wr.cell? ⟨g8, o8 + j * 3 + 1, none⟩ = some (.string l'[j].dst) := by rw [hbr.cell (p := ⟨g8, _, none⟩) hgl8]; exact d1
          have e2 : wr.cell? ⟨g8, o8 + j * 3 + 2, none⟩ = some (.float .f64 l'[j].sc) := by rw [hbr.cell (p := ⟨g8, _, none⟩) hgl8]; exact d2
          have HDR := Lib.hid (show l'.drop j = l'[j] :: l'.drop (j + 1) from List.drop_eq_getElem_cons hjl)
          clear hc8 d0 d1 d2
          generalize l'[j] = m at *
          obtain ⟨ms, md, mc⟩ := m
          obtain ⟨ok1, ok2, ok3, ok4⟩ := hok
          simp only at e0 e1 e2 ok1 ok2
          have q0 : wr.cell? ⟨w6.heap.size + 1 + 1, 0, none⟩ = some (.map (some w6.heap.size)) := by rw [blk_cell hpp]; rfl
          have q1 : wr.cell? ⟨w6.heap.size + 1 + 1, 1, none⟩ = some (.map (some (w6.heap.size + 1))) := by rw [blk_cell hpp]; rfl
          have hppl : w6.heap.size + 1 + 1 < wr.heap.size := (Array.getElem?_eq_some_iff.1 hpp).1
          have hm0' := hm0.alloc (.cells #[.string ms, .string md, .float .f64 mc] 43)
          have hm1' := hm1.alloc (.cells #[.string ms, .string md, .float .f64 mc] 43)
          have hown' := hown.alloc (.cells #[.string ms, .string md, .float .f64 mc] 43)
          have hmb : (wr.alloc (.cells #[.string ms, .string md, .float .f64 mc] 43)).heap[wr.heap.size]? = some (.cells #[.string ms, .string md, .float .f64 mc] 43 (0, 0)) := (Go.MapKept.heap_alloc wr _).1
          have hpp' : (wr.alloc (.cells #[.string ms, .string md, .float .f64 mc] 43)).heap[w6.heap.size + 1 + 1]? = some (.cells #[.map (some w6.heap.size), .map (some (w6.heap.size + 1))] 71 (0, 0)) := by
            rw [(World.grownBy_alloc wr _ none).block _ hppl (by simp)]; exact hpp
          have hbr' := hbr.alloc hbr.size (.cells #[.string ms, .string md, .float .f64 mc] 43)
          have lk0 := hm0'.look ms (by omega)
          have lk1 := hm1'.look md (by omega)
          have b0 := cntS_bnd out ms
          have b1 := cntD_bnd out md
          by_cases hu : cntS out ms = 0 ∧ cntD out md = 0
          · obtain ⟨u0, u1⟩ := hu
            have HN : Hid (grd (out ++ [⟨ms, md, mc⟩]) (l'.drop (j + 1)) = grd [] l') := by
              show _ = _
              rw [← HG.out, HDR.out, grd, if_neg (by rw [(cnt_used out ⟨ms, md, mc⟩).2 ⟨u0, u1⟩]; decide)]
            rw [u0] at lk0
            rw [u1] at lk1
            obtain ⟨w3, up0, hmA, hgA⟩ := hm0'.put ms (by omega) 1 (by omega) (by decide)
            have hmA1 := hm1'.kept hgA (fun e => by injection e with e; omega)
            obtain ⟨w4, up1, hmB, hgB⟩ := hmA1.put md (by omega) 1 (by omega) (by decide)
            have hmA2 := hmA.kept hgB (fun e => by injection e with e; omega)
            have lk2 := hmA1.look md (by omega)
            rw [u1] at lk2
            have hszA : wr.heap.size < (wr.alloc (.cells #[.string ms, .string md, .float .f64 mc] 43)).heap.size := by simp
            have hmb3 := (hgA.block wr.heap.size hszA (fun e => by injection e with e; omega)).trans hmb
            have hpp3 := (hgA.block (w6.heap.size + 1 + 1) (by simp; omega) (fun e => by injection e with e; omega)).trans hpp'
            have hmb4 := (hgB.block wr.heap.size (Array.getElem?_eq_some_iff.1 hmb3).1 (fun e => by injection e with e; omega)).trans hmb3
            have hpp4 := (hgB.block (w6.heap.size + 1 + 1) (Array.getElem?_eq_some_iff.1 hpp3).1 (fun e => by injection e with e; omega)).trans hpp3
            have hown3 := hown'.kept hgA (.inr (own_ne_map hown' hm0').symm)
            have hown4 := hown3.kept hgB (.inr (own_ne_map hown3 hmA1).symm)
            have s0 : w3.cell? ⟨wr.heap.size, 0, none⟩ = some (.string ms) := by rw [blk_cell hmb3]; rfl
            have s1 : w3.cell? ⟨wr.heap.size, 1, none⟩ = some (.string md) := by rw [blk_cell hmb3]; rfl
            have s2 : w3.cell? ⟨w6.heap.size + 1 + 1, 1, none⟩ = some (.map (some (w6.heap.size + 1))) := by rw [blk_cell hpp3]; rfl
            have t0 : w4.cell? ⟨wr.heap.size, 0, none⟩ = some (.string ms) := by rw [blk_cell hmb4]; rfl
            have t1 : w4.cell? ⟨wr.heap.size, 1, none⟩ = some (.string md) := by rw [blk_cell hmb4]; rfl
            have t2 : w4.cell? ⟨wr.heap.size, 2, none⟩ = some (.float .f64 mc) := by rw [blk_cell hmb4]; rfl
            have hbr4 : RowKit.Below w6.heap.size w6 w4 := by
              refine (hbr'.grown hgA (by have := hbr'.size; omega) (by intro k hk; cases hk; omega)).grown hgB ?_ ?_
              · have := hgA.size; have := hbr'.size; omega
              · intro k hk; cases hk; omega
            clear hm0 hm1 hpp hown hm0' hm1' hpp' hown' hmb hmb3 hpp3 hown3 hbr hbr' hgA hgB hmA hmA1 b0 b1
            have g0 := hmA2.congr (G := cntS (out ++ [Mv.mk ms md mc])) (fun s => cntS_snoc out (Mv.mk ms md mc) u0 s)
            have g1 := hmB.congr (G := cntD (out ++ [Mv.mk ms md mc])) (fun s => cntD_snoc out (Mv.mk ms md mc) u1 s)
            clear hmA2 hmB u0 u1
            go_wp2_with (at_builtin; refine wp_appN (news := encM (Mv.mk ms md mc)) rfl _ _ _ rfl mvElem rfl (by decide) rfl hown4 rfl rfl (by simp [encM, Value.oneCell']) (by omega) (by simp [maxLen]; omega) hbr4.size ?_)
            intro v' w5 hown5 hg5 hb5
            have f0 := g0.kept hg5 (own_ne_map hown4 g0)
            have f1 := g1.kept hg5 (own_ne_map hown4 g1)
            have fp := (hg5.block _ (Array.getElem?_eq_some_iff.1 hpp4).1 (own_ne_blk hown4 hpp4 (by decide))).trans hpp4
            have hown6 : w5.ownsRow w6.heap.size 43 3 v' (out ++ [Mv.mk ms md mc]).length (mrow (out ++ [Mv.mk ms md mc])) := by
              rw [List.length_append, mrow, List.flatMap_append]; simpa [mrow, encM] using hown5
            go_wp2_with fail
            go_roundw
            case rel => exact ⟨j + 1, out ++ [Mv.mk ms md mc], by omega, by go_num, hown6, f0, f1, fp, HN, by simp; omega, hbr4.trans hb5⟩
            case measure => simp [intOf]; omega
          · have HN : Hid (grd out (l'.drop (j + 1)) = grd [] l') := by
              show _ = _
              rw [← HG.out, HDR.out, grd, if_pos]
              cases hus : used out ⟨ms, md, mc⟩
              · exact absurd ((cnt_used out ⟨ms, md, mc⟩).1 hus) hu
              · rfl
            have hw : IntKind.i64.wrap (cntS out ms + cntD out md) = cntS out ms + cntD out md := IntWalk.i64_in _ (by omega)
            have hne : (cntS out ms + cntD out md == 0) = false := by rw [beq_eq_false_iff_ne]; omega
            generalize cntS out ms = c0 at *
            generalize cntD out md = c1 at *
            clear hu b0 b1 hm0 hm1 hpp hown hbr
            go_wp2_with fail
            go_roundw
            case rel => exact ⟨j + 1, out, by omega, by go_num, hown', hm0'.mono (by omega), hm1'.mono (by omega), hpp', HN, by omega, hbr'⟩
            case measure => simp [intOf]; omega
        · have hjj : ¬ (j : Int) < l'.length := by omega
          have HF : Hid (grd [] l' = out) := by show _ = _; rw [← HG.out, List.drop_eq_nil_of_le (by omega)]; rfl
          have hbf := hb06.trans (hbr.mono hb06.size)
          have hof := own_base hown hb06.size
          go_wp2_with fail
          go_ret2
          exact ⟨_, rfl, l', HPE.out, HPW.out, by rw [HF.out]; exact hof, hbf⟩
end Go.Proofs.YtlnifigbnpdemaaDoor
