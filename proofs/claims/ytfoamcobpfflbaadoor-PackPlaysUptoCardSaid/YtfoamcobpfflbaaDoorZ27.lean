/- Texts of mine, joined: How a pack lies in memory. | Walks over the document's answer: names looked up, struck out. | Walks over the document's answer: names struck out, names behind a change. -/
import Derived.Test.YtfoamcobpfflbaaDoorZ26
namespace Go.Proofs.YtfoamcobpfflbaaDoor
open Go Go.RowKit Go.Maps

def spV (a : Nat × Nat) : Value := .agg #[.int .i64 a.1, .int .i64 a.2]
def spD (a : Nat × Nat) : DataW Unit := .agg [.lit (.int .i64 a.1), .lit (.int .i64 a.2)]
def spR (v : Value) : Option (DataW Unit × List MemPlace) := match v with
  | .agg ⟨[.int .i64 a, .int .i64 b]⟩ => if 0 ≤ a ∧ 0 ≤ b then some (.agg [.lit (.int .i64 a), .lit (.int .i64 b)], []) else none
  | _ => none
theorem spR_mk (a : Nat × Nat) : spR (spV a) = some (spD a, []) := by
  simp [spR, spV, spD]
theorem spR_inv {v : Value} {y : DataW Unit × List MemPlace} (h : spR v = some y) : ∃ a, v = spV a ∧ y = (spD a, []) := by
  unfold spR at h
  split at h
  · rename_i a b
    split at h
    · rename_i hp
      injection h with h
      exact ⟨(a.toNat, b.toNat), by simp only [spV, Int.toNat_of_nonneg hp.1, Int.toNat_of_nonneg hp.2], by rw [← h]; simp only [spD, Int.toNat_of_nonneg hp.1, Int.toNat_of_nonneg hp.2]⟩
    · cases h
  · cases h
theorem spD_inj {a b : Nat × Nat} (h : spD a = spD b) : a = b := by
  unfold spD at h
  injection h with h
  injection h with h1 h
  injection h with h2 h
  injection h1 with h1
  injection h1 with _ h1
  injection h2 with h2
  injection h2 with _ h2
  exact Prod.ext (by omega) (by omega)

/-- Maps from ids to places. -/
def SC : MC Tryd.prog 113 47 135 (List Nat) (Nat × Nat) where
  mkK x := .agg (nums .u8 x)
  lit := idLit
  okK := OkId
  mkE := spV
  dt := spD
  ok _ := True
  z0 := (0, 0)
  R := spR
  keyed := id_keyed
  under := Tryd.underlying113
  key x hx := id_key hx
  keyInv v l h := by
    obtain ⟨x, h1, h2, h3⟩ := id_inv h
    exact ⟨x, h1, h2, h3⟩
  litInj x y hx hy h := idLit_inj hx hy h
  el a _ := spR_mk a
  elInv v y h := by obtain ⟨o, h1, h2⟩ := spR_inv h; exact ⟨o, h1, h2, trivial⟩
  dtInj _ _ _ _ h := spD_inj h
  zero w := Tryd.zeroValue135 w
  okz := trivial

theorem idElem : Elem Tryd.prog 76 47 (.agg (nums .u8 (List.replicate 32 0))) 32 32 := ⟨Tryd.underlying76, by kernel_rfl⟩
/-- Ids as cells. -/
def irow (l : List (List Nat)) : List Value := l.flatMap nb
theorem irow_app (l m : List (List Nat)) : irow (l ++ m) = irow l ++ irow m := by simp [irow]
theorem irow_one (x : List Nat) : irow [x] = nb x := by simp [irow]
theorem irow_cells (l : List (List Nat)) : ∀ u ∈ irow l, u.oneCell' = true := fun u hu => by
  obtain ⟨x, -, hx⟩ := List.mem_flatMap.1 hu
  exact nb_one x u hx

/-- Behind q lies the pack P over the file system p; its own blocks are K's. -/
structure PkR (w : World) (q p : Nat) (P : PackS.Pk) (K : Nat → Prop) (bm : Nat) (ov : Value) (N : Nat) : Prop where
  blk : w.heap[q]? = some (.cells #[.pointer (some ⟨p, 0, none⟩), .string P.name, .map (some bm), ov, .int .i64 P.size] 115 (0, 0))
  map : ∃ n, n ≤ N ∧ MapG SC w bm n P.spots
  ord : OwnG w 47 32 ov P.order.length (irow P.order)
  kq : K q
  km : K bm
  ko : ∀ k, ov.ownBlock = some k → K k
  okid : ∀ x ∈ P.order, OkId x
  size : P.size ≤ 8000000 * N
  olen : P.order.length ≤ N
  name : P.name.size ≤ 1000000
  big : N ≤ 100000000
def PK (w : World) (q p : Nat) (P : PackS.Pk) (K : Nat → Prop) (N : Nat) : Prop := ∃ bm ov, PkR w q p P K bm ov N

theorem PkR.qm {w : World} {q p bm N : Nat} {P : PackS.Pk} {K : Nat → Prop} {ov : Value} (h : PkR w q p P K bm ov N) : bm ≠ q := fun e => by
  obtain ⟨n, _, hm⟩ := h.map
  obtain ⟨es, cl, h1⟩ := hm.isMap
  rw [e, h.blk] at h1
  cases h1
theorem PkR.om {w : World} {q p bm N : Nat} {P : PackS.Pk} {K : Nat → Prop} {ov : Value} (h : PkR w q p P K bm ov N) : ov.ownBlock ≠ some bm := fun e => by
  obtain ⟨n, _, hm⟩ := h.map
  obtain ⟨es, cl, h1⟩ := hm.isMap
  obtain ⟨cur, h2⟩ := h.ord.tag e
  rw [h1] at h2
  cases h2
theorem PkR.oq {w : World} {q p bm N : Nat} {P : PackS.Pk} {K : Nat → Prop} {ov : Value} (h : PkR w q p P K bm ov N) : ov.ownBlock ≠ some q := fun e => by
  obtain ⟨cur, h2⟩ := h.ord.tag e
  rw [h.blk] at h2
  injection h2 with h2
  injection h2 with _ h2 _
  exact absurd h2 (by decide)
theorem PkR.block {w w' : World} {q p bm N : Nat} {P : PackS.Pk} {K : Nat → Prop} {ov : Value} (h : PkR w q p P K bm ov N) (hb : ∀ k, K k → w'.heap[k]? = w.heap[k]?) : PkR w' q p P K bm ov N :=
  { h with blk := (hb q h.kq).trans h.blk, map := by obtain ⟨n, h1, h2⟩ := h.map; exact ⟨n, h1, h2.block (hb bm h.km)⟩, ord := h.ord.block fun k hk => hb k (h.ko k hk) }
theorem PkR.below {w w' : World} {q p bm N : Nat} {P : PackS.Pk} {K : Nat → Prop} {ov : Value} (h : PkR w q p P K bm ov N) (hb : Below w.heap.size w w') : PkR w' q p P K bm ov N :=
  { h with blk := (hb.block q (Array.getElem?_eq_some_iff.1 h.blk).1).trans h.blk, map := by obtain ⟨n, h1, h2⟩ := h.map; exact ⟨n, h1, h2.below hb⟩, ord := h.ord.below hb }
theorem PK.below {w w' : World} {q p N : Nat} {P : PackS.Pk} {K : Nat → Prop} (h : PK w q p P K N) (hb : Below w.heap.size w w') : PK w' q p P K N := by
  obtain ⟨bm, ov, h⟩ := h
  exact ⟨bm, ov, h.below hb⟩
theorem PK.block {w w' : World} {q p N : Nat} {P : PackS.Pk} {K : Nat → Prop} (h : PK w q p P K N) (hb : ∀ k, K k → w'.heap[k]? = w.heap[k]?) : PK w' q p P K N := by
  obtain ⟨bm, ov, h⟩ := h
  exact ⟨bm, ov, h.block hb⟩
end Go.Proofs.YtfoamcobpfflbaaDoor
namespace Go.Proofs.YtfoamcobpfflbaaDoor
open Go Go.RowKit
open VfsS (File Chg Nm St find doL)

/-- A file's number, or -1. -/
def idx : Option Nat → Int
  | none => -1
  | some i => i

/-- Names as cells. -/
def nrow (l : Nm) : List Value := l.flatMap fun p => [.string p.1, .int .i64 (p.2 : Int)]

theorem nrow_len (l : Nm) : (nrow l).length = l.length * 2 := by
  induction l with
  | nil => rfl
  | cons a l ih => rw [nrow, List.flatMap_cons, List.length_append, show (l.flatMap _).length = l.length * 2 from ih]; simp; omega

theorem nrow_append (l m : Nm) : nrow (l ++ m) = nrow l ++ nrow m := by unfold nrow; rw [List.flatMap_append]

theorem nrow_at (l : Nm) (j : Nat) (hj : j < l.length) : (nrow l)[j * 2]? = some (.string l[j].1) ∧ (nrow l)[j * 2 + 1]? = some (.int .i64 (l[j].2 : Int)) := by
  have h : nrow l = nrow (l.take j) ++ ([.string l[j].1, .int .i64 (l[j].2 : Int)] ++ nrow (l.drop (j + 1))) := by
    conv => lhs; rw [← List.take_append_drop j l, List.drop_eq_getElem_cons hj]
    rw [nrow_append]; rfl
  have hl : (nrow (l.take j)).length = j * 2 := by rw [nrow_len, List.length_take]; congr 1; omega
  rw [h]
  constructor
  · rw [List.getElem?_append_right (by omega), hl, Nat.sub_self]; rfl
  · rw [List.getElem?_append_right (by omega), hl, show j * 2 + 1 - j * 2 = 1 by omega]; rfl

theorem nrow_drop (l : Nm) (j : Nat) : (nrow l).drop (j * 2) = nrow (l.drop j) := by
  by_cases hj : j ≤ l.length
  · conv => lhs; rw [← List.take_append_drop j l, nrow_append]
    have hl : (nrow (l.take j)).length = j * 2 := by rw [nrow_len, List.length_take]; congr 1; omega
    rw [← hl, List.drop_left]
  · rw [List.drop_eq_nil_of_le (by rw [nrow_len]; omega), List.drop_eq_nil_of_le (by omega)]; rfl

theorem nrow_take (l : Nm) (j : Nat) : (nrow l).take (j * 2) = nrow (l.take j) := by
  by_cases hj : j ≤ l.length
  · conv => lhs; rw [← List.take_append_drop j l, nrow_append]
    have hl : (nrow (l.take j)).length = j * 2 := by rw [nrow_len, List.length_take]; congr 1; omega
    rw [← hl, List.take_left]
  · rw [List.take_of_length_le (by rw [nrow_len]; omega), List.take_of_length_le (by omega)]

theorem find_drop (l : Nm) (s : ByteArray) (j : Nat) (hj : j < l.length) : find (l.drop j) s = if l[j].1 = s then some l[j].2 else find (l.drop (j + 1)) s := by
  rw [List.drop_eq_getElem_cons hj, VfsS.find_cons]

set_option maxRecDepth 100000 in
theorem rfind_c {w : World} {v : Value} {l : Nm} (h : OwnG w 152 2 v l.length (nrow l)) (hl : l.length ≤ 100000000) (s : ByteArray) :
    Calls Tryd.prog 59 #[v, .string s] w fun e w' => e = .returned (.int .i64 (idx (find l s))) ∧ w' = w := by
  obtain ⟨a, c, rfl, hc, hcm, hs⟩ := h.form
  go_enter Tryd.func59, Tryd.ntmps59
  go_wp2_with fail
  go_loop [5] (fun iv => ∃ j : Nat, j ≤ l.length ∧ iv = .int .i64 j ∧ Hid (find (l.drop j) s = find l s)) (fun iv => (l.length - intOf iv).toNat)
  case atStart => exact ⟨0, Nat.zero_le _, rfl, by show _ = _; rw [List.drop_zero]⟩
  case round =>
    obtain ⟨j, hj, rfl, hf⟩ := hrel
    by_cases hjl : j < l.length
    · have hd : decide ((j : Int) < (l.length : Int)) = true := decide_eq_true (by omega)
      obtain ⟨b, o, rfl, hbl, hcel⟩ := hs.at (k := j * 2) (by rw [nrow_len]; omega)
      obtain ⟨r0, r1⟩ := nrow_at l j hjl
      have far : ∀ i u, (nrow l)[i]? = some u → w.cell? ⟨b, o + i, none⟩ = some u := fun i u hu => by
        obtain ⟨hi, rfl⟩ := List.getElem?_eq_some_iff.1 hu
        exact hcel i hi
      have q0 := far _ _ r0
      have q1 := far _ _ r1
      rw [← Nat.add_assoc] at q1
      have hw : IntKind.i64.wrap ((j : Int) + 1) = ((j + 1 : Nat) : Int) := IntWalk.i64_in _ (by omega)
      have HD := Lib.hid (find_drop l s j hjl)
      have hji : (j : Int) < l.length := by omega
      have hj0 : (0 : Int) ≤ j := by omega
      clear far r0 r1 hcel
      generalize l[j] = pr at *
      by_cases he : pr.1 = s
      · subst he
        have HR : Hid (find l pr.1 = some pr.2) := by show _ = _; rw [← hf.out, HD.out, if_pos rfl]
        go_wp2_with fail
        go_ret
        exact ⟨ret_i64 (by rw [HR.out]; rfl), rfl⟩
      · have hne : (pr.1.toList == s.toList) = false := by
          rw [beq_eq_false_iff_ne, Lib.toList_data, Lib.toList_data]
          intro e; apply he; cases hp : pr.1; cases s; rw [hp] at e; congr 1; exact Array.toList_inj.1 e
        have HR : Hid (find (l.drop (j + 1)) s = find l s) := by show _ = _; rw [← hf.out, HD.out, if_neg he]
        go_wp2_with fail
        go_round
        case rel => exact ⟨j + 1, by omega, by first | rfl | go_num, HR⟩
        case measure => simp [intOf]; omega
    · have hd : decide ((j : Int) < (l.length : Int)) = false := decide_eq_false (by omega)
      have HR : Hid (find l s = none) := by show _ = _; rw [← hf.out, List.drop_eq_nil_of_le (by omega)]; rfl
      go_wp2_with fail
      go_ret
      exact ⟨ret_i64 (by rw [HR.out]; rfl), rfl⟩
end Go.Proofs.YtfoamcobpfflbaaDoor
namespace Go.Proofs.YtfoamcobpfflbaaDoor
open Go Go.RowKit
open VfsS (File Chg Nm St find doL)

theorem nameElem : Elem Tryd.prog 33 152 (.agg #[.string ByteArray.empty, .int .i64 0]) 2 24 := ⟨by kernel_rfl, by kernel_rfl⟩

theorem without_take (l : Nm) (s : ByteArray) (j : Nat) (hj : j < l.length) : VfsS.without (l.take (j + 1)) s = if l[j].1 = s then VfsS.without (l.take j) s else VfsS.without (l.take j) s ++ [l[j]] := by
  unfold VfsS.without
  rw [List.take_succ_eq_append_getElem hj, List.filter_append]
  by_cases h : l[j].1 = s
  · rw [if_pos h, List.filter_cons_of_neg (by simpa using h)]; simp
  · rw [if_neg h, List.filter_cons_of_pos (by simpa using h)]; simp

theorem without_le (l : Nm) (s : ByteArray) : (VfsS.without l s).length ≤ l.length := List.length_filter_le _ _

set_option maxRecDepth 100000 in
set_option maxHeartbeats 1000000 in
theorem rwithout_c {w : World} {v : Value} {l : Nm} (h : OwnG w 152 2 v l.length (nrow l)) (hl : l.length ≤ 100000000) (s : ByteArray) :
    Calls Tryd.prog 99 #[v, .string s] w fun e w' => ∃ v', e = .returned v' ∧ OwnG w' 152 2 v' (VfsS.without l s).length (nrow (VfsS.without l s)) ∧ (∀ k, v'.ownBlock = some k → w.heap.size ≤ k) ∧ Below w.heap.size w w' := by
  obtain ⟨a, c, rfl, hc, hcm, hs⟩ := h.form
  go_enter Tryd.func99, Tryd.ntmps99
  go_wp2_with fail
  go_loopw [5, 6] (fun v5 iv wr => ∃ j : Nat, j ≤ l.length ∧ iv = .int .i64 j ∧ OwnG wr 152 2 v5 (VfsS.without (l.take j) s).length (nrow (VfsS.without (l.take j) s)) ∧ (∀ k, v5.ownBlock = some k → w.heap.size ≤ k) ∧ Below w.heap.size w wr) (fun _ iv _ => (l.length - intOf iv).toNat)
  case atStart => exact ⟨0, Nat.zero_le _, rfl, OwnG.nil _ _ _, fun k hk => (by cases hk), Below.refl _ _⟩
  case round =>
    obtain ⟨j, hj, rfl, ho, hk, hb⟩ := hrel
    by_cases hjl : j < l.length
    · have hd : decide ((j : Int) < (l.length : Int)) = true := decide_eq_true (by omega)
      obtain ⟨b, o, rfl, hbl, hcel⟩ := (hs.below hb).at (k := j * 2) (by rw [nrow_len]; omega)
      obtain ⟨r0, r1⟩ := nrow_at l j hjl
      have far : ∀ i u, (nrow l)[i]? = some u → wr.cell? ⟨b, o + i, none⟩ = some u := fun i u hu => by
        obtain ⟨hi, rfl⟩ := List.getElem?_eq_some_iff.1 hu
        exact hcel i hi
      have q0 := far _ _ r0
      have q1 := far _ _ r1
      rw [← Nat.add_assoc] at q1
      have hw : IntKind.i64.wrap ((j : Int) + 1) = ((j + 1 : Nat) : Int) := IntWalk.i64_in _ (by omega)
      have HD := Lib.hid (without_take l s j hjl)
      have hji : (j : Int) < l.length := by omega
      have hj0 : (0 : Int) ≤ j := by omega
      have hwl : (VfsS.without (l.take j) s).length ≤ j := Nat.le_trans (without_le _ _) (by rw [List.length_take]; omega)
      clear far r0 r1 hcel
      generalize l[j] = pr at *
      generalize VfsS.without (l.take j) s = wo at *
      by_cases he : pr.1 = s
      · subst he
        have HR : Hid (VfsS.without (l.take (j + 1)) pr.1 = wo) := by show _ = _; rw [HD.out, if_pos rfl]
        go_wp2_with fail
        go_roundw
        case rel => exact ⟨j + 1, by omega, by first | rfl | go_num, by rw [HR.out]; exact ho, hk, hb⟩
        case measure => simp [intOf]; omega
      · have hne : (pr.1.toList == s.toList) = false := by
          rw [beq_eq_false_iff_ne, Lib.toList_data, Lib.toList_data]
          intro e; apply he; cases hp : pr.1; cases s; rw [hp] at e; congr 1; exact Array.toList_inj.1 e
        have HR : Hid (VfsS.without (l.take (j + 1)) s = wo ++ [pr]) := by show _ = _; rw [HD.out, if_neg he]
        have hsrc := Src.ofNew (P := Tryd.prog) (w := wr) (tx := 33) (e := 152) Tryd.underlying33 (show [Value.string pr.1, Value.int .i64 (pr.2 : Int)].length = 2 from rfl) (by intro u hu; simp at hu; rcases hu with rfl | rfl <;> rfl)
        go_wp2_with (at_builtin; refine wp_appG rfl _ _ _ _ rfl nameElem rfl rfl (ho.alloc _) rfl hsrc (by simp [maxLen]; omega) (by omega) ?_; intro v3 w3 ho3 hg3 hv3)
        go_roundw
        case rel =>
          refine ⟨j + 1, by omega, by first | rfl | go_num, ?_, fun k hk3 => ?_, ?_⟩
          · rw [HR.out, nrow_append, List.length_append]; exact ho3
          · rcases hv3 k hk3 with h1 | h1
            · exact hk k h1
            · have := hb.size; simp at h1; omega
          · exact (hb.alloc hb.size _).grown hg3 (by have := hb.size; simp; omega) (fun k e => hk k e)
        case measure => simp [intOf]; omega
    · have hd : decide ((j : Int) < (l.length : Int)) = false := decide_eq_false (by omega)
      rw [List.take_of_length_le (by omega)] at ho
      go_wp2_with fail
      go_ret
      exact ⟨_, rfl, ho, hk, hb⟩
end Go.Proofs.YtfoamcobpfflbaaDoor
