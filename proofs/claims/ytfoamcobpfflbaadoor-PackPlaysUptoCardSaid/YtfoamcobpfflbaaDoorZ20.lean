/- Texts of mine, joined: string(b), []byte("..") over slices of bytes. Of every program. | Walks: the record with which some bytes begin. | Walks: all records with which some bytes begin. -/
import Derived.Laws.BytesArg
import Derived.Lib.SlBytesConst
import Derived.Deep.Cut
import Derived.Test.YtfoamcobpfflbaaDoorZ19
namespace Go.Proofs.YtfoamcobpfflbaaDoor
open Go Go.RowKit

theorem byteCells_ints (b : ByteArray) : byteCells b = (b.data.toList.map fun x => (x.toNat : Int)).map (Value.int .u8) := by
  unfold byteCells; rw [List.map_map]; rfl

theorem run_str_of {P : Program} {src dst e : TypeId} (hs : P.underlying src = some (.slice e)) (he : P.underlying e = some (.int .u8)) (hd : P.underlying dst = some .string) {w : World} {a : Option Addr} {b : ByteArray} (h : Sl w a (byteCells b)) (c : Nat) :
    (convert src dst (.slice a b.size c)).run P w = .ok (.string b) w := by
  rcases h with h | ⟨x, o, rfl, _, h⟩
  · have hb : b.size = 0 := by
      have := congrArg List.length h
      rw [byteCells_ints, List.length_map, List.length_map, List.length_nil, Array.length_toList] at this
      exact this
    obtain rfl : b = ⟨#[]⟩ := by
      cases b with | mk d => congr 1; exact Array.eq_empty_of_size_eq_zero hb
    cases a with
    | none => exact run_convert_bytes_nil w src e hs he _ c dst hd
    | some a =>
      rw [run_convert_bytes_string w src dst e _ _ c hs he hd, show (⟨#[]⟩ : ByteArray).size = 0 from rfl, run_bytesToString w a 0 c [] (by
        have := run_loadCells_list (P := P) w a [] (fun j v hj => by simp at hj)
        simpa using this)]
      rfl
  · have hlen : (b.data.toList.map fun x => (x.toNat : Int)).length = b.size := by rw [List.length_map, Array.length_toList]; rfl
    rw [run_convert_bytes_arg w src e hs he x o b.size c _ hlen (fun i hi => by
      refine h i _ ?_
      rw [byteCells_ints, List.getElem?_map, List.getElem?_eq_getElem (by rw [hlen]; exact hi)]
      simp [List.getD, List.getElem?_eq_getElem (by rw [hlen]; exact hi)]) dst hd]
    congr 2
    unfold strOfNums
    cases b with | mk d => simp [Function.comp_def]

theorem sl_new (w : World) (cs : List Value) (e : TypeId) (f : Nat × Nat) : Sl (w.alloc (.cells cs.toArray e f)) (some ⟨w.heap.size, 0, none⟩) cs := by
  refine .inr ⟨_, _, rfl, by simp, fun i u hu => ?_⟩
  rw [Nat.zero_add]
  simp only [World.cell?]
  rw [show (w.alloc (.cells cs.toArray e f)).heap[w.heap.size]? = some (.cells cs.toArray e f) from Array.getElem?_push_size]
  simpa using hu
end Go.Proofs.YtfoamcobpfflbaaDoor
namespace Go.Proofs.YtfoamcobpfflbaaDoor
open Go Go.RowKit

theorem byteCells_ofL {l : List Nat} (h : ∀ x ∈ l, x < 256) : byteCells (ofL l) = nb l := by
  have : nb (bl (ofL l)) = nb l := by rw [bl_ofL h]
  rw [← this]
  unfold byteCells nb bl
  rw [List.map_map]; rfl
theorem ofL_eq {l m : List Nat} (hl : ∀ x ∈ l, x < 256) (hm : ∀ x ∈ m, x < 256) : decide (ofL l = ofL m) = decide (l = m) := by
  by_cases e : l = m
  · subst e; simp
  · rw [decide_eq_false e, decide_eq_false (fun h => e (ofL_inj hl hm h))]

theorem tl_eq (s t : ByteArray) : (s.toList == t.toList) = decide (s = t) := by
  by_cases e : s = t
  · subst e; simp
  · rw [decide_eq_false e]
    simp only [beq_eq_false_iff_ne]
    intro h
    rw [Lib.toList_data, Lib.toList_data] at h
    exact e (PathS.ba_ext h)

/-- What next tells. -/
def NextP (w : World) (l : List Nat) (e : Ending) (w' : World) : Prop :=
  ∃ a n c, e = .returned (.tuple #[.slice a n c, .bool (PackS.good l)]) ∧ (PackS.good l = true → n = (PackS.rec1 l).length ∧ Sl w' a (nb (PackS.rec1 l))) ∧ Below w.heap.size w w'

set_option maxRecDepth 100000 in
theorem next_c {w : World} {a : Option Addr} {c : Nat} {l : List Nat} (hl : Sl w a (nb l)) (hb : ∀ x ∈ l, x < 256) (hn : l.length ≤ 10000000) (hlc : l.length ≤ c) (hcm : c ≤ maxLen) :
    Calls Tryd.prog 77 #[.slice a l.length c] w (NextP w l) := by
  go_enter Tryd.func77, Tryd.ntmps77
  by_cases h12 : l.length < 12
  · have hd : decide ((l.length : Int) < 12) = true := decide_eq_true (by omega)
    have hg : PackS.good l = false := by unfold PackS.good; rw [decide_eq_false (by omega)]; rfl
    go_wp2_with fail
    go_ret2
    exact ⟨none, 0, 0, by rw [hg]; rfl, (fun h => by rw [hg] at h; cases h), Below.refl _ _⟩
  · have hd : decide ((l.length : Int) < 12) = false := decide_eq_false (by omega)
    have h4 : (l.take 4).length = 4 := by rw [List.length_take]; omega
    have HR := pread_c (w := w) (a := a) (c := c) (l := l.take 4) (by
      have := hl.take 4
      rwa [show (nb l).take 4 = nb (l.take 4) by unfold nb; rw [List.map_take]] at this) (by omega) (fun x hx => hb x (List.mem_of_mem_take hx))
    rw [h4] at HR
    have HHR := Lib.hid HR
    have hv := val_lt (l.take 4) (fun x hx => hb x (List.mem_of_mem_take hx)) (by omega)
    have hnl : PackS.nlen l = PackS.val (l.take 4) := rfl
    rw [← hnl] at HHR hv
    clear HR hnl h4
    have i1 : 4 ≤ c := by omega
    go_upto_region 4 with (go_at_call 90; refine HHR.out.mono ?_; rintro e w' ⟨rfl, rfl⟩)
    obtain ⟨N, hN⟩ : ∃ N, PackS.nlen l = N := ⟨_, rfl⟩
    rw [hN] at hv ⊢
    have HN := Lib.hid hN
    clear hN HHR
    by_cases hbig : 524288 < N ∨ l.length < N + 12
    · have hg : PackS.good l = false := by
        unfold PackS.good
        rw [HN.out]
        rcases hbig with h | h
        · rw [decide_eq_false (show ¬ N ≤ 524288 by omega)]; simp
        · rw [decide_eq_false (show ¬ N + 12 ≤ l.length by omega)]; simp
      have fin : ∀ W, NextP W l (.returned (.tuple #[.slice none 0 0, .bool false])) W := fun W => ⟨none, 0, 0, by rw [hg], (fun h => by rw [hg] at h; cases h), Below.refl _ _⟩
      by_cases h1 : 524288 < N
      · have hd1 : decide ((N : Int) > 524288) = true := decide_eq_true (by omega)
        have hd1' : decide ((524288 : Int) < (N : Int)) = true := decide_eq_true (by omega)
        clear hbig hg
        go_wp2_with fail
        go_ret2
        exact fin _
      · have hd1 : decide ((N : Int) > 524288) = false := decide_eq_false (by omega)
        have hd1' : decide ((524288 : Int) < (N : Int)) = false := decide_eq_false (by omega)
        have hd2 : decide ((N : Int) > (l.length : Int) - 12) = true := decide_eq_true (by omega)
        have hd2' : decide ((l.length : Int) - 12 < (N : Int)) = true := decide_eq_true (by omega)
        have hw1 : IntKind.i64.wrap ((l.length : Int) - 12) = (l.length : Int) - 12 := IntWalk.i64_in _ (by omega)
        clear hbig hg
        go_wp2_with fail
        go_ret2
        exact fin _
    · have hd1 : decide ((N : Int) > 524288) = false := decide_eq_false (by omega)
      have hd1' : decide ((524288 : Int) < (N : Int)) = false := decide_eq_false (by omega)
      have hd2 : decide ((N : Int) > (l.length : Int) - 12) = false := decide_eq_false (by omega)
      have hd2' : decide ((l.length : Int) - 12 < (N : Int)) = false := decide_eq_false (by omega)
      have hw1 : IntKind.i64.wrap ((l.length : Int) - 12) = (l.length : Int) - 12 := IntWalk.i64_in _ (by omega)
      have hw2 : IntKind.i64.wrap (12 + (N : Int)) = ((12 + N : Nat) : Int) := by rw [IntWalk.i64_in _ (by omega)]; omega
      have hr1 : PackS.rec1 l = (l.drop 12).take N := by unfold PackS.rec1; rw [HN.out]
      have hrl : (PackS.rec1 l).length = N := by rw [hr1, List.length_take, List.length_drop]; omega
      have hrb : ∀ x ∈ PackS.rec1 l, x < 256 := fun x hx => by rw [hr1] at hx; exact hb x (List.mem_of_mem_drop (List.mem_of_mem_take hx))
      have hgd : PackS.good l = decide (PackS.id8 (PackS.rec1 l) = (l.drop 4).take 8) := by
        unfold PackS.good
        rw [show (l.drop 12).take (PackS.nlen l) = PackS.rec1 l from rfl, HN.out, decide_eq_true (show 12 ≤ l.length by omega), decide_eq_true (show N ≤ 524288 by omega), decide_eq_true (show N + 12 ≤ l.length by omega)]
        simp
      obtain ⟨g, o, rfl, hgl, hcel⟩ := hl.at (k := 0) (by rw [nb_len]; omega)
      have hpart : Sl w' (some ⟨g, o + 12, none⟩) (nb (PackS.rec1 l)) := by
        have := hl.part 12 (12 + N)
        rwa [show ((nb l).take (12 + N)).drop 12 = nb (PackS.rec1 l) by rw [hr1]; unfold nb; rw [← List.map_take, ← List.map_drop, List.drop_take]; congr 2; omega] at this
      have hpart8 : Sl w' (some ⟨g, o + 4, none⟩) (nb ((l.drop 4).take 8)) := by
        have := hl.part 4 12
        rwa [show ((nb l).take 12).drop 4 = nb ((l.drop 4).take 8) by unfold nb; rw [← List.map_take, ← List.map_drop, List.drop_take]] at this
      have h8b : ∀ x ∈ (l.drop 4).take 8, x < 256 := fun x hx => hb x (List.mem_of_mem_drop (List.mem_of_mem_take hx))
      have h8l : ((l.drop 4).take 8).length = 8 := by rw [List.length_take, List.length_drop]; omega
      have i2 : 12 + N ≤ c := by omega
      have i3 : 12 ≤ c := by omega
      have hNl : N ≤ 524288 := by omega
      have HR1 := Lib.hid hr1
      have HRL := Lib.hid hrl
      have HGD := Lib.hid hgd
      clear hr1 hrl hgd hcel hbig
      go_upto_region 6 with fail
      go_cut [5] from 7 (fun dv wx => wx = w' ∧ ∃ A C, dv = .slice A N C ∧ Sl w' A (nb (PackS.rec1 l)))
      case first =>
        rcases Nat.decEq c 12 with hc | hc
        · have hc' : (c == 12) = false := by rw [beq_eq_false_iff_ne]; exact hc
          go_wp2_with fail
          go_meet
          case rel => exact ⟨rfl, _, _, by rw [show 12 + N - 12 = N by omega], hpart⟩
        · subst hc
          obtain rfl : N = 0 := by omega
          have hnil : PackS.rec1 l = [] := List.eq_nil_of_length_eq_zero HRL.out
          go_wp2_with fail
          go_meet
          case rel => exact ⟨rfl, _, _, rfl, .inl (by rw [hnil]; rfl)⟩
      case rest =>
        obtain ⟨rfl, A, C, rfl, hsl⟩ := hcut
        have HS := sum1_c (c := C) hsl hrb (by rw [HRL.out]; omega)
        rw [HRL.out] at HS
        have HHS := Lib.hid HS
        clear HS
        have hp8 := hpart8
        go_upto_region 8 with (first
          | (go_at_call 43; refine HHS.out.mono ?_; rintro e w1 ⟨rfl, hb1⟩; have hI : (w1.alloc (.cells #[Value.int .u8 0, Value.int .u8 0, Value.int .u8 0, Value.int .u8 0, Value.int .u8 0, Value.int .u8 0, Value.int .u8 0, Value.int .u8 0, Value.int .u8 0, Value.int .u8 0, Value.int .u8 0, Value.int .u8 0, Value.int .u8 0, Value.int .u8 0, Value.int .u8 0, Value.int .u8 0, Value.int .u8 0, Value.int .u8 0, Value.int .u8 0, Value.int .u8 0, Value.int .u8 0, Value.int .u8 0, Value.int .u8 0, Value.int .u8 0, Value.int .u8 0, Value.int .u8 0, Value.int .u8 0, Value.int .u8 0, Value.int .u8 0, Value.int .u8 0, Value.int .u8 0, Value.int .u8 0] 47)).heap[w1.heap.size]? = some (.cells #[Value.int .u8 0, Value.int .u8 0, Value.int .u8 0, Value.int .u8 0, Value.int .u8 0, Value.int .u8 0, Value.int .u8 0, Value.int .u8 0, Value.int .u8 0, Value.int .u8 0, Value.int .u8 0, Value.int .u8 0, Value.int .u8 0, Value.int .u8 0, Value.int .u8 0, Value.int .u8 0, Value.int .u8 0, Value.int .u8 0, Value.int .u8 0, Value.int .u8 0, Value.int .u8 0, Value.int .u8 0, Value.int .u8 0, Value.int .u8 0, Value.int .u8 0, Value.int .u8 0, Value.int .u8 0, Value.int .u8 0, Value.int .u8 0, Value.int .u8 0, Value.int .u8 0, Value.int .u8 0] 47 (0, 0)) := Array.getElem?_push_size)
          | (refine wp_storeB rfl 47 _ _ rfl w1.heap.size (nums .u8 (Sha.sum (PackS.rec1 l))) rfl rfl hI (by rw [nums_size, PackS.sum_len]; kernel_rfl) (by rw [nums_size, PackS.sum_len]; kernel_rfl) (nums_one _ _) ?_; intro w2 h2 g2))
        have hB2 : Below wc.heap.size wc w2 := ((hb1.alloc hb1.size _).grown g2 (hb1.alloc hb1.size _).size (fun k e => by injection e with e; have := hb1.size; omega))
        have hId8 : Sl w2 (some ⟨w1.heap.size, 0, none⟩) (byteCells (ofL (PackS.id8 (PackS.rec1 l)))) := by
          have := (id_arr h2).take 8
          rw [byteCells_ofL (PackS.id8_lt _)]
          rwa [show (nb (Sha.sum (PackS.rec1 l))).take 8 = nb (PackS.id8 (PackS.rec1 l)) by unfold nb PackS.id8; rw [List.map_take]] at this
        have hp8 : Sl w2 (some ⟨g, o + 4, none⟩) (byteCells (ofL ((l.drop 4).take 8))) := by
          rw [byteCells_ofL h8b]; exact hp8.below hB2
        have hsl2 := hsl.below hB2
        have hD := ofL_eq (PackS.id8_lt (PackS.rec1 l)) h8b
        rw [← HGD.out] at hD
        have z1 := ofL_size (PackS.id8 (PackS.rec1 l))
        have z2 := ofL_size ((l.drop 4).take 8)
        rw [PackS.id8_len] at z1
        rw [h8l] at z2
        generalize ofL (PackS.id8 (PackS.rec1 l)) = s1 at *
        generalize ofL ((l.drop 4).take 8) = s2 at *
        have ks1 := fun q => run_str_of (P := Tryd.prog) (w := w2.drewN q) Tryd.underlying43 Tryd.underlying5 Tryd.underlying9 hId8 32
        have ks2 := fun q => run_str_of (P := Tryd.prog) (w := w2.drewN q) Tryd.underlying43 Tryd.underlying5 Tryd.underlying9 hp8 (c - 4)
        rw [z1] at ks1
        rw [z2] at ks2
        have i5 : ¬ c = 4 := by omega
        have i6 : (c == 4) = false := by rw [beq_eq_false_iff_ne]; exact i5
        have i7 : (12 : Int) ≤ (c : Int) := by omega
        have HD := Lib.hid hD
        clear hI HHS g2 h2 hId8 hp8 hb1 hD z1 z2
        generalize w1.heap.size = bi at *
        go_quiet (fail)
        go_wp2_with fail
        go_ret2
        refine ⟨A, N, C, ?_, fun h => ⟨HRL.out.symm, hsl2⟩, below_dN hB2 _⟩
        rw [← HD.out, ← tl_eq]
        rfl
end Go.Proofs.YtfoamcobpfflbaaDoor
namespace Go.Proofs.YtfoamcobpfflbaaDoor
open Go Go.RowKit

theorem bssElem : Elem Tryd.prog 69 43 (.slice none 0 0) 1 24 := ⟨Tryd.underlying69, by kernel_rfl⟩

abbrev Prt := Option Addr × Nat × List Nat
def prow (ps : List Prt) : List Value := ps.map fun q => Value.slice q.1 q.2.2.length q.2.1
theorem prow_len (ps : List Prt) : (prow ps).length = ps.length := by simp [prow]
theorem prow_one (ps : List Prt) : ∀ u ∈ prow ps, u.oneCell' = true := fun u hu => by obtain ⟨q, -, rfl⟩ := List.mem_map.1 hu; rfl
def PrtOk (w : World) (q : Prt) : Prop := OwnG w 5 1 (.slice q.1 q.2.2.length q.2.1) q.2.2.length (nb q.2.2) ∧ ∀ x ∈ q.2.2, x < 256

/-- A row of the call's own of slices of bytes. -/
structure PsR (w wx : World) (v : Value) (ps : List Prt) : Prop where
  b : Below w.heap.size w wx
  r : OwnG wx 43 1 v ps.length (prow ps)
  q : ∀ q ∈ ps, PrtOk wx q
  new : ∀ k, v.ownBlock = some k → w.heap.size ≤ k
  qn : ∀ q ∈ ps, ∀ k, (Value.slice q.1 q.2.2.length q.2.1).ownBlock = some k → w.heap.size ≤ k
theorem PsR.nil (w : World) : PsR w w (.slice none 0 0) [] := ⟨Below.refl _ _, OwnG.nil _ _ _, (fun q h => by cases h), (fun k h => by cases h), (fun q h => by cases h)⟩
theorem PrtOk.below {w w' : World} {q : Prt} (h : PrtOk w q) (hb : Below w.heap.size w w') : PrtOk w' q := ⟨h.1.below hb, h.2⟩
theorem PrtOk.sl {w : World} {q : Prt} (h : PrtOk w q) : Sl w q.1 (nb q.2.2) := by
  obtain ⟨a, c, e, -, -, hs⟩ := h.1.form
  injection e with e _ _
  subst e; exact hs
theorem PrtOk.cap {w : World} {q : Prt} (h : PrtOk w q) : q.2.2.length ≤ q.2.1 ∧ q.2.1 ≤ maxLen := by
  obtain ⟨a, c, e, h1, h2, hs⟩ := h.1.form
  injection e with e _ e3
  subst e3; exact ⟨h1, h2⟩
/-- A block of slices is none of bytes. -/
theorem OwnG.no_bytes {w : World} {v v' : Value} {n m : Nat} {xs ys : List Value} (h : OwnG w 43 1 v n xs) (h' : OwnG w 5 1 v' m ys) : v'.ownBlock = none ∨ v'.ownBlock ≠ v.ownBlock := by
  cases e : v'.ownBlock with
  | none => exact .inl rfl
  | some k =>
    refine .inr fun e2 => ?_
    obtain ⟨c1, h1⟩ := h.tag e2.symm
    obtain ⟨c2, h2⟩ := h'.tag e
    rw [h1] at h2
    injection h2 with h2
    injection h2 with _ h2 _
    exact absurd h2 (by decide)
theorem PsR.below {w wx w' : World} {v : Value} {ps : List Prt} (h : PsR w wx v ps) (hb : Below wx.heap.size wx w') : PsR w w' v ps :=
  ⟨h.b.trans (hb.mono h.b.size), h.r.below hb, fun q hq => (h.q q hq).below hb, h.new, h.qn⟩
theorem PsR.app {w wx w' : World} {v v' : Value} {ps : List Prt} {p : Prt} (h : PsR w wx v ps) (hp : PrtOk wx p) (hpn : ∀ k, (Value.slice p.1 p.2.2.length p.2.1).ownBlock = some k → w.heap.size ≤ k)
    (ho : OwnG w' 43 1 v' (ps.length + 1) (prow ps ++ prow [p])) (hg : wx.grownBy w' v.ownBlock) (hv : ∀ k, v'.ownBlock = some k → v.ownBlock = some k ∨ wx.heap.size ≤ k) : PsR w w' v' (ps ++ [p]) := by
  have hz := h.b.size
  have keep : ∀ q : Prt, PrtOk wx q → PrtOk w' q := fun q hs => ⟨hs.1.kept hg (h.r.no_bytes hs.1), hs.2⟩
  refine ⟨h.b.grown hg h.b.size (fun k e => h.new k e), by rw [List.length_append]; unfold prow at *; rw [List.map_append]; exact ho, fun q hq => ?_, fun k hk => (hv k hk).elim (h.new k) (fun h => by omega), fun q hq => ?_⟩
  · rcases List.mem_append.1 hq with hq | hq
    · exact keep q (h.q q hq)
    · rw [List.mem_singleton] at hq; subst hq; exact keep _ hp
  · rcases List.mem_append.1 hq with hq | hq
    · exact h.qn q hq
    · rw [List.mem_singleton] at hq; subst hq; exact hpn

set_option maxRecDepth 100000 in
/-- 'b[k:]'. -/
theorem bytes_from {w : World} {a : Option Addr} {c : Nat} {l : List Nat} (hl : Sl w a (nb l)) (hlc : l.length ≤ c) (hcm : c ≤ maxLen) (ha : a = none → c = 0) {k : Nat} (hk : k ≤ l.length) :
    ∃ A C, l.length - k ≤ C ∧ C ≤ maxLen ∧ (A = none → C = 0) ∧ Sl w A (nb (l.drop k)) ∧ ∀ W, (Instr.slice 43 (.slice a l.length c) (some (.int .i64 k)) none none).run Tryd.prog W = .ok (.slice A (l.length - k) C) W := by
  have hk0 : (0 : Int) ≤ (k : Int) := by omega
  have hk1 : (k : Int) ≤ (l.length : Int) := by omega
  have ht : Tryd.prog.underlying 43 = some (.slice (Tryd.prog.elem 43)) := Tryd.underlying43
  have hsz : ∀ W, (sizeOf (Tryd.prog.elem 43)).run Tryd.prog W = .ok 1 W := fun W => by simp [go_sem]
  by_cases hc : c = k
  · refine ⟨a, 0, by omega, Nat.zero_le _, fun _ => rfl, ?_, fun W => ?_⟩
    · rw [List.drop_eq_nil_of_le (by omega)]; exact .inl rfl
    · rw [run_slice_l W _ _ _ _ ht _ _ hk0 hk1, hsz]
      simp [Result.andThen, sliced, hc]
  · refine ⟨a.map (·.add k), c - k, by omega, by omega, fun h => ?_, ?_, fun W => ?_⟩
    · cases a with
      | none => have := ha rfl; omega
      | some ad => cases h
    · rcases hl with e | ⟨g, o, rfl, hg, hc⟩
      · left
        have : l.length = 0 := by rw [← nb_len l, e]; rfl
        rw [List.drop_eq_nil_of_le (by omega)]; rfl
      · have := (Sl.part (.inr ⟨g, o, rfl, hg, hc⟩) k (nb l).length : Sl w (some ⟨g, o + k, none⟩) _)
        rw [List.take_length, nb_drop] at this
        by_cases h0 : k = 0
        · subst h0; simpa [Addr.add] using this
        · simpa [Addr.add, h0] using this
    · rw [run_slice_l W _ _ _ _ ht _ _ hk0 hk1, hsz]
      simp [Result.andThen, sliced, hc]

def ScanP (w : World) (l : List Nat) (e : Ending) (w' : World) : Prop :=
  ∃ v ps, e = .returned (.tuple #[v, .int .i64 (PackS.scan l).2]) ∧ PsR w w' v ps ∧ ps.map (fun q => q.2.2) = (PackS.scan l).1

/-- A scan under way: k bytes are taken. -/
structure ScU (w wx : World) (l : List Nat) (v : Value) (ps : List Prt) (k : Nat) : Prop where
  r : PsR w wx v ps
  kl : k ≤ l.length
  s1 : ps.map (fun q => q.2.2) ++ (PackS.scan (l.drop k)).1 = (PackS.scan l).1
  s2 : k + (PackS.scan (l.drop k)).2 = (PackS.scan l).2
  n : ps.length ≤ k

set_option maxRecDepth 100000 in
set_option maxHeartbeats 1000000 in
theorem scan_c {w : World} {a : Option Addr} {c : Nat} {l : List Nat} (hl : Sl w a (nb l)) (hb : ∀ x ∈ l, x < 256) (hn : l.length ≤ 10000000) (hlc : l.length ≤ c) (hcm : c ≤ maxLen) (ha : a = none → c = 0) :
    Calls Tryd.prog 38 #[.slice a l.length c] w (ScanP w l) := by
  go_enter Tryd.func38, Tryd.ntmps38
  go_wp2_with fail
  have h0 : ScU w w l (.slice none 0 0) [] 0 := ⟨PsR.nil w, Nat.zero_le _, by simp, by simp, Nat.zero_le _⟩
  go_loopw [4, 5] (fun v iv wx => ∃ (k : Nat) (ps : List Prt), iv = .int .i64 k ∧ ScU w wx l v ps k) (fun _ iv _ => (l.length - intOf iv).toNat)
  case atStart => exact ⟨0, [], rfl, h0⟩
  case round =>
    clear h0
    obtain ⟨k, ps, rfl, hU⟩ := hrel
    have hk := hU.kl
    have hk0 : (0 : Int) ≤ (k : Int) := by omega
    have hk1 : (k : Int) ≤ (l.length : Int) := by omega
    obtain ⟨A, C, hC1, hC2, hC3, hAs, hrun⟩ := bytes_from (hl.below hU.r.b) hlc hcm ha hk
    have hdl : (l.drop k).length = l.length - k := List.length_drop
    have HX := next_c (c := C) hAs (fun x hx => hb x (List.mem_of_mem_drop hx)) (by omega) (by omega) hC2
    rw [hdl] at HX
    have HX := Lib.hid HX
    have HDL := Lib.hid hdl
    have HU := Lib.hid hU
    clear hU hdl hAs
    go_upto_region 4 with (go_at_call 77; refine HX.out.mono ?_; rintro e w1 ⟨A2, n2, C2, rfl, hN2, hb2⟩)
    have HB2 := Lib.hid hb2
    have hcase : PackS.good (l.drop k) = true ∨ PackS.good (l.drop k) = false := by cases PackS.good (l.drop k) <;> simp
    rcases hcase with hg | hg
    · obtain ⟨rfl, hsl⟩ := hN2 hg
      rw [hg]
      have hp := PackS.good_parts hg
      have hrl := PackS.rec1_len hg
      have hrb : ∀ x ∈ PackS.rec1 (l.drop k), x < 256 := fun x hx => hb x (List.mem_of_mem_drop (List.mem_of_mem_drop (List.mem_of_mem_take hx)))
      have HSC := Lib.hid (PackS.scan_good hg)
      rw [HDL.out] at hp
      rw [← hrl] at HSC hp
      have hr1 : (PackS.rec1 (l.drop k)).length ≤ 524288 := hp.2.1
      have hr2 : k + (12 + (PackS.rec1 (l.drop k)).length) ≤ l.length := by omega
      clear hg hN2 hp hrl hb2
      generalize PackS.rec1 (l.drop k) = r at *
      have hEm := OwnG.new0 w1 5 1
      have hsrc : Src Tryd.prog 1 43 (.slice A2 r.length C2) r.length (nb r) (w1.alloc (.cells #[] 5)) := src_nb (hsl.below ((Below.refl _ w1).alloc (Nat.le_refl _) _))
      have hP1 := HU.out.r.below HB2.out
      have HP1 := Lib.hid hP1
      have hlen := HU.out.n
      have h63 : 0 + r.length ≤ maxLen := by simp [maxLen]; omega
      have h47 : (0 + r.length) * 1 ≤ 140737488355328 := by omega
      have h63' : ps.length + 1 ≤ maxLen := by simp [maxLen]; omega
      have h47' : (ps.length + 1) * 24 ≤ 140737488355328 := by omega
      have hw1 : IntKind.i64.wrap (12 + (r.length : Int)) = 12 + (r.length : Int) := IntWalk.i64_in _ (by omega)
      have hw2 : IntKind.i64.wrap ((k : Int) + (12 + (r.length : Int))) = (k : Int) + (12 + (r.length : Int)) := IntWalk.i64_in _ (by omega)
      clear hP1 hsl
      go_wp2_with (first
        | (at_builtin; refine wp_appG rfl _ _ _ _ rfl byteElem rfl rfl hEm rfl hsrc h63 h47 ?_; intro v2 w2 ho2 hg2 hv2; simp only [Nat.zero_add, List.nil_append] at ho2; obtain ⟨a3, c3, rfl, -, -, -⟩ := ho2.form; have hb2 : Below w1.heap.size w1 w2 := (((Below.refl _ w1).alloc (Nat.le_refl _) _).grown hg2 (by simp) (fun x e => by have e : some w1.heap.size = some x := e; injection e with e; omega)); have hP2 := HP1.out.below (hb2.alloc hb2.size (.cells #[.slice a3 r.length c3] 43)); have hP2r := hP2.r; have HP2 := Lib.hid hP2; have HO2 : Hid (PrtOk (w2.alloc (.cells #[.slice a3 r.length c3] 43)) (a3, c3, r)) := ⟨ho2.alloc (.cells #[.slice a3 r.length c3] 43), hrb⟩; have HN2 : Hid (∀ k, (Value.slice a3 r.length c3).ownBlock = some k → w.heap.size ≤ k) := (fun k hk => by have h1 := HU.out.r.b.size; have h2 := HB2.out.size; rcases hv2 k hk with h | h; (have h : some w1.heap.size = some k := h; injection h with h; omega); (simp at h; omega)))
        | (at_builtin; refine wp_appG rfl _ _ _ _ rfl bssElem rfl rfl hP2r rfl (Src.ofNew (e := 43) (news := prow [(a3, c3, r)]) Tryd.underlying69 rfl (prow_one _)) h63' h47' ?_; intro v4 w4 ho4 hg4 hv4; have HP4 := Lib.hid (HP2.out.app HO2.out HN2.out ho4 hg4 hv4)))
      have HU2 : Hid (ScU w w4 l v4 (ps ++ [(a3, c3, r)]) (k + (12 + r.length))) := by
        have h1 := HU.out.s1
        have h2 := HU.out.s2
        rw [HSC.out] at h1 h2
        rw [List.drop_drop] at h1 h2
        refine ⟨HP4.out, hr2, ?_, by omega, by rw [List.length_append]; simp; omega⟩
        rw [List.map_append, List.append_assoc]
        exact h1
      clear hg2 ho2 hv2 hP2r HP2 HO2 hP2 HP4 HSC HU hEm hsrc
      go_roundw
      case rel => exact ⟨k + (12 + r.length), ps ++ [(a3, c3, r)], by go_num, HU2.out⟩
      case measure => simp [intOf]; omega
    · rw [hg]
      have HEND : Hid (k = (PackS.scan l).2 ∧ ps.map (fun q => q.2.2) = (PackS.scan l).1) := by
        have h1 := HU.out.s1
        have h2 := HU.out.s2
        rw [PackS.scan_bad hg] at h1 h2
        exact ⟨by simpa using h2, by simpa using h1⟩
      have HP := Lib.hid (HU.out.r.below hb2)
      clear hg hN2 HU HB2 hb2
      go_wp2_with fail
      go_ret2
      exact ⟨_, ps, by rw [← HEND.out.1]; rfl, HP.out, HEND.out.2⟩
end Go.Proofs.YtfoamcobpfflbaaDoor
