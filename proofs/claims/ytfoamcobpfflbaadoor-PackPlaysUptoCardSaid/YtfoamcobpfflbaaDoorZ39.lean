/- Texts of mine, joined: The law PackOrder: plain parts and what its loops know. | Walks over the document's answer: how many bytes there are. | Walks over the document's answer: a file put. -/
import Derived.Test.YtfoamcobpfflbaaDoorZ38
namespace Go.Proofs.YtfoamcobpfflbaaDoor
open Go Go.RowKit Go.Maps
open VfsS (St)

namespace PackS
/-- Where the next sum is looked for. -/
structure AtOk (R l : List (List Nat)) (i k : Nat) : Prop where
  sub : (R.drop i).Sublist (l.drop k)
  kl : k ≤ l.length
  last : i = 0 ∨ k < l.length
theorem AtOk.zero {R l : List (List Nat)} (h : R.Sublist l) : AtOk R l 0 0 := ⟨by simpa using h, Nat.zero_le _, .inl rfl⟩
theorem AtOk.lt {R l : List (List Nat)} {i k : Nat} (h : AtOk R l i k) (hi : i < R.length) : k < l.length := by
  have := h.sub.length_le
  rw [List.length_drop, List.length_drop] at this
  omega
theorem skip_sub {x y : List Nat} {A B : List (List Nat)} (h : (y :: A).Sublist (x :: B)) (hne : x ≠ y) : (y :: A).Sublist B := by
  cases h with
  | cons _ h => exact h
  | cons_cons _ h => exact absurd rfl hne
theorem AtOk.skip {R l : List (List Nat)} {i k : Nat} (h : AtOk R l i k) (hi : i < R.length) (hne : Sha.sum (l[k]'(h.lt hi)) ≠ Sha.sum R[i]) : AtOk R l i (k + 1) := by
  have hk := h.lt hi
  have hs := h.sub
  rw [List.drop_eq_getElem_cons hi, List.drop_eq_getElem_cons hk] at hs
  have h2 := skip_sub hs fun e => hne (by rw [e])
  have h3 := h2.length_le
  rw [List.length_cons, List.length_drop, List.length_drop] at h3
  refine ⟨?_, by omega, .inr (by omega)⟩
  rw [List.drop_eq_getElem_cons hi]; exact h2
theorem AtOk.next {R l : List (List Nat)} {i k : Nat} (h : AtOk R l i k) (hi : i < R.length) : AtOk R l (i + 1) k := by
  refine ⟨?_, h.kl, .inr (h.lt hi)⟩
  have hs := h.sub
  rw [List.drop_eq_getElem_cons hi] at hs
  exact (List.sublist_cons_self _ _).trans hs

theorem roomy1 : Roomy (PackT.C1 4194304) PackT.nm 0 := ⟨rfl, rfl, rfl⟩
theorem used1 : VfsS.used (PackT.C1 4194304) = 0 := rfl
end PackS

/-- The bytes of the file, the ids. -/
def FileOk (W : World) (R : List (List Nat)) (v : Value) : Prop := OwnG W 5 1 v (PackS.frames R).length (nb (PackS.frames R))
def IdOk (W : World) (R : List (List Nat)) (v : Value) : Prop := OwnG W 47 32 v R.length (irow (R.map Sha.sum))
theorem FileOk.below {W W' : World} {R : List (List Nat)} {v : Value} (h : FileOk W R v) (hb : Below W.heap.size W W') : FileOk W' R v := OwnG.below h hb
theorem IdOk.below {W W' : World} {R : List (List Nat)} {v : Value} (h : IdOk W R v) (hb : Below W.heap.size W W') : IdOk W' R v := OwnG.below h hb

/-- What lies behind k rounds. -/
structure ResU (W : World) (R : List (List Nat)) (b5 b6 k : Nat) (F0 F1 I0 I1 : Value) : Prop where
  h5 : W.heap[b5]? = some (.cells #[F0, F1] 80 (0, 0))
  h6 : W.heap[b6]? = some (.cells #[I0, I1] 81 (0, 0))
  f0 : 0 < k → FileOk W R F0
  f1 : 1 < k → FileOk W R F1
  i0 : 0 < k → IdOk W R I0
  i1 : 1 < k → IdOk W R I1
theorem ResU.below {W W' : World} {R : List (List Nat)} {b5 b6 k : Nat} {F0 F1 I0 I1 : Value} (h : ResU W R b5 b6 k F0 F1 I0 I1) (hb : Below W.heap.size W W') : ResU W' R b5 b6 k F0 F1 I0 I1 :=
  ⟨(hb.block b5 (Array.getElem?_eq_some_iff.1 h.h5).1).trans h.h5, (hb.block b6 (Array.getElem?_eq_some_iff.1 h.h6).1).trans h.h6, fun e => (h.f0 e).below hb, fun e => (h.f1 e).below hb, fun e => (h.i0 e).below hb, fun e => (h.i1 e).below hb⟩
theorem own_other {W W' : World} {e e' : TypeId} {size n b : Nat} {v : Value} {xs : List Value} {cs : Array Value} {fr : Nat × Nat} (h : OwnG W e size v n xs) (hb : W.heap[b]? = some (.cells cs e' fr)) (hne : e' ≠ e) (hg : W.grownBy W' (some b)) : OwnG W' e size v n xs :=
  h.kept hg (.inr fun he => by
    obtain ⟨cur, h2⟩ := h.tag he
    rw [hb] at h2
    injection h2 with h2
    injection h2 with _ h2 _
    exact hne h2)

section
variable {W W8 : World} {R : List (List Nat)} {b5 b6 k : Nat} {F0 F1 I0 I1 v v' : Value}
theorem ResU.other (h : ResU W R b5 b6 k F0 F1 I0 I1) (hne : b6 ≠ b5) : (W.setCell ⟨b5, k, none⟩ v).heap[b6]? = some (.cells #[I0, I1] 81 (0, 0)) := by
  obtain ⟨_, g⟩ := set_blk h.h5 k v
  exact (g.block b6 (Array.getElem?_eq_some_iff.1 h.h6).1 (fun e => by injection e with e; exact hne e)).trans h.h6
/-- Both results laid. -/
theorem ResU.step (h : ResU W R b5 b6 k F0 F1 I0 I1) (hne : b6 ≠ b5) (hk : k < 2) (hv : FileOk W R v) (hb : Below (W.setCell ⟨b5, k, none⟩ v).heap.size (W.setCell ⟨b5, k, none⟩ v) W8) (hv' : IdOk W8 R v') :
    ∃ F0' F1' I0' I1', ResU (W8.setCell ⟨b6, k, none⟩ v') R b5 b6 (k + 1) F0' F1' I0' I1' := by
  obtain ⟨s5, g5⟩ := set_blk h.h5 k v
  have h6 := (hb.block b6 (Array.getElem?_eq_some_iff.1 (h.other (v := v) hne)).1).trans (h.other (v := v) hne)
  have h5 := (hb.block b5 (Array.getElem?_eq_some_iff.1 s5).1).trans s5
  obtain ⟨s6, g6⟩ := set_blk h6 k v'
  have h59 := (g6.block b5 (Array.getElem?_eq_some_iff.1 h5).1 (fun e => by injection e with e; exact hne e.symm)).trans h5
  have fk : ∀ {u}, FileOk W R u → FileOk (W8.setCell ⟨b6, k, none⟩ v') R u := fun {u} hu => own_other ((own_other hu h.h5 (by decide) g5).below hb) h6 (by decide) g6
  have ik : ∀ {u}, IdOk W R u → IdOk (W8.setCell ⟨b6, k, none⟩ v') R u := fun {u} hu => own_other ((own_other hu h.h5 (by decide) g5).below hb) h6 (by decide) g6
  have iv : IdOk (W8.setCell ⟨b6, k, none⟩ v') R v' := own_other hv' h6 (by decide) g6
  rcases (by omega : k = 0 ∨ k = 1) with rfl | rfl
  · exact ⟨v, F1, v', I1, h59, s6, fun _ => fk hv, fun e => by omega, fun _ => iv, fun e => by omega⟩
  · exact ⟨F0, v, I0, v', h59, s6, fun _ => fk (h.f0 (by omega)), fun _ => fk hv, fun _ => ik (h.i0 (by omega)), fun _ => iv⟩
end
end Go.Proofs.YtfoamcobpfflbaaDoor
namespace Go.Proofs.YtfoamcobpfflbaaDoor
open Go Go.RowKit
open VfsS (File Chg Nm St find doL)

/-- Files as cells. -/
def flrow (l : List File) : List Value := l.flatMap fun f => [.string f.text, .int .i64 (f.dur : Int)]

theorem flrow_len (l : List File) : (flrow l).length = l.length * 2 := by
  induction l with
  | nil => rfl
  | cons a l ih => rw [flrow, List.flatMap_cons, List.length_append, show (l.flatMap _).length = l.length * 2 from ih]; simp; omega

theorem flrow_append (l m : List File) : flrow (l ++ m) = flrow l ++ flrow m := by unfold flrow; rw [List.flatMap_append]

theorem flrow_at (l : List File) (j : Nat) (hj : j < l.length) : (flrow l)[j * 2]? = some (.string l[j].text) ∧ (flrow l)[j * 2 + 1]? = some (.int .i64 (l[j].dur : Int)) := by
  have h : flrow l = flrow (l.take j) ++ ([.string l[j].text, .int .i64 (l[j].dur : Int)] ++ flrow (l.drop (j + 1))) := by
    conv => lhs; rw [← List.take_append_drop j l, List.drop_eq_getElem_cons hj]
    rw [flrow_append]; rfl
  have hl : (flrow (l.take j)).length = j * 2 := by rw [flrow_len, List.length_take]; congr 1; omega
  rw [h]
  constructor
  · rw [List.getElem?_append_right (by omega), hl, Nat.sub_self]; rfl
  · rw [List.getElem?_append_right (by omega), hl, show j * 2 + 1 - j * 2 = 1 by omega]; rfl

theorem one_files (l : List File) : ∀ u ∈ flrow l, u.oneCell' = true := fun u hu => by
  obtain ⟨p, _, hp⟩ := List.mem_flatMap.1 hu
  simp at hp
  rcases hp with rfl | rfl <;> rfl

/-- How many bytes the names from the j-th on have. -/
def sumD (S : St) (j : Nat) : Nat := ((S.now.drop j).map fun p => (VfsS.fl S p.2).text.size).sum
theorem sumD_step (S : St) (j : Nat) (h : j < S.now.length) : sumD S j = (VfsS.fl S S.now[j].2).text.size + sumD S (j + 1) := by
  unfold sumD; rw [List.drop_eq_getElem_cons h, List.map_cons, List.sum_cons]

set_option maxRecDepth 100000 in
set_option maxHeartbeats 1000000 in
theorem rused_c {w : World} {S : St} {fa na sa aa : Option Addr} {fc nc sn sc an ac : Nat} (hf : OwnG w 119 2 (.slice fa S.files.length fc) S.files.length (flrow S.files)) (hn : OwnG w 152 2 (.slice na S.now.length nc) S.now.length (nrow S.now))
    (hwf : VfsS.Wf S) (hnl : S.now.length ≤ 100000000) (room steps limit : Int) :
    Calls Tryd.prog 70 #[RVv fa S.files.length fc na S.now.length nc sa sn sc aa an ac room steps limit] w fun e w' => e = .returned (.int .i64 (VfsS.used S : Nat)) ∧ Below w.heap.size w w' := by
  have HUL := Lib.hid (used_le hwf hnl)
  have HU : Hid (sumD S 0 = VfsS.used S) := by show _ = _; unfold sumD VfsS.used; rw [List.drop_zero]
  have hidx : ∀ j (h : j < S.now.length), S.now[j].2 < S.files.length := fun j h => hwf.idx _ (.inl ⟨S.now[j].1, List.getElem_mem h⟩)
  have HIX := Lib.hid hidx
  unfold RVv
  generalize hov : Value.slice sa sn sc = v3
  generalize hoa : Value.slice aa an ac = v4
  obtain ⟨fa', fc', e1, hc1, -, hs1⟩ := hf.form
  obtain ⟨na', nc', e2, hc2, -, hs2⟩ := hn.form
  cases e1; cases e2
  have hb0 : Below w.heap.size w (w.alloc (.cells #[.slice fa S.files.length fc, .slice na S.now.length nc, v3, v4, .int .i64 room, .int .i64 steps, .int .i64 limit] 36)) := (Below.refl _ w).alloc (Nat.le_refl _) _
  have hb : (w.alloc (.cells #[.slice fa S.files.length fc, .slice na S.now.length nc, v3, v4, .int .i64 room, .int .i64 steps, .int .i64 limit] 36)).heap[w.heap.size]? = some (.cells #[.slice fa S.files.length fc, .slice na S.now.length nc, v3, v4, .int .i64 room, .int .i64 steps, .int .i64 limit] 36 (0, 0)) := Array.getElem?_push_size
  have t1 := hs1.below hb0
  have t2 := hs2.below hb0
  subst hov hoa
  go_enter Tryd.func70, Tryd.ntmps70
  go_wp2_with fail
  generalize hW : w.alloc (.cells #[.slice fa S.files.length fc, .slice na S.now.length nc, .slice sa sn sc, .slice aa an ac, .int .i64 room, .int .i64 steps, .int .i64 limit] 36) = W at *
  have c0 : W.cell? ⟨w.heap.size, 0, none⟩ = some (.slice fa S.files.length fc) := by rw [cell_of hb]; rfl
  have c1 : W.cell? ⟨w.heap.size, 1, none⟩ = some (.slice na S.now.length nc) := by rw [cell_of hb]; rfl
  clear hW hb hf hn hs1 hs2 hidx
  go_loopw [3, 4] (fun av iv wx => ∃ j acc q : Nat, j ≤ S.now.length ∧ iv = .int .i64 j ∧ av = .int .i64 acc ∧ Hid (acc + sumD S j = VfsS.used S) ∧ wx = W.drewN q) (fun _ iv _ => (S.now.length - intOf iv).toNat)
  case atStart => exact ⟨0, 0, 0, Nat.zero_le _, rfl, rfl, by show _ = _; rw [HU.out, Nat.zero_add], rfl⟩
  case round =>
    obtain ⟨j, acc, q, hj, rfl, rfl, HA, rfl⟩ := hrel
    by_cases hjl : j < S.now.length
    · have hd : decide ((j : Int) < (S.now.length : Int)) = true := decide_eq_true (by omega)
      have hfi := HIX.out j hjl
      have HS := Lib.hid (sumD_step S j hjl)
      obtain ⟨nb, no, rfl, -, nce⟩ := t2.at (k := j * 2) (by rw [nrow_len]; omega)
      obtain ⟨fb, fo, rfl, -, fce⟩ := t1.at (k := S.now[j].2 * 2) (by rw [flrow_len]; omega)
      obtain ⟨r0, r1⟩ := nrow_at S.now j hjl
      obtain ⟨u0, u1⟩ := flrow_at S.files S.now[j].2 hfi
      have q1 : W.cell? ⟨nb, no + j * 2 + 1, none⟩ = some (.int .i64 (S.now[j].2 : Int)) := by
        obtain ⟨hi, e⟩ := List.getElem?_eq_some_iff.1 r1
        rw [Nat.add_assoc, nce _ hi, e]
      have q2 : W.cell? ⟨fb, fo + S.now[j].2 * 2, none⟩ = some (.string S.files[S.now[j].2].text) := by
        obtain ⟨hi, e⟩ := List.getElem?_eq_some_iff.1 u0
        rw [fce _ hi, e]
      have efl : (VfsS.fl S S.now[j].2).text.size = S.files[S.now[j].2].text.size := by
        unfold VfsS.fl; rw [List.getD_eq_getElem?_getD, List.getElem?_eq_getElem hfi]; rfl
      rw [efl] at HS
      clear r0 r1 u0 u1 nce fce efl
      generalize S.files[S.now[j].2].text = tx at *
      generalize S.now[j].2 = fi at *
      have HN : Hid ((acc + tx.size) + sumD S (j + 1) = VfsS.used S) := by show _ = _; rw [← HA.out, HS.out]; omega
      have hle : acc + tx.size ≤ 100000000 * 4194304 := by have := HN.out; have := HUL.out; omega
      have hw1 : IntKind.i64.wrap ((acc : Int) + (tx.size : Int)) = (acc : Int) + (tx.size : Int) := IntWalk.i64_in _ (by omega)
      have hw2 : IntKind.i64.wrap ((j : Int) + 1) = (j : Int) + 1 := IntWalk.i64_in _ (by omega)
      have b1 : (0 : Int) ≤ (fi : Int) := by omega
      have b2 : (fi : Int) < S.files.length := by omega
      have b3 : (0 : Int) ≤ (j : Int) := by omega
      have b4 : (j : Int) < S.now.length := by omega
      clear HS HA
      go_wp2_with fail
      go_quiet (fail)
      go_wp2_with fail
      go_roundw
      case rel => exact ⟨j + 1, acc + tx.size, _, by omega, by first | rfl | go_num, by first | rfl | go_num, HN, rfl⟩
      case measure => simp [intOf]; omega
    · have hd : decide ((j : Int) < (S.now.length : Int)) = false := decide_eq_false (by omega)
      have HE : Hid (acc = VfsS.used S) := by show _ = _; rw [← HA.out]; unfold sumD; rw [List.drop_eq_nil_of_le (by omega)]; rfl
      go_wp2_with fail
      go_ret
      exact ⟨ret_i64 (by rw [HE.out]), below_dN hb0 q⟩
end Go.Proofs.YtfoamcobpfflbaaDoor
namespace Go.Proofs.YtfoamcobpfflbaaDoor
open Go Go.RowKit
open VfsS (File Chg Nm St find doL)

/-- A cell of an owned row is stored. -/
theorem OwnG.set1 {w : World} {e : TypeId} {size : Nat} {g o n c : Nat} {xs : List Value} (h : OwnG w e size (.slice (some ⟨g, o, none⟩) n c) n xs) (j : Nat) (hj : j < xs.length) (u : Value) :
    OwnG (w.setCell ⟨g, o + j, none⟩ u) e size (.slice (some ⟨g, o, none⟩) n c) n (xs.set j u) := by
  refine ⟨by rw [List.length_set]; exact h.1, ?_⟩
  have hxl := h.1
  rcases h.2 with ⟨e1, _⟩ | ⟨g', o', cap, cur, e1, hg, hn, hc, hs, ht⟩
  · cases e1
  · injection e1 with e1 _ e3
    injection e1 with e1
    injection e1 with e4 e5 _
    subst e3 e4 e5
    obtain ⟨s1, _⟩ := set_block hg (o + j) u
    refine .inr ⟨g, o, c, cur.setIfInBounds (o + j) u, rfl, s1, hn, hc, by simpa using hs, fun i x hx => ?_⟩
    rw [List.getElem?_set] at hx
    rw [Array.getElem?_setIfInBounds]
    by_cases e : j = i
    · subst e
      rw [if_pos rfl, if_pos hj] at hx
      have hlt : o + j < cur.size := by
        have : n * size ≤ c * size := Nat.mul_le_mul_right _ hn
        omega
      rw [if_pos rfl, if_pos hlt]; exact hx
    · rw [if_neg e] at hx
      rw [if_neg (by omega)]
      exact ht i x hx

/-- An element of two cells is stored. -/
theorem own_put2 {w : World} {e : TypeId} {g o n c : Nat} {xs : List Value} (h : OwnG w e 2 (.slice (some ⟨g, o, none⟩) n c) n xs) (i : Nat) (hi : i < n) (x y : Value) :
    ∃ u0 u1, w.cell? ⟨g, o + i * 2, none⟩ = some u0 ∧ w.frozen? ⟨g, o + i * 2, none⟩ = false ∧ (w.setCell ⟨g, o + i * 2, none⟩ x).cell? ⟨g, o + i * 2 + 1, none⟩ = some u1 ∧ (w.setCell ⟨g, o + i * 2, none⟩ x).frozen? ⟨g, o + i * 2 + 1, none⟩ = false ∧
      OwnG ((w.setCell ⟨g, o + i * 2, none⟩ x).setCell ⟨g, o + i * 2 + 1, none⟩ y) e 2 (.slice (some ⟨g, o, none⟩) n c) n ((xs.set (i * 2) x).set (i * 2 + 1) y) ∧ w.grownBy ((w.setCell ⟨g, o + i * 2, none⟩ x).setCell ⟨g, o + i * 2 + 1, none⟩ y) (some g) := by
  have hl := h.1
  have cellAt : ∀ {w' : World} {ys : List Value}, OwnG w' e 2 (.slice (some ⟨g, o, none⟩) n c) n ys → ∀ j, j < ys.length → (∃ u, w'.cell? ⟨g, o + j, none⟩ = some u) ∧ w'.frozen? ⟨g, o + j, none⟩ = false ∧ ∀ v, w'.grownBy (w'.setCell ⟨g, o + j, none⟩ v) (some g) := by
    intro w' ys h' j hj
    obtain ⟨cur, hc⟩ := h'.tag (k := g) rfl
    obtain ⟨a, c', e1, -, -, hs⟩ := h'.form
    injection e1 with e1
    subst e1
    refine ⟨?_, frozen_of hc _, fun v => (set_block hc _ v).2⟩
    rcases hs with hs | ⟨b, o', e2, _, hs⟩
    · subst hs; simp at hj
    · injection e2 with e2; injection e2 with e2 e3 _; subst e2 e3
      exact ⟨_, hs j _ (List.getElem?_eq_getElem hj)⟩
  obtain ⟨⟨u0, q0⟩, q1, q2⟩ := cellAt h (i * 2) (by omega)
  have h1 := h.set1 (i * 2) (by omega) x
  obtain ⟨⟨u1, p0⟩, p1, p2⟩ := cellAt h1 (i * 2 + 1) (by rw [List.length_set]; omega)
  rw [← Nat.add_assoc] at p0 p1
  have h2 := h1.set1 (i * 2 + 1) (by rw [List.length_set]; omega) y
  rw [← Nat.add_assoc] at h2
  have p3 := p2 y
  rw [← Nat.add_assoc] at p3
  exact ⟨u0, u1, q0, q1, p0, p1, h2, (q2 x).andThen p3 (fun j hj => .inr hj)⟩

theorem fileElem : Elem Tryd.prog 32 119 (.agg #[.string ByteArray.empty, .int .i64 0]) 2 24 := ⟨by kernel_rfl, by kernel_rfl⟩

theorem flrow_set (l : List File) (i : Nat) (f : File) (hi : i < l.length) : flrow (l.set i f) = ((flrow l).set (i * 2) (.string f.text)).set (i * 2 + 1) (.int .i64 (f.dur : Int)) := by
  have hl : (flrow (l.take i)).length = i * 2 := by rw [flrow_len, List.length_take]; congr 1; omega
  have h : flrow l = flrow (l.take i) ++ (.string l[i].text :: .int .i64 (l[i].dur : Int) :: flrow (l.drop (i + 1))) := by
    conv => lhs; rw [← List.take_append_drop i l, List.drop_eq_getElem_cons hi]
    rw [flrow_append]; rfl
  have h2 : flrow (l.set i f) = flrow (l.take i) ++ (.string f.text :: .int .i64 (f.dur : Int) :: flrow (l.drop (i + 1))) := by
    rw [List.set_eq_take_append_cons_drop, if_pos hi, flrow_append]; rfl
  rw [h, h2, List.set_append_right _ _ (by omega), hl, Nat.sub_self, List.set_append_right _ _ (by omega), hl, show i * 2 + 1 - i * 2 = 1 by omega]
  rfl

theorem alloc3 (w : World) (o1 o2 o3 : Obj) : (((w.alloc o1).alloc o2).alloc o3).heap[w.heap.size]? = some o1 ∧ (((w.alloc o1).alloc o2).alloc o3).heap[w.heap.size + 1]? = some o2 ∧ (((w.alloc o1).alloc o2).alloc o3).heap[w.heap.size + 1 + 1]? = some o3 ∧
    Below w.heap.size w (((w.alloc o1).alloc o2).alloc o3) ∧ (((w.alloc o1).alloc o2).alloc o3).heap.size = w.heap.size + 1 + 1 + 1 := by
  have s1 : (w.alloc o1).heap.size = w.heap.size + 1 := by simp
  have s2 : ((w.alloc o1).alloc o2).heap.size = w.heap.size + 1 + 1 := by simp
  have g1 : (w.alloc o1).heap[w.heap.size]? = some o1 := Array.getElem?_push_size
  have g2 : ((w.alloc o1).alloc o2).heap[w.heap.size + 1]? = some o2 := by rw [← s1]; exact Array.getElem?_push_size
  have g3 : (((w.alloc o1).alloc o2).alloc o3).heap[w.heap.size + 1 + 1]? = some o3 := by rw [← s2]; exact Array.getElem?_push_size
  have b1 : Below w.heap.size w (w.alloc o1) := (Below.refl _ w).alloc (Nat.le_refl _) _
  have b2 : Below (w.alloc o1).heap.size (w.alloc o1) ((w.alloc o1).alloc o2) := (Below.refl _ _).alloc (Nat.le_refl _) _
  have b3 : Below ((w.alloc o1).alloc o2).heap.size ((w.alloc o1).alloc o2) (((w.alloc o1).alloc o2).alloc o3) := (Below.refl _ _).alloc (Nat.le_refl _) _
  exact ⟨((b3.block _ (by omega)).trans (b2.block _ (by omega))).trans g1, (b3.block _ (by omega)).trans g2, g3, (b1.trans (b2.mono (by omega))).trans (b3.mono (by omega)), by simp⟩

theorem own_at {w : World} {e : TypeId} {size : Nat} {v : Value} {n : Nat} {xs : List Value} (h : OwnG w e size v n xs) (hn : 0 < n) : ∃ g o c, v = .slice (some ⟨g, o, none⟩) n c ∧ g < w.heap.size := by
  rcases h.2 with ⟨_, e⟩ | ⟨g, o, cap, cur, rfl, hg, _⟩
  · omega
  · exact ⟨g, o, cap, rfl, (Array.getElem?_eq_some_iff.1 hg).1⟩

set_option maxRecDepth 100000 in
set_option maxHeartbeats 1000000 in
theorem rput_c {w : World} {S : St} {fa na sa aa : Option Addr} {fc nn nc sn sc an ac : Nat} (hf : OwnG w 119 2 (.slice fa S.files.length fc) S.files.length (flrow S.files)) (hfl : S.files.length ≤ 100000000) (room steps limit : Int) (i : Nat) (hi : i < S.files.length) (f : File) :
    Calls Tryd.prog 68 #[RVv fa S.files.length fc na nn nc sa sn sc aa an ac room steps limit, .int .i64 (i : Int), .agg #[.string f.text, .int .i64 (f.dur : Int)]] w fun e w' =>
      ∃ ga gc, e = .returned (RVv ga S.files.length gc na nn nc sa sn sc aa an ac room steps limit) ∧ OwnG w' 119 2 (.slice ga S.files.length gc) S.files.length (flrow (S.files.set i f)) ∧ (∀ k, (Value.slice ga S.files.length gc).ownBlock = some k → w.heap.size ≤ k) ∧ Below w.heap.size w w' := by
  obtain ⟨ft, fd⟩ := f
  have HSET := Lib.hid (flrow_set S.files i ⟨ft, fd⟩ hi)
  have hlen := flrow_len S.files
  generalize S.files.length = n at *
  have hmx : 0 + n ≤ maxLen := by rw [show maxLen = 9223372036854775807 from rfl]; omega
  have hby : (0 + n) * 24 ≤ 140737488355328 := by omega
  have b1 : (0 : Int) ≤ (i : Int) := by omega
  have b2 : (i : Int) < n := by omega
  unfold RVv
  go_enter Tryd.func68, Tryd.ntmps68
  go_upto_region 1 with fail
  obtain ⟨hB1, hB2, hB3, hbW, hsz⟩ := alloc3 w (.cells #[.slice fa n fc, .slice na nn nc, .slice sa sn sc, .slice aa an ac, .int .i64 room, .int .i64 steps, .int .i64 limit] 36) (.cells #[.string ft, .int .i64 (fd : Int)] 119) (.cells #[.slice none 0 0, .slice none 0 0, .slice none 0 0, .slice none 0 0, .int .i64 0, .int .i64 0, .int .i64 0] 36)
  generalize hW : ((w.alloc (.cells #[.slice fa n fc, .slice na nn nc, .slice sa sn sc, .slice aa an ac, .int .i64 room, .int .i64 steps, .int .i64 limit] 36)).alloc (.cells #[.string ft, .int .i64 (fd : Int)] 119)).alloc (.cells #[.slice none 0 0, .slice none 0 0, .slice none 0 0, .slice none 0 0, .int .i64 0, .int .i64 0, .int .i64 0] 36) = W at *
  clear hW
  have HSZ := Lib.hid hsz
  clear hsz
  have c0 : W.cell? ⟨w.heap.size, 0, none⟩ = some (.slice fa n fc) := by rw [cell_of hB1]; rfl
  have hbA : Below W.heap.size W (W.alloc (.cells #[] 119)) := (Below.refl _ W).alloc (Nat.le_refl _) _
  have l1 := (Array.getElem?_eq_some_iff.1 hB1).1
  have l2 := (Array.getElem?_eq_some_iff.1 hB2).1
  have l3 := (Array.getElem?_eq_some_iff.1 hB3).1
  have c0' : (W.alloc (.cells #[] 119)).cell? ⟨w.heap.size, 0, none⟩ = some (.slice fa n fc) := by rw [cell_of ((hbA.block _ l1).trans hB1)]; rfl
  have hs1 := src_ownG (P := Tryd.prog) (tx := 32) Tryd.underlying32 ((hf.below hbW).alloc (.cells #[] 119)) (one_files _)
  go_upto_region 3 with (at_builtin; refine wp_appG rfl _ _ _ _ rfl fileElem rfl rfl (OwnG.empty _ _ _) rfl hs1 hmx hby ?_; intro v3 w3 ho3 hg3 hv3; have hh : ∀ k o, W.heap[k]? = some o → w3.heap[k]? = some o := (fun k o h => by have hk := (Array.getElem?_eq_some_iff.1 h).1; exact (hg3.block k (by simp; omega) (fun e => by have e : some k = some W.heap.size := e; injection e with e; omega)).trans ((hbA.block k hk).trans h)); have D1 := hh _ _ hB1; have D2 := hh _ _ hB2; have D3 := hh _ _ hB3; have f0 : w3.cell? ⟨w.heap.size + 1, 0, none⟩ = some (.string ft) := (by rw [cell_of D2]; rfl); have f1 : w3.cell? ⟨w.heap.size + 1, 1, none⟩ = some (.int .i64 (fd : Int)) := (by rw [cell_of D2]; rfl); obtain ⟨g3, o3, c3, rfl, hgl⟩ := own_at ho3 (by omega); obtain ⟨x0, x1, m0, m1, m2, m3, ho4, hg4⟩ := own_put2 (n := n) (by simpa using ho3) i (by omega) (.string ft) (.int .i64 (fd : Int)))
  have hg3b : W.heap.size ≤ g3 := by
    rcases hv3 g3 rfl with e | e
    · have e : some W.heap.size = some g3 := e
      injection e with e; omega
    · simp at e; omega
  have kb : ∀ k o, W.heap[k]? = some o → ((w3.setCell ⟨g3, o3 + i * 2, none⟩ (.string ft)).setCell ⟨g3, o3 + i * 2 + 1, none⟩ (.int .i64 (fd : Int))).heap[k]? = some o := fun k o h => by
    have hk := (Array.getElem?_eq_some_iff.1 h).1
    exact (hg4.block k (Array.getElem?_eq_some_iff.1 (hh _ _ h)).1 (by intro e; injection e with e; omega)).trans (hh _ _ h)
  have B1 := kb _ _ hB1
  have B3 := kb _ _ hB3
  have hbW3 : Below w.heap.size w ((w3.setCell ⟨g3, o3 + i * 2, none⟩ (.string ft)).setCell ⟨g3, o3 + i * 2 + 1, none⟩ (.int .i64 (fd : Int))) :=
    ((hbW.trans (hbA.mono hbW.size)).grown hg3 (by have := hbW.size; simp; omega) (fun k e => by have e : some W.heap.size = some k := e; injection e with e; have := hbW.size; omega)).grown hg4 (by have := hg3.size; have := hbW.size; simp at *; omega) (fun k e => by injection e with e; have := hbW.size; omega)
  generalize (w3.setCell ⟨g3, o3 + i * 2, none⟩ (.string ft)).setCell ⟨g3, o3 + i * 2 + 1, none⟩ (.int .i64 (fd : Int)) = w4 at *
  have a0 : w4.cell? ⟨w.heap.size, 0, none⟩ = some (.slice fa n fc) := by rw [cell_of B1]; rfl
  have z0 := frozen_of B1 0
  obtain ⟨s5, g5⟩ := set_block B1 0 (.slice (some ⟨g3, o3, none⟩) n c3)
  have B5 := (g5.block _ (Array.getElem?_eq_some_iff.1 B3).1 (by intro e; injection e with e; omega)).trans B3
  have s5' : (w4.setCell ⟨w.heap.size, 0, none⟩ (.slice (some ⟨g3, o3, none⟩) n c3)).heap[w.heap.size]? = some (.cells #[Value.slice (some ⟨g3, o3, none⟩) n c3, .slice na nn nc, .slice sa sn sc, .slice aa an ac, .int .i64 room, .int .i64 steps, .int .i64 limit] 36 (0, 0)) := by simpa using s5
  have hone : (#[Value.slice (some ⟨g3, o3, none⟩) n c3, .slice na nn nc, .slice sa sn sc, .slice aa an ac, .int .i64 room, .int .i64 steps, .int .i64 limit] : Array Value).all (·.oneCell') = true := by simp [Value.oneCell']
  go_wp2_with (first
    | (refine wp_loadB rfl 36 _ rfl w.heap.size rfl s5' _ Tryd.underlying36 rfl (by kernel_rfl) ?_)
    | (refine wp_storeB rfl 36 _ _ rfl (w.heap.size + 1 + 1) #[Value.slice (some ⟨g3, o3, none⟩) n c3, .slice na nn nc, .slice sa sn sc, .slice aa an ac, .int .i64 room, .int .i64 steps, .int .i64 limit] rfl rfl B5 rfl (by kernel_rfl) hone ?_; intro w6 h6 g6; have r0 : w6.cell? ⟨w.heap.size + 1 + 1, 0, none⟩ = some (Value.slice (some ⟨g3, o3, none⟩) n c3) := (by rw [cell_of h6]; rfl); have r1 : w6.cell? ⟨w.heap.size + 1 + 1, 1, none⟩ = some (.slice na nn nc) := (by rw [cell_of h6]; rfl); have r2 : w6.cell? ⟨w.heap.size + 1 + 1, 2, none⟩ = some (.slice sa sn sc) := (by rw [cell_of h6]; rfl); have r3 : w6.cell? ⟨w.heap.size + 1 + 1, 3, none⟩ = some (.slice aa an ac) := (by rw [cell_of h6]; rfl); have r4 : w6.cell? ⟨w.heap.size + 1 + 1, 4, none⟩ = some (.int .i64 room) := (by rw [cell_of h6]; rfl); have r5 : w6.cell? ⟨w.heap.size + 1 + 1, 5, none⟩ = some (.int .i64 steps) := (by rw [cell_of h6]; rfl); have r6 : w6.cell? ⟨w.heap.size + 1 + 1, 6, none⟩ = some (.int .i64 limit) := (by rw [cell_of h6]; rfl)))
  (try simp only [Exit.inBlock, Exit.then])
  refine bodyPost_ret (by simp [results, Tryd.results68, go_sem, r0, r1, r2, r3, r4, r5, r6]; try rfl) rfl ?_
  have hb6 := (hbW3.grown g5 (by have := hbW3.size; omega) (fun k e => by injection e with e; omega)).grown g6 (by have := hbW3.size; have := g5.size; omega) (fun k e => by injection e with e; omega)
  refine ⟨some ⟨g3, o3, none⟩, c3, rfl, ?_, fun k hk => ?_, hb6⟩
  · rw [HSET.out]
    exact (ho4.kept g5 (.inr (fun e => by have e : some g3 = some w.heap.size := e; injection e with e; omega))).kept g6 (.inr (fun e => by have e : some g3 = some (w.heap.size + 1 + 1) := e; injection e with e; omega))
  · have e : some g3 = some k := hk
    injection e with e; have := hbW.size; omega
end Go.Proofs.YtfoamcobpfflbaaDoor
