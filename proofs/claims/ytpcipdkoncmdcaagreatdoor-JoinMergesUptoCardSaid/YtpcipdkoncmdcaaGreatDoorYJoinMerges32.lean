/- Texts of mine, joined: Walk of the document's weaving: Merge. -/
import Derived.Test.YtpcipdkoncmdcaaGreatDoorYJoinMerges31
namespace Go.Proofs.YtpcipdkoncmdcaaGreatDoor
open Go Go.RowKit
open JoinS (sl allF Ge tl)
/-- Lines cut out of lines. -/
theorem tl_cut {w : World} {a : Option Addr} {c : Nat} {l : List ByteArray} (h : Tl w (.slice a l.length c) l) {i n : Nat} (hi : i ≤ n) (hn : n ≤ l.length) :
    ∃ A C, Tl w (.slice A (sl l i n).length C) (sl l i n) ∧ ∀ W, (Instr.slice 82 (.slice a l.length c) (some (.int .i64 i)) (some (.int .i64 n)) none).run Tryz.prog W = .ok (.slice A (sl l i n).length C) W := by
  obtain ⟨a', c', e, h1, h2, h3, hs⟩ := h
  injection e with e1 _ e2
  subst e1 e2
  have hlen : (sl l i n).length = n - i := by unfold sl; rw [List.length_take, List.length_drop]; omega
  have i0 : (0 : Int) ≤ (i : Int) := by omega
  have i1 : (i : Int) ≤ (n : Int) := by omega
  have i2 : (n : Int) ≤ (c : Int) := by omega
  by_cases hc : c = i
  · refine ⟨a, 0, ⟨a, 0, rfl, by rw [hlen]; omega, Nat.zero_le _, fun _ => rfl, ?_⟩, fun W => ?_⟩
    · have h0 : sl l i n = [] := List.eq_nil_of_length_eq_zero (by rw [hlen]; omega)
      rw [h0]; exact .inl rfl
    · rw [run_slice_lh W _ _ _ _ strs_elem _ _ _ _ i0 i1 i2, strs_one, hlen]
      simp [Result.andThen, sliced, hc]
  · refine ⟨a.map (·.add i), c - i, ⟨_, _, rfl, by rw [hlen]; omega, by omega, fun h => ?_, ?_⟩, fun W => ?_⟩
    · cases a with
      | none => have := h3 rfl; omega
      | some ad => cases h
    · rcases hs with e | ⟨g, o, rfl, hg, hc⟩
      · have h0 : l = [] := by unfold lrow at e; exact List.map_eq_nil_iff.1 e
        left; rw [h0]; unfold sl; simp [lrow]
      · refine .inr ⟨g, o + i, ?_, hg, fun k u hu => ?_⟩
        · rw [Option.map_some, Addr.add_lit]
        · rw [Nat.add_assoc]
          refine hc (i + k) u ?_
          unfold lrow sl at hu
          rw [List.getElem?_map, List.getElem?_take] at hu
          split at hu
          · rw [List.getElem?_drop] at hu
            unfold lrow; rw [List.getElem?_map]; exact hu
          · cases hu
    · rw [run_slice_lh W _ _ _ _ strs_elem _ _ _ _ i0 i1 i2, strs_one, hlen]
      simp [Result.andThen, sliced, hc]
      try omega
theorem exec_cut {P : Program} {ev : Operand → Value} {o : Oper} {t : TypeId} (hu : P.underlying t = some (.slice (P.elem t))) (x lo hi : Operand) (ho : o.op = .slice t x (some lo) (some hi) none) {u a b : Value} (hx : ev x = u) (hl : ev lo = a) (hh : ev hi = b) {v : Value} (hr : ∀ w, (Instr.slice t u (some a) (some b) none).run P w = .ok v w) : ∀ w, (execOp ev o).run P w = .ok (.value v) w := by
  intro w
  unfold execOp
  simp only [ho, hx, hl, hh, Option.map_some, Option.map_none, Sem.run_bind, run_sliceAt_slice w t u (some a) (some b) none hu, hr, Result.andThen_ok, Sem.run_pure]
/-- A part whose kind isn't told yet. -/
def p0C (y : PtV) : List Value := [.int .i64 0, y.b, y.o, y.t]
def p0R (l : List PtV) : List Value := l.flatMap p0C
theorem p0R_app (l : List PtV) (y : PtV) : p0R (l ++ [y]) = p0R l ++ p0C y := by simp [p0R]
theorem rpart_info : (Tryz.prog.info? 159).map (·.size) = some 4 := by kernel_rfl
theorem rpart_zero : ((Tryz.prog.info? 159).bind (·.zero)).isSome = true := by kernel_rfl
theorem rpartElem : Elem Tryz.prog 124 159 (.agg #[.int .i64 0, .slice none 0 0, .slice none 0 0, .slice none 0 0]) 4 80 := ⟨by kernel_rfl, by kernel_rfl⟩
theorem rb_rpart (a1 : Option Addr) (n1 c1 : Nat) (a2 : Option Addr) (n2 c2 : Nat) (a3 : Option Addr) (n3 c3 : Nat) (w : World) : (Instr.build 159 #[(1, .slice a1 n1 c1), (2, .slice a2 n2 c2), (3, .slice a3 n3 c3)]).run Tryz.prog w = .ok (.agg #[.int .i64 0, .slice a1 n1 c1, .slice a2 n2 c2, .slice a3 n3 c3]) w := by kernel_rfl
theorem rb_rparts (v1 v2 v3 : Value) (w : World) : (Instr.buildSlice 124 1 #[(0, .agg #[.int .i64 0, v1, v2, v3])]).run Tryz.prog w = .ok (.slice (some ⟨w.heap.size, 0, none⟩) 1 1) (w.alloc (.cells #[.int .i64 0, v1, v2, v3] 159)) :=
  run_build1 Tryz.underlying124 rpart_info rpart_zero (by decide) (by decide) rfl w

/-- The parts so far and what is left of the lists. -/
structure Al (w : World) (b o t : List ByteArray) (A B : List (Nat × Nat)) (n i j k : Nat) (X : List PtV) : Prop where
  eq : (if n ≤ b.length then X.map (·.p) ++ allF b o t A B (b.length - n) n i j k else X.map (·.p)) = allF b o t A B b.length 0 0 0 0
  rd : ∀ y ∈ X, Tl w y.b y.p.b ∧ Tl w y.o y.p.o ∧ Tl w y.t y.p.t
  hi : i ≤ n
  hj : n ≤ b.length → j ≤ o.length
  hk : n ≤ b.length → k ≤ t.length
  gj : n ≤ b.length → Ge j (tl n A)
  gk : n ≤ b.length → Ge k (tl n B)
  len : X.length ≤ 2 * n
theorem Al.start (w : World) (b o t : List ByteArray) (A B : List (Nat × Nat)) : Al w b o t A B 0 0 0 0 [] where
  eq := by rw [if_pos (Nat.zero_le _)]; rfl
  rd := fun y hy => nomatch hy
  hi := Nat.le_refl _
  hj := fun _ => Nat.zero_le _
  hk := fun _ => Nat.zero_le _
  gj := fun _ p r _ => Nat.zero_le _
  gk := fun _ p r _ => Nat.zero_le _
  len := Nat.le_refl _
section
variable {w : World} {b o t : List ByteArray} {A B : List (Nat × Nat)} {n i j k y z : Nat} {X : List PtV}
theorem Al.open (h : Al w b o t A B n i j k X) (hn : n < b.length) : X.map (·.p) ++ (if placeP n A < 0 ∨ placeP n B < 0 then allF b o t A B (b.length - (n + 1)) (n + 1) i j k else
    ⟨sl b i n, sl o j (placeP n A).toNat, sl t k (placeP n B).toNat⟩ :: ⟨sl b n (n + 1), sl o (placeP n A).toNat ((placeP n A).toNat + 1), sl t (placeP n B).toNat ((placeP n B).toNat + 1)⟩ ::
      allF b o t A B (b.length - (n + 1)) (n + 1) (n + 1) ((placeP n A).toNat + 1) ((placeP n B).toNat + 1)) = allF b o t A B b.length 0 0 0 0 := by
  have he := h.eq
  rw [if_pos (by omega), show b.length - n = (b.length - (n + 1)) + 1 by omega, JoinS.allF] at he
  exact he
theorem Al.skip (h : Al w b o t A B n i j k X) (hn : n < b.length) (hp : placeP n A < 0 ∨ placeP n B < 0) (gj : Ge j (tl (n + 1) A)) (gk : Ge k (tl (n + 1) B)) : Al w b o t A B (n + 1) i j k X where
  eq := by
    have he := h.open hn
    rw [if_pos hp] at he
    rw [if_pos (by omega)]; exact he
  rd := h.rd
  hi := Nat.le_succ_of_le h.hi
  hj := fun _ => h.hj (by omega)
  hk := fun _ => h.hk (by omega)
  gj := fun _ => gj
  gk := fun _ => gk
  len := by have := h.len; omega
theorem Al.both (h : Al w b o t A B n i j k X) (hn : n < b.length) (ha : placeP n A = (y : Int)) (hb : placeP n B = (z : Int)) (hy : y < o.length) (hz : z < t.length) (gj : Ge (y + 1) (tl (n + 1) A)) (gk : Ge (z + 1) (tl (n + 1) B)) {u1 u2 : PtV}
    (e1 : u1.p = ⟨sl b i n, sl o j y, sl t k z⟩) (e2 : u2.p = ⟨sl b n (n + 1), sl o y (y + 1), sl t z (z + 1)⟩) (r1 : Tl w u1.b u1.p.b ∧ Tl w u1.o u1.p.o ∧ Tl w u1.t u1.p.t) (r2 : Tl w u2.b u2.p.b ∧ Tl w u2.o u2.p.o ∧ Tl w u2.t u2.p.t) : Al w b o t A B (n + 1) (n + 1) (y + 1) (z + 1) ((X ++ [u1]) ++ [u2]) where
  eq := by
    have he := h.open hn
    rw [ha, hb, if_neg (by omega), Int.toNat_natCast, Int.toNat_natCast] at he
    rw [if_pos (by omega), ← he, List.map_append, List.map_append, List.append_assoc, List.append_assoc]
    show X.map (·.p) ++ (u1.p :: (u2.p :: _)) = _
    rw [e1, e2]; rfl
  rd := fun v hv => by
    rcases List.mem_append.1 hv with hv | hv
    · rcases List.mem_append.1 hv with hv | hv
      · exact h.rd v hv
      · rw [List.mem_singleton.1 hv]; exact r1
    · rw [List.mem_singleton.1 hv]; exact r2
  hi := Nat.le_refl _
  hj := fun _ => hy
  hk := fun _ => hz
  gj := fun _ => gj
  gk := fun _ => gk
  len := by have := h.len; simp; omega
end
/-- Cells of a row turned. -/
theorem OwnG.put {w : World} {e : TypeId} {size g o n c : Nat} {A B B' C : List Value} (h : OwnG w e size (.slice (some ⟨g, o, none⟩) n c) n (A ++ (B ++ C))) (hl : B'.length = B.length) :
    OwnG (w.setCells g (o + A.length) B') e size (.slice (some ⟨g, o, none⟩) n c) n (A ++ (B' ++ C)) ∧ w.there g (o + A.length) B.length := by
  have hxl := h.1
  rcases h.2 with ⟨e1, _⟩ | ⟨g', o', cap, cur, e1, hg, hn, hc, hs, ht⟩
  · cases e1
  · injection e1 with e1 _ e3
    injection e1 with e1
    injection e1 with e4 e5 _
    subst e3 e4 e5
    have hfit : n * size ≤ c * size := Nat.mul_le_mul_right _ hn
    simp only [List.length_append] at hxl
    obtain ⟨cur', c1, c2, c3⟩ := setCells_block g B' (o + A.length) w cur e (0, 0) hg (by omega)
    refine ⟨⟨by simp only [List.length_append]; omega, .inr ⟨g, o, c, cur', rfl, c1, hn, hc, by omega, fun j u hu => ?_⟩⟩, fun j hj => ⟨?_, ?_⟩⟩
    · rw [c3]
      by_cases h1 : A.length ≤ j ∧ j < A.length + B'.length
      · rw [if_pos (by omega)]
        rw [List.getElem?_append_right (by omega), List.getElem?_append_left (by omega)] at hu
        rw [show o + j - (o + A.length) = j - A.length by omega]; exact hu
      · rw [if_neg (by omega)]
        refine ht j u ?_
        by_cases h2 : j < A.length
        · rw [List.getElem?_append_left h2] at hu ⊢; exact hu
        · rw [List.getElem?_append_right (by omega), List.getElem?_append_right (by omega)] at hu
          rw [List.getElem?_append_right (by omega), List.getElem?_append_right (by omega), ← hl]; exact hu
    · have hlt : A.length + j < (A ++ (B ++ C)).length := by simp only [List.length_append]; omega
      have hu := ht _ _ (List.getElem?_eq_getElem hlt)
      rw [← Nat.add_assoc] at hu
      simp [World.cell?, hg, hu]
    · simp [World.frozen?, hg]
/-- The parts put together, in a row made since w0; their texts lie elsewhere. -/
structure Ot2 (w0 w : World) (ov : Value) (Y : List PtV) : Prop where
  row : OwnG w 159 4 ov Y.length (pvR Y)
  own : ∀ g, ov.ownBlock = some g → w0.heap.size ≤ g
  rd : ∀ y ∈ Y, Tn w (fun g => ov.ownBlock ≠ some g) y.b y.p.b ∧ Tn w (fun g => ov.ownBlock ≠ some g) y.o y.p.o ∧ Tn w (fun g => ov.ownBlock ≠ some g) y.t y.p.t
  below : Below w0.heap.size w0 w
section
variable {w0 w w' : World} {ov v' : Value} {Y : List PtV} {x : PtV}
theorem Ot2.step (h : Ot2 w0 w ov Y) (hb : Below w.heap.size w w') : Ot2 w0 w' ov Y :=
  ⟨h.row.below hb, h.own, fun y hy => by
    have k : ∀ g, ov.ownBlock ≠ some g → g < w.heap.size → w'.heap[g]? = w.heap[g]? ∧ ov.ownBlock ≠ some g := fun g hF hl => ⟨hb.block g hl, hF⟩
    obtain ⟨h1, h2, h3⟩ := h.rd y hy
    exact ⟨h1.keep hb.size k, h2.keep hb.size k, h3.keep hb.size k⟩, h.below.trans (hb.mono h.below.size)⟩
theorem Ot2.app (h : Ot2 w0 w ov Y) (hg : w.grownBy w' ov.ownBlock) (ho : OwnG w' 159 4 v' (Y.length + 1) (pvR Y ++ pvC x)) (hv : ∀ g, v'.ownBlock = some g → ov.ownBlock = some g ∨ w.heap.size ≤ g)
    (hx : Tn w (fun g => ov.ownBlock ≠ some g) x.b x.p.b ∧ Tn w (fun g => ov.ownBlock ≠ some g) x.o x.p.o ∧ Tn w (fun g => ov.ownBlock ≠ some g) x.t x.p.t) : Ot2 w0 w' v' (Y ++ [x]) := by
  have k : ∀ g, ov.ownBlock ≠ some g → g < w.heap.size → w'.heap[g]? = w.heap[g]? ∧ v'.ownBlock ≠ some g := fun g hF hl => ⟨hg.block g hl (fun e => hF e.symm), fun e => (hv g e).elim hF (fun h => by omega)⟩
  refine ⟨?_, fun g hg' => (hv g hg').elim (h.own g) (fun hl => Nat.le_trans h.below.size hl), fun y hy => ?_, h.below.grown hg h.below.size (fun g hg' => h.own g hg')⟩
  · have e : pvR (Y ++ [x]) = pvR Y ++ pvC x := by rw [pvR_app]; simp [pvR]
    rw [e, List.length_append]; exact ho
  · have h3 : Tn w (fun g => ov.ownBlock ≠ some g) y.b y.p.b ∧ Tn w (fun g => ov.ownBlock ≠ some g) y.o y.p.o ∧ Tn w (fun g => ov.ownBlock ≠ some g) y.t y.p.t := by
      rcases List.mem_append.1 hy with hy | hy
      · exact h.rd y hy
      · rw [List.mem_singleton.1 hy]; exact hx
    exact ⟨h3.1.keep hg.size k, h3.2.1.keep hg.size k, h3.2.2.keep hg.size k⟩
/-- What was there before lies elsewhere. -/
theorem Ot2.old {w1 : World} (h : Ot2 w0 w ov Y) (hw : Below w1.heap.size w1 w0) {v : Value} {l : List ByteArray} (ht : Tl w1 v l) : Tn w (fun g => ov.ownBlock ≠ some g) v l := by
  have hb := hw.trans (h.below.mono hw.size)
  exact ht.tn.keep hb.size (fun g hg hl => ⟨hb.block g hl, fun e => by have := h.own g e; have := hw.size; omega⟩)
/-- The last part is put anew. -/
theorem Ot2.put {g o c : Nat} {Y' : List PtV} {z : PtV} (h : Ot2 w0 w (.slice (some ⟨g, o, none⟩) (Y' ++ [z]).length c) (Y' ++ [z]))
    (hx : Tn w (fun b => Value.ownBlock (.slice (some ⟨g, o, none⟩) (Y' ++ [z]).length c) ≠ some b) x.b x.p.b ∧ Tn w (fun b => Value.ownBlock (.slice (some ⟨g, o, none⟩) (Y' ++ [z]).length c) ≠ some b) x.o x.p.o ∧ Tn w (fun b => Value.ownBlock (.slice (some ⟨g, o, none⟩) (Y' ++ [z]).length c) ≠ some b) x.t x.p.t) :
    Ot2 w0 (w.setCells g (o + Y'.length * 4) (pvC x)) (.slice (some ⟨g, o, none⟩) (Y' ++ [z]).length c) (Y' ++ [x]) ∧ w.there g (o + Y'.length * 4) 4 := by
  have e : ∀ y : PtV, pvR (Y' ++ [y]) = pvR Y' ++ (pvC y ++ []) := fun y => by rw [pvR_app]; simp [pvR]
  have hr := h.row
  rw [e] at hr
  obtain ⟨h1, h2⟩ := hr.put (B' := pvC x) rfl
  rw [pvR_len] at h1 h2
  refine ⟨⟨?_, h.own, fun y hy => ?_, h.below.grown (setCells_grown w g _ _) h.below.size (fun k hk => by cases hk; exact h.own g rfl)⟩, h2⟩
  · rw [e x, show (Y' ++ [x]).length = (Y' ++ [z]).length by simp]; exact h1
  · have hg := setCells_grown w g (o + Y'.length * 4) (pvC x)
    have k : ∀ b, Value.ownBlock (.slice (some ⟨g, o, none⟩) (Y' ++ [z]).length c) ≠ some b → b < w.heap.size → (w.setCells g (o + Y'.length * 4) (pvC x)).heap[b]? = w.heap[b]? ∧ Value.ownBlock (.slice (some ⟨g, o, none⟩) (Y' ++ [z]).length c) ≠ some b := fun b hF hl => ⟨hg.block b hl (fun e => hF e.symm), hF⟩
    have h3 : Tn w (fun b => Value.ownBlock (.slice (some ⟨g, o, none⟩) (Y' ++ [z]).length c) ≠ some b) y.b y.p.b ∧ Tn w (fun b => Value.ownBlock (.slice (some ⟨g, o, none⟩) (Y' ++ [z]).length c) ≠ some b) y.o y.p.o ∧ Tn w (fun b => Value.ownBlock (.slice (some ⟨g, o, none⟩) (Y' ++ [z]).length c) ≠ some b) y.t y.p.t := by
      rcases List.mem_append.1 hy with hy | hy
      · exact h.rd y (List.mem_append_left _ hy)
      · rw [List.mem_singleton.1 hy]; exact hx
    exact ⟨h3.1.keep hg.size k, h3.2.1.keep hg.size k, h3.2.2.keep hg.size k⟩
end
theorem p0R_get : ∀ (xs : List PtV) (k : Nat) (hk : k < xs.length) (j : Nat), j < 4 → (p0R xs)[k * 4 + j]? = (p0C xs[k])[j]?
  | x :: xs, 0, _, j, hj => by
    show (p0C x ++ p0R xs)[0 * 4 + j]? = _
    rw [Nat.zero_mul, Nat.zero_add, List.getElem?_append_left (by simp [p0C]; omega)]; rfl
  | x :: xs, k + 1, hk, j, hj => by
    show (p0C x ++ p0R xs)[(k + 1) * 4 + j]? = _
    have hl : (p0C x).length = 4 := rfl
    rw [List.getElem?_append_right (by rw [hl]; omega), hl, show (k + 1) * 4 + j - 4 = k * 4 + j by omega]
    exact p0R_get xs k (by simpa using hk) j hj
theorem join_take {l : List (JoinS.Pt ByteArray)} {q : Nat} (hq : q < l.length) : JoinS.joinAll [] (l.take (q + 1)) = JoinS.join (JoinS.joinAll [] (l.take q)) l[q] := by
  unfold JoinS.joinAll
  rw [List.take_add_one, List.getElem?_eq_getElem hq, List.foldl_append]; rfl
theorem wrap_sum {a b c : Nat} (h : a + b + c ≤ 3000) : wrap64 ((a : Int) + (b : Int) + (c : Int)) = ((a + b + c : Nat) : Int) := by
  unfold wrap64
  rw [Int.emod_eq_of_lt (by omega) (by omega)]
  omega
theorem part_small {b o t : List ByteArray} {x : JoinS.Pt ByteArray} (h : x ∈ JoinS.parts b o t) : x.b.length + x.o.length + x.t.length ≤ b.length + o.length + t.length := by
  have h1 := mem_total h
  unfold JoinS.parts at h1
  rw [JoinS.raw_total] at h1
  exact h1
theorem joined_small {b o t : List ByteArray} {q : Nat} {x : JoinS.Pt ByteArray} (h : x ∈ JoinS.joinAll [] ((JoinS.parts b o t).take q)) : x.b.length + x.o.length + x.t.length ≤ b.length + o.length + t.length := by
  have h1 := mem_total h
  rw [(JoinS.joinAll_total _ _).1] at h1
  have h2 := JoinS.total_app ((JoinS.parts b o t).take q) ((JoinS.parts b o t).drop q)
  rw [List.take_append_drop] at h2
  have h3 : JoinS.total (JoinS.parts b o t) = b.length + o.length + t.length := JoinS.raw_total _ _ _ _ _ _ _
  have h4 : JoinS.total ([] : List (JoinS.Pt ByteArray)) = 0 := rfl
  unfold JoinS.ptot at h1
  omega
set_option maxRecDepth 100000 in
set_option maxHeartbeats 8000000 in
theorem rmerge_c {w : World} {vb vo vt : Value} {b o t : List ByteArray} (hb : Tl w vb b) (ho : Tl w vo o) (ht : Tl w vt t) (lb : b.length ≤ 1000) (lo : o.length ≤ 1000) (lt : t.length ≤ 1000) :
    Calls Tryz.prog 62 #[vb, vo, vt] w fun e w' => ∃ pv xs, e = .returned (.tuple #[pv, .int .i64 0]) ∧ QR w' pv xs ∧ xs.map (·.p) = JoinS.joinAll [] (JoinS.parts b o t) ∧ Below w.heap.size w w' := by
  have HB := Lib.hid hb
  have HO := Lib.hid ho
  have HT := Lib.hid ht
  obtain ⟨ab, cb, rfl, -, -, -, sb⟩ := hb
  obtain ⟨ao, co, rfl, -, -, -, so⟩ := ho
  obtain ⟨at_, ct, rfl, -, -, -, st⟩ := ht
  have hm1 : b.length * o.length ≤ 1048576 := Nat.le_trans (Nat.mul_le_mul lb lo) (by decide)
  have hm2 : b.length * t.length ≤ 1048576 := Nat.le_trans (Nat.mul_le_mul lb lt) (by decide)
  have HP1 := Lib.hid (ref_pairs_c ab ao cb co b o w sb so (by omega) (by omega) hm1)
  have HP2 : Hid (∀ W, Below w.heap.size w W → _) := Lib.hid fun W (hW : Below w.heap.size w W) => ref_pairs_c ab at_ cb ct b t W (sb.below hW) (st.below hW) (by omega) (by omega) hm2
  clear sb so st hm1 hm2
  go_enter Tryz.func62, Tryz.ntmps62
  go_upto_region 4 with (go_at_call 94; refine HP1.out.mono ?_; rintro e w1 ⟨v1, rfl, ho1, hb1⟩)
  clear HP1
  have HB1 := Lib.hid hb1
  have HA1 := Lib.hid (OwnG.of_own ho1)
  clear ho1 hb1
  go_upto_region 7 with (go_at_call 94; refine (HP2.out _ HB1.out).mono ?_; rintro e w2 ⟨v2, rfl, ho2, hb2⟩)
  clear HP2
  have HB2 := Lib.hid (HB1.out.trans (hb2.mono HB1.out.size))
  obtain ⟨pa, pca, rfl, -, -, hsa⟩ := (HA1.out.below hb2).form
  obtain ⟨pb, pcb, rfl, -, -, hsb⟩ := (OwnG.of_own ho2).form
  have HSA := Lib.hid hsa
  have HSB := Lib.hid hsb
  clear ho2 hb2 hsa hsb HA1 HB1
  have hA := JoinS.P_inc 0 0 b o
  have hBB := JoinS.P_inc 0 0 b t
  rw [Nat.zero_add, Nat.zero_add] at hA hBB
  have hAll := JoinS.all_parts b o t
  have lA : (ScoreS.P 0 0 b o).length ≤ 100000000 := by rw [ScoreS.P_length]; have := ScoreS.L_le b o; omega
  have lB : (ScoreS.P 0 0 b t).length ≤ 100000000 := by rw [ScoreS.P_length]; have := ScoreS.L_le b t; omega
  generalize ScoreS.P 0 0 b o = A at *
  generalize ScoreS.P 0 0 b t = B at *
  have HIA := Lib.hid hA
  have HIB := Lib.hid hBB
  have HALL := Lib.hid hAll
  clear hA hBB hAll
  have HPL : Hid (∀ W, Below w2.heap.size w2 W → ∀ n : Nat, Calls Tryz.prog 95 #[.slice pa A.length pca, .int .i64 n] W fun e w' => e = .returned (.int .i64 (placeP n A)) ∧ w' = W) := fun W hW n => rplace_c (HSA.out.below hW) lA n
  have HPR : Hid (∀ W, Below w2.heap.size w2 W → ∀ n : Nat, Calls Tryz.prog 95 #[.slice pb B.length pcb, .int .i64 n] W fun e w' => e = .returned (.int .i64 (placeP n B)) ∧ w' = W) := fun W hW n => rplace_c (HSB.out.below hW) lB n
  clear HSA HSB lA lB
  go_upto_region 10 with fail
  go_loopw [12, 13, 14, 15, 16] (fun av iv jv kv nv wx => ∃ n i j k : Nat, ∃ X : List PtV, n ≤ b.length + 1 ∧ nv = .int .i64 n ∧ iv = .int .i64 i ∧ jv = .int .i64 j ∧ kv = .int .i64 k ∧ Hid (Al w b o t A B n i j k X) ∧ Hid (OwnG wx 159 4 av X.length (p0R X)) ∧ Hid (∀ g, av.ownBlock = some g → w2.heap.size ≤ g) ∧ Hid (Below w2.heap.size w2 wx)) (fun _ _ _ _ nv _ => (b.length + 1 - intOf nv).toNat)
  case atStart => exact ⟨0, 0, 0, 0, [], Nat.zero_le _, rfl, rfl, rfl, rfl, Al.start w b o t A B, OwnG.nil _ _ _, fun g hg => (by cases hg), Below.refl _ _⟩
  case round =>
    obtain ⟨n, i, j, k, X, hn, rfl, rfl, rfl, rfl, HAL, HOW, HOB, HBW⟩ := hrel
    by_cases hlt : n ≤ b.length
    · have d1 : decide ((n : Int) ≤ (b.length : Int)) = true := decide_eq_true (by omega)
      have n0 : (0 : Int) ≤ (n : Int) := by omega
      have w1 : IntKind.i64.wrap ((n : Int) + 1) = ((n + 1 : Nat) : Int) := IntWalk.i64_in _ (by omega)
      obtain ⟨hij, hjo, hkt, hgj, hgk, hxl⟩ : i ≤ n ∧ j ≤ o.length ∧ k ≤ t.length ∧ Ge j (tl n A) ∧ Ge k (tl n B) ∧ X.length ≤ 2 * n := ⟨HAL.out.hi, HAL.out.hj hlt, HAL.out.hk hlt, HAL.out.gj hlt, HAL.out.gk hlt, HAL.out.len⟩
      have HGJ := Lib.hid hgj
      have HGK := Lib.hid hgk
      clear hgj hgk
      by_cases hnb : n = b.length
      · -- @dev{ LE
        have d2 : decide ((n : Int) < (b.length : Int)) = false := decide_eq_false (by omega)
        have s1 : decide ((o.length : Int) < 0) = false := decide_eq_false (by omega)
        have s2 : decide ((t.length : Int) < 0) = false := decide_eq_false (by omega)
        obtain ⟨A1, C1, ht1, hr1⟩ := tl_cut (i := i) (n := n) HB.out hij hlt
        obtain ⟨A2, C2, ht2, hr2⟩ := tl_cut (i := j) (n := o.length) HO.out hjo (Nat.le_refl _)
        obtain ⟨A3, C3, ht3, hr3⟩ := tl_cut (i := k) (n := t.length) HT.out hkt (Nat.le_refl _)
        obtain ⟨y, hy⟩ : ∃ y : PtV, y = ⟨⟨sl b i n, sl o j o.length, sl t k t.length⟩, .slice A1 (sl b i n).length C1, .slice A2 (sl o j o.length).length C2, .slice A3 (sl t k t.length).length C3⟩ := ⟨_, rfl⟩
        have HAL2 : Hid (Hid (Al w b o t A B (n + 1) (n + 1) (o.length + 1) (t.length + 1) (X ++ [y]))) := by
          refine ⟨?_, fun z hz => ?_, Nat.le_refl _, fun h => by omega, fun h => by omega, fun h => by omega, fun h => by omega, by simp; omega⟩
          · have he := HAL.out.eq
            rw [if_pos hlt, show b.length - n = 0 by omega] at he
            rw [if_neg (by omega), List.map_append, ← he, hy, hnb]; rfl
          · rcases List.mem_append.1 hz with hz | hz
            · exact HAL.out.rd z hz
            · rw [List.mem_singleton.1 hz, hy]; exact ⟨ht1, ht2, ht3⟩
        have HYC : Hid (p0C y = [.int .i64 0, .slice A1 (sl b i n).length C1, .slice A2 (sl o j o.length).length C2, .slice A3 (sl t k t.length).length C3]) := by show _ = _; rw [hy]; rfl
        have HR1 := Lib.hid hr1
        have HR2 := Lib.hid hr2
        have HR3 := Lib.hid hr3
        have w2' : IntKind.i64.wrap ((o.length : Int) + 1) = ((o.length + 1 : Nat) : Int) := IntWalk.i64_in _ (by omega)
        have w3' : IntKind.i64.wrap ((t.length : Int) + 1) = ((t.length + 1 : Nat) : Int) := IntWalk.i64_in _ (by omega)
        clear hr1 hr2 hr3 ht1 ht2 ht3 HAL hy
        go_upto_region 16 with fail
        refine wp_region_hz (fun _ => True) (.tk 0 (.tk 1 (.tk 2 (.tk 3 (.tk 4 (.tk 5 (.tk 6 (.tk 7 (.tk 8 (.tk 9 (.tk 10 (.tk 11 (.tk 12 (.tk 13 (.fc 14 (.fc 15 (.tk 16 (.nil)))))))))))))))))) (by kernel_rfl) (by kernel_rfl) (fun _ _ _ _ _ h => h) ?_
        refine goZ_tk rfl rfl 68 rfl u12 (fun _ => rfl) ?_; simp only [zT, zA, zB]
        refine goZ_tk rfl rfl 69 rfl (.slice ab b.length cb) (fun _ => rfl) ?_; simp only [zT, zA, zB]
        refine goZ_tk rfl rfl 70 rfl (.int .i64 i) (fun _ => rfl) ?_; simp only [zT, zA, zB]
        refine goZ_tk rfl rfl 71 rfl (.int .i64 n) (fun _ => rfl) ?_; simp only [zT, zA, zB]
        refine goZ_tk rfl rfl 72 rfl (.slice A1 (sl b i (n)).length C1) (exec_cut (u := (.slice ab b.length cb)) (a := .int .i64 i) (b := .int .i64 n) strs_elem _ _ _ rfl rfl rfl rfl HR1.out) ?_; simp only [zT, zA, zB]
        refine goZ_tk rfl rfl 73 rfl (.slice ao o.length co) (fun _ => rfl) ?_; simp only [zT, zA, zB]
        refine goZ_tk rfl rfl 74 rfl (.int .i64 j) (fun _ => rfl) ?_; simp only [zT, zA, zB]
        refine goZ_tk rfl rfl 75 rfl (.int .i64 o.length) (fun _ => rfl) ?_; simp only [zT, zA, zB]
        refine goZ_tk rfl rfl 76 rfl (.slice A2 (sl o j (o.length)).length C2) (exec_cut (u := (.slice ao o.length co)) (a := .int .i64 j) (b := .int .i64 o.length) strs_elem _ _ _ rfl rfl rfl rfl HR2.out) ?_; simp only [zT, zA, zB]
        refine goZ_tk rfl rfl 77 rfl (.slice at_ t.length ct) (fun _ => rfl) ?_; simp only [zT, zA, zB]
        refine goZ_tk rfl rfl 78 rfl (.int .i64 k) (fun _ => rfl) ?_; simp only [zT, zA, zB]
        refine goZ_tk rfl rfl 79 rfl (.int .i64 t.length) (fun _ => rfl) ?_; simp only [zT, zA, zB]
        refine goZ_tk rfl rfl 80 rfl (.slice A3 (sl t k (t.length)).length C3) (exec_cut (u := (.slice at_ t.length ct)) (a := .int .i64 k) (b := .int .i64 t.length) strs_elem _ _ _ rfl rfl rfl rfl HR3.out) ?_; simp only [zT, zA, zB]
        refine goZ_tk rfl rfl 81 rfl (.agg #[.int .i64 0, .slice A1 (sl b i (n)).length C1, .slice A2 (sl o j (o.length)).length C2, .slice A3 (sl t k (t.length)).length C3]) (exec_build _ rfl (by simp [Act.eval]) (rb_rpart _ _ _ _ _ _ _ _ _)) ?_; simp only [zT, zA, zB]
        have hba : Below wr.heap.size wr ((wr.drewN 1).alloc (.cells #[.int .i64 0, .slice A1 (sl b i (n)).length C1, .slice A2 (sl o j (o.length)).length C2, .slice A3 (sl t k (t.length)).length C3] 159)) := (below_dN (Below.refl _ wr) 1).alloc (Nat.le_refl _) _
        refine goZ_val (ds' := []) rfl rfl (by kernel_rfl) 82 rfl (.slice (some ⟨(wr.drewN 1).heap.size, 0, none⟩) 1 1) ((wr.drewN 1).alloc (.cells #[.int .i64 0, .slice A1 (sl b i (n)).length C1, .slice A2 (sl o j (o.length)).length C2, .slice A3 (sl t k (t.length)).length C3] 159)) (exec_slice _ rfl (by simp [Act.eval]) (rb_rparts _ _ _ (wr.drewN 1))) (fun h => absurd rfl h) ?_; simp only [zT, zA, zB]
        have hsrc : Src Tryz.prog 4 124 (.slice (some ⟨(wr.drewN 1).heap.size, 0, none⟩) 1 1) 1 [.int .i64 0, .slice A1 (sl b i (n)).length C1, .slice A2 (sl o j (o.length)).length C2, .slice A3 (sl t k (t.length)).length C3] ((wr.drewN 1).alloc (.cells #[.int .i64 0, .slice A1 (sl b i (n)).length C1, .slice A2 (sl o j (o.length)).length C2, .slice A3 (sl t k (t.length)).length C3] 159)) := Src.ofNew (P := Tryz.prog) (w := wr.drewN 1) (tx := 124) (e := 159) (news := [.int .i64 0, .slice A1 (sl b i (n)).length C1, .slice A2 (sl o j (o.length)).length C2, .slice A3 (sl t k (t.length)).length C3]) Tryz.underlying124 rfl (by intro u hu; simp at hu; rcases hu with rfl | rfl | rfl | rfl <;> rfl)
        have hrow := HOW.out.below hba
        refine goZ_lawd (ds' := []) (by kernel_rfl) 83 ⟨_, rfl, rfl, fun K' hK' => wp_appG (v := u12) (xv := .slice (some ⟨(wr.drewN 1).heap.size, 0, none⟩) 1 1) (n := X.length) (m := 1) rfl _ _ _ _ rfl rpartElem rfl rfl hrow rfl hsrc (by simp only [maxLen]; omega) (by omega) fun v9 w9 ho9 hg9 hv9 => hK' _ _ ⟨fun h => absurd rfl h, ?_⟩⟩; simp only [zT, zA, zB]
        refine goZ_tk rfl rfl 12 rfl v9 (fun _ => rfl) ?_; simp only [zT, zA, zB]
        refine goZ_end ?_
        have HW9 : Hid (Hid (OwnG w9 159 4 v9 (X ++ [y]).length (p0R (X ++ [y])))) := by show OwnG _ _ _ _ _ _; rw [p0R_app, List.length_append, HYC.out]; exact ho9
        have HV9 : Hid (Hid (∀ g, v9.ownBlock = some g → w2.heap.size ≤ g)) := fun g hg => (hv9 g hg).elim (HOB.out g) (fun h => by have h2 := HBW.out.size; have h3 := hba.size; omega)
        have HB9 : Hid (Hid (Below w2.heap.size w2 w9)) := (HBW.out.trans (hba.mono HBW.out.size)).grown hg9 (Nat.le_trans HBW.out.size hba.size) (fun g hg => HOB.out g hg)
        clear ho9 hg9 hv9 hrow hsrc hba HR1 HR2 HR3 HYC HOW HOB HBW
        go_wp2_with fail
        go_roundw
        case rel => exact ⟨n + 1, n + 1, o.length + 1, t.length + 1, X ++ [y], by omega, by go_num, by go_num, by go_num, by go_num, HAL2.out, HW9.out, HV9.out, HB9.out⟩
        case measure => simp [intOf]; omega
      · -- @dev{ LM
        have hnl : n < b.length := by omega
        have d2 : decide ((n : Int) < (b.length : Int)) = true := decide_eq_true (by omega)
        have hpl := HPL.out wr HBW.out n
        have hpr := HPR.out wr HBW.out n
        rcases JoinS.tl_cases (x := n) HIA.out with ⟨y, r, a1, a2, a3, a4, a5⟩ | ⟨a1, a2, a3⟩
        · have hjy : j ≤ y := HGJ.out _ _ a1
          have s1 : decide ((y : Int) < 0) = false := decide_eq_false (by omega)
          have GY : Hid (Ge (y + 1) (tl (n + 1) A)) := by show Ge _ _; rw [a3]; exact JoinS.ge_inc a5
          have EY := Lib.hid a2
          rw [a2] at hpl
          have HPLn := Lib.hid hpl
          clear hpl a1 a2 a3 a5 HGJ
          rcases JoinS.tl_cases (x := n) HIB.out with ⟨z, s, b1, b2, b3, b4, b5⟩ | ⟨b1, b2, b3⟩
          · have hkz : k ≤ z := HGK.out _ _ b1
            have s2 : decide ((z : Int) < 0) = false := decide_eq_false (by omega)
            have GZ : Hid (Ge (z + 1) (tl (n + 1) B)) := by show Ge _ _; rw [b3]; exact JoinS.ge_inc b5
            have EZ := Lib.hid b2
            rw [b2] at hpr
            have HPRn := Lib.hid hpr
            clear hpr b1 b2 b3 b5 HGK
            go_upto_region 14 with fail
            refine goP_start ?_
            refine goP_mv rfl 56 rfl _ rfl (.slice pa A.length pca) rfl ?_; simp only [zT, zA, zB]
            refine goP_mv rfl 57 rfl _ rfl (.int .i64 n) rfl ?_; simp only [zT, zA, zB]
            refine goP_call rfl 58 rfl 95 _ rfl [(.slice pa A.length pca), (.int .i64 n)] rfl (enters_of Tryz.func95 (by kernel_rfl) rfl) ((HPLn.out).mono ?_)
            rintro e w5 ⟨rfl, hw⟩
            obtain rfl := hw.symm
            try clear hw
            refine ⟨(.int .i64 (y:Int)), rfl, ?_⟩; simp only [zT, zA, zB]
            refine goP_mv rfl 59 rfl _ rfl (.slice pb B.length pcb) rfl ?_; simp only [zT, zA, zB]
            refine goP_mv rfl 60 rfl _ rfl (.int .i64 n) rfl ?_; simp only [zT, zA, zB]
            refine goP_call rfl 61 rfl 95 _ rfl [(.slice pb B.length pcb), (.int .i64 n)] rfl (enters_of Tryz.func95 (by kernel_rfl) rfl) ((HPRn.out).mono ?_)
            rintro e w6 ⟨rfl, hw⟩
            obtain rfl := hw.symm
            try clear hw
            refine ⟨(.int .i64 (z:Int)), rfl, ?_⟩; simp only [zT, zA, zB]
            refine goP_as rfl 17 rfl _ rfl (.int .i64 (y:Int)) rfl ?_; simp only [zT, zA, zB]
            refine goP_as rfl 18 rfl _ rfl (.int .i64 (z:Int)) rfl ?_; simp only [zT, zA, zB]
            refine goP_end ?_
            obtain ⟨A1, C1, ht1, hr1⟩ := tl_cut (i := i) (n := n) HB.out hij hlt
            obtain ⟨A2, C2, ht2, hr2⟩ := tl_cut (i := j) (n := y) HO.out hjy (Nat.le_of_lt a4)
            obtain ⟨A3, C3, ht3, hr3⟩ := tl_cut (i := k) (n := z) HT.out hkz (Nat.le_of_lt b4)
            obtain ⟨A4, C4, ht4, hr4⟩ := tl_cut (i := n) (n := n + 1) HB.out (Nat.le_succ n) hnl
            obtain ⟨A5, C5, ht5, hr5⟩ := tl_cut (i := y) (n := y + 1) HO.out (Nat.le_succ y) a4
            obtain ⟨A6, C6, ht6, hr6⟩ := tl_cut (i := z) (n := z + 1) HT.out (Nat.le_succ z) b4
            obtain ⟨u1, hu1⟩ : ∃ u1 : PtV, u1 = ⟨⟨sl b i n, sl o j y, sl t k z⟩, .slice A1 (sl b i n).length C1, .slice A2 (sl o j y).length C2, .slice A3 (sl t k z).length C3⟩ := ⟨_, rfl⟩
            obtain ⟨u2, hu2⟩ : ∃ u2 : PtV, u2 = ⟨⟨sl b n (n + 1), sl o y (y + 1), sl t z (z + 1)⟩, .slice A4 (sl b n (n + 1)).length C4, .slice A5 (sl o y (y + 1)).length C5, .slice A6 (sl t z (z + 1)).length C6⟩ := ⟨_, rfl⟩
            have HAL2 : Hid (Hid (Al w b o t A B (n + 1) (n + 1) (y + 1) (z + 1) ((X ++ [u1]) ++ [u2]))) := HAL.out.both hnl EY.out EZ.out a4 b4 GY.out GZ.out (by rw [hu1]) (by rw [hu2]) (by rw [hu1]; exact ⟨ht1, ht2, ht3⟩) (by rw [hu2]; exact ⟨ht4, ht5, ht6⟩)
            have HYC : Hid (p0C u1 = [.int .i64 0, .slice A1 (sl b i n).length C1, .slice A2 (sl o j y).length C2, .slice A3 (sl t k z).length C3]) := by show _ = _; rw [hu1]; rfl
            have HYD : Hid (p0C u2 = [.int .i64 0, .slice A4 (sl b n (n + 1)).length C4, .slice A5 (sl o y (y + 1)).length C5, .slice A6 (sl t z (z + 1)).length C6]) := by show _ = _; rw [hu2]; rfl
            have HR1 := Lib.hid hr1
            have HR2 := Lib.hid hr2
            have HR3 := Lib.hid hr3
            have HR4 := Lib.hid hr4
            have HR5 := Lib.hid hr5
            have HR6 := Lib.hid hr6
            have w2' : IntKind.i64.wrap ((y : Int) + 1) = ((y + 1 : Nat) : Int) := IntWalk.i64_in _ (by omega)
            have w3' : IntKind.i64.wrap ((z : Int) + 1) = ((z + 1 : Nat) : Int) := IntWalk.i64_in _ (by omega)
            clear hr1 hr2 hr3 hr4 hr5 hr6 ht1 ht2 ht3 ht4 ht5 ht6 HAL hu1 hu2 GY GZ EY EZ HPLn HPRn
            go_upto_region 16 with fail
            refine wp_region_hz (fun _ => True) (.tk 0 (.tk 1 (.tk 2 (.tk 3 (.tk 4 (.tk 5 (.tk 6 (.tk 7 (.tk 8 (.tk 9 (.tk 10 (.tk 11 (.tk 12 (.tk 13 (.fc 14 (.fc 15 (.tk 16 (.nil)))))))))))))))))) (by kernel_rfl) (by kernel_rfl) (fun _ _ _ _ _ h => h) ?_
            refine goZ_tk rfl rfl 68 rfl u12 (fun _ => rfl) ?_; simp only [zT, zA, zB]
            refine goZ_tk rfl rfl 69 rfl (.slice ab b.length cb) (fun _ => rfl) ?_; simp only [zT, zA, zB]
            refine goZ_tk rfl rfl 70 rfl (.int .i64 i) (fun _ => rfl) ?_; simp only [zT, zA, zB]
            refine goZ_tk rfl rfl 71 rfl (.int .i64 n) (fun _ => rfl) ?_; simp only [zT, zA, zB]
            refine goZ_tk rfl rfl 72 rfl (.slice A1 (sl b i (n)).length C1) (exec_cut (u := (.slice ab b.length cb)) (a := .int .i64 i) (b := .int .i64 n) strs_elem _ _ _ rfl rfl rfl rfl HR1.out) ?_; simp only [zT, zA, zB]
            refine goZ_tk rfl rfl 73 rfl (.slice ao o.length co) (fun _ => rfl) ?_; simp only [zT, zA, zB]
            refine goZ_tk rfl rfl 74 rfl (.int .i64 j) (fun _ => rfl) ?_; simp only [zT, zA, zB]
            refine goZ_tk rfl rfl 75 rfl (.int .i64 y) (fun _ => rfl) ?_; simp only [zT, zA, zB]
            refine goZ_tk rfl rfl 76 rfl (.slice A2 (sl o j (y)).length C2) (exec_cut (u := (.slice ao o.length co)) (a := .int .i64 j) (b := .int .i64 y) strs_elem _ _ _ rfl rfl rfl rfl HR2.out) ?_; simp only [zT, zA, zB]
            refine goZ_tk rfl rfl 77 rfl (.slice at_ t.length ct) (fun _ => rfl) ?_; simp only [zT, zA, zB]
            refine goZ_tk rfl rfl 78 rfl (.int .i64 k) (fun _ => rfl) ?_; simp only [zT, zA, zB]
            refine goZ_tk rfl rfl 79 rfl (.int .i64 z) (fun _ => rfl) ?_; simp only [zT, zA, zB]
            refine goZ_tk rfl rfl 80 rfl (.slice A3 (sl t k (z)).length C3) (exec_cut (u := (.slice at_ t.length ct)) (a := .int .i64 k) (b := .int .i64 z) strs_elem _ _ _ rfl rfl rfl rfl HR3.out) ?_; simp only [zT, zA, zB]
            refine goZ_tk rfl rfl 81 rfl (.agg #[.int .i64 0, .slice A1 (sl b i (n)).length C1, .slice A2 (sl o j (y)).length C2, .slice A3 (sl t k (z)).length C3]) (exec_build _ rfl (by simp [Act.eval]) (rb_rpart _ _ _ _ _ _ _ _ _)) ?_; simp only [zT, zA, zB]
            have hba : Below wr.heap.size wr ((wr.drewN 1).alloc (.cells #[.int .i64 0, .slice A1 (sl b i (n)).length C1, .slice A2 (sl o j (y)).length C2, .slice A3 (sl t k (z)).length C3] 159)) := (below_dN (Below.refl _ wr) 1).alloc (Nat.le_refl _) _
            refine goZ_val (ds' := []) rfl rfl (by kernel_rfl) 82 rfl (.slice (some ⟨(wr.drewN 1).heap.size, 0, none⟩) 1 1) ((wr.drewN 1).alloc (.cells #[.int .i64 0, .slice A1 (sl b i (n)).length C1, .slice A2 (sl o j (y)).length C2, .slice A3 (sl t k (z)).length C3] 159)) (exec_slice _ rfl (by simp [Act.eval]) (rb_rparts _ _ _ (wr.drewN 1))) (fun h => absurd rfl h) ?_; simp only [zT, zA, zB]
            have hsrc : Src Tryz.prog 4 124 (.slice (some ⟨(wr.drewN 1).heap.size, 0, none⟩) 1 1) 1 [.int .i64 0, .slice A1 (sl b i (n)).length C1, .slice A2 (sl o j (y)).length C2, .slice A3 (sl t k (z)).length C3] ((wr.drewN 1).alloc (.cells #[.int .i64 0, .slice A1 (sl b i (n)).length C1, .slice A2 (sl o j (y)).length C2, .slice A3 (sl t k (z)).length C3] 159)) := Src.ofNew (P := Tryz.prog) (w := wr.drewN 1) (tx := 124) (e := 159) (news := [.int .i64 0, .slice A1 (sl b i (n)).length C1, .slice A2 (sl o j (y)).length C2, .slice A3 (sl t k (z)).length C3]) Tryz.underlying124 rfl (by intro u hu; simp at hu; rcases hu with rfl | rfl | rfl | rfl <;> rfl)
            have hrow := HOW.out.below hba
            refine goZ_lawd (ds' := []) (by kernel_rfl) 83 ⟨_, rfl, rfl, fun K' hK' => wp_appG (v := u12) (xv := .slice (some ⟨(wr.drewN 1).heap.size, 0, none⟩) 1 1) (n := X.length) (m := 1) rfl _ _ _ _ rfl rpartElem rfl rfl hrow rfl hsrc (by simp only [maxLen]; omega) (by omega) fun v9 w9 ho9 hg9 hv9 => hK' _ _ ⟨fun h => absurd rfl h, ?_⟩⟩; simp only [zT, zA, zB]
            refine goZ_tk rfl rfl 12 rfl v9 (fun _ => rfl) ?_; simp only [zT, zA, zB]
            refine goZ_end ?_
            have HW9 : Hid (OwnG w9 159 4 v9 (X ++ [u1]).length (p0R (X ++ [u1]))) := by show OwnG _ _ _ _ _ _; rw [p0R_app, List.length_append, HYC.out]; exact ho9
            have HV9 : Hid (∀ g, v9.ownBlock = some g → w2.heap.size ≤ g) := fun g hg => (hv9 g hg).elim (HOB.out g) (fun h => by have h2 := HBW.out.size; have h3 := hba.size; omega)
            have HB9 : Hid (Below w2.heap.size w2 w9) := (HBW.out.trans (hba.mono HBW.out.size)).grown hg9 (Nat.le_trans HBW.out.size hba.size) (fun g hg => HOB.out g hg)
            have hxl2 : (X ++ [u1]).length ≤ 2 * n + 1 := by simp; omega
            clear ho9 hg9 hv9 hrow hsrc hba HR1 HR2 HR3 HYC HOW HOB HBW
            obtain ⟨X1, hX1⟩ : ∃ X1, X ++ [u1] = X1 := ⟨_, rfl⟩
            rw [hX1] at HW9 hxl2 HAL2
            clear hX1
            go_upto_region 18 with fail
            refine wp_region_hz (fun _ => True) (.tk 0 (.tk 1 (.tk 2 (.tk 3 (.tk 4 (.tk 5 (.tk 6 (.tk 7 (.tk 8 (.tk 9 (.tk 10 (.tk 11 (.tk 12 (.tk 13 (.tk 14 (.tk 15 (.tk 16 (.fc 17 (.fc 18 (.tk 19 (.nil))))))))))))))))))))) (by kernel_rfl) (by kernel_rfl) (fun _ _ _ _ _ h => h) ?_
            refine goZ_tk rfl rfl 88 rfl v9 (fun _ => rfl) ?_; simp only [zT, zA, zB]
            refine goZ_tk rfl rfl 89 rfl (.slice ab b.length cb) (fun _ => rfl) ?_; simp only [zT, zA, zB]
            refine goZ_tk rfl rfl 90 rfl (.int .i64 n) (fun _ => rfl) ?_; simp only [zT, zA, zB]
            refine goZ_tk rfl rfl 91 rfl (.int .i64 n) (fun _ => rfl) ?_; simp only [zT, zA, zB]
            refine goZ_tk rfl rfl 92 rfl (.int .i64 ((n + 1 : Nat) : Int)) (fun _ => by go_simp) ?_; simp only [zT, zA, zB]
            refine goZ_tk rfl rfl 93 rfl (.slice A4 (sl b n (n + 1)).length C4) (exec_cut (u := (.slice ab b.length cb)) (a := .int .i64 n) (b := .int .i64 ((n + 1 : Nat) : Int)) strs_elem _ _ _ rfl rfl rfl rfl HR4.out) ?_; simp only [zT, zA, zB]
            refine goZ_tk rfl rfl 94 rfl (.slice ao o.length co) (fun _ => rfl) ?_; simp only [zT, zA, zB]
            refine goZ_tk rfl rfl 95 rfl (.int .i64 y) (fun _ => rfl) ?_; simp only [zT, zA, zB]
            refine goZ_tk rfl rfl 96 rfl (.int .i64 y) (fun _ => rfl) ?_; simp only [zT, zA, zB]
            refine goZ_tk rfl rfl 97 rfl (.int .i64 ((y + 1 : Nat) : Int)) (fun _ => by go_simp) ?_; simp only [zT, zA, zB]
            refine goZ_tk rfl rfl 98 rfl (.slice A5 (sl o y (y + 1)).length C5) (exec_cut (u := (.slice ao o.length co)) (a := .int .i64 y) (b := .int .i64 ((y + 1 : Nat) : Int)) strs_elem _ _ _ rfl rfl rfl rfl HR5.out) ?_; simp only [zT, zA, zB]
            refine goZ_tk rfl rfl 99 rfl (.slice at_ t.length ct) (fun _ => rfl) ?_; simp only [zT, zA, zB]
            refine goZ_tk rfl rfl 100 rfl (.int .i64 z) (fun _ => rfl) ?_; simp only [zT, zA, zB]
            refine goZ_tk rfl rfl 101 rfl (.int .i64 z) (fun _ => rfl) ?_; simp only [zT, zA, zB]
            refine goZ_tk rfl rfl 102 rfl (.int .i64 ((z + 1 : Nat) : Int)) (fun _ => by go_simp) ?_; simp only [zT, zA, zB]
            refine goZ_tk rfl rfl 103 rfl (.slice A6 (sl t z (z + 1)).length C6) (exec_cut (u := (.slice at_ t.length ct)) (a := .int .i64 z) (b := .int .i64 ((z + 1 : Nat) : Int)) strs_elem _ _ _ rfl rfl rfl rfl HR6.out) ?_; simp only [zT, zA, zB]
            refine goZ_tk rfl rfl 104 rfl (.agg #[.int .i64 0, .slice A4 (sl b n (n + 1)).length C4, .slice A5 (sl o y (y + 1)).length C5, .slice A6 (sl t z (z + 1)).length C6]) (exec_build _ rfl (by simp [Act.eval]) (rb_rpart _ _ _ _ _ _ _ _ _)) ?_; simp only [zT, zA, zB]
            have hba : Below w9.heap.size w9 ((w9.drewN 1).alloc (.cells #[.int .i64 0, .slice A4 (sl b n (n + 1)).length C4, .slice A5 (sl o y (y + 1)).length C5, .slice A6 (sl t z (z + 1)).length C6] 159)) := (below_dN (Below.refl _ w9) 1).alloc (Nat.le_refl _) _
            refine goZ_val (ds' := []) rfl rfl (by kernel_rfl) 105 rfl (.slice (some ⟨(w9.drewN 1).heap.size, 0, none⟩) 1 1) ((w9.drewN 1).alloc (.cells #[.int .i64 0, .slice A4 (sl b n (n + 1)).length C4, .slice A5 (sl o y (y + 1)).length C5, .slice A6 (sl t z (z + 1)).length C6] 159)) (exec_slice _ rfl (by simp [Act.eval]) (rb_rparts _ _ _ (w9.drewN 1))) (fun h => absurd rfl h) ?_; simp only [zT, zA, zB]
            have hsrc : Src Tryz.prog 4 124 (.slice (some ⟨(w9.drewN 1).heap.size, 0, none⟩) 1 1) 1 [.int .i64 0, .slice A4 (sl b n (n + 1)).length C4, .slice A5 (sl o y (y + 1)).length C5, .slice A6 (sl t z (z + 1)).length C6] ((w9.drewN 1).alloc (.cells #[.int .i64 0, .slice A4 (sl b n (n + 1)).length C4, .slice A5 (sl o y (y + 1)).length C5, .slice A6 (sl t z (z + 1)).length C6] 159)) := Src.ofNew (P := Tryz.prog) (w := w9.drewN 1) (tx := 124) (e := 159) (news := [.int .i64 0, .slice A4 (sl b n (n + 1)).length C4, .slice A5 (sl o y (y + 1)).length C5, .slice A6 (sl t z (z + 1)).length C6]) Tryz.underlying124 rfl (by intro u hu; simp at hu; rcases hu with rfl | rfl | rfl | rfl <;> rfl)
            have hrow := HW9.out.below hba
            refine goZ_lawd (ds' := []) (by kernel_rfl) 106 ⟨_, rfl, rfl, fun K' hK' => wp_appG (v := v9) (xv := .slice (some ⟨(w9.drewN 1).heap.size, 0, none⟩) 1 1) (n := X1.length) (m := 1) rfl _ _ _ _ rfl rpartElem rfl rfl hrow rfl hsrc (by simp only [maxLen]; omega) (by omega) fun v8 w8 ho8 hg8 hv8 => hK' _ _ ⟨fun h => absurd rfl h, ?_⟩⟩; simp only [zT, zA, zB]
            refine goZ_tk rfl rfl 12 rfl v8 (fun _ => rfl) ?_; simp only [zT, zA, zB]
            refine goZ_end ?_
            have HW8 : Hid (Hid (OwnG w8 159 4 v8 (X1 ++ [u2]).length (p0R (X1 ++ [u2])))) := by show OwnG _ _ _ _ _ _; rw [p0R_app, List.length_append, HYD.out]; exact ho8
            have HV8 : Hid (Hid (∀ g, v8.ownBlock = some g → w2.heap.size ≤ g)) := fun g hg => (hv8 g hg).elim (HV9.out g) (fun h => by have h2 := HB9.out.size; have h3 := hba.size; omega)
            have HB8 : Hid (Hid (Below w2.heap.size w2 w8)) := (HB9.out.trans (hba.mono HB9.out.size)).grown hg8 (Nat.le_trans HB9.out.size hba.size) (fun g hg => HV9.out g hg)
            clear ho8 hg8 hv8 hrow hsrc hba HR4 HR5 HR6 HYD HW9 HV9 HB9
            go_wp2_with fail
            go_roundw
            case rel => exact ⟨n + 1, n + 1, y + 1, z + 1, X1 ++ [u2], by omega, by go_num, by go_num, by go_num, by go_num, HAL2.out, HW8.out, HV8.out, HB8.out⟩
            case measure => simp [intOf]; omega
          · have s2 : decide ((-1 : Int) < 0) = true := by decide
            have HAL2 : Hid (Hid (Al w b o t A B (n + 1) i j k X)) := HAL.out.skip hnl (.inr (by rw [b1]; decide)) (GY.out.le (by omega)) (by rw [b2]; exact HGK.out)
            rw [b1] at hpr
            have HPRn := Lib.hid hpr
            have HW8 : Hid (Hid (OwnG wr 159 4 u12 X.length (p0R X))) := HOW
            have HV8 : Hid (Hid (∀ g, u12.ownBlock = some g → w2.heap.size ≤ g)) := HOB
            have HB8 : Hid (Hid (Below w2.heap.size w2 wr)) := HBW
            clear hpr b1 b2 b3 HGK HAL GY EY
            go_upto_region 14 with fail
            refine goP_start ?_
            refine goP_mv rfl 56 rfl _ rfl (.slice pa A.length pca) rfl ?_; simp only [zT, zA, zB]
            refine goP_mv rfl 57 rfl _ rfl (.int .i64 n) rfl ?_; simp only [zT, zA, zB]
            refine goP_call rfl 58 rfl 95 _ rfl [(.slice pa A.length pca), (.int .i64 n)] rfl (enters_of Tryz.func95 (by kernel_rfl) rfl) ((HPLn.out).mono ?_)
            rintro e w5 ⟨rfl, hw⟩
            obtain rfl := hw.symm
            try clear hw
            refine ⟨(.int .i64 (y:Int)), rfl, ?_⟩; simp only [zT, zA, zB]
            refine goP_mv rfl 59 rfl _ rfl (.slice pb B.length pcb) rfl ?_; simp only [zT, zA, zB]
            refine goP_mv rfl 60 rfl _ rfl (.int .i64 n) rfl ?_; simp only [zT, zA, zB]
            refine goP_call rfl 61 rfl 95 _ rfl [(.slice pb B.length pcb), (.int .i64 n)] rfl (enters_of Tryz.func95 (by kernel_rfl) rfl) ((HPRn.out).mono ?_)
            rintro e w6 ⟨rfl, hw⟩
            obtain rfl := hw.symm
            try clear hw
            refine ⟨(.int .i64 (-1)), rfl, ?_⟩; simp only [zT, zA, zB]
            refine goP_as rfl 17 rfl _ rfl (.int .i64 (y:Int)) rfl ?_; simp only [zT, zA, zB]
            refine goP_as rfl 18 rfl _ rfl (.int .i64 (-1)) rfl ?_; simp only [zT, zA, zB]
            refine goP_end ?_
            clear HPLn HPRn HOW HOB HBW
            go_wp2_with fail
            go_roundw
            case rel => exact ⟨n + 1, i, j, k, X, by omega, by go_num, rfl, rfl, rfl, HAL2.out, HW8.out, HV8.out, HB8.out⟩
            case measure => simp [intOf]; omega
        · have s1 : decide ((-1 : Int) < 0) = true := by decide
          have GK1 : Hid (Ge k (tl (n + 1) B)) := by
            rcases JoinS.tl_cases (x := n) HIB.out with ⟨z, s, b1, b2, b3, b4, b5⟩ | ⟨b1, b2, b3⟩
            · have hkz : k ≤ z := HGK.out _ _ b1
              show Ge _ _
              rw [b3]; exact (JoinS.ge_inc b5).le (by omega)
            · show Ge _ _
              rw [b2]; exact HGK.out
          have HAL2 : Hid (Hid (Al w b o t A B (n + 1) i j k X)) := HAL.out.skip hnl (.inl (by rw [a1]; decide)) (by rw [a2]; exact HGJ.out) GK1.out
          rw [a1] at hpl
          have HPLn := Lib.hid hpl
          obtain ⟨pz, hpz⟩ : ∃ pz, placeP n B = pz := ⟨_, rfl⟩
          rw [hpz] at hpr
          have HPRn := Lib.hid hpr
          have HW8 : Hid (Hid (OwnG wr 159 4 u12 X.length (p0R X))) := HOW
          have HV8 : Hid (Hid (∀ g, u12.ownBlock = some g → w2.heap.size ≤ g)) := HOB
          have HB8 : Hid (Hid (Below w2.heap.size w2 wr)) := HBW
          clear hpl hpr a1 a2 a3 HGJ HGK HAL GK1 hpz
          go_upto_region 14 with fail
          refine goP_start ?_
          refine goP_mv rfl 56 rfl _ rfl (.slice pa A.length pca) rfl ?_; simp only [zT, zA, zB]
          refine goP_mv rfl 57 rfl _ rfl (.int .i64 n) rfl ?_; simp only [zT, zA, zB]
          refine goP_call rfl 58 rfl 95 _ rfl [(.slice pa A.length pca), (.int .i64 n)] rfl (enters_of Tryz.func95 (by kernel_rfl) rfl) ((HPLn.out).mono ?_)
          rintro e w5 ⟨rfl, hw⟩
          obtain rfl := hw.symm
          try clear hw
          refine ⟨(.int .i64 (-1)), rfl, ?_⟩; simp only [zT, zA, zB]
          refine goP_mv rfl 59 rfl _ rfl (.slice pb B.length pcb) rfl ?_; simp only [zT, zA, zB]
          refine goP_mv rfl 60 rfl _ rfl (.int .i64 n) rfl ?_; simp only [zT, zA, zB]
          refine goP_call rfl 61 rfl 95 _ rfl [(.slice pb B.length pcb), (.int .i64 n)] rfl (enters_of Tryz.func95 (by kernel_rfl) rfl) ((HPRn.out).mono ?_)
          rintro e w6 ⟨rfl, hw⟩
          obtain rfl := hw.symm
          try clear hw
          refine ⟨(.int .i64 pz), rfl, ?_⟩; simp only [zT, zA, zB]
          refine goP_as rfl 17 rfl _ rfl (.int .i64 (-1)) rfl ?_; simp only [zT, zA, zB]
          refine goP_as rfl 18 rfl _ rfl (.int .i64 pz) rfl ?_; simp only [zT, zA, zB]
          refine goP_end ?_
          clear HPLn HPRn HOW HOB HBW
          go_wp2_with fail
          go_roundw
          case rel => exact ⟨n + 1, i, j, k, X, by omega, by go_num, rfl, rfl, rfl, HAL2.out, HW8.out, HV8.out, HB8.out⟩
          case measure => simp [intOf]; omega
    · -- @dev{ L2
      have d1 : decide ((n : Int) ≤ (b.length : Int)) = false := decide_eq_false (by omega)
      have HXP : Hid (X.map (·.p) = JoinS.parts b o t) := by
        show _ = _
        have he := HAL.out.eq
        rw [if_neg hlt] at he
        rw [he]; exact HALL.out
      have HRD := Lib.hid HAL.out.rd
      have hxn : X.length ≤ 3000 := by have := HAL.out.len; omega
      have HWW : Hid (Below w.heap.size w wr) := HB2.out.trans (HBW.out.mono HB2.out.size)
      have HOW2 : Hid ((p0R X).length = X.length * 4 ∧ True) := ⟨HOW.out.1, trivial⟩
      obtain ⟨xa, xc, rfl, hxl, -, hsx⟩ := HOW.out.form
      have HSX := Lib.hid hsx
      have hjn : JoinS.joinAll [] ((X.map (·.p)).take 0) = [] := rfl
      have HZ0 : Hid (Ot2 wr wr (.slice none 0 0) []) := ⟨OwnG.nil _ _ _, (fun g hg => by cases hg), (fun y hy => nomatch hy), Below.refl _ _⟩
      have HJ0 : Hid (([] : List PtV).map (·.p) = JoinS.joinAll [] ((X.map (·.p)).take 0)) := rfl
      clear hsx HAL HOW HOB HBW HPL HPR HIA HIB HALL hjn hxl
      go_upto_region 22 with fail
      generalize wr = wz at *
      go_loopw [19, 20] (fun ov nv wx => ∃ q : Nat, q ≤ X.length ∧ nv = .int .i64 q ∧ ∃ Y : List PtV, Hid (Ot2 wz wx ov Y) ∧ Hid (Y.map (·.p) = JoinS.joinAll [] ((X.map (·.p)).take q)) ∧ Hid (Y.length ≤ q)) (fun _ nv _ => (X.length - intOf nv).toNat)
      case atStart => exact ⟨0, Nat.zero_le _, rfl, [], HZ0, HJ0, Nat.le_refl _⟩
      case round =>
        clear HZ0 HJ0
        obtain ⟨q, hq, rfl, Y, HOT, HJY, HYL⟩ := hrel
        by_cases hql : q < X.length
        · have c1 : decide ((q : Int) < (X.length : Int)) = true := decide_eq_true (by omega)
          have c3 : (0 : Int) ≤ (q : Int) := by omega
          have c4 : (q : Int) < (X.length : Int) := by omega
          have kw : IntKind.i64.wrap ((q : Int) + 1) = ((q + 1 : Nat) : Int) := IntWalk.i64_in _ (by omega)
          obtain ⟨gx, ox, e, hgl, hcs⟩ := (HSX.out.below HOT.out.below).resolve_left (fun e => by
            have h := HOW2.out.1
            rw [e] at h; simp at h; omega)
          subst e
          have hpx : X[q].p ∈ JoinS.parts b o t := by rw [← HXP.out]; exact List.mem_map_of_mem (List.getElem_mem hql)
          have hps := part_small hpx
          have hjt := join_take (l := X.map (·.p)) (q := q) (by simpa using hql)
          rw [← HJY.out, List.getElem_map] at hjt
          have HRA : Hid (wr.rangeAt gx (ox + q * 4) (p0C X[q])) := fun j u hu => by
            have hj : j < 4 := (List.getElem?_eq_some_iff.1 hu).1
            rw [Nat.add_assoc]
            exact hcs _ _ (by rw [p0R_get X q hql j hj]; exact hu)
          have hrd := HRD.out _ (List.getElem_mem hql)
          clear hcs hgl hpx
          generalize X[q] = x at *
          obtain ⟨⟨pb', po', pt'⟩, vb, vo, vt⟩ := x
          have hrd : Tl w vb pb' ∧ Tl w vo po' ∧ Tl w vt pt' := hrd
          have HT1 := Lib.hid hrd.1
          have HT2 := Lib.hid hrd.2.1
          have HT3 := Lib.hid hrd.2.2
          obtain ⟨a1, e1, rfl, -⟩ := hrd.1
          obtain ⟨a2, e2, rfl, -⟩ := hrd.2.1
          obtain ⟨a3, e3, rfl, -⟩ := hrd.2.2
          have hps : pb'.length + po'.length + pt'.length ≤ b.length + o.length + t.length := hps
          have HJT := Lib.hid hjt
          have HRA : Hid (wr.rangeAt gx (ox + q * 4) [.int .i64 0, .slice a1 pb'.length e1, .slice a2 po'.length e2, .slice a3 pt'.length e3]) := HRA
          have H1C : Hid ((#[.int .i64 0, .slice a1 pb'.length e1, .slice a2 po'.length e2, .slice a3 pt'.length e3] : Array Value).all (·.oneCell') = true) := by show _ = _; simp only [List.all_toArray, List.all_cons, List.all_nil]; rfl
          clear hrd hjt
          go_upto_region 25 with (first
            | (refine wpList_load_mid rfl 159 _ rfl gx (ox + q * 4) rfl [.int .i64 0, .slice a1 pb'.length e1, .slice a2 po'.length e2, .slice a3 pt'.length e3] _ HRA.out Tryz.underlying159 rfl (by kernel_rfl) ?_)
            | (refine wp_storeB rfl 159 _ _ rfl wr.heap.size #[.int .i64 0, .slice a1 pb'.length e1, .slice a2 po'.length e2, .slice a3 pt'.length e3] rfl rfl (old := #[.int .i64 0, .slice none 0 0, .slice none 0 0, .slice none 0 0]) Array.getElem?_push_size rfl (by kernel_rfl) H1C.out ?_; intro W5 hb5 hg5))
          have hB5 : Below wr.heap.size wr W5 := ((Below.refl wr.heap.size wr).alloc (Nat.le_refl _) _).grown hg5 (by simp) (fun k hk => by cases hk; exact Nat.le_refl _)
          have k0 : W5.cell? ⟨wr.heap.size, 0, none⟩ = some (.int .i64 0) := by simp only [World.cell?, hb5]; rfl
          have k1 : W5.cell? ⟨wr.heap.size, 1, none⟩ = some (.slice a1 pb'.length e1) := by simp only [World.cell?, hb5]; rfl
          have k2 : W5.cell? ⟨wr.heap.size, 2, none⟩ = some (.slice a2 po'.length e2) := by simp only [World.cell?, hb5]; rfl
          have k3 : W5.cell? ⟨wr.heap.size, 3, none⟩ = some (.slice a3 pt'.length e3) := by simp only [World.cell?, hb5]; rfl
          have HB5 := Lib.hid hB5
          have HBK := Lib.hid hb5
          have HBN : Hid (pb'.length ≤ 100000000 ∧ po'.length ≤ 100000000 ∧ pt'.length ≤ 100000000) := ⟨by omega, by omega, by omega⟩
          have hle0 : pb'.length + po'.length + pt'.length ≤ 3000 := by omega
          have s1 : IntKind.i64.wrap ((pb'.length : Int) + (po'.length : Int)) = ((pb'.length + po'.length : Nat) : Int) := IntWalk.i64_in _ (by omega)
          have s2 : IntKind.i64.wrap (((pb'.length + po'.length : Nat) : Int) + (pt'.length : Int)) = ((pb'.length + po'.length + pt'.length : Nat) : Int) := IntWalk.i64_in _ (by omega)
          have hle3 : pb'.length + po'.length + pt'.length ≤ 3000 := hle0
          clear hb5 hg5 hB5 HRA
          have HPS := Lib.hid hps
          clear hps
          by_cases h0 : pb'.length + po'.length + pt'.length = 0
          · have t0 : (((pb'.length + po'.length + pt'.length : Nat) : Int) == 0) = true := beq_iff_eq.2 (by omega)
            have t1 : (wrap64 ((pb'.length : Int) + (po'.length : Int) + (pt'.length : Int)) == 0) = true := by rw [wrap_sum hle3]; exact t0
            clear hle0 hle3
            have HJ2 : Hid (Hid (Y.map (·.p) = JoinS.joinAll [] ((X.map (·.p)).take (q + 1)))) := by
              show _ = _
              rw [HJT.out]; unfold JoinS.join; rw [if_pos h0]
            have HOT2 : Hid (Hid (Ot2 wz W5 u19 Y)) := HOT.out.step HB5.out
            have HYL2 : Hid (Hid (Y.length ≤ q + 1)) := Nat.le_succ_of_le HYL.out
            clear HOT HJY HYL HJT HB5 HBK h0 HT1 HT2 HT3 HPS
            go_wp2_with fail
            go_roundw
            case rel => exact ⟨q + 1, hql, by go_num, Y, HOT2.out, HJ2.out, HYL2.out⟩
            case measure => simp [intOf]; omega
          · have t0 : (((pb'.length + po'.length + pt'.length : Nat) : Int) == 0) = false := beq_eq_false_iff_ne.2 (by omega)
            have t1 : (wrap64 ((pb'.length : Int) + (po'.length : Int) + (pt'.length : Int)) == 0) = false := by rw [wrap_sum hle3]; exact t0
            clear hle0 hle3
            -- @dev{ L2K
            have HW5 : Hid (Below w.heap.size w W5) := HWW.out.trans ((HOT.out.below.trans (HB5.out.mono HOT.out.below.size)).mono HWW.out.size)
            have HKC := Lib.hid (rkind_c (p := ⟨pb', po', pt'⟩) (HT1.out.below HW5.out) (HT2.out.below HW5.out) (HT3.out.below HW5.out) HBN.out.1 HBN.out.2.1 HBN.out.2.2)
            have hfr : W5.frozen? ⟨wr.heap.size, 0, none⟩ = false := by simp [World.frozen?, HBK.out]
            obtain ⟨kd, hkd⟩ : ∃ kd, JoinS.kindOf (⟨pb', po', pt'⟩ : JoinS.Pt ByteArray) = kd := ⟨_, rfl⟩
            rw [hkd] at HKC
            have HKD := Lib.hid hkd
            clear hkd
            go_upto_region 27 with (go_at_call 96; refine HKC.out.mono ?_; rintro e W6 ⟨rfl, m6, rfl⟩; have k06 : (W5.drewN m6).cell? ⟨wr.heap.size, 0, none⟩ = some (.int .i64 0) := k0; have f06 : (W5.drewN m6).frozen? ⟨wr.heap.size, 0, none⟩ = false := hfr)
            obtain ⟨hb7, hg7⟩ := set_blk (w := W5.drewN m6) (p := wr.heap.size) HBK.out 0 (.int .i64 (kd : Int))
            have HBK7 : Hid (((W5.drewN m6).setCell ⟨wr.heap.size, 0, none⟩ (.int .i64 (kd : Int))).heap[wr.heap.size]? = some (.cells #[.int .i64 (kd : Int), .slice a1 pb'.length e1, .slice a2 po'.length e2, .slice a3 pt'.length e3] 159 (0, 0))) := hb7
            have HB7 : Hid (Below wr.heap.size wr ((W5.drewN m6).setCell ⟨wr.heap.size, 0, none⟩ (.int .i64 (kd : Int)))) := (HB5.out.trans ((below_dN (Below.refl _ W5) m6).mono HB5.out.size)).grown hg7 (Nat.le_trans HB5.out.size (below_dN (Below.refl W5.heap.size W5) m6).size) (fun k hk => by cases hk; exact Nat.le_refl _)
            have HOT7 := Lib.hid (HOT.out.step HB7.out)
            have HTX := Lib.hid (And.intro (HOT7.out.old HWW.out HT1.out) (And.intro (HOT7.out.old HWW.out HT2.out) (HOT7.out.old HWW.out HT3.out)))
            have HJ0 : Hid (¬ pb'.length + po'.length + pt'.length = 0) := h0
            clear hb7 hg7 HBK HB5 HOT HKC HW5 HBN hfr f06 k06 k0 k1 k2 k3 t0 t1 s1 s2 h0 HT1 HT2 HT3 HB7
            generalize (W5.drewN m6).setCell ⟨wr.heap.size, 0, none⟩ (.int .i64 (kd : Int)) = W7 at *
            generalize wr.heap.size = p21 at *
            have hyl := HYL.out
            have wl : IntKind.i64.wrap ((Y.length : Int) - 1) = (Y.length : Int) - 1 := IntWalk.i64_in _ (by omega)
            obtain ⟨oa, oc, hov, -, -, -⟩ := HOT7.out.row.form
            subst hov
            obtain ⟨x, hx⟩ : ∃ x : PtV, x = ⟨⟨pb', po', pt'⟩, .slice a1 pb'.length e1, .slice a2 po'.length e2, .slice a3 pt'.length e3⟩ := ⟨_, rfl⟩
            have HPC : Hid (pvC x = [.int .i64 (kd : Int), .slice a1 pb'.length e1, .slice a2 po'.length e2, .slice a3 pt'.length e3]) := by show _ = _; rw [hx]; unfold pvC; rw [HKD.out]
            have HXT : Hid (Tn W7 (fun g => Value.ownBlock (.slice oa Y.length oc) ≠ some g) x.b x.p.b ∧ Tn W7 (fun g => Value.ownBlock (.slice oa Y.length oc) ≠ some g) x.o x.p.o ∧ Tn W7 (fun g => Value.ownBlock (.slice oa Y.length oc) ≠ some g) x.t x.p.t) := by rw [hx]; exact HTX.out
            have hba : Below W7.heap.size W7 (W7.alloc (.cells (pvC x).toArray 159)) := (Below.refl _ W7).alloc (Nat.le_refl _) _
            have HBA := Lib.hid hba
            have HSRC : Hid (Src Tryz.prog 4 124 (.slice (some ⟨W7.heap.size, 0, none⟩) 1 1) 1 (pvC x) (W7.alloc (.cells (pvC x).toArray 159))) := Src.ofNew Tryz.underlying124 rfl (by rw [HPC.out]; intro u hu; simp at hu; rcases hu with rfl | rfl | rfl | rfl <;> rfl)
            have HOT8 := Lib.hid (HOT7.out.step hba)
            clear hba
            by_cases hk0 : kd = 0
            · have kk : ((kd : Int) == 0) = true := beq_iff_eq.2 (by omega)
              cases hgl : Y.getLast? with
              | none =>
                have hy0 : Y = [] := List.getLast?_eq_none_iff.1 hgl
                have kz : decide ((Y.length : Int) - 1 ≥ 0) = false := decide_eq_false (by rw [hy0]; simp)
                have kz2 : decide ((0 : Int) ≤ (Y.length : Int) - 1) = false := decide_eq_false (by rw [hy0]; simp)
                have kz3 : decide ((1 : Int) ≤ (Y.length : Int)) = false := decide_eq_false (by rw [hy0]; simp)
                have kz4 : decide (1 ≤ Y.length) = false := decide_eq_false (by rw [hy0]; simp)
                have kz5 : decide (0 < Y.length) = false := decide_eq_false (by rw [hy0]; simp)
                have kz6 : ¬ (0 : Int) ≤ (Y.length : Int) - 1 := by rw [hy0]; simp
                have HJ2 : Hid (Hid ((Y ++ [x]).map (·.p) = JoinS.joinAll [] ((X.map (·.p)).take (q + 1)))) := by
                  show _ = _
                  rw [HJT.out, List.map_append, hx]
                  unfold JoinS.join
                  rw [if_neg HJ0.out, hy0]; rfl
                clear hx HJT HJY HTX hk0 hy0 hgl
                have HB21 : Hid (W7.heap[p21]? = some (.cells (pvC x).toArray 159 (0, 0))) := by show _ = _; rw [HPC.out]; exact HBK7.out
                have k0 : W7.cell? ⟨p21, 0, none⟩ = some (.int .i64 (kd : Int)) := by simp only [World.cell?, HBK7.out]; rfl
                go_upto_region 32 with fail
                clear k0
                go_upto_region 23 with (first
                  | (refine wp_loadB rfl 159 _ rfl p21 rfl HB21.out _ Tryz.underlying159 rfl (by kernel_rfl) ?_)
                  | (refine wpList_build1 (cs := (pvC x).toArray) (n := 4) rfl _ rfl (by simp only [Act.put, List.setIfInBounds_toArray]; simp [Act.eval]) Tryz.underlying124 rpart_info rpart_zero (by decide) (by decide) rfl ?_)
                  | (refine wp_appG rfl _ _ _ _ rfl rpartElem rfl (v := .slice oa Y.length oc) (xv := .slice (some ⟨W7.heap.size, 0, none⟩) 1 1) (n := Y.length) (m := 1) rfl HOT8.out.row rfl HSRC.out (by simp only [maxLen]; omega) (by omega) ?_; intro v10 W10 ho10 hg10 hv10))
                have HO10 : Hid (Hid (Ot2 wz W10 v10 (Y ++ [x]))) := by
                  have k : ∀ g, Value.ownBlock (.slice oa Y.length oc) ≠ some g → g < W7.heap.size → (W7.alloc (.cells (pvC x).toArray 159)).heap[g]? = W7.heap[g]? ∧ Value.ownBlock (.slice oa Y.length oc) ≠ some g := fun g hF hl => ⟨HBA.out.block g hl, hF⟩
                  exact HOT8.out.app hg10 ho10 hv10 ⟨HXT.out.1.keep HBA.out.size k, HXT.out.2.1.keep HBA.out.size k, HXT.out.2.2.keep HBA.out.size k⟩
                have HYL2 : Hid (Hid ((Y ++ [x]).length ≤ q + 1)) := by show (Y ++ [x]).length ≤ q + 1; simp; exact HYL.out
                clear ho10 hg10 hv10 HOT8 HOT7 HXT HSRC HBA HPC HB21 HBK7 HYL HKD HJ0
                go_wp2_with fail
                go_roundw
                case rel => exact ⟨q + 1, hql, by go_num, Y ++ [x], HO10.out, HJ2.out, HYL2.out⟩
                case measure => simp [intOf]; omega
              | some z =>
                have hyne : Y ≠ [] := fun e => by rw [e] at hgl; cases hgl
                have hypos := List.length_pos_iff.2 hyne
                obtain ⟨m, hm⟩ : ∃ m, Y.length = m + 1 := ⟨Y.length - 1, by omega⟩
                have hzm : Y[m]? = some z := by rw [List.getLast?_eq_getElem?, show Y.length - 1 = m by omega] at hgl; exact hgl
                obtain ⟨hml, hze⟩ := List.getElem?_eq_some_iff.1 hzm
                obtain ⟨go, oo, co', e, -, hgo, hcs, -⟩ := HOT7.out.row.place (by omega)
                injection e with e _ ec
                subst e
                subst ec
                obtain ⟨kz, hkz⟩ : ∃ kz, JoinS.kindOf z.p = kz := ⟨_, rfl⟩
                have kc : W7.cell? ⟨go, oo + m * 4, none⟩ = some (.int .i64 (kz : Int)) := by
                  have h := pvR_get Y m hml 0 (by decide)
                  rw [Nat.add_zero, hze] at h
                  exact hcs _ _ (h.trans (by unfold pvC; rw [hkz]; rfl))
                have hl1 : (Y.length : Int) - 1 = (m : Int) := by omega
                have hmi : (m : Int) < (Y.length : Int) := by omega
                have hm0 : (0 : Int) ≤ (m : Int) := by omega
                have wm : IntKind.i64.wrap (m : Int) = (m : Int) := IntWalk.i64_in _ (by omega)
                by_cases hz0 : kz = 0
                · -- @dev{ L2Z
                  have kkz : ((kz : Int) == 0) = true := beq_iff_eq.2 (by omega)
                  obtain ⟨Y', hY'⟩ : ∃ Y', Y' ++ [z] = Y := ⟨Y.dropLast, JoinS.dl_last hgl⟩
                  have hmY : Y'.length = m := by have h := congrArg List.length hY'; rw [List.length_append, hm] at h; simpa using h
                  have hz3 := JoinS.kind0.1 (hkz.trans hz0)
                  have hx3 : po' = pb' ∧ pt' = pb' := JoinS.kind0.1 (HKD.out.trans hk0)
                  have hzs := joined_small (b := b) (o := o) (t := t) (q := q) (x := z.p) (by rw [← HXP.out, ← HJY.out]; exact List.mem_map_of_mem (by rw [← hY']; simp))
                  have hxs := HPS.out
                  have hbe : Below W7.heap.size W7 (W7.alloc (.cells #[] 9)) := (Below.refl _ W7).alloc (Nat.le_refl _) _
                  have hzt : Tl W7 z.b z.p.b := (HOT7.out.rd z (by rw [← hY']; simp)).1.tl
                  have hc1 : W7.cell? ⟨go, oo + m * 4 + 1, none⟩ = some z.b := by
                    have h := pvR_get Y m hml 1 (by decide)
                    rw [hze] at h
                    rw [Nat.add_assoc]; exact hcs _ _ h
                  have hp21 : p21 < W7.heap.size := (Array.getElem?_eq_some_iff.1 HBK7.out).1
                  have hx1 : W7.cell? ⟨p21, 1, none⟩ = some (.slice a1 pb'.length e1) := by simp only [World.cell?, HBK7.out]; rfl
                  have hgol : go < W7.heap.size := HOT7.out.row.lt rfl
                  have ha1 : (W7.alloc (.cells #[] 9)).cell? ⟨go, oo + m * 4 + 1, none⟩ = some z.b := (hbe.cell (p := ⟨go, oo + m * 4 + 1, none⟩) hgol).trans hc1
                  have HRE : Hid (OwnG (W7.alloc (.cells #[] 9)) 9 1 (.slice (some ⟨W7.heap.size, 0, none⟩) 0 0) 0 []) := ⟨rfl, .inr ⟨W7.heap.size, 0, 0, #[], rfl, Array.getElem?_push_size, Nat.le_refl _, Nat.zero_le _, Nat.zero_le _, fun j u hu => nomatch hu⟩⟩
                  have HS1 : Hid (Src Tryz.prog 1 82 z.b z.p.b.length (lrow z.p.b) (W7.alloc (.cells #[] 9))) := src_tl (hzt.below hbe)
                  have HXT1 : Hid (Tl W7 (.slice a1 pb'.length e1) pb') := HTX.out.1.tl
                  have HBE := Lib.hid hbe
                  have HX1 := Lib.hid hx1
                  have HP21 := Lib.hid hp21
                  have HGO := Lib.hid hgol
                  have HY := Lib.hid hY'
                  have HMY := Lib.hid hmY
                  have HHM := Lib.hid hm
                  have HJ2 : Hid (∀ v, (Y' ++ [(⟨⟨z.p.b ++ pb', z.p.o ++ po', z.p.t ++ pt'⟩, v, v, v⟩ : PtV)]).map (·.p) = JoinS.joinAll [] ((X.map (·.p)).take (q + 1))) := by
                    intro v
                    rw [HJT.out]
                    unfold JoinS.join
                    rw [if_neg HJ0.out, List.getLast?_map, hgl]
                    simp only [Option.map_some]
                    rw [if_pos ⟨HKD.out.trans hk0, hkz.trans hz0⟩, ← hY', List.map_append, List.map_append, List.map_singleton, List.map_singleton, List.dropLast_concat]
                  have HK2 : Hid (∀ v : Value, pvC (⟨⟨z.p.b ++ pb', z.p.o ++ po', z.p.t ++ pt'⟩, v, v, v⟩ : PtV) = [.int .i64 0, v, v, v]) := by
                    intro v
                    unfold pvC
                    rw [(JoinS.kind0 (p := (⟨z.p.b ++ pb', z.p.o ++ po', z.p.t ++ pt'⟩ : JoinS.Pt ByteArray))).2 ⟨by rw [hz3.1, hx3.1], by rw [hz3.2, hx3.2]⟩]; rfl
                  have HE3 : Hid (z.p.o ++ po' = z.p.b ++ pb' ∧ z.p.t ++ pt' = z.p.b ++ pb') := ⟨by rw [hz3.1, hx3.1], by rw [hz3.2, hx3.2]⟩
                  have hlz : z.p.b.length ≤ 3000 := by omega
                  have hlx : pb'.length ≤ 3000 := by omega
                  clear hx HJT HJY HTX hk0 hgl hyne hypos hm hzm hml hze hgo hcs hz0 hkz hz3 hx3 hzs hxs hzt hc1 hbe hx1 hp21 hgol hY' hmY HPS
                  obtain ⟨zv, hzv⟩ : ∃ v, z.b = v := ⟨_, rfl⟩
                  obtain ⟨zl, hzl⟩ : ∃ l, z.p.b = l := ⟨_, rfl⟩
                  rw [hzl] at hlz HS1 HE3
                  rw [hzv] at HS1 ha1
                  have HZL := Lib.hid hzl
                  clear hzv hzl
                  have k0 : W7.cell? ⟨p21, 0, none⟩ = some (.int .i64 (kd : Int)) := by simp only [World.cell?, HBK7.out]; rfl
                  go_upto_region 29 with fail
                  clear k0
                  go_upto_region 30 with (refine wp_appG rfl _ _ _ _ rfl ES rfl (v := .slice (some ⟨W7.heap.size, 0, none⟩) 0 0) (xv := zv) (n := 0) (m := zl.length) rfl HRE.out rfl HS1.out (by simp only [maxLen]; omega) (by omega) ?_; intro v8 W8 ho8 hg8 hv8)
                  rw [Nat.zero_add, List.nil_append] at ho8
                  have HB8 : Hid (Below W7.heap.size W7 W8) := HBE.out.grown hg8 HBE.out.size (fun k hk => by cases hk; exact Nat.le_refl _)
                  have HO8 := Lib.hid ho8
                  have HV8 : Hid (∀ k, v8.ownBlock = some k → W7.heap.size ≤ k) := fun k hk => (hv8 k hk).elim (fun e => by cases e; exact Nat.le_refl _) (fun h => Nat.le_trans HBE.out.size h)
                  have hx8 : W8.cell? ⟨p21, 1, none⟩ = some (.slice a1 pb'.length e1) := (HB8.out.cell (p := ⟨p21, 1, none⟩) HP21.out).trans HX1.out
                  have HS2 : Hid (Src Tryz.prog 1 82 (.slice a1 pb'.length e1) pb'.length (lrow pb') W8) := src_tl (HXT1.out.below HB8.out)
                  clear ho8 hg8 hv8 ha1 HRE HS1 HBE
                  go_upto_region 31 with (refine wp_appG rfl _ _ _ _ rfl ES rfl (v := v8) (xv := .slice a1 pb'.length e1) (n := zl.length) (m := pb'.length) rfl HO8.out rfl HS2.out (by simp only [maxLen]; omega) (by omega) ?_; intro v9 W9 ho9 hg9 hv9)
                  have HB9 : Hid (Below W7.heap.size W7 W9) := HB8.out.grown hg9 HB8.out.size (fun k hk => HV8.out k hk)
                  have HV9 : Hid (∀ k, v9.ownBlock = some k → W7.heap.size ≤ k) := fun k hk => (hv9 k hk).elim (HV8.out k) (fun h => Nat.le_trans HB8.out.size h)
                  rw [← List.length_append, ← lrow_app] at ho9
                  have HT9 : Hid (Tn W9 (fun g => Value.ownBlock (.slice (some ⟨go, oo, none⟩) Y.length oc) ≠ some g) v9 (zl ++ pb')) := Tn.of_own ho9 (fun b hb e => by have h1 := HV9.out b hb; have h2 := HGO.out; have h3 : go = b := Option.some.inj e; omega)
                  obtain ⟨a9, c9, h9, -, -, -⟩ := ho9.form
                  clear ho9 hg9 hv9 HO8 HV8 HS2 hx8 HB8
                  obtain ⟨y2, hy2⟩ : ∃ y, y = (⟨⟨z.p.b ++ pb', z.p.o ++ po', z.p.t ++ pt'⟩, v9, v9, v9⟩ : PtV) := ⟨_, rfl⟩
                  have HJ3 : Hid (Hid ((Y' ++ [y2]).map (·.p) = JoinS.joinAll [] ((X.map (·.p)).take (q + 1)))) := by rw [hy2]; exact HJ2.out v9
                  have hput : Ot2 wz (W9.setCells go (oo + m * 4) [.int .i64 0, v9, v9, v9]) (.slice (some ⟨go, oo, none⟩) Y.length oc) (Y' ++ [y2]) ∧ W9.there go (oo + m * 4) 4 := by
                    have h0 : Ot2 wz W9 (.slice (some ⟨go, oo, none⟩) (Y' ++ [z]).length oc) (Y' ++ [z]) := by rw [HY.out]; exact HOT7.out.step HB9.out
                    have h1 := h0.put (x := y2) (by
                      rw [HY.out, hy2]
                      show Tn _ _ v9 _ ∧ Tn _ _ v9 _ ∧ Tn _ _ v9 _
                      simp only [HZL.out, HE3.out.1, HE3.out.2]
                      exact ⟨HT9.out, HT9.out, HT9.out⟩)
                    have h2 : pvC y2 = [.int .i64 0, v9, v9, v9] := by rw [hy2]; exact HK2.out v9
                    rw [HMY.out, HY.out, h2] at h1
                    exact h1
                  have HPUT := Lib.hid hput
                  have HYL3 : Hid (Hid ((Y' ++ [y2]).length ≤ q + 1)) := by
                    show (Y' ++ [y2]).length ≤ q + 1
                    have h1 := HMY.out; have h2 := HHM.out; have h3 := HYL.out
                    rw [List.length_append, List.length_singleton]; omega
                  clear hput hy2 HJ2 HK2 HE3 HT9 HZL HHM HMY HY HV9 HB9
                  obtain ⟨n9, hn9⟩ : ∃ n, (zl ++ pb').length = n := ⟨_, rfl⟩
                  rw [hn9] at h9
                  clear hn9
                  subst h9
                  have HBD : Hid (∀ w, (Instr.build 159 #[(1, .slice a9 n9 c9), (2, .slice a9 n9 c9), (3, .slice a9 n9 c9)]).run Tryz.prog w = .ok (.agg #[.int .i64 0, .slice a9 n9 c9, .slice a9 n9 c9, .slice a9 n9 c9]) w) := fun w => rb_rpart _ _ _ _ _ _ _ _ _ w
                  go_upto_region 23 with (first
                    | (refine wpList_bld rfl _ rfl (by simp only [Act.put, List.setIfInBounds_toArray]; simp [Act.eval]; rfl) HBD.out ?_)
                    | (refine wpList_store_mid rfl 159 _ _ rfl go (oo + m * 4) #[.int .i64 0, .slice a9 n9 c9, .slice a9 n9 c9, .slice a9 n9 c9] rfl rfl HPUT.out.2 (by kernel_rfl) (by kernel_rfl) ?_))
                  have HO10 : Hid (Hid (Ot2 wz (W9.setCells go (oo + m * 4) [.int .i64 0, .slice a9 n9 c9, .slice a9 n9 c9, .slice a9 n9 c9]) (.slice (some ⟨go, oo, none⟩) Y.length oc) (Y' ++ [y2]))) := HPUT.out.1
                  clear HPUT HBD HOT8 HOT7 HXT HSRC HBA HPC HBK7 HYL HKD HJ0
                  go_wp2_with fail
                  go_roundw
                  case rel => exact ⟨q + 1, hql, by go_num, Y' ++ [y2], HO10.out, HJ3.out, HYL3.out⟩
                  case measure => simp [intOf]; omega
                · have kkz : ((kz : Int) == 0) = false := beq_eq_false_iff_ne.2 (by omega)
                  have HJ2 : Hid (Hid ((Y ++ [x]).map (·.p) = JoinS.joinAll [] ((X.map (·.p)).take (q + 1)))) := by
                    show _ = _
                    rw [HJT.out, List.map_append, hx]
                    unfold JoinS.join
                    rw [if_neg HJ0.out, List.getLast?_map, hgl]
                    simp only [Option.map_some, hkz, hz0, and_false, if_false]; rfl
                  clear hx HJT HJY HTX hk0 hgl hyne hypos hm hzm hml hze hgo hcs hz0 hkz
                  have HB21 : Hid (W7.heap[p21]? = some (.cells (pvC x).toArray 159 (0, 0))) := by show _ = _; rw [HPC.out]; exact HBK7.out
                  have k0 : W7.cell? ⟨p21, 0, none⟩ = some (.int .i64 (kd : Int)) := by simp only [World.cell?, HBK7.out]; rfl
                  go_upto_region 32 with fail
                  clear k0
                  go_upto_region 23 with (first
                    | (refine wp_loadB rfl 159 _ rfl p21 rfl HB21.out _ Tryz.underlying159 rfl (by kernel_rfl) ?_)
                    | (refine wpList_build1 (cs := (pvC x).toArray) (n := 4) rfl _ rfl (by simp only [Act.put, List.setIfInBounds_toArray]; simp [Act.eval]) Tryz.underlying124 rpart_info rpart_zero (by decide) (by decide) rfl ?_)
                    | (refine wp_appG rfl _ _ _ _ rfl rpartElem rfl (v := .slice (some ⟨go, oo, none⟩) Y.length oc) (xv := .slice (some ⟨W7.heap.size, 0, none⟩) 1 1) (n := Y.length) (m := 1) rfl HOT8.out.row rfl HSRC.out (by simp only [maxLen]; omega) (by omega) ?_; intro v10 W10 ho10 hg10 hv10))
                  have HO10 : Hid (Hid (Ot2 wz W10 v10 (Y ++ [x]))) := by
                    have k : ∀ g, Value.ownBlock (.slice (some ⟨go, oo, none⟩) Y.length oc) ≠ some g → g < W7.heap.size → (W7.alloc (.cells (pvC x).toArray 159)).heap[g]? = W7.heap[g]? ∧ Value.ownBlock (.slice (some ⟨go, oo, none⟩) Y.length oc) ≠ some g := fun g hF hl => ⟨HBA.out.block g hl, hF⟩
                    exact HOT8.out.app hg10 ho10 hv10 ⟨HXT.out.1.keep HBA.out.size k, HXT.out.2.1.keep HBA.out.size k, HXT.out.2.2.keep HBA.out.size k⟩
                  have HYL2 : Hid (Hid ((Y ++ [x]).length ≤ q + 1)) := by show (Y ++ [x]).length ≤ q + 1; simp; exact HYL.out
                  clear ho10 hg10 hv10 HOT8 HOT7 HXT HSRC HBA HPC HB21 HBK7 HYL HKD HJ0
                  go_wp2_with fail
                  go_roundw
                  case rel => exact ⟨q + 1, hql, by go_num, Y ++ [x], HO10.out, HJ2.out, HYL2.out⟩
                  case measure => simp [intOf]; omega
            · have kk : ((kd : Int) == 0) = false := beq_eq_false_iff_ne.2 (by omega)
              have HJ2 : Hid (Hid ((Y ++ [x]).map (·.p) = JoinS.joinAll [] ((X.map (·.p)).take (q + 1)))) := by
                show _ = _
                rw [HJT.out, List.map_append, hx]
                unfold JoinS.join
                rw [if_neg HJ0.out]
                cases hgl : (Y.map (·.p)).getLast? with
                | none => rfl
                | some r => simp only [HKD.out, hk0, false_and, if_false]; rfl
              clear hx HJT HJY HTX hk0
              have HB21 : Hid (W7.heap[p21]? = some (.cells (pvC x).toArray 159 (0, 0))) := by show _ = _; rw [HPC.out]; exact HBK7.out
              have k0 : W7.cell? ⟨p21, 0, none⟩ = some (.int .i64 (kd : Int)) := by simp only [World.cell?, HBK7.out]; rfl
              go_upto_region 32 with fail
              clear k0
              go_upto_region 23 with (first
                | (refine wp_loadB rfl 159 _ rfl p21 rfl HB21.out _ Tryz.underlying159 rfl (by kernel_rfl) ?_)
                | (refine wpList_build1 (cs := (pvC x).toArray) (n := 4) rfl _ rfl (by simp only [Act.put, List.setIfInBounds_toArray]; simp [Act.eval]) Tryz.underlying124 rpart_info rpart_zero (by decide) (by decide) rfl ?_)
                | (refine wp_appG rfl _ _ _ _ rfl rpartElem rfl (v := .slice oa Y.length oc) (xv := .slice (some ⟨W7.heap.size, 0, none⟩) 1 1) (n := Y.length) (m := 1) rfl HOT8.out.row rfl HSRC.out (by simp only [maxLen]; omega) (by omega) ?_; intro v10 W10 ho10 hg10 hv10))
              have HO10 : Hid (Hid (Ot2 wz W10 v10 (Y ++ [x]))) := by
                have k : ∀ g, Value.ownBlock (.slice oa Y.length oc) ≠ some g → g < W7.heap.size → (W7.alloc (.cells (pvC x).toArray 159)).heap[g]? = W7.heap[g]? ∧ Value.ownBlock (.slice oa Y.length oc) ≠ some g := fun g hF hl => ⟨HBA.out.block g hl, hF⟩
                exact HOT8.out.app hg10 ho10 hv10 ⟨HXT.out.1.keep HBA.out.size k, HXT.out.2.1.keep HBA.out.size k, HXT.out.2.2.keep HBA.out.size k⟩
              have HYL2 : Hid (Hid ((Y ++ [x]).length ≤ q + 1)) := by show (Y ++ [x]).length ≤ q + 1; simp; exact HYL.out
              clear ho10 hg10 hv10 HOT8 HOT7 HXT HSRC HBA HPC HB21 HBK7 HYL HKD HJ0
              go_wp2_with fail
              go_roundw
              case rel => exact ⟨q + 1, hql, by go_num, Y ++ [x], HO10.out, HJ2.out, HYL2.out⟩
              case measure => simp [intOf]; omega
        · have hqe : q = X.length := by omega
          subst hqe
          have c1 : decide ((X.length : Int) < (X.length : Int)) = false := decide_eq_false (by omega)
          have HF : Hid (Y.map (·.p) = JoinS.joinAll [] (JoinS.parts b o t)) := by
            show _ = _
            have h := HJY.out
            rw [List.take_of_length_le (by simp), HXP.out] at h; exact h
          have HQ : Hid (QR wr u19 Y) := ⟨HOT.out.row, fun y hy => by obtain ⟨h1, h2, h3⟩ := HOT.out.rd y hy; exact ⟨h1.tl, h2.tl, h3.tl⟩, by have := HYL.out; omega⟩
          have HBF : Hid (Below w.heap.size w wr) := HWW.out.trans (HOT.out.below.mono HWW.out.size)
          clear HOT HJY HYL
          go_wp2_with fail
          go_ret2
          exact ⟨_, Y, rfl, HQ.out, HF.out, HBF.out⟩
end Go.Proofs.YtpcipdkoncmdcaaGreatDoor
