/- Texts of mine, joined: Walks: outcomes cloned, join.Moved. -/
import Derived.Test.YtpcipdkoncmdcaaGreatDoorZ32
namespace Go.Proofs.YtpcipdkoncmdcaaGreatDoor
open Go Go.RowKit

/-- Outcomes in a block of one's own, from its beginning. -/
structure OW (w : World) (g : Nat) (V : List Ov) : Prop where
  tag : ∃ cur, w.heap[g]? = some (.cells cur 54 (0, 0)) ∧ V.length * 135 ≤ cur.size
  rg : ∀ j (hj : j < V.length), w.rangeAt g (j * 135) (ouC V[j])
  ok : ∀ x ∈ V, OkOu x.o
section
variable {w w' : World} {g : Nat} {V : List Ov}
theorem OW.lt (h : OW w g V) : g < w.heap.size := by obtain ⟨cur, h1, _⟩ := h.tag; exact (Array.getElem?_eq_some_iff.1 h1).1
theorem OW.block (h : OW w g V) (hb : w'.heap[g]? = w.heap[g]?) : OW w' g V := by
  obtain ⟨cur, h1, h2⟩ := h.tag
  refine ⟨⟨cur, hb.trans h1, h2⟩, fun j hj i u hu => ?_, h.ok⟩
  have := h.rg j hj i u hu
  simp only [World.cell?, hb] at this ⊢; exact this
theorem OW.below (h : OW w g V) (hb : Below w.heap.size w w') : OW w' g V := h.block (hb.block g h.lt)
theorem OW.fz (h : OW w g V) (j : Nat) : w.frozen? ⟨g, j, none⟩ = false := by
  obtain ⟨cur, h1, _⟩ := h.tag
  simp [World.frozen?, h1]
theorem OW.cell (h : OW w g V) {j i : Nat} (hj : j < V.length) {u : Value} (hu : (ouC V[j])[i]? = some u) : w.cell? ⟨g, j * 135 + i, none⟩ = some u := h.rg j hj i u hu
theorem OW.or (h : OW w g V) (c : Nat) : OR w (.slice (some ⟨g, 0, none⟩) V.length c) V := by
  refine ⟨⟨_, _, rfl, .inr ⟨g, 0, rfl, h.lt, fun i u hu => ?_⟩⟩, h.ok⟩
  rw [Nat.zero_add]
  have hl := (List.getElem?_eq_some_iff.1 hu).1
  rw [ouR_len h.ok] at hl
  have hj : i / 135 < V.length := by omega
  have hi : i % 135 < 135 := Nat.mod_lt _ (by decide)
  have he : i = i / 135 * 135 + i % 135 := by omega
  rw [he, ouR_get h.ok _ hj _ hi] at hu
  rw [he]; exact h.rg _ hj _ u hu
/-- A cell of an outcome is turned. -/
theorem OW.put1 (h : OW w g V) {i : Nat} (hi : i < V.length) {k : Nat} (hk : k < 135) {u : Value} {x : Ov} (hx : OkOu x.o) (hc : ouC x = (ouC V[i]).set k u) :
    OW (w.setCell ⟨g, i * 135 + k, none⟩ u) g (V.set i x) ∧ w.grownBy (w.setCell ⟨g, i * 135 + k, none⟩ u) (some g) := by
  have hg := grown_set w g (i * 135 + k) u
  obtain ⟨cur, h1, h2⟩ := h.tag
  have hb := (set_blk h1 (i * 135 + k) u).1
  have hvi : ∀ y ∈ V, (ouC y).length = 135 := fun y hy => ouC_len (h.ok y hy)
  refine ⟨⟨⟨_, hb, by simpa using h2⟩, fun j hj m v hv => ?_, fun y hy => ?_⟩, hg⟩
  · have hj' : j < V.length := by simpa using hj
    simp only [World.cell?, hb]
    have hcur : ∀ {q : Nat} {t : Value}, (ouC V[j])[q]? = some t → cur[j * 135 + q]? = some t := by
      intro q t ht
      have := h.rg j hj' q t ht
      simpa [World.cell?, h1] using this
    by_cases e : j = i
    · subst e
      rw [List.getElem_set_self] at hv
      rw [hc] at hv
      by_cases em : m = k
      · subst em
        have hkl : m < (ouC V[j]).length := by rw [hvi _ (List.getElem_mem hj')]; exact hk
        rw [List.getElem?_set_self hkl] at hv
        have hin : j * 135 + m < cur.size := by have := hcur (List.getElem?_eq_getElem hkl); exact (Array.getElem?_eq_some_iff.1 this).1
        rw [← hv]; simp [hin]
      · rw [List.getElem?_set_ne (fun e => em e.symm)] at hv
        rw [Array.getElem?_setIfInBounds_ne (by omega)]
        simpa using hcur hv
    · rw [List.getElem_set_ne (fun e' => e e'.symm)] at hv
      have hm : m < 135 := by have := (List.getElem?_eq_some_iff.1 hv).1; rw [hvi _ (List.getElem_mem hj')] at this; exact this
      rw [Array.getElem?_setIfInBounds_ne (by omega)]
      simpa using hcur hv
  · rcases List.mem_or_eq_of_mem_set hy with hy | rfl
    · exact h.ok y hy
    · exact hx
/-- Cells of an outcome are turned. -/
theorem OW.puts (h : OW w g V) {i : Nat} (hi : i < V.length) {A B C B' : List Value} (ha : ouC V[i] = A ++ (B ++ C)) (hl : B'.length = B.length) {k : Nat} (hk : A.length = k) {x : Ov} (hx : OkOu x.o) (hc : ouC x = A ++ (B' ++ C)) :
    OW (w.setCells g (i * 135 + k) B') g (V.set i x) ∧ w.grownBy (w.setCells g (i * 135 + k) B') (some g) := by
  have hg := setCells_grown w g (i * 135 + k) B'
  obtain ⟨cur, h1, h2⟩ := h.tag
  have hvi : ∀ y ∈ V, (ouC y).length = 135 := fun y hy => ouC_len (h.ok y hy)
  have h135 : A.length + (B.length + C.length) = 135 := by
    have := hvi _ (List.getElem_mem hi)
    rw [ha, List.length_append, List.length_append] at this; exact this
  have hfit : (i + 1) * 135 ≤ V.length * 135 := Nat.mul_le_mul_right _ hi
  have hfit' : (i + 1) * 135 = i * 135 + 135 := by omega
  obtain ⟨cur', c1, c2, c3⟩ := setCells_block g B' (i * 135 + k) w cur 54 (0, 0) h1 (by omega)
  refine ⟨⟨⟨_, c1, by rw [List.length_set, c2]; exact h2⟩, fun j hj m v hv => ?_, fun y hy => ?_⟩, hg⟩
  · have hj' : j < V.length := by simpa using hj
    simp only [World.cell?, c1]
    have hcur : ∀ {q : Nat} {t : Value}, (ouC V[j])[q]? = some t → cur[j * 135 + q]? = some t := by
      intro q t ht
      have := h.rg j hj' q t ht
      simpa [World.cell?, h1] using this
    show cur'[j * 135 + m]? = some v
    rw [c3]
    by_cases e : j = i
    · subst e
      rw [List.getElem_set_self, hc] at hv
      by_cases em : j * 135 + k ≤ j * 135 + m ∧ j * 135 + m < j * 135 + k + B'.length
      · rw [if_pos em]
        rw [List.getElem?_append_right (by omega), List.getElem?_append_left (by omega)] at hv
        rw [← hv]; congr 1; omega
      · rw [if_neg em]
        refine hcur ?_
        rw [ha]
        by_cases e2 : m < A.length
        · rw [List.getElem?_append_left e2] at hv ⊢; exact hv
        · rw [List.getElem?_append_right (by omega), List.getElem?_append_right (by omega), hl] at hv
          rw [List.getElem?_append_right (by omega), List.getElem?_append_right (by omega)]; exact hv
    · rw [List.getElem_set_ne (fun e' => e e'.symm)] at hv
      have hm : m < 135 := by have := (List.getElem?_eq_some_iff.1 hv).1; rw [hvi _ (List.getElem_mem hj')] at this; exact this
      rw [if_neg (by omega)]
      exact hcur hv
  · rcases List.mem_or_eq_of_mem_set hy with hy | rfl
    · exact h.ok y hy
    · exact hx
theorem OW.st_id (h : OW w g V) {i : Nat} (hi : i < V.length) {k : Nat} (hk : k + 32 ≤ 135) {y : List Nat} (hy : OkId y) : (Instr.storeAt 43 (.pointer (some ⟨g, i * 135 + k, none⟩)) (.agg (nums .u8 y))).run Tryz.prog w = .ok () (w.setCells g (i * 135 + k) (nb y)) := by
  obtain ⟨cur, h1, h2⟩ := h.tag
  have hfit : (i + 1) * 135 ≤ V.length * 135 := Nat.mul_le_mul_right _ hi
  refine run_storeAt_mid (P := Tryz.prog) w g (i * 135 + k) 43 (nums .u8 y) (fun j hj => ⟨?_, h.fz _⟩) (by rw [nums_size, hy.1]; kernel_rfl) (nums_one _ _)
  rw [nums_size, hy.1] at hj
  have hin : i * 135 + k + j < cur.size := by omega
  simp [World.cell?, h1, hin]
end
set_option maxRecDepth 100000 in
set_option maxHeartbeats 2000000 in
theorem oclone_c {w : World} {v : Value} {V : List Ov} (h : OR w v V) (hone : ∀ x ∈ V, x.tv.oneCell' = true) (hn : V.length ≤ 100000) : Calls Tryz.prog 40 #[v] w fun e w' => ∃ a c, e = .returned (.slice a V.length c) ∧ (V ≠ [] → ∃ g, a = some ⟨g, 0, none⟩ ∧ w.heap.size ≤ g ∧ OW w' g V) ∧ Below w.heap.size w w' := by
  obtain ⟨a, c, rfl, hs⟩ := h.sl
  have hok := h.ok
  have hnil := fun (W : World) (n c : Nat) => Lib.run_eql_slice_nil (P := Tryz.prog) W 29 _ a n c 0 0 Tryz.underlying29
  clear h
  cases a with
  | none =>
    have h0 : V = [] := by
      rcases hs with e | ⟨b, o, e, _⟩
      · have := ouR_len hok; rw [e] at this; exact List.eq_nil_of_length_eq_zero (by simp at this; omega)
      · cases e
    subst h0
    clear hs hok hone hn
    go_enter Tryz.func40, Tryz.ntmps40
    go_wp2_with fail
    go_ret
    exact ⟨none, 0, rfl, fun h => absurd rfl h, Below.refl _ _⟩
  | some ad =>
    by_cases h0 : V = []
    · subst h0
      have hBE : Below w.heap.size w (w.alloc (.cells #[] 54)) := (Below.refl _ w).alloc (Nat.le_refl _) _
      have hsrc : Src Tryz.prog 135 29 (.slice (some ad) 0 c) 0 [] (w.alloc (.cells #[] 54)) := Src.ofSlice _ Tryz.underlying29 _ 0 c [] rfl (fun j u hu => nomatch hu) (fun u hu => nomatch hu)
      have HSRC := Lib.hid hsrc
      have HBE := Lib.hid hBE
      clear hs hok hone hn hsrc hBE
      show Calls _ _ #[.slice (some ad) 0 c] _ _
      go_enter Tryz.func40, Tryz.ntmps40
      go_wp2_with (refine wp_app0 rfl _ _ _ _ rfl outElem rfl rfl HSRC.out ?_)
      go_ret
      exact ⟨_, 0, rfl, fun h => absurd rfl h, HBE.out⟩
    · have hlen : 0 < V.length := List.length_pos_iff.2 h0
      have hBE : Below w.heap.size w (w.alloc (.cells #[] 54)) := (Below.refl _ w).alloc (Nat.le_refl _) _
      have hsrc : Src Tryz.prog 135 29 (.slice (some ad) V.length c) V.length (ouR V) (w.alloc (.cells #[] 54)) := by
        obtain ⟨b, o, e, hl, hc⟩ := (hs.below hBE).resolve_left (fun e => by have := ouR_len hok; rw [e] at this; simp at this; omega)
        injection e with e
        subst e
        refine Src.ofSlice _ Tryz.underlying29 _ V.length c _ (ouR_len hok) (fun j u hu => by rw [Addr.add_lit]; exact hc j u hu) (fun u hu => ?_)
        obtain ⟨x, hx, hu⟩ := List.mem_flatMap.1 hu
        exact ouC_one (hone x hx) u hu
      have HSRC := Lib.hid hsrc
      have HBE := Lib.hid hBE
      have HOK := Lib.hid hok
      have HZ : Hid ((Tryz.zeroCells54).size = 135) := by show _ = _; kernel_rfl
      clear hs hone hsrc hBE hok h0
      go_enter Tryz.func40, Tryz.ntmps40
      go_wp2_with (refine wp_appNew rfl _ _ _ _ rfl outElem HZ.out rfl rfl HSRC.out hlen (by simp [maxLen]; omega) (by omega) ?_; intro cv w5 hcv ho2 hb2)
      go_ret
      rw [show (w.alloc (.cells #[] 54)).heap.size = w.heap.size + 1 by simp] at ho2
      refine ⟨_, cv, rfl, fun _ => ⟨w.heap.size + 1, rfl, Nat.le_succ _, ?_, fun j hj i u hu => ?_, HOK.out⟩, HBE.out.trans (hb2.mono HBE.out.size)⟩
      · rcases ho2.2 with ⟨e, _⟩ | ⟨g', o', cap, cur, e, hg, hn', -, hsz, -⟩
        · cases e
        · injection e with e _ e3
          injection e with e
          injection e with e1 e2
          subst e1 e2 e3
          exact ⟨cur, hg, by omega⟩
      · have hi : i < 135 := by have := (List.getElem?_eq_some_iff.1 hu).1; rw [ouC_len (HOK.out _ (List.getElem_mem hj))] at this; exact this
        exact ho2.cell (by rw [ouR_get HOK.out j hj i hi]; exact hu)
/-- An outcome with the sides turned about. -/
def Ou.sw (o : Ou) : Ou := { o with has := o.has.sw, ids := o.ids.sw }
theorem Ou.sw_ok {o : Ou} (h : OkOu o) : OkOu o.sw := ⟨h.id, h.ia, h.ic, h.ib, h.kd, h.st, h.pz⟩
theorem Tx.off {w w' : World} {v : Value} {t : ByteArray} {k : Nat} (h : Tx w v t) (hg : w.grownBy w' (some k)) (ho : t.size ≠ 0 → OffB v k) : Tx w' v t := by
  obtain ⟨a, c, rfl, h1, h2, h3, hs⟩ := h
  refine ⟨a, c, rfl, h1, h2, h3, ?_⟩
  rcases hs with e | ⟨b, o, rfl, hl, hc⟩
  · exact .inl e
  · by_cases h0 : t.size = 0
    · exact .inl (List.eq_nil_of_length_eq_zero ((bts_len t).trans h0))
    · have hne : b ≠ k := ho h0 _ _ _ rfl
      refine .inr ⟨b, o, rfl, Nat.lt_of_lt_of_le hl hg.size, fun i u hu => ?_⟩
      have hb := hg.block b hl (by simpa using hne)
      have := hc i u hu
      simp only [World.cell?, hb] at this ⊢; exact this
theorem Tx.lt {w : World} {t : ByteArray} {a : Addr} {n c : Nat} (h : Tx w (.slice (some a) n c) t) (h0 : t.size ≠ 0) : a.block < w.heap.size := by
  obtain ⟨a', c', e, h1, h2, h3, hs⟩ := h
  injection e with e _ _
  subst e
  rcases hs with e | ⟨b, o, e, hl, _⟩
  · exact absurd ((bts_len t).symm.trans (congrArg List.length e)) h0
  · injection e with e
    rw [e]; exact hl
theorem ouC_h1 (x : Ov) (h : OkOu x.o) (b : Bool) : ouC { x with o := { x.o with has := ⟨x.o.has.a, b, x.o.has.c⟩ } } = (ouC x).set 37 (.bool b) := by
  have hl := nb_len x.o.id
  rw [h.id.1] at hl
  unfold ouC
  rw [show (37 : Nat) = 35 + 1 + 1 from rfl, List.set_cons_succ, List.set_cons_succ, List.set_append_right _ _ (by omega), hl]
  rfl
theorem ouC_h2 (x : Ov) (h : OkOu x.o) (b : Bool) : ouC { x with o := { x.o with has := ⟨x.o.has.a, x.o.has.b, b⟩ } } = (ouC x).set 38 (.bool b) := by
  have hl := nb_len x.o.id
  rw [h.id.1] at hl
  unfold ouC
  rw [show (38 : Nat) = 36 + 1 + 1 from rfl, List.set_cons_succ, List.set_cons_succ, List.set_append_right _ _ (by omega), hl]
  rfl
theorem ouC_tv (x : Ov) (h : OkOu x.o) (v : Value) : ouC { x with tv := v } = (ouC x).set 35 v := by
  have hl := nb_len x.o.id
  rw [h.id.1] at hl
  unfold ouC
  rw [show (35 : Nat) = 33 + 1 + 1 from rfl, List.set_cons_succ, List.set_cons_succ, List.set_append_right _ _ (by omega), hl]
  rfl
theorem ouC_at (x : Ov) (h : OkOu x.o) : (ouC x)[35]? = some x.tv ∧ (ouC x)[37]? = some (.bool x.o.has.b) ∧ (ouC x)[38]? = some (.bool x.o.has.c) := by
  have hl := nb_len x.o.id
  rw [h.id.1] at hl
  unfold ouC
  refine ⟨?_, ?_, ?_⟩ <;> (simp only [List.getElem?_cons_succ, show (35 : Nat) = 33 + 1 + 1 from rfl, show (37 : Nat) = 35 + 1 + 1 from rfl, show (38 : Nat) = 36 + 1 + 1 from rfl]; rw [List.getElem?_append_right (by omega), hl]; rfl)
theorem ouC_b (x : Ov) : ouC x = (.string x.o.path :: .int .i64 x.o.kind :: (nb x.o.id ++ (.float .f64 x.o.stamp :: x.tv :: .bool x.o.has.a :: .bool x.o.has.b :: .bool x.o.has.c :: nb x.o.ids.a))) ++ (nb x.o.ids.b ++ nb x.o.ids.c) := by simp [ouC]
theorem ouC_c (x : Ov) : ouC x = (.string x.o.path :: .int .i64 x.o.kind :: (nb x.o.id ++ (.float .f64 x.o.stamp :: x.tv :: .bool x.o.has.a :: .bool x.o.has.b :: .bool x.o.has.c :: (nb x.o.ids.a ++ nb x.o.ids.b)))) ++ (nb x.o.ids.c ++ []) := by simp [ouC]
theorem OW.bc {w : World} {g : Nat} {V : List Ov} (h : OW w g V) {i : Nat} (hi : i < V.length) : w.rangeAt g (i * 135 + 71) (nb V[i].o.ids.b) ∧ w.rangeAt g (i * 135 + 103) (nb V[i].o.ids.c) := by
  have hok := h.ok _ (List.getElem_mem hi)
  have la := nb_len V[i].o.ids.a
  have lb := nb_len V[i].o.ids.b
  have l0 := nb_len V[i].o.id
  rw [hok.ia.1] at la
  rw [hok.ib.1] at lb
  rw [hok.id.1] at l0
  refine ⟨fun j u hu => ?_, fun j u hu => ?_⟩
  · rw [Nat.add_assoc]
    refine h.cell hi ?_
    rw [ouC_b, List.getElem?_append_right (by simp only [List.length_cons, List.length_append, l0, la]; omega)]
    simp only [List.length_cons, List.length_append, l0, la]
    rw [show 71 + j - (32 + (32 + 1 + 1 + 1 + 1 + 1) + 1 + 1) = j by omega, List.getElem?_append_left (List.getElem?_eq_some_iff.1 hu).1]; exact hu
  · rw [Nat.add_assoc]
    refine h.cell hi ?_
    rw [ouC_c, List.getElem?_append_right (by simp only [List.length_cons, List.length_append, l0, la, lb]; omega)]
    simp only [List.length_cons, List.length_append, l0, la, lb]
    rw [show 103 + j - (32 + (32 + 32 + 1 + 1 + 1 + 1 + 1) + 1 + 1) = j by omega, List.append_nil]; exact hu
/-- The outcomes while they are moved: the first i are, those from s on aren't yet. -/
structure MvI (w0 w : World) (g i s : Nat) (V V' : List Ov) : Prop where
  ow : OW w g V'
  len : V'.length = V.length
  fr : ∀ j, j < i → ∀ (h1 : j < V'.length) (h2 : j < V.length), V'[j].o = V[j].o.sw ∧ Tx w V'[j].tv V[j].o.text ∧ (V[j].o.text.size ≠ 0 → OffB V'[j].tv g)
  bk : ∀ j, s ≤ j → ∀ (h1 : j < V'.length) (h2 : j < V.length), V'[j] = V[j]
  g0 : w0.heap.size ≤ g
  below : Below w0.heap.size w0 w
section
variable {w0 w w' : World} {g i s : Nat} {V V' : List Ov} {x : Ov}
theorem MvI.turn (h : MvI w0 w g i s V V') (hb : Below w.heap.size w w') : MvI w0 w' g i s V V' :=
  ⟨h.ow.below hb, h.len, fun j hj h1 h2 => ⟨(h.fr j hj h1 h2).1, (h.fr j hj h1 h2).2.1.below hb, (h.fr j hj h1 h2).2.2⟩, h.bk, h.g0, h.below.trans (hb.mono h.below.size)⟩
theorem MvI.weak (h : MvI w0 w g i i V V') : MvI w0 w g i (i + 1) V V' := ⟨h.ow, h.len, h.fr, fun j hj => h.bk j (by omega), h.g0, h.below⟩
theorem MvI.put (h : MvI w0 w g i (i + 1) V V') (hw : OW w' g (V'.set i x)) (hg : w.grownBy w' (some g)) : MvI w0 w' g i (i + 1) V (V'.set i x) := by
  refine ⟨hw, by rw [List.length_set]; exact h.len, fun j hj h1 h2 => ?_, fun j hj h1 h2 => ?_, h.g0, h.below.grown hg h.below.size (fun k hk => by cases hk; exact h.g0)⟩
  · have hj' : j < V'.length := by simpa using h1
    rw [List.getElem_set_ne (by omega)]
    have hf := h.fr j hj hj' h2
    exact ⟨hf.1, hf.2.1.off hg hf.2.2, hf.2.2⟩
  · have hj' : j < V'.length := by simpa using h1
    rw [List.getElem_set_ne (by omega)]
    exact h.bk j hj hj' h2
theorem MvI.done (h : MvI w0 w g i (i + 1) V V') (hi : i < V.length) (hi' : i < V'.length) (hx : V'[i].o = V[i].o.sw) (ht : Tx w V'[i].tv V[i].o.text) (ho : V[i].o.text.size ≠ 0 → OffB V'[i].tv g) : MvI w0 w g (i + 1) (i + 1) V V' := by
  refine ⟨h.ow, h.len, fun j hj h1 h2 => ?_, h.bk, h.g0, h.below⟩
  by_cases e : j = i
  · subst e; exact ⟨hx, ht, ho⟩
  · exact h.fr j (by omega) h1 h2
end
set_option maxRecDepth 100000 in
set_option maxHeartbeats 8000000 in
theorem moved_c {w : World} {v : Value} {V : List Ov} (h : OR w v V) (htx : ∀ x ∈ V, Tx w x.tv x.o.text ∧ x.o.text.size ≤ 1000000000) (hn : V.length ≤ 100000) :
    Calls Tryz.prog 23 #[v] w fun e w' => ∃ v' V', e = .returned v' ∧ OR w' v' V' ∧ V'.map (·.o) = V.map (fun x => x.o.sw) ∧ (∀ x ∈ V', Tx w' x.tv x.o.text ∧ x.o.text.size ≤ 1000000000) ∧ Below w.heap.size w w' := by
  have HCL := Lib.hid (oclone_c h (fun x hx => tx_one (htx x hx).1) hn)
  have HTX := Lib.hid htx
  have HOK := Lib.hid h.ok
  clear h htx
  go_enter Tryz.func23, Tryz.ntmps23
  go_upto_region 2 with (go_at_call 40; refine HCL.out.mono ?_; rintro e w1 ⟨a, c, rfl, hgx, hb1⟩)
  clear HCL
  by_cases h0 : V = []
  · subst h0
    have HB1 := Lib.hid hb1
    clear hgx hb1 HTX HOK hn
    have kz : decide (((0 : Nat) : Int) < ((0 : Nat) : Int)) = false := by decide
    go_upto_region 3 with fail
    refine wp_loop_once ?_
    go_wp2_with fail
    go_ret
    refine ⟨_, [], rfl, ⟨⟨a, c, rfl, .inl rfl⟩, fun x hx => nomatch hx⟩, rfl, fun x hx => (nomatch hx), HB1.out⟩
  · obtain ⟨g, rfl, hg0, how⟩ := hgx h0
    have hm : MvI w w1 g 0 0 V V := ⟨how, rfl, fun j hj => absurd hj (Nat.not_lt_zero _), fun _ _ _ _ => rfl, hg0, hb1⟩
    have HM := Lib.hid hm
    clear hgx hm how hg0 hb1 h0
    go_upto_region 3 with fail
    go_loopw [10] (fun iv wx => ∃ i : Nat, i ≤ V.length ∧ iv = .int .i64 i ∧ ∃ V', Hid (MvI w wx g i i V V')) (fun iv _ => (V.length - intOf iv).toNat)
    case atStart => exact ⟨0, Nat.zero_le _, rfl, V, HM⟩
    case round =>
      clear HM
      obtain ⟨i, hi, rfl, V', HM⟩ := hrel
      by_cases hlt : i < V.length
      · have d1 : decide ((i : Int) < (V.length : Int)) = true := decide_eq_true (by omega)
        have d2 : decide (i < V.length) = true := decide_eq_true hlt
        have d3 : (0 : Int) ≤ (i : Int) := by omega
        have d4 : (i : Int) < (V.length : Int) := by omega
        have dw : IntKind.i64.wrap ((i : Int) + 1) = ((i + 1 : Nat) : Int) := IntWalk.i64_in _ (by omega)
        have hl' : i < V'.length := by rw [HM.out.len]; exact hlt
        have hxv : V'[i] = V[i] := HM.out.bk i (Nat.le_refl _) hl' hlt
        have hok : OkOu V[i].o := HOK.out _ (List.getElem_mem hlt)
        have htv := HTX.out V[i] (List.getElem_mem hlt)
        obtain ⟨x, hx⟩ : ∃ x, V[i] = x := ⟨_, rfl⟩
        rw [hx] at hxv hok htv
        have HXV := Lib.hid hxv
        have HXX := Lib.hid hx
        have HLL := Lib.hid hl'
        have HXO := Lib.hid hok
        have HTV := Lib.hid htv
        clear hx hxv hok htv
        go_upto_region 6 with fail
        have hat := ouC_at x HXO.out
        have hs0 : (wr.drewN 1).cell? ⟨g, i * 135 + 38, none⟩ = some (.bool x.o.has.c) ∧ (wr.drewN 1).cell? ⟨g, i * 135 + 37, none⟩ = some (.bool x.o.has.b) := ⟨HM.out.ow.cell HLL.out (by rw [HXV.out]; exact hat.2.2), HM.out.ow.cell HLL.out (by rw [HXV.out]; exact hat.2.1)⟩
        have how0 : OW (wr.drewN 1) g V' := HM.out.ow.below (below_dN (Below.refl _ wr) 1)
        obtain ⟨how1, hg1⟩ := how0.put1 HLL.out (k := 37) (by decide) (u := .bool x.o.has.c) (x := { x with o := { x.o with has := ⟨x.o.has.a, x.o.has.c, x.o.has.c⟩ } }) ⟨HXO.out.id, HXO.out.ia, HXO.out.ib, HXO.out.ic, HXO.out.kd, HXO.out.st, HXO.out.pz⟩ (by rw [HXV.out]; exact ouC_h1 x HXO.out _)
        have hx1 : (V'.set i { x with o := { x.o with has := ⟨x.o.has.a, x.o.has.c, x.o.has.c⟩ } }).length = V'.length := List.length_set
        obtain ⟨how2, hg2⟩ := how1.put1 (i := i) (by rw [hx1]; exact HLL.out) (k := 38) (by decide) (u := .bool x.o.has.b) (x := { x with o := { x.o with has := x.o.has.sw } }) ⟨HXO.out.id, HXO.out.ia, HXO.out.ib, HXO.out.ic, HXO.out.kd, HXO.out.st, HXO.out.pz⟩ (by rw [List.getElem_set_self]; exact ouC_h2 { x with o := { x.o with has := ⟨x.o.has.a, x.o.has.c, x.o.has.c⟩ } } ⟨HXO.out.id, HXO.out.ia, HXO.out.ib, HXO.out.ic, HXO.out.kd, HXO.out.st, HXO.out.pz⟩ _)
        rw [List.set_set] at how2
        have hc38 : ((wr.drewN 1).setCell ⟨g, i * 135 + 37, none⟩ (.bool x.o.has.c)).cell? ⟨g, i * 135 + 38, none⟩ = some (.bool x.o.has.c) := how1.cell (by rw [hx1]; exact HLL.out) (by rw [List.getElem_set_self, ouC_h1 x HXO.out, List.getElem?_set_ne (by decide)]; exact hat.2.2)
        refine wp_region_hz (fun W => W.cell? ⟨g, i * 135 + 38, none⟩ = some (.bool x.o.has.c) ∧ W.cell? ⟨g, i * 135 + 37, none⟩ = some (.bool x.o.has.b)) (.tk 0 (.tk 1 (.tk 2 (.tk 3 (.tk 4 (.tk 5 (.tk 6 (.tk 7 (.tk 8 (.tk 9 (.tk 10 (.tk 11 (.tk 12 (.tk 13 (.tk 14 (.tk 16 (.tk 17 (.fc 15 (.tk 18 (.fc 19 (.nil))))))))))))))))))))) (by kernel_rfl) (by kernel_rfl) (fun _ _ _ _ _ h => h) ?_
        refine goZ_tk rfl rfl 16 rfl (.pointer (some ⟨g, i * 135, none⟩)) (fun _ => rfl) ?_
        simp only [List.setIfInBounds_toArray, List.set_cons_zero, List.set_cons_succ]
        refine goZ_tk rfl rfl 17 rfl (.pointer (some ⟨g, i * 135, none⟩)) (fun _ => rfl) ?_
        simp only [List.setIfInBounds_toArray, List.set_cons_zero, List.set_cons_succ]
        refine goZ_tk rfl rfl 18 rfl (.pointer (some ⟨g, i * 135, none⟩)) (fun _ => rfl) ?_
        simp only [List.setIfInBounds_toArray, List.set_cons_zero, List.set_cons_succ]
        refine goZ_tk rfl rfl 19 rfl (.pointer (some ⟨g, i * 135, none⟩)) (fun _ => by first | rfl | go_simp) ?_
        simp only [List.setIfInBounds_toArray, List.set_cons_zero, List.set_cons_succ]
        refine goZ_tk rfl rfl 20 rfl (.pointer (some ⟨g, i * 135 + 36, none⟩)) (fun _ => by first | rfl | go_simp) ?_
        simp only [List.setIfInBounds_toArray, List.set_cons_zero, List.set_cons_succ]
        refine goZ_tk rfl rfl 21 rfl (.pointer (some ⟨g, i * 135 + 38, none⟩)) (fun _ => by first | rfl | go_simp) ?_
        simp only [List.setIfInBounds_toArray, List.set_cons_zero, List.set_cons_succ]
        refine goZ_ld rfl rfl 22 rfl 4 _ rfl ⟨g, i * 135 + 38, none⟩ (.bool x.o.has.c) rfl (fun W hS => ld_bool _ _ W hS.1) (hs0) ?_
        simp only [List.setIfInBounds_toArray, List.set_cons_zero, List.set_cons_succ]
        refine goZ_tk rfl rfl 23 rfl (.pointer (some ⟨g, i * 135, none⟩)) (fun _ => rfl) ?_
        simp only [List.setIfInBounds_toArray, List.set_cons_zero, List.set_cons_succ]
        refine goZ_tk rfl rfl 24 rfl (.pointer (some ⟨g, i * 135, none⟩)) (fun _ => by first | rfl | go_simp) ?_
        simp only [List.setIfInBounds_toArray, List.set_cons_zero, List.set_cons_succ]
        refine goZ_tk rfl rfl 25 rfl (.pointer (some ⟨g, i * 135 + 36, none⟩)) (fun _ => by first | rfl | go_simp) ?_
        simp only [List.setIfInBounds_toArray, List.set_cons_zero, List.set_cons_succ]
        refine goZ_tk rfl rfl 26 rfl (.pointer (some ⟨g, i * 135 + 37, none⟩)) (fun _ => by first | rfl | go_simp) ?_
        simp only [List.setIfInBounds_toArray, List.set_cons_zero, List.set_cons_succ]
        refine goZ_ld rfl rfl 27 rfl 4 _ rfl ⟨g, i * 135 + 37, none⟩ (.bool x.o.has.b) rfl (fun W hS => ld_bool _ _ W hS.2) (hs0) ?_
        simp only [List.setIfInBounds_toArray, List.set_cons_zero, List.set_cons_succ]
        refine goZ_tk rfl rfl 28 rfl (.pointer (some ⟨g, i * 135, none⟩)) (fun _ => by first | rfl | go_simp) ?_
        simp only [List.setIfInBounds_toArray, List.set_cons_zero, List.set_cons_succ]
        refine goZ_tk rfl rfl 29 rfl (.pointer (some ⟨g, i * 135 + 36, none⟩)) (fun _ => by first | rfl | go_simp) ?_
        simp only [List.setIfInBounds_toArray, List.set_cons_zero, List.set_cons_succ]
        refine goZ_tk rfl rfl 30 rfl (.pointer (some ⟨g, i * 135 + 37, none⟩)) (fun _ => by first | rfl | go_simp) ?_
        simp only [List.setIfInBounds_toArray, List.set_cons_zero, List.set_cons_succ]
        refine goZ_tk rfl rfl 31 rfl (.pointer (some ⟨g, i * 135, none⟩)) (fun _ => by first | rfl | go_simp) ?_
        simp only [List.setIfInBounds_toArray, List.set_cons_zero, List.set_cons_succ]
        refine goZ_tk rfl rfl 32 rfl (.pointer (some ⟨g, i * 135 + 36, none⟩)) (fun _ => by first | rfl | go_simp) ?_
        simp only [List.setIfInBounds_toArray, List.set_cons_zero, List.set_cons_succ]
        refine goZ_st (ds' := []) rfl rfl (by kernel_rfl) rfl 4 _ _ rfl ⟨g, i * 135 + 37, none⟩ (.bool x.o.has.c) rfl rfl _ (st_bool3 _ _ _ _ hs0.2 (how0.fz _)) (fun h => absurd rfl h) ?_
        refine goZ_tk rfl rfl 33 rfl (.pointer (some ⟨g, i * 135 + 38, none⟩)) (fun _ => by first | rfl | go_simp) ?_
        simp only [List.setIfInBounds_toArray, List.set_cons_zero, List.set_cons_succ]
        refine goZ_st (ds' := []) rfl rfl (by kernel_rfl) rfl 4 _ _ rfl ⟨g, i * 135 + 38, none⟩ (.bool x.o.has.b) rfl rfl _ (st_bool3 _ _ _ _ hc38 (how1.fz _)) (fun h => absurd rfl h) ?_
        refine goZ_end ?_
        have hm2 := (((HM.out.weak.turn (below_dN (Below.refl _ wr) 1)).put how1 hg1).put (x := { x with o := { x.o with has := x.o.has.sw } }) (by rw [List.set_set]; exact how2) hg2)
        rw [List.set_set] at hm2
        have HM2 := Lib.hid hm2
        clear hs0 hat how0 how1 how2 hg1 hg2 hx1 hc38 hm2 HM
        generalize ((wr.drewN 1).setCell ⟨g, i * 135 + 37, none⟩ (.bool x.o.has.c)).setCell ⟨g, i * 135 + 38, none⟩ (.bool x.o.has.b) = W2 at *
        go_upto_region 7 with fail
        have hlen2 : i < (V'.set i { x with o := { x.o with has := x.o.has.sw } }).length := by rw [List.length_set]; exact HLL.out
        have how2 : OW (W2.drewN 1) g (V'.set i { x with o := { x.o with has := x.o.has.sw } }) := HM2.out.ow.below (below_dN (Below.refl _ W2) 1)
        have hbc := how2.bc hlen2
        rw [List.getElem_set_self] at hbc
        have hs0 : (W2.drewN 1).rangeAt g (i * 135 + 103) (nb x.o.ids.c) ∧ (W2.drewN 1).rangeAt g (i * 135 + 71) (nb x.o.ids.b) := ⟨hbc.2, hbc.1⟩
        obtain ⟨how3, hg3⟩ := how2.puts hlen2 (by rw [List.getElem_set_self]; exact ouC_b _) (B' := nb x.o.ids.c) (k := 71) (by simp only [nb_len]; rw [HXO.out.ib.1, HXO.out.ic.1]) (by simp [nb_len, HXO.out.id.1, HXO.out.ia.1]) (x := { x with o := { x.o with has := x.o.has.sw, ids := ⟨x.o.ids.a, x.o.ids.c, x.o.ids.c⟩ } }) ⟨HXO.out.id, HXO.out.ia, HXO.out.ic, HXO.out.ic, HXO.out.kd, HXO.out.st, HXO.out.pz⟩ (ouC_b _)
        rw [List.set_set] at how3
        have hlen3 : i < (V'.set i { x with o := { x.o with has := x.o.has.sw, ids := ⟨x.o.ids.a, x.o.ids.c, x.o.ids.c⟩ } }).length := by rw [List.length_set]; exact HLL.out
        obtain ⟨how4, hg4⟩ := how3.puts hlen3 (A := .string x.o.path :: .int .i64 x.o.kind :: (nb x.o.id ++ (.float .f64 x.o.stamp :: x.tv :: .bool x.o.has.a :: .bool x.o.has.c :: .bool x.o.has.b :: (nb x.o.ids.a ++ nb x.o.ids.c)))) (B := nb x.o.ids.c) (C := []) (by rw [List.getElem_set_self]; exact ouC_c { x with o := { x.o with has := x.o.has.sw, ids := ⟨x.o.ids.a, x.o.ids.c, x.o.ids.c⟩ } }) (B' := nb x.o.ids.b) (k := 103) (by simp only [nb_len]; rw [HXO.out.ib.1, HXO.out.ic.1]) (by simp [nb_len, HXO.out.id.1, HXO.out.ia.1, HXO.out.ic.1]) (x := { x with o := x.o.sw }) (Ou.sw_ok HXO.out) (ouC_c { x with o := x.o.sw })
        rw [List.set_set] at how4
        refine wp_region_hz (fun W => W.rangeAt g (i * 135 + 103) (nb x.o.ids.c) ∧ W.rangeAt g (i * 135 + 71) (nb x.o.ids.b)) (.tk 0 (.tk 1 (.tk 2 (.tk 3 (.tk 4 (.tk 5 (.tk 6 (.tk 7 (.tk 8 (.tk 9 (.tk 10 (.tk 11 (.tk 12 (.tk 13 (.tk 14 (.tk 16 (.tk 17 (.fc 15 (.tk 18 (.fc 19 (.nil))))))))))))))))))))) (by kernel_rfl) (by kernel_rfl) (fun _ _ _ _ _ h => h) ?_
        refine goZ_tk rfl rfl 34 rfl (.pointer (some ⟨g, i * 135, none⟩)) (fun _ => rfl) ?_
        simp only [List.setIfInBounds_toArray, List.set_cons_zero, List.set_cons_succ]
        refine goZ_tk rfl rfl 35 rfl (.pointer (some ⟨g, i * 135, none⟩)) (fun _ => rfl) ?_
        simp only [List.setIfInBounds_toArray, List.set_cons_zero, List.set_cons_succ]
        refine goZ_tk rfl rfl 36 rfl (.pointer (some ⟨g, i * 135, none⟩)) (fun _ => rfl) ?_
        simp only [List.setIfInBounds_toArray, List.set_cons_zero, List.set_cons_succ]
        refine goZ_tk rfl rfl 37 rfl (.pointer (some ⟨g, i * 135, none⟩)) (fun _ => by first | rfl | go_simp) ?_
        simp only [List.setIfInBounds_toArray, List.set_cons_zero, List.set_cons_succ]
        refine goZ_tk rfl rfl 38 rfl (.pointer (some ⟨g, i * 135 + 39, none⟩)) (fun _ => by first | rfl | go_simp) ?_
        simp only [List.setIfInBounds_toArray, List.set_cons_zero, List.set_cons_succ]
        refine goZ_tk rfl rfl 39 rfl (.pointer (some ⟨g, i * 135 + 103, none⟩)) (fun _ => by first | rfl | go_simp) ?_
        simp only [List.setIfInBounds_toArray, List.set_cons_zero, List.set_cons_succ]
        refine goZ_ld rfl rfl 40 rfl 43 _ rfl ⟨g, i * 135 + 103, none⟩ (.agg (nums .u8 x.o.ids.c)) rfl (fun W hS => ld_id HXO.out.ic hS.1) (hs0) ?_
        simp only [List.setIfInBounds_toArray, List.set_cons_zero, List.set_cons_succ]
        refine goZ_tk rfl rfl 41 rfl (.pointer (some ⟨g, i * 135, none⟩)) (fun _ => rfl) ?_
        simp only [List.setIfInBounds_toArray, List.set_cons_zero, List.set_cons_succ]
        refine goZ_tk rfl rfl 42 rfl (.pointer (some ⟨g, i * 135, none⟩)) (fun _ => by first | rfl | go_simp) ?_
        simp only [List.setIfInBounds_toArray, List.set_cons_zero, List.set_cons_succ]
        refine goZ_tk rfl rfl 43 rfl (.pointer (some ⟨g, i * 135 + 39, none⟩)) (fun _ => by first | rfl | go_simp) ?_
        simp only [List.setIfInBounds_toArray, List.set_cons_zero, List.set_cons_succ]
        refine goZ_tk rfl rfl 44 rfl (.pointer (some ⟨g, i * 135 + 71, none⟩)) (fun _ => by first | rfl | go_simp) ?_
        simp only [List.setIfInBounds_toArray, List.set_cons_zero, List.set_cons_succ]
        refine goZ_ld rfl rfl 45 rfl 43 _ rfl ⟨g, i * 135 + 71, none⟩ (.agg (nums .u8 x.o.ids.b)) rfl (fun W hS => ld_id HXO.out.ib hS.2) (hs0) ?_
        simp only [List.setIfInBounds_toArray, List.set_cons_zero, List.set_cons_succ]
        refine goZ_tk rfl rfl 46 rfl (.pointer (some ⟨g, i * 135, none⟩)) (fun _ => by first | rfl | go_simp) ?_
        simp only [List.setIfInBounds_toArray, List.set_cons_zero, List.set_cons_succ]
        refine goZ_tk rfl rfl 47 rfl (.pointer (some ⟨g, i * 135 + 39, none⟩)) (fun _ => by first | rfl | go_simp) ?_
        simp only [List.setIfInBounds_toArray, List.set_cons_zero, List.set_cons_succ]
        refine goZ_tk rfl rfl 48 rfl (.pointer (some ⟨g, i * 135 + 71, none⟩)) (fun _ => by first | rfl | go_simp) ?_
        simp only [List.setIfInBounds_toArray, List.set_cons_zero, List.set_cons_succ]
        refine goZ_tk rfl rfl 49 rfl (.pointer (some ⟨g, i * 135, none⟩)) (fun _ => by first | rfl | go_simp) ?_
        simp only [List.setIfInBounds_toArray, List.set_cons_zero, List.set_cons_succ]
        refine goZ_tk rfl rfl 50 rfl (.pointer (some ⟨g, i * 135 + 39, none⟩)) (fun _ => by first | rfl | go_simp) ?_
        simp only [List.setIfInBounds_toArray, List.set_cons_zero, List.set_cons_succ]
        refine goZ_st (ds' := []) rfl rfl (by kernel_rfl) rfl 43 _ _ rfl ⟨g, i * 135 + 71, none⟩ (.agg (nums .u8 x.o.ids.c)) rfl rfl _ (how2.st_id hlen2 (by decide) HXO.out.ic) (fun h => absurd rfl h) ?_
        refine goZ_tk rfl rfl 51 rfl (.pointer (some ⟨g, i * 135 + 103, none⟩)) (fun _ => by first | rfl | go_simp) ?_
        simp only [List.setIfInBounds_toArray, List.set_cons_zero, List.set_cons_succ]
        refine goZ_st (ds' := []) rfl rfl (by kernel_rfl) rfl 43 _ _ rfl ⟨g, i * 135 + 103, none⟩ (.agg (nums .u8 x.o.ids.b)) rfl rfl _ (how3.st_id hlen3 (by decide) HXO.out.ib) (fun h => absurd rfl h) ?_
        refine goZ_end ?_
        have hm4 := (((HM2.out.turn (below_dN (Below.refl _ W2) 1)).put (x := { x with o := { x.o with has := x.o.has.sw, ids := ⟨x.o.ids.a, x.o.ids.c, x.o.ids.c⟩ } }) (by rw [List.set_set]; exact how3) hg3).put (x := { x with o := x.o.sw }) (by rw [List.set_set, List.set_set]; exact how4) hg4)
        rw [List.set_set, List.set_set] at hm4
        have HM4 := Lib.hid hm4
        clear hs0 hbc how2 how3 how4 hg3 hg4 hlen2 hlen3 HM2 hm4
        generalize ((W2.drewN 1).setCells g (i * 135 + 71) (nb x.o.ids.c)).setCells g (i * 135 + 103) (nb x.o.ids.b) = W4 at *
        have hlen4 : i < (V'.set i { x with o := x.o.sw }).length := by rw [List.length_set]; exact HLL.out
        have HLEN4 := Lib.hid hlen4
        have hct : W4.cell? ⟨g, i * 135 + 35, none⟩ = some x.tv := HM4.out.ow.cell hlen4 (by rw [List.getElem_set_self]; exact (ouC_at { x with o := x.o.sw } (Ou.sw_ok HXO.out)).1)
        have HGL : Hid (g < W4.heap.size) := HM4.out.ow.lt
        have hw4 : Below w.heap.size w W4 := HM4.out.below
        have HBC := Lib.hid (bclone_c (HTV.out.1.below hw4) HTV.out.2)
        obtain ⟨tv, htv⟩ : ∃ tv, x.tv = tv := ⟨_, rfl⟩
        rw [htv] at hct
        have HCT := Lib.hid hct
        rw [htv] at HBC
        clear htv hw4 hlen4
        go_upto_region 9 with (go_at_call 41; refine HBC.out.mono ?_; rintro e W5 ⟨v5, rfl, htx5, hoff5, hb5⟩; obtain ⟨a5, c5, e5, hr5⟩ := id htx5; subst e5; have hc5 := (hb5.cell (p := ⟨g, i * 135 + 35, none⟩) HGL.out).trans HCT.out; have hm5 := HM4.out.turn hb5; have hf5 := hm5.ow.fz (i * 135 + 35))
        obtain ⟨how6, hg6⟩ := hm5.ow.put1 (i := i) HLEN4.out (k := 35) (by decide) (u := .slice a5 x.o.text.size c5) (x := { x with o := x.o.sw, tv := .slice a5 x.o.text.size c5 }) (Ou.sw_ok HXO.out) (by rw [List.getElem_set_self]; exact ouC_tv { x with o := x.o.sw } (Ou.sw_ok HXO.out) _)
        have hm6 := hm5.put how6 hg6
        have hoff : x.o.text.size ≠ 0 → OffB (.slice a5 x.o.text.size c5) g := fun h0 a n c e he => by
          have h1 := hoff5 h0 a n c e
          have := HGL.out
          omega
        have htx6 := htx5.off hg6 hoff
        rw [List.set_set] at hm6
        have HM6 : Hid (Hid (MvI w (W5.setCell ⟨g, i * 135 + 35, none⟩ (.slice a5 x.o.text.size c5)) g (i + 1) (i + 1) V (V'.set i { x with o := x.o.sw, tv := .slice a5 x.o.text.size c5 }))) :=
          hm6.done hlt (by rw [List.length_set]; exact HLL.out) (by rw [List.getElem_set_self, HXX.out]) (by rw [List.getElem_set_self, HXX.out]; exact htx6) (by rw [List.getElem_set_self, HXX.out]; exact hoff)
        clear hm6 htx6 hoff how6 hg6 hm5 hf5 hc5 hr5 htx5 hoff5 hb5 hct HCT HBC HM4 HLEN4 HGL HTV HXO HXV
        generalize W5.setCell ⟨g, i * 135 + 35, none⟩ (.slice a5 x.o.text.size c5) = W6 at *
        go_wp2_with fail
        go_roundw
        case rel => exact ⟨i + 1, hlt, by go_num, _, HM6.out⟩
        case measure => simp [intOf]; omega
      · have hin : i = V.length := by omega
        subst hin
        have d1 : decide ((V.length : Int) < (V.length : Int)) = false := decide_eq_false (by omega)
        have HE : Hid (OR wr (.slice (some ⟨g, 0, none⟩) V.length c) V') := by have h1 := HM.out.ow.or c; rw [HM.out.len] at h1; exact h1
        have hfr : ∀ j (h1 : j < V'.length) (h2 : j < V.length), _ := fun j h1 h2 => HM.out.fr j h2 h1 h2
        have HMAP : Hid (V'.map (·.o) = V.map fun x => x.o.sw) := by
          show _ = _
          apply List.ext_getElem (by simp [HM.out.len])
          intro j h1 h2
          rw [List.getElem_map, List.getElem_map]
          exact (hfr j (by simpa using h1) (by simpa using h2)).1
        have HTXF : Hid (∀ x ∈ V', Tx wr x.tv x.o.text ∧ x.o.text.size ≤ 1000000000) := by
          intro x hx
          obtain ⟨j, hj, rfl⟩ := List.getElem_of_mem hx
          have hj2 : j < V.length := by rw [← HM.out.len]; exact hj
          have h1 := hfr j hj hj2
          have h2 := HTX.out _ (List.getElem_mem hj2)
          have e : V'[j].o.text = V[j].o.text := by rw [h1.1]; rfl
          rw [e]; exact ⟨h1.2.1, h2.2⟩
        have HBF := Lib.hid HM.out.below
        clear HM hfr HTX HOK
        go_wp2_with fail
        go_ret
        exact ⟨_, V', rfl, HE.out, HMAP.out, HTXF.out, HBF.out⟩
end Go.Proofs.YtpcipdkoncmdcaaGreatDoor
