/- Walks of the file system's inner functions: a change of names, a copy of bytes, reading. -/
import Derived.Test.YtfoamcobpfflbaaDoorVfsRep
namespace Go.Proofs.YtfoamcobpfflbaaDoor
open Go Go.RowKit Go.Maps
open VfsS (File Chg Nm St find doL)

theorem nm_max {s : ByteArray} (h : s.size ≤ 10000000) : NC.okK s := by show s.size ≤ maxLen; simp only [maxLen]; omega

theorem nmF_do (φ : Nat → Nat) (l : Nm) (a : Chg) (x : ByteArray) : nmF φ (doL l a) x =
    match a.file with
    | none => if a.src.size ≠ 0 ∧ x = a.src then none else nmF φ l x
    | some i => if x = a.dst then some (some (φ i)) else if a.src.size ≠ 0 ∧ x = a.src then none else nmF φ l x := by
  unfold nmF
  rw [VfsS.find_doL]
  cases a.file with
  | none => simp only; split <;> rfl
  | some i => simp only; split; · rfl
              · split <;> rfl

set_option maxRecDepth 100000 in
theorem do_c {w : World} {b n : Nat} {φ : Nat → Nat} {l : Nm} (a : Chg) (h : MapG NC w b n (nmF φ l)) (hn : n < 200000000) (hs : a.src.size ≤ 10000000) (hd : a.dst.size ≤ 10000000) :
    Calls Tryd.prog 88 #[.map (some b), .agg #[.string a.src, .string a.dst, ptrV (a.file.map φ)]] w fun e w' => e = .returned (.tuple #[]) ∧ MapG NC w' b (n + 1) (nmF φ (doL l a)) ∧ w.grownBy w' (some b) := by
  have HF := Lib.hid (fun x => nmF_do φ l a x)
  obtain ⟨src, dst, file⟩ := a
  simp only at HF hs hd ⊢
  have hblt := h.lt
  have hmn : n < maxLen := by simp only [maxLen]; omega
  have hks : NC.okK src := nm_max hs
  have hkd : NC.okK dst := nm_max hd
  have al := fun v : Value => h.alloc (.cells #[.string src, .string dst, v] 150)
  have ga := fun v : Value => (World.grownBy_alloc w (.cells #[.string src, .string dst, v] 150) none).but (some b)
  have hc := fun v : Value => show (w.alloc (.cells #[.string src, .string dst, v] 150)).heap[w.heap.size]? = some (.cells #[.string src, .string dst, v] 150 (0, 0)) from (Go.MapKept.heap_alloc w _).1
  have hbn : some w.heap.size ≠ some b := fun e => by injection e with e; omega
  by_cases he : src.size = 0
  · have e1 : src.toList.isEmpty = true := by rw [isEmpty_iff]; simpa using he
    have HFE : Hid (∀ x, (if src.size ≠ 0 ∧ x = src then (none : Option (Option Nat)) else nmF φ l x) = nmF φ l x) := fun x => if_neg (fun e => e.1 he)
    clear he hks
    cases file with
    | none =>
      have HM := Lib.hid (((al (.pointer none)).mono (Nat.le_succ n)).congr (G := nmF φ (doL l ⟨src, dst, none⟩)) fun x => by rw [HF.out x]; exact (HFE.out x).symm)
      have HG := Lib.hid (ga (.pointer none))
      show Calls _ _ #[.map (some b), .agg #[.string src, .string dst, .pointer none]] _ _
      clear al ga hc h
      go_enter Tryd.func88, Tryd.ntmps88
      go_wp2_with fail
      go_end0
      exact ⟨rfl, HM.out, HG.out⟩
    | some i =>
      have hm := al (.pointer (some ⟨φ i, 0, none⟩))
      have HG := Lib.hid (ga (.pointer (some ⟨φ i, 0, none⟩)))
      have HF2 : Hid (∀ x, (if x = dst then some (some (φ i)) else nmF φ l x) = nmF φ (doL l ⟨src, dst, some i⟩) x) := fun x => by rw [HF.out x]; simp only; rw [HFE.out x]
      show Calls _ _ #[.map (some b), .agg #[.string src, .string dst, .pointer (some ⟨φ i, 0, none⟩)]] _ _
      clear al ga hc h HF HFE
      go_enter Tryd.func88, Tryd.ntmps88
      go_wp2_with (at_mapUpdate; refine wp_putG (C := NC) rfl _ _ _ rfl rfl hm dst (some (φ i)) rfl rfl hkd trivial hmn ?_)
      intro w1 hm1 hg1
      go_wp2_with fail
      go_end0
      exact ⟨rfl, hm1.congr HF2.out, HG.out.andThen hg1 (fun j hj => .inr hj)⟩
  · have e1 : src.toList.isEmpty = false := by rw [isEmpty_iff]; simpa using he
    have HFE : Hid (∀ x, (if src.size ≠ 0 ∧ x = src then (none : Option (Option Nat)) else nmF φ l x) = if x = src then none else nmF φ l x) := fun x => by
      by_cases e : x = src
      · rw [if_pos ⟨he, e⟩, if_pos e]
      · rw [if_neg (fun e2 => e e2.2), if_neg e]
    clear he
    cases file with
    | none =>
      have hm := al (.pointer none)
      have HG := Lib.hid (ga (.pointer none))
      have hcc := hc (.pointer none)
      have HF2 : Hid (∀ x, (if x = src then none else nmF φ l x) = nmF φ (doL l ⟨src, dst, none⟩) x) := fun x => by rw [HF.out x]; simp only; rw [HFE.out x]
      show Calls _ _ #[.map (some b), .agg #[.string src, .string dst, .pointer none]] _ _
      clear al ga hc h HF HFE
      go_enter Tryd.func88, Tryd.ntmps88
      go_wp2_with (at_delete; refine wp_delG (C := NC) rfl _ _ rfl rfl hm src rfl hks ?_)
      intro w1 hm1 hg1
      have hc1 := (hg1.block _ (Array.getElem?_eq_some_iff.1 hcc).1 hbn).trans hcc
      have c2 : w1.cell? ⟨w.heap.size, 2, none⟩ = some (.pointer none) := by rw [cell_of hc1]; rfl
      go_wp2_with fail
      go_end0
      exact ⟨rfl, (hm1.congr HF2.out).mono (Nat.le_succ n), HG.out.andThen hg1 (fun j hj => .inr hj)⟩
    | some i =>
      have hm := al (.pointer (some ⟨φ i, 0, none⟩))
      have HG := Lib.hid (ga (.pointer (some ⟨φ i, 0, none⟩)))
      have hcc := hc (.pointer (some ⟨φ i, 0, none⟩))
      have HF2 : Hid (∀ x, (if x = dst then some (some (φ i)) else if x = src then none else nmF φ l x) = nmF φ (doL l ⟨src, dst, some i⟩) x) := fun x => by rw [HF.out x]; simp only; rw [HFE.out x]
      show Calls _ _ #[.map (some b), .agg #[.string src, .string dst, .pointer (some ⟨φ i, 0, none⟩)]] _ _
      clear al ga hc h HF HFE
      go_enter Tryd.func88, Tryd.ntmps88
      go_wp2_with (at_delete; refine wp_delG (C := NC) rfl _ _ rfl rfl hm src rfl hks ?_)
      intro w1 hm1 hg1
      have hc1 := (hg1.block _ (Array.getElem?_eq_some_iff.1 hcc).1 hbn).trans hcc
      have c1 : w1.cell? ⟨w.heap.size, 1, none⟩ = some (.string dst) := by rw [cell_of hc1]; rfl
      have c2 : w1.cell? ⟨w.heap.size, 2, none⟩ = some (.pointer (some ⟨φ i, 0, none⟩)) := by rw [cell_of hc1]; rfl
      go_wp2_with (at_mapUpdate; refine wp_putG (C := NC) rfl _ _ _ rfl rfl hm1 dst (some (φ i)) rfl rfl hkd trivial hmn ?_)
      intro w2 hm2 hg2
      go_wp2_with fail
      go_end0
      exact ⟨rfl, hm2.congr HF2.out, (HG.out.andThen hg1 (fun j hj => .inr hj)).andThen hg2 (fun j hj => .inr hj)⟩

/-- The bytes behind a slice as a source of what is appended. -/
theorem src_own {w : World} {v : Value} {n : Nat} {xs : List Value} (h : OwnG w 5 1 v n xs) (h1 : ∀ u ∈ xs, u.oneCell' = true) : Src Tryd.prog 1 43 v n xs w := by
  have hl := h.1
  obtain ⟨a, c, rfl, -, -, hs⟩ := h.form
  rcases hs with e | ⟨g, o, rfl, _, hc⟩
  · subst e
    have e2 : n = 0 := by simp at hl; omega
    subst e2
    rcases h.2 with ⟨e3, _⟩ | ⟨g, o, cap, cur, e3, _⟩
    · injection e3 with e3 _ _; subst e3; exact Src.ofNil w Tryd.underlying43 c
    · injection e3 with e3 _ _; subst e3; exact Src.ofSlice w Tryd.underlying43 _ 0 c [] (by simp) (fun j u hu => by cases hu) (fun u hu => by cases hu)
  · exact Src.ofSlice w Tryd.underlying43 _ n c xs hl (fun j u hu => by rw [Addr.add_lit]; exact hc j u hu) h1

theorem one_bytes (s : ByteArray) : ∀ u ∈ byteCells s, u.oneCell' = true := fun u hu => by
  obtain ⟨_, _, rfl⟩ := List.mem_map.1 hu; rfl

theorem byteElem : Elem Tryd.prog 43 5 (.int .u8 0) 1 1 := ⟨by kernel_rfl, by kernel_rfl⟩

set_option maxRecDepth 100000 in
theorem clone_c {w : World} {v : Value} {n : Nat} {s : ByteArray} (h : OwnG w 5 1 v n (byteCells s)) (hn : n ≤ 100000000) :
    Calls Tryd.prog 76 #[v] w fun e w' => ∃ v', e = .returned v' ∧ OwnG w' 5 1 v' n (byteCells s) ∧ (∀ k, v'.ownBlock = some k → w.heap.size ≤ k) ∧ Below w.heap.size w w' := by
  have hfrm := h
  obtain ⟨a, c, rfl, -, -, -⟩ := hfrm.form
  rcases h.2 with ⟨e3, hn0⟩ | ⟨g, o, cap, cur, e3, _⟩
  · injection e3 with e3 e4 e5
    subst e3 e5
    have HE := Lib.hid h
    subst hn0
    have hq := fun w => Lib.run_eql_slice_nil (P := Tryd.prog) w 43 5 none 0 0 0 0 Tryd.underlying43
    clear h hfrm
    go_enter Tryd.func76, Tryd.ntmps76
    go_wp2_with fail
    go_ret
    exact ⟨_, rfl, HE.out, (fun k hk => by cases hk), Below.refl _ _⟩
  · injection e3 with e3 e4 e5
    subst e3 e5
    have ho0 : OwnG (w.alloc (.cells #[] 5)) 5 1 (.slice (some ⟨w.heap.size, 0, none⟩) 0 0) 0 [] := ⟨by simp, .inr ⟨_, 0, 0, #[], rfl, (Go.MapKept.heap_alloc w _).1, Nat.le_refl _, Nat.zero_le _, by simp, fun j u hu => by cases hu⟩⟩
    have hsrc := src_own (h.alloc (.cells #[] 5)) (one_bytes s)
    have hq := fun w => Lib.run_eql_slice_nil (P := Tryd.prog) w 43 5 (some ⟨g, o, none⟩) n c 0 0 Tryd.underlying43
    have hb0 : Below w.heap.size w (w.alloc (.cells #[] 5)) := (Below.refl _ _).alloc (Nat.le_refl _) _
    clear h hfrm
    go_enter Tryd.func76, Tryd.ntmps76
    go_wp2_with (at_builtin; refine wp_appG rfl _ _ _ _ rfl byteElem rfl rfl ho0 rfl hsrc (by simp [maxLen]; omega) (by omega) ?_)
    intro v1 w1 ho1 hg1 hv1
    have hb1 : Below w.heap.size w w1 := hb0.grown hg1 hb0.size (by intro k hk; simp [Value.ownBlock] at hk; omega)
    go_wp2_with fail
    go_ret
    refine ⟨_, rfl, ho1, fun k hk => ?_, hb1⟩
    rcases hv1 k hk with e | e
    · simp [Value.ownBlock] at e; omega
    · omega
end Go.Proofs.YtfoamcobpfflbaaDoor
