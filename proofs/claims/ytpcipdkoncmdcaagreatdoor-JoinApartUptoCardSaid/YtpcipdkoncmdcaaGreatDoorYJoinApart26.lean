/- Texts of mine, joined: Changes built, and what tree.Diff comes to (plain). -/
import Derived.Test.YtpcipdkoncmdcaaGreatDoorYJoinApart25
namespace Go.Proofs.YtpcipdkoncmdcaaGreatDoor
open Go Go.RowKit
/-- A slice of files whose room is no less than its length. -/
structure FT (w : World) (v : Value) (l : List Fi) : Prop where
  fs : FS w v l
  room : ∃ a c, v = .slice a l.length c ∧ l.length ≤ c
theorem FT.below {w w' : World} {v : Value} {l : List Fi} (h : FT w v l) (hb : Below w.heap.size w w') : FT w' v l := ⟨h.fs.below hb, h.room⟩
theorem FR.ft {w : World} {v : Value} {l : List Fi} (h : FR w v l) (hn : l.length ≤ 10000000) : FT w v l := by
  obtain ⟨a, c, e, hc, -, -⟩ := h.row.form
  exact ⟨h.fs hn, a, c, e, hc⟩
/-- The files behind the first. -/
theorem FT.tail {w : World} {v : Value} {x : Fi} {l : List Fi} (h : FT w v (x :: l)) : ∃ v', (∀ W, (Instr.slice 22 v (some (.int .i64 1)) none none).run Tryz.prog W = .ok v' W) ∧ FT w v' l := by
  obtain ⟨a, c, e, hc⟩ := h.room
  obtain ⟨a', c', e', hs⟩ := h.fs.sl
  rw [e] at e'
  injection e' with h1 h2 h3
  subst h1 h3 e
  obtain ⟨A, C, hlo, hlo2⟩ := fs_lo a (x :: l).length c 1 (by simp) hc
  have hl : (x :: l).length - 1 = l.length := by simp
  have hC : l.length ≤ C ∨ c = 1 := by
    by_cases h1 : 1 < c
    · obtain ⟨-, e⟩ := hlo2 h1
      left; rw [e]; simp at hc; omega
    · simp at hc; right; omega
  rw [hl] at hlo
  by_cases h1 : 1 < c
  · obtain ⟨eA, eC⟩ := hlo2 h1
    refine ⟨_, hlo, ⟨⟨⟨A, C, rfl, ?_⟩, fun f hf => h.fs.ok f (List.mem_cons_of_mem _ hf), by have := h.fs.n; simp at this; omega⟩, A, C, rfl, by rw [eC]; simp at hc; omega⟩⟩
    rcases hs with e | ⟨b, o, e, hlt, hcell⟩
    · have := fiR_len h.fs.ok; rw [e] at this; simp at this
    · refine .inr ⟨b, o + 34, by rw [eA, e, Option.map_some, Addr.add_lit, Nat.one_mul], hlt, fun i u hu => ?_⟩
      rw [Nat.add_assoc]
      refine hcell _ _ ?_
      show (fiC x ++ fiR l)[34 + i]? = _
      have hx := fiC_len (h.fs.ok x (by simp))
      rw [List.getElem?_append_right (by omega), hx, Nat.add_sub_cancel_left]; exact hu
  · have hl0 : l = [] := by
      have : l.length = 0 := by simp at hc; omega
      exact List.eq_nil_of_length_eq_zero this
    subst hl0
    exact ⟨_, hlo, ⟨⟨⟨A, C, rfl, .inl rfl⟩, (fun f hf => nomatch hf), Nat.zero_le _⟩, A, C, rfl, Nat.zero_le _⟩⟩

theorem id_cases {l : List Nat} (h : l.length = 32) : ∃ f : Fin 32 → Nat, l = List.ofFn f := ⟨fun i => l[i], by
  apply List.ext_getElem
  · simp [h]
  · intro i h1 h2
    rw [List.getElem_ofFn]; rfl⟩
theorem built_ch {x y : Fi} (hx : OkFi x) (hy : OkFi y) (k : Int) : (Tryz.prog).built 75 [(0, .int .i64 k), (1, .agg (fiC x).toArray), (2, .agg (fiC y).toArray)] = some (chC ⟨k, x, y⟩).toArray := by
  obtain ⟨f, hf⟩ := id_cases hx.id.1
  obtain ⟨g, hg⟩ := id_cases hy.id.1
  obtain ⟨px, ix, sx⟩ := x
  obtain ⟨py, iy, sy⟩ := y
  have hf : ix = List.ofFn f := hf
  have hg : iy = List.ofFn g := hg
  subst hf hg
  show (_ : Option (Array Value)) = _
  kernel_rfl
theorem built_old {x : Fi} (hx : OkFi x) (k : Int) : (Tryz.prog).built 75 [(0, .int .i64 k), (1, .agg (fiC x).toArray)] = some (chC ⟨k, x, zF⟩).toArray := by
  obtain ⟨f, hf⟩ := id_cases hx.id.1
  obtain ⟨px, ix, sx⟩ := x
  have hf : ix = List.ofFn f := hf
  subst hf
  show (_ : Option (Array Value)) = _
  kernel_rfl
theorem built_new {x : Fi} (hx : OkFi x) (k : Int) : (Tryz.prog).built 75 [(0, .int .i64 k), (2, .agg (fiC x).toArray)] = some (chC ⟨k, zF, x⟩).toArray := by
  obtain ⟨f, hf⟩ := id_cases hx.id.1
  obtain ⟨px, ix, sx⟩ := x
  have hf : ix = List.ofFn f := hf
  subst hf
  show (_ : Option (Array Value)) = _
  kernel_rfl
theorem rb_ch {x y : Fi} (hx : OkFi x) (hy : OkFi y) (k : Int) (w : World) : (Instr.build 75 #[(0, .int .i64 k), (1, .agg (fiC x).toArray), (2, .agg (fiC y).toArray)]).run Tryz.prog w = .ok (.agg (chC ⟨k, x, y⟩).toArray) w := run_build w _ _ _ (built_ch hx hy k)
theorem rb_old {x : Fi} (hx : OkFi x) (k : Int) (w : World) : (Instr.build 75 #[(0, .int .i64 k), (1, .agg (fiC x).toArray)]).run Tryz.prog w = .ok (.agg (chC ⟨k, x, zF⟩).toArray) w := run_build w _ _ _ (built_old hx k)
theorem rb_new {x : Fi} (hx : OkFi x) (k : Int) (w : World) : (Instr.build 75 #[(0, .int .i64 k), (2, .agg (fiC x).toArray)]).run Tryz.prog w = .ok (.agg (chC ⟨k, zF, x⟩).toArray) w := run_build w _ _ _ (built_new hx k)
theorem chElem : Elem Tryz.prog 70 75 (.agg Tryz.zeroCells75) 69 120 := ⟨by kernel_rfl, by kernel_rfl⟩
theorem chZ : (Value.agg Tryz.zeroCells75).cells.size = 69 := by kernel_rfl
theorem ch_info : (Tryz.prog.info? 75).map (·.size) = some 69 := by kernel_rfl
theorem ch_zero : ((Tryz.prog.info? 75).bind (·.zero)).isSome = true := by kernel_rfl
theorem rb_chs {c : Ch} (h : OkCh c) (w : World) : (Instr.buildSlice 70 1 #[(0, .agg (chC c).toArray)]).run Tryz.prog w = .ok (.slice (some ⟨w.heap.size, 0, none⟩) 1 1) (w.alloc (.cells (chC c).toArray 75)) :=
  run_build1 Tryz.underlying70 ch_info ch_zero (by decide) (by decide) (by rw [List.size_toArray]; exact chC_len h) w
/-- A row of changes of one's own. -/
structure CR (w : World) (v : Value) (l : List Ch) : Prop where
  row : OwnG w 75 69 v l.length (chR l)
  ok : ∀ f ∈ l, OkCh f
theorem CR.cs {w : World} {v : Value} {l : List Ch} (h : CR w v l) (hn : l.length ≤ 10000000) : CS w v l := by
  obtain ⟨a, c, e, -, -, hs⟩ := h.row.form
  exact ⟨⟨a, c, e, hs⟩, h.ok, hn⟩
theorem CR.below {w w' : World} {v : Value} {l : List Ch} (h : CR w v l) (hb : Below w.heap.size w w') : CR w' v l := ⟨h.row.below hb, h.ok⟩
theorem CR.nil (w : World) : CR w (.slice none 0 0) [] := ⟨OwnG.nil _ _ _, fun _ hf => nomatch hf⟩

/-- How two lists of files differ. -/
def diffS : List Fi → List Fi → List Ch
  | [], [] => []
  | x :: a, [] => ⟨2, x, zF⟩ :: diffS a []
  | [], y :: b => ⟨1, zF, y⟩ :: diffS [] b
  | x :: a, y :: b =>
    if PathS.cmp x.path y.path < 0 then ⟨2, x, zF⟩ :: diffS a (y :: b) else
    if PathS.cmp x.path y.path > 0 then ⟨1, zF, y⟩ :: diffS (x :: a) b else
    if x.id ≠ y.id then ⟨3, x, y⟩ :: diffS a b else
    if cn x.stamp ≠ cn y.stamp then ⟨4, x, y⟩ :: diffS a b else diffS a b
termination_by a b => a.length + b.length
end Go.Proofs.YtpcipdkoncmdcaaGreatDoor
