/- Texts of mine, joined: SHA-256: blocks one by one. No program in sight. | Walks of the file system's inner functions: a change of names, a copy of bytes, reading. | A one-element append as a step of a region that draws its order. Of every program. | Walks of what a file system tells: how many bytes there are, how many are left, a file's bytes. -/
import Derived.Deep.RegionHeld3
import Derived.Test.YtfoamcobpfflbaaDoorZ9
namespace Go.Proofs.YtfoamcobpfflbaaDoor
namespace Sha

theorem wrd_congr {b b' : Nat → Nat} {i : Nat} : ∀ c, (∀ k, k < c → b (4 * i + k) = b' (4 * i + k)) → wrd b i c = wrd b' i c
  | 0, _ => rfl
  | c + 1, h => by
    unfold wrd
    rw [wrd_congr c fun k hk => h k (by omega), h c (by omega)]

theorem sched_congr {b b' : Nat → Nat} (h : ∀ k, k < 64 → b k = b' k) : ∀ n, sched b n = sched b' n
  | 0 => rfl
  | n + 1 => by
    have ih := sched_congr h n
    unfold sched
    rw [ih]
    by_cases hn : n < 16
    · rw [if_pos hn, if_pos hn, wrd_congr 4 fun k hk => h _ (by omega)]
    · rw [if_neg hn, if_neg hn]

theorem blk_congr {b b' : Nat → Nat} (h0 : Nat → Nat) (h : ∀ k, k < 64 → b k = b' k) : blk h0 b = blk h0 b' := by
  unfold blk; rw [sched_congr h 64]

theorem blks_congr {b b' : Nat → Nat} (h0 : Nat → Nat) : ∀ n, (∀ k, k < 64 * n → b k = b' k) → blks h0 b n = blks h0 b' n
  | 0, _ => rfl
  | n + 1, h => by
    show blk _ _ = blk _ _
    rw [blks_congr h0 n fun k hk => h k (by omega)]
    exact blk_congr _ fun k hk => h _ (by omega)

theorem byteAt_drop (T : List Nat) (n : Nat) : byteAt (T.drop n) = fun i => byteAt T (n + i) := by
  funext i
  unfold byteAt
  rw [List.getD_eq_getElem?_getD, List.getD_eq_getElem?_getD, List.getElem?_drop]

theorem byteAt_append {S T : List Nat} {i : Nat} (h : i < S.length) : byteAt (S ++ T) i = byteAt S i := by
  unfold byteAt
  rw [List.getD_eq_getElem?_getD, List.getD_eq_getElem?_getD, List.getElem?_append_left h]

/-- So many blocks of T are taken in; R is left. -/
structure Upto (T : List Nat) (k : Nat) (R : List Nat) (h : Nat → Nat) : Prop where
  le : 64 * k ≤ T.length
  r : R = T.drop (64 * k)
  h : h = blks start (byteAt T) k

theorem Upto.zero (T : List Nat) : Upto T 0 T start := ⟨by omega, by simp, rfl⟩
theorem Upto.len {T R : List Nat} {k : Nat} {h : Nat → Nat} (u : Upto T k R h) : R.length = T.length - 64 * k := by rw [u.r, List.length_drop]
theorem Upto.bd {T R : List Nat} {k : Nat} {h : Nat → Nat} (u : Upto T k R h) : Bd h := by rw [u.h]; exact blks_bd start_bd _ _
theorem Upto.app {T R : List Nat} {k : Nat} {h : Nat → Nat} (u : Upto T k R h) (X : List Nat) : Upto (T ++ X) k (R ++ X) h := by
  have hl := u.le
  refine ⟨by rw [List.length_append]; omega, ?_, ?_⟩
  · rw [List.drop_append_of_le_length hl, u.r]
  · rw [u.h]; exact blks_congr _ _ fun i hi => (byteAt_append (by omega)).symm
theorem Upto.step {T R : List Nat} {k : Nat} {h : Nat → Nat} (u : Upto T k R h) (h64 : 64 ≤ R.length) : Upto T (k + 1) (R.drop 64) (blk h (byteAt R)) := by
  have hl := u.len
  have := u.le
  refine ⟨by omega, ?_, ?_⟩
  · rw [u.r, List.drop_drop]; rfl
  · show _ = blk _ _
    rw [u.h, u.r, byteAt_drop]

theorem pad_len (s : List Nat) : (pad s).length = s.length + 9 + (119 - s.length % 64) % 64 := by
  unfold pad; simp only [List.length_append, List.length_replicate, List.length_map, List.length_range, List.length_cons, List.length_nil]; omega
theorem pad_mod (s : List Nat) : (pad s).length % 64 = 0 := by rw [pad_len]; omega

theorem pad_lt (s : List Nat) (hs : ∀ x ∈ s, x < 256) : ∀ x ∈ pad s, x < 256 := by
  intro x hx
  unfold pad at hx
  simp only [List.mem_append, List.mem_replicate, List.mem_map] at hx
  rcases hx with ((h | h) | h) | ⟨i, _, rfl⟩
  · exact hs x h
  · simp at h; omega
  · omega
  · exact Nat.mod_lt _ (by omega)

theorem Upto.last {s R : List Nat} {k : Nat} {h : Nat → Nat} (u : Upto (pad s) k R h) (hR : R.length = 0) : sum s = (List.range 32).map (out h) := by
  have hl := u.len
  have := u.le
  have hm := pad_mod s
  have hk : (pad s).length / 64 = k := by omega
  unfold sum
  rw [hk, u.h]
end Sha
end Go.Proofs.YtfoamcobpfflbaaDoor
namespace Go.Proofs.YtfoamcobpfflbaaDoor
open Go Go.RowKit Go.Maps
open VfsS (File Chg Nm St find doL)

theorem nm_max {s : ByteArray} (h : s.size ≤ 10000000) : NC.okK s := by show s.size ≤ maxLen; simp only [maxLen]; omega

theorem nmF_do (φ : Nat → Nat) (l : Nm) (a : Chg) (x : ByteArray) : nmF φ (doL l a) x =
    match a.file with
    | none => if a.src.size ≠ 0 ∧ x = a.src then none else nmF φ l x
    | some i => if x = a.dst then some (some (φ i)) else if a.src.size ≠ 0 ∧ x = a.src then none else nmF φ l x := by
  unfold nmF
  rw [VfsS.find_doL]
  cases a.file with
  | none => simp only; split <;> rfl
  | some i => simp only; split; · rfl
              · split <;> rfl

set_option maxRecDepth 100000 in
theorem do_c {w : World} {b n : Nat} {φ : Nat → Nat} {l : Nm} (a : Chg) (h : MapG NC w b n (nmF φ l)) (hn : n < 200000000) (hs : a.src.size ≤ 10000000) (hd : a.dst.size ≤ 10000000) :
    Calls Tryd.prog 88 #[.map (some b), .agg #[.string a.src, .string a.dst, ptrV (a.file.map φ)]] w fun e w' => e = .returned (.tuple #[]) ∧ MapG NC w' b (n + 1) (nmF φ (doL l a)) ∧ w.grownBy w' (some b) := by
  have HF := Lib.hid (fun x => nmF_do φ l a x)
  obtain ⟨src, dst, file⟩ := a
  simp only at HF hs hd ⊢
  have hblt := h.lt
  have hmn : n < maxLen := by simp only [maxLen]; omega
  have hks : NC.okK src := nm_max hs
  have hkd : NC.okK dst := nm_max hd
  have al := fun v : Value => h.alloc (.cells #[.string src, .string dst, v] 150)
  have ga := fun v : Value => (World.grownBy_alloc w (.cells #[.string src, .string dst, v] 150) none).but (some b)
  have hc := fun v : Value => show (w.alloc (.cells #[.string src, .string dst, v] 150)).heap[w.heap.size]? = some (.cells #[.string src, .string dst, v] 150 (0, 0)) from (Go.MapKept.heap_alloc w _).1
  have hbn : some w.heap.size ≠ some b := fun e => by injection e with e; omega
  by_cases he : src.size = 0
  · have e1 : src.toList.isEmpty = true := by rw [isEmpty_iff]; simpa using he
    have HFE : Hid (∀ x, (if src.size ≠ 0 ∧ x = src then (none : Option (Option Nat)) else nmF φ l x) = nmF φ l x) := fun x => if_neg (fun e => e.1 he)
    clear he hks
    cases file with
    | none =>
      have HM := Lib.hid (((al (.pointer none)).mono (Nat.le_succ n)).congr (G := nmF φ (doL l ⟨src, dst, none⟩)) fun x => by rw [HF.out x]; exact (HFE.out x).symm)
      have HG := Lib.hid (ga (.pointer none))
      show Calls _ _ #[.map (some b), .agg #[.string src, .string dst, .pointer none]] _ _
      clear al ga hc h
      go_enter Tryd.func88, Tryd.ntmps88
      go_wp2_with fail
      go_end0
      exact ⟨rfl, HM.out, HG.out⟩
    | some i =>
      have hm := al (.pointer (some ⟨φ i, 0, none⟩))
      have HG := Lib.hid (ga (.pointer (some ⟨φ i, 0, none⟩)))
      have HF2 : Hid (∀ x, (if x = dst then some (some (φ i)) else nmF φ l x) = nmF φ (doL l ⟨src, dst, some i⟩) x) := fun x => by rw [HF.out x]; simp only; rw [HFE.out x]
      show Calls _ _ #[.map (some b), .agg #[.string src, .string dst, .pointer (some ⟨φ i, 0, none⟩)]] _ _
      clear al ga hc h HF HFE
      go_enter Tryd.func88, Tryd.ntmps88
      go_wp2_with (at_mapUpdate; refine wp_putG (C := NC) rfl _ _ _ rfl rfl hm dst (some (φ i)) rfl rfl hkd trivial hmn ?_)
      intro w1 hm1 hg1
      go_wp2_with fail
      go_end0
      exact ⟨rfl, hm1.congr HF2.out, HG.out.andThen hg1 (fun j hj => .inr hj)⟩
  · have e1 : src.toList.isEmpty = false := by rw [isEmpty_iff]; simpa using he
    have HFE : Hid (∀ x, (if src.size ≠ 0 ∧ x = src then (none : Option (Option Nat)) else nmF φ l x) = if x = src then none else nmF φ l x) := fun x => by
      by_cases e : x = src
      · rw [if_pos ⟨he, e⟩, if_pos e]
      · rw [if_neg (fun e2 => e e2.2), if_neg e]
    clear he
    cases file with
    | none =>
      have hm := al (.pointer none)
      have HG := Lib.hid (ga (.pointer none))
      have hcc := hc (.pointer none)
      have HF2 : Hid (∀ x, (if x = src then none else nmF φ l x) = nmF φ (doL l ⟨src, dst, none⟩) x) := fun x => by rw [HF.out x]; simp only; rw [HFE.out x]
      show Calls _ _ #[.map (some b), .agg #[.string src, .string dst, .pointer none]] _ _
      clear al ga hc h HF HFE
      go_enter Tryd.func88, Tryd.ntmps88
      go_wp2_with (at_delete; refine wp_delG (C := NC) rfl _ _ rfl rfl hm src rfl hks ?_)
      intro w1 hm1 hg1
      have hc1 := (hg1.block _ (Array.getElem?_eq_some_iff.1 hcc).1 hbn).trans hcc
      have c2 : w1.cell? ⟨w.heap.size, 2, none⟩ = some (.pointer none) := by rw [cell_of hc1]; rfl
      go_wp2_with fail
      go_end0
      exact ⟨rfl, (hm1.congr HF2.out).mono (Nat.le_succ n), HG.out.andThen hg1 (fun j hj => .inr hj)⟩
    | some i =>
      have hm := al (.pointer (some ⟨φ i, 0, none⟩))
      have HG := Lib.hid (ga (.pointer (some ⟨φ i, 0, none⟩)))
      have hcc := hc (.pointer (some ⟨φ i, 0, none⟩))
      have HF2 : Hid (∀ x, (if x = dst then some (some (φ i)) else if x = src then none else nmF φ l x) = nmF φ (doL l ⟨src, dst, some i⟩) x) := fun x => by rw [HF.out x]; simp only; rw [HFE.out x]
      show Calls _ _ #[.map (some b), .agg #[.string src, .string dst, .pointer (some ⟨φ i, 0, none⟩)]] _ _
      clear al ga hc h HF HFE
      go_enter Tryd.func88, Tryd.ntmps88
      go_wp2_with (at_delete; refine wp_delG (C := NC) rfl _ _ rfl rfl hm src rfl hks ?_)
      intro w1 hm1 hg1
      have hc1 := (hg1.block _ (Array.getElem?_eq_some_iff.1 hcc).1 hbn).trans hcc
      have c1 : w1.cell? ⟨w.heap.size, 1, none⟩ = some (.string dst) := by rw [cell_of hc1]; rfl
      have c2 : w1.cell? ⟨w.heap.size, 2, none⟩ = some (.pointer (some ⟨φ i, 0, none⟩)) := by rw [cell_of hc1]; rfl
      go_wp2_with (at_mapUpdate; refine wp_putG (C := NC) rfl _ _ _ rfl rfl hm1 dst (some (φ i)) rfl rfl hkd trivial hmn ?_)
      intro w2 hm2 hg2
      go_wp2_with fail
      go_end0
      exact ⟨rfl, hm2.congr HF2.out, (HG.out.andThen hg1 (fun j hj => .inr hj)).andThen hg2 (fun j hj => .inr hj)⟩

/-- The bytes behind a slice as a source of what is appended. -/
theorem src_own {w : World} {v : Value} {n : Nat} {xs : List Value} (h : OwnG w 5 1 v n xs) (h1 : ∀ u ∈ xs, u.oneCell' = true) : Src Tryd.prog 1 43 v n xs w := by
  have hl := h.1
  obtain ⟨a, c, rfl, -, -, hs⟩ := h.form
  rcases hs with e | ⟨g, o, rfl, _, hc⟩
  · subst e
    have e2 : n = 0 := by simp at hl; omega
    subst e2
    rcases h.2 with ⟨e3, _⟩ | ⟨g, o, cap, cur, e3, _⟩
    · injection e3 with e3 _ _; subst e3; exact Src.ofNil w Tryd.underlying43 c
    · injection e3 with e3 _ _; subst e3; exact Src.ofSlice w Tryd.underlying43 _ 0 c [] (by simp) (fun j u hu => by cases hu) (fun u hu => by cases hu)
  · exact Src.ofSlice w Tryd.underlying43 _ n c xs hl (fun j u hu => by rw [Addr.add_lit]; exact hc j u hu) h1

theorem one_bytes (s : ByteArray) : ∀ u ∈ byteCells s, u.oneCell' = true := fun u hu => by
  obtain ⟨_, _, rfl⟩ := List.mem_map.1 hu; rfl

theorem byteElem : Elem Tryd.prog 43 5 (.int .u8 0) 1 1 := ⟨by kernel_rfl, by kernel_rfl⟩

set_option maxRecDepth 100000 in
theorem clone_c {w : World} {v : Value} {n : Nat} {s : ByteArray} (h : OwnG w 5 1 v n (byteCells s)) (hn : n ≤ 100000000) :
    Calls Tryd.prog 76 #[v] w fun e w' => ∃ v', e = .returned v' ∧ OwnG w' 5 1 v' n (byteCells s) ∧ (∀ k, v'.ownBlock = some k → w.heap.size ≤ k) ∧ Below w.heap.size w w' := by
  have hfrm := h
  obtain ⟨a, c, rfl, -, -, -⟩ := hfrm.form
  rcases h.2 with ⟨e3, hn0⟩ | ⟨g, o, cap, cur, e3, _⟩
  · injection e3 with e3 e4 e5
    subst e3 e5
    have HE := Lib.hid h
    subst hn0
    have hq := fun w => Lib.run_eql_slice_nil (P := Tryd.prog) w 43 5 none 0 0 0 0 Tryd.underlying43
    clear h hfrm
    go_enter Tryd.func76, Tryd.ntmps76
    go_wp2_with fail
    go_ret
    exact ⟨_, rfl, HE.out, (fun k hk => by cases hk), Below.refl _ _⟩
  · injection e3 with e3 e4 e5
    subst e3 e5
    have ho0 : OwnG (w.alloc (.cells #[] 5)) 5 1 (.slice (some ⟨w.heap.size, 0, none⟩) 0 0) 0 [] := ⟨by simp, .inr ⟨_, 0, 0, #[], rfl, (Go.MapKept.heap_alloc w _).1, Nat.le_refl _, Nat.zero_le _, by simp, fun j u hu => by cases hu⟩⟩
    have hsrc := src_own (h.alloc (.cells #[] 5)) (one_bytes s)
    have hq := fun w => Lib.run_eql_slice_nil (P := Tryd.prog) w 43 5 (some ⟨g, o, none⟩) n c 0 0 Tryd.underlying43
    have hb0 : Below w.heap.size w (w.alloc (.cells #[] 5)) := (Below.refl _ _).alloc (Nat.le_refl _) _
    clear h hfrm
    go_enter Tryd.func76, Tryd.ntmps76
    go_wp2_with (at_builtin; refine wp_appG rfl _ _ _ _ rfl byteElem rfl rfl ho0 rfl hsrc (by simp [maxLen]; omega) (by omega) ?_)
    intro v1 w1 ho1 hg1 hv1
    have hb1 : Below w.heap.size w w1 := hb0.grown hg1 hb0.size (by intro k hk; simp [Value.ownBlock] at hk; omega)
    go_wp2_with fail
    go_ret
    refine ⟨_, rfl, ho1, fun k hk => ?_, hb1⟩
    rcases hv1 k hk with e | e
    · simp [Value.ownBlock] at e; omega
    · omega
end Go.Proofs.YtfoamcobpfflbaaDoor
namespace Go.Proofs.YtfoamcobpfflbaaDoor
open Go Go.RowKit

theorem step_appN {P : Program} {ops : Array Oper} {o : Oper} {a : Act} {K : Act → World → Prop} {Q : Exit → Act → World → Prop} {E : Prop} {w : World} (hgd : o.guard = none) (s x : Operand) (t : TypeId)
    (ho : o.op = .call { callee := .builtin .append, args := #[s, x], argTypes := #[t, t] })
    {e : TypeId} {z : Value} {size bytes : Nat} (L : Elem P t e z size bytes) (hzs : z.cells.size = size) (hsz : 0 < size) {base : Nat} {v : Value} {n : Nat} {xs : List Value} {news : List Value}
    (hs : a.eval s = v) (hown : w.ownsRow base e size v n xs) (hx : a.eval x = .slice (some ⟨w.heap.size, 0, none⟩) 1 1) (hl : news.length = size) (h1 : ∀ u ∈ news, u.oneCell' = true)
    (hn : (n + 1) * bytes ≤ 140737488355328) (h63 : n + 1 ≤ maxLen) (hbase : base ≤ w.heap.size)
    (h : ∀ v' w', w'.ownsRow base e size v' (n + 1) (xs ++ news) → w.grownBy w' v.ownBlock → Below base w w' → K (a.put o.dst v') w') :
    if Region.wanted o (yielded ops a.tmps) = true then Oper.wp P o a (w.alloc (.cells news.toArray e)) K Q else E := by
  obtain ⟨i, hi, g1, g2, g3⟩ := info_parts L.info
  refine step_append_lies _ hgd s x t ho base e i z size bytes L.under hi g1 g2 g3 hzs hsz v n xs hs (hown.alloc _) ⟨w.heap.size, 0, none⟩ 1 1 news hx (by omega) (fun j u hu => ?_) h1 (by decide) h63 hn ?_ _ rfl ?_
  · exact World.news_of_block (Go.MapKept.heap_alloc w _).1 j u hu
  · have : (w.alloc (.cells news.toArray e)).heap.size = w.heap.size + 1 := by simp
    omega
  · intro g cap w' h4 h5 _ _
    have h6 : w.grownBy w' v.ownBlock := (World.grownBy_alloc w _ _).trans h5
    exact h _ w' h4 h6 (below_of_grown hown h6 hbase)
end Go.Proofs.YtfoamcobpfflbaaDoor
namespace Go.Proofs.YtfoamcobpfflbaaDoor
open Go Go.RowKit Go.Maps
open VfsS (File Chg Nm St find doL)

/-- The bytes of the files that some names mean. -/
def sumN (S : St) (l : List ByteArray) : Nat := (l.map fun s => match find S.now s with | some i => (VfsS.fl S i).text.size | none => 0).sum

theorem sumN_erase (S : St) {l : List ByteArray} {x : ByteArray} (hn : l.Nodup) (h : x ∈ l) : sumN S l = sumN S [x] + sumN S (lessOne l x) := by
  have hp := (perm_lessOne hn h).map (fun s => match find S.now s with | some i => (VfsS.fl S i).text.size | none => 0)
  unfold sumN
  rw [hp.sum_nat]
  simp

theorem sumN_names {S : St} (h : VfsS.Wf S) : sumN S (S.now.map (·.1)) = VfsS.used S := by
  unfold sumN VfsS.used
  rw [List.map_map]
  congr 1
  apply List.map_congr_left
  intro p hp
  simp only [Function.comp]
  rw [VfsS.find_of_mem h.dn hp]

theorem used_le {S : St} {N : Nat} (h : VfsS.Wf S) (hl : S.now.length ≤ N) : VfsS.used S ≤ N * 4194304 := by
  have : ∀ l : Nm, (∀ p ∈ l, p ∈ S.now) → (l.map fun p => (VfsS.fl S p.2).text.size).sum ≤ l.length * 4194304 := by
    intro l
    induction l with
    | nil => intro _; simp
    | cons p l ih =>
      intro hs
      have h1 := ih (fun q hq => hs q (by simp [hq]))
      have h2 : (VfsS.fl S p.2).text.size ≤ 4194304 := by
        have hi := h.idx p.2 (.inl ⟨p.1, hs p (by simp)⟩)
        unfold VfsS.fl
        rw [List.getD_eq_getElem?_getD, List.getElem?_eq_getElem hi]
        exact (h.dur _ (List.getElem_mem hi)).2
      simp only [List.map_cons, List.sum_cons, List.length_cons]
      omega
  exact Nat.le_trans (this S.now (fun _ h => h)) (Nat.mul_le_mul_right _ hl)

theorem live_of_find {S : St} {s : ByteArray} {i : Nat} (h : find S.now s = some i) : VfsS.Live S i := .inl ⟨s, VfsS.find_mem h⟩

theorem VB.names_le {w : World} {K : Nat → Prop} {N : Nat} {S : St} {bn bs : Nat} {av : Value} {φ : Nat → Nat} {ψ : Nat → Value} (h : VB w K N S bn bs av φ ψ) : S.now.length ≤ N := by
  obtain ⟨n, hn, D, ⟨es, clock, h1, h2, h3, h4⟩, h5, h6, h7⟩ := h.now
  subst h4
  have hsz := World.ownsMap.size_le (P := Tryd.prog) (⟨es, clock, h1, h2, h3, rfl⟩ : w.ownsMap Tryd.prog 9 NC.R bn n (.map ((es.toList.map (Go.WideElems.rg Tryd.prog 9 NC.R)).foldr DataW.insert [])))
  generalize hD : (es.toList.map (Go.WideElems.rg Tryd.prog 9 NC.R)).foldr DataW.insert [] = L at *
  have hsub : ∀ p ∈ S.now, NC.lit p.1 ∈ L.map (·.1) := by
    intro p hp
    have hx := (h6 p.1 (nm_max (h.wf.zn p hp))).1
    have : (nmF φ S.now p.1).isSome = true := (nmF_mem φ S.now p.1).1 (List.mem_map.2 ⟨p, hp, rfl⟩)
    rw [this] at hx
    obtain ⟨q, hq, hk⟩ := List.any_eq_true.1 hx
    exact List.mem_map.2 ⟨q, hq, WideAt.sameKey_eq hk⟩
  have hnd : ((S.now.map (·.1)).map NC.lit).Nodup := by
    rw [List.nodup_iff_pairwise_ne, List.pairwise_map]
    refine List.Pairwise.imp (fun {x y} hne e => hne (str_lit_inj e)) (List.nodup_iff_pairwise_ne.1 h.wf.dn)
  have hsp : ((S.now.map (·.1)).map NC.lit) ⊆ L.map (·.1) := by
    intro y hy
    obtain ⟨x, hx, rfl⟩ := List.mem_map.1 hy
    obtain ⟨p, hp, rfl⟩ := List.mem_map.1 hx
    exact hsub p hp
  have := nodup_le hnd (fun y hy => hsp hy)
  simp only [List.length_map] at this
  have hz : Maps.size (DataW.map L) = L.length := rfl
  rw [hz] at hsz
  omega

set_option maxRecDepth 100000 in
theorem used_c {w : World} {p : Nat} {S : St} {K : Nat → Prop} {N : Nat} (h : VRep w p S K N) :
    Calls Tryd.prog 42 #[.pointer (some ⟨p, 0, none⟩)] w fun e w' => e = .returned (.int .i64 (VfsS.used S : Nat)) ∧ Below w.heap.size w w' := by
  obtain ⟨bn, bs, av, φ, ψ, hB, hp, hkp, hs⟩ := h
  have hnl := hB.names_le
  have hul := used_le hB.wf hnl
  have hbig := hB.big
  obtain ⟨n, hn, hm⟩ := hB.now
  have c0 : w.cell? ⟨p, 0, none⟩ = some (.map (some bn)) := by rw [cell_of hp]; rfl
  have hbl := hm.lt
  have HW := Lib.hid hB.wf
  have HU := Lib.hid (sumN_names hB.wf)
  have HF := Lib.hid (fun i (hi : VfsS.Live S i) => hB.file i hi)
  have HL := Lib.hid (fun i (hi : VfsS.Live S i) => hB.lt hi)
  have hr := fun x => nmF_mem φ S.now x
  have hnd := hB.wf.dn
  have HUL : Hid (VfsS.used S ≤ 100000000 * 4194304) := Nat.le_trans hul (Nat.mul_le_mul_right _ hbig)
  clear hB hp hs hul
  go_enter Tryd.func42, Tryd.ntmps42
  go_wp2_with (at_range; refine wp_rangeG (C := NC) rfl _ rfl rfl hm (S.now.map (·.1)) hr hnd ?_)
  intro w1 hrg hg1 hsz1 _
  have hb1 : Below w.heap.size w w1 := ⟨hg1.os, hg1.tape, hg1.output, hg1.size, fun k hk => hg1.block k hk (by simp)⟩
  clear hm hr hnd hg1 c0
  go_wp2_with fail
  go_loopw [3] (fun nv wr => ∃ (acc : Nat) (l : List ByteArray), RanG NC wr bn w.heap.size n (nmF φ S.now) l ∧ nv = .int .i64 acc ∧ Hid (acc + sumN S l = VfsS.used S) ∧ Below w.heap.size w wr) (fun _ wr => wr.rangeLeft bn w.heap.size)
  case atStart => exact ⟨0, _, hrg, rfl, by show _ = _; rw [HU.out, Nat.zero_add], hb1⟩
  case round =>
    clear hrg hb1
    obtain ⟨acc, l, hrg, rfl, HA, hb⟩ := hrel
    go_wp2_with (at_next; refine wp_nextG (C := NC) rfl _ rfl rfl hrg ?_ ?_)
    · intro hl
      have HE : Hid (acc = VfsS.used S) := by show _ = _; rw [← HA.out, hl]; rfl
      go_wp2_with fail
      go_ret
      exact ⟨ret_i64 (by rw [HE.out]), hb⟩
    · intro x c w2 hx hF _ _ hrg2 hlt hg2 _ hen
      obtain ⟨i, hi, rfl⟩ : ∃ i, find S.now x = some i ∧ c = some (φ i) := by
        unfold nmF at hF
        rw [Option.map_eq_some_iff] at hF
        obtain ⟨i, h1, h2⟩ := hF
        exact ⟨i, h1, h2.symm⟩
      have hlive := live_of_find hi
      obtain ⟨hf1, hf2⟩ := HF.out i hlive
      obtain ⟨fa, fc, hpsi, -, -, -⟩ := hf2.form
      have hen2 : (Instr.entry (.pointer (some ⟨w.heap.size, 0, none⟩))).run Tryd.prog w2 = .ok (.tuple #[.string x, .pointer (some ⟨φ i, 0, none⟩)]) w2 := hen
      have hb2 := hb.grown hg2 hb.size (by intro k hk; injection hk with hk; omega)
      have hc2 : w2.cell? ⟨φ i, 0, none⟩ = some (.slice fa (VfsS.fl S i).text.size fc) := by
        rw [cell_of ((hb2.block _ (HL.out i hlive)).trans hf1)]; rw [hpsi]; rfl
      have HN : Hid ((acc + (VfsS.fl S i).text.size) + sumN S (lessOne l x) = VfsS.used S) := by
        show _ = _
        rw [← HA.out, sumN_erase S hrg.nodup hx]
        simp [sumN, hi]; omega
      have hle : acc + (VfsS.fl S i).text.size ≤ 100000000 * 4194304 := by have := HN.out; have := HUL.out; omega
      generalize (VfsS.fl S i).text.size = z at *
      have hw : IntKind.i64.wrap ((acc : Int) + (z : Int)) = ((acc + z : Nat) : Int) := by rw [← Int.natCast_add]; exact IntWalk.i64_in _ (by omega)
      clear hen hf1 hf2 hpsi hF hlive hi HA hg2
      go_wp2_with fail
      go_roundw
      case rel => exact ⟨acc + z, lessOne l x, hrg2, by first | rfl | go_num, HN, hb2⟩
      case measure => exact hlt

set_option maxRecDepth 100000 in
theorem left_c {w : World} {p : Nat} {S : St} {K : Nat → Prop} {N : Nat} (h : VRep w p S K N) :
    Calls Tryd.prog 50 #[.pointer (some ⟨p, 0, none⟩)] w fun e w' => e = .returned (.int .i64 ((S.room : Int) - VfsS.used S)) ∧ Below w.heap.size w w' := by
  have HU := Lib.hid (fun q => used_c (h.drewN q))
  obtain ⟨bn, bs, av, φ, ψ, hB, hp, hkp, hs⟩ := h
  have hul := used_le hB.wf hB.names_le
  have hbig := hB.big
  have hroom := hB.wf.room
  have c3 : w.cell? ⟨p, 3, none⟩ = some (.int .i64 S.room) := by rw [cell_of hp]; rfl
  have hm : N * 4194304 ≤ 100000000 * 4194304 := Nat.mul_le_mul_right _ hbig
  have hw : IntKind.i64.wrap ((S.room : Int) - (VfsS.used S : Int)) = (S.room : Int) - (VfsS.used S : Int) := IntWalk.i64_in _ (by omega)
  have hplt := (Array.getElem?_eq_some_iff.1 hp).1
  clear hB hp hs hul
  generalize VfsS.used S = u at *
  go_enter Tryd.func50, Tryd.ntmps50
  go_wp2_with fail
  go_region_held3 (fun w' => w'.cell? ⟨p, 3, none⟩ = some (.int .i64 S.room)) (first | exact cell_later hb' c3 | exact c3 | go_keep)
    (first | (go_at_call 42; refine (HU.out 1).mono ?_; rintro e w' ⟨rfl, hb'⟩))
  go_wp2_with fail
  go_ret
  exact ⟨rfl, (below_dN (Below.refl _ w) 1).trans hb'⟩

theorem file_get {S : St} {i : Nat} (h : i < S.files.length) : VfsS.fl S i = S.files[i] := by
  unfold VfsS.fl; rw [List.getD_eq_getElem?_getD, List.getElem?_eq_getElem h]; rfl

theorem file_ok {S : St} (h : VfsS.Wf S) {i : Nat} (hi : VfsS.Live S i) : (VfsS.fl S i).dur ≤ (VfsS.fl S i).text.size ∧ (VfsS.fl S i).text.size ≤ 4194304 := by
  rw [file_get (h.idx i hi)]; exact h.dur _ (List.getElem_mem _)

/-- A name's look-up. -/
theorem VB.look {w : World} {K : Nat → Prop} {N : Nat} {S : St} {bn bs : Nat} {av : Value} {φ : Nat → Nat} {ψ : Nat → Value} (h : VB w K N S bn bs av φ ψ) (s : ByteArray) (hs : s.size ≤ 10000000) :
    (Instr.lookup 109 (.map (some bn)) (.string s) false).run Tryd.prog w = .ok (match find S.now s with | some i => .pointer (some ⟨φ i, 0, none⟩) | none => .pointer none) w := by
  obtain ⟨n, _, hm⟩ := h.now
  have := hm.look s (nm_max hs)
  refine Eq.trans this ?_
  unfold nmF
  cases find S.now s <;> rfl

set_option maxRecDepth 100000 in
theorem read_c {w : World} {p : Nat} {S : St} {K : Nat → Prop} {N : Nat} (h : VRep w p S K N) (s : ByteArray) (hs : s.size ≤ 10000000) :
    Calls Tryd.prog 34 #[.pointer (some ⟨p, 0, none⟩), .string s] w fun e w' => ∃ v, e = .returned (.tuple #[v, .int .i64 (if (VfsS.readS S s).isSome then 0 else 4)]) ∧
      OwnG w' 5 1 v ((VfsS.readS S s).getD ByteArray.empty).size (byteCells ((VfsS.readS S s).getD ByteArray.empty)) ∧ (∀ k, v.ownBlock = some k → w.heap.size ≤ k) ∧ Below w.heap.size w w' := by
  obtain ⟨bn, bs, av, φ, ψ, hB, hp, hkp, hst⟩ := h
  have c0 : w.cell? ⟨p, 0, none⟩ = some (.map (some bn)) := by rw [cell_of hp]; rfl
  have hlk := hB.look s hs
  cases hf : find S.now s with
  | none =>
    have HR : Hid (VfsS.readS S s = none) := by show _ = _; unfold VfsS.readS; rw [hf]; rfl
    rw [hf] at hlk
    clear hf hB hp
    rw [HR.out]
    simp only [Option.isSome_none, Option.getD_none, Bool.false_eq_true, if_false]
    go_enter Tryd.func34, Tryd.ntmps34
    go_wp2_with fail
    go_ret2
    exact ⟨_, rfl, OwnG.nil _ _ _, (fun k hk => by cases hk), Below.refl _ _⟩
  | some i =>
    have hl := live_of_find hf
    have hok := file_ok hB.wf hl
    obtain ⟨hf1, hf2⟩ := hB.file i hl
    have c1 : w.cell? ⟨φ i, 0, none⟩ = some (ψ i) := by rw [cell_of hf1]; rfl
    have HC := Lib.hid (clone_c hf2 (by omega))
    have HR : Hid (VfsS.readS S s = some (VfsS.fl S i).text) := by show _ = _; unfold VfsS.readS; rw [hf]; rfl
    rw [hf] at hlk
    simp only at hlk
    clear hf hB hp hl hok hf1 hf2
    rw [HR.out]
    simp only [Option.isSome_some, Option.getD_some, if_true]
    clear HR
    generalize (VfsS.fl S i).text = tx at *
    go_enter Tryd.func34, Tryd.ntmps34
    go_wp2_with fail
    refine HC.out.mono ?_
    rintro e w1 ⟨v1, rfl, ho, hk, hb⟩
    go_wp2_with fail
    go_ret2
    exact ⟨_, rfl, ho, hk, hb⟩

set_option maxRecDepth 100000 in
theorem stop_c {w : World} {p : Nat} {S : St} {K : Nat → Prop} {N : Nat} (h : VRep w p S K N) (n : Int) (hn : -9223372036854775808 ≤ n ∧ n ≤ 9223372036854775807) :
    Calls Tryd.prog 47 #[.pointer (some ⟨p, 0, none⟩), .int .i64 n] w fun e w' => e = .returned (.tuple #[]) ∧ VRep w' p { S with limit := n } K N ∧ w.grownBy w' (some p) := by
  obtain ⟨bn, bs, av, φ, ψ, hB, hp, hkp, hst⟩ := h
  have c5 : w.cell? ⟨p, 5, none⟩ = some (.int .i64 S.limit) := by rw [cell_of hp]; rfl
  have f5 := frozen_of hp 5
  obtain ⟨s1, g1⟩ := set_block hp 5 (.int .i64 n)
  have HB := Lib.hid (hB.other hp (by decide) g1)
  have HS := Lib.hid s1
  have HG := Lib.hid g1
  clear hB hp s1 g1
  go_enter Tryd.func47, Tryd.ntmps47
  go_wp2_with fail
  go_end0
  exact ⟨rfl, ⟨bn, bs, av, φ, ψ, { HB.out with wf := { HB.out.wf with lim := hn } }, HS.out, hkp, hst⟩, HG.out⟩

set_option maxRecDepth 100000 in
theorem steps_c {w : World} {p : Nat} {S : St} {K : Nat → Prop} {N : Nat} (h : VRep w p S K N) :
    Calls Tryd.prog 54 #[.pointer (some ⟨p, 0, none⟩)] w fun e w' => e = .returned (.int .i64 S.steps) ∧ w' = w := by
  obtain ⟨bn, bs, av, φ, ψ, hB, hp, hkp, hst⟩ := h
  have c4 : w.cell? ⟨p, 4, none⟩ = some (.int .i64 S.steps) := by rw [cell_of hp]; rfl
  clear hB hp
  go_enter Tryd.func54, Tryd.ntmps54
  go_wp2_with fail
  go_ret
  exact ⟨rfl, rfl⟩
end Go.Proofs.YtfoamcobpfflbaaDoor
