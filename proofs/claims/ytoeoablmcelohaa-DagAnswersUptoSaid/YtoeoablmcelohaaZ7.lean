/- Texts of mine, joined: The walk of a graph: a function value is called for what some nodes come from, the youngest first. | Walks over graphs: Ancestors. -/
import Derived.Deep.LoopGhost
import Derived.Laws.AppendOwnNone
import Derived.Deep.Cut
import Derived.Test.YtoeoablmcelohaaZ6
namespace Go.Proofs.Ytoeoablmcelohaa
open Go Go.RowKit Go.Maps Go.Sort
open DagS (Nd nm pars par ids Wf)

/-- What has turned lies in K's blocks. -/
structure Only (K : Nat → Prop) (w w' : World) : Prop where
  os : w'.os = w.os
  tape : w'.tape = w.tape
  output : w'.output = w.output
  size : w.heap.size ≤ w'.heap.size
  block : ∀ k, k < w.heap.size → ¬ K k → w'.heap[k]? = w.heap[k]?
section
variable {K K' : Nat → Prop} {a b c : World}
theorem Only.refl (K : Nat → Prop) (w : World) : Only K w w := ⟨rfl, rfl, rfl, Nat.le_refl _, fun _ _ _ => rfl⟩
theorem Only.of_below (h : Below a.heap.size a b) : Only K a b := ⟨h.os, h.tape, h.output, h.size, fun k hk _ => h.block k hk⟩
theorem Only.below (h : Only (fun _ => False) a b) : Below a.heap.size a b := ⟨h.os, h.tape, h.output, h.size, fun k hk => h.block k hk id⟩
theorem Only.mono (h : Only K a b) (hk : ∀ k, K k → k < a.heap.size → K' k) : Only K' a b := ⟨h.os, h.tape, h.output, h.size, fun k hl hn => h.block k hl fun e => hn (hk k e hl)⟩
/-- Behind each other: what the second one turns is the first one's, or new. -/
theorem Only.trans (h : Only K a b) (k : Only K' b c) (hk : ∀ i, K' i → K i ∨ a.heap.size ≤ i) : Only K a c :=
  ⟨k.os.trans h.os, k.tape.trans h.tape, k.output.trans h.output, Nat.le_trans h.size k.size, fun i hi hn => by
    rw [k.block i (Nat.lt_of_lt_of_le hi h.size) (fun e => (hk i e).elim hn fun e => by omega)]
    exact h.block i hi hn⟩
theorem Only.of_grown {row : Option Nat} (h : a.grownBy b row) (hk : ∀ k, row = some k → K k) : Only K a b :=
  ⟨h.os, h.tape, h.output, h.size, fun k hl hn => h.block k hl fun e => hn (hk k e.symm)⟩
end

theorem gclone_c (a : Option Addr) (c : Nat) (l : List ByteArray) (w : World) (hs : Sl w a (trow l)) (hl : l.length ≤ 20000000) :
    Calls Try.prog 37 #[.slice a l.length c] w fun e w' => ∃ v, e = .returned v ∧ w'.ownsRow w.heap.size 9 1 v l.length (trow l) ∧ Below w.heap.size w w' := by
  cases a with
  | none =>
    have hl0 : l = [] := by
      rcases hs with h | ⟨_, _, h, _⟩
      · exact List.map_eq_nil_iff.1 h
      · cases h
    subst hl0
    refine (Try.slices_Clone_string_nil 0 c w).mono ?_
    rintro e w' ⟨rfl, rfl⟩
    exact ⟨_, rfl, World.ownsRow_nil _ _ _ _, Below.refl _ _⟩
  | some a0 =>
    rcases hs with h | ⟨b, o, ha, hb, hc⟩
    · have hl0 : l = [] := List.map_eq_nil_iff.1 h
      subst hl0
      refine (Try.slices_Clone_string_zero a0 c w).mono ?_
      rintro e w' ⟨v, rfl, h1, -, h2⟩
      exact ⟨v, rfl, h1, h2⟩
    · injection ha with ha
      subst ha
      refine (Try.slices_Clone_string b o l.length c l w (Nat.le_refl _) (by omega) fun j hj => ?_).mono ?_
      · rw [hc j (.string (l.getD j ByteArray.empty))]
        unfold trow
        rw [List.getElem?_map, List.getElem?_eq_getElem hj, List.getD_eq_getElem?_getD, List.getElem?_eq_getElem hj]
        rfl
      · rintro e w' ⟨v, rfl, h1, -, h2⟩
        rw [List.take_length] at h1
        exact ⟨v, rfl, h1, h2⟩

/-- A function value that a walk calls: 'I W V E': behind the calls for V; its own blocks are E's. -/
structure Cl (K : Nat → Prop) (p : Nat) (g : List Nd) (fid : Nat) (lb : Array Value) (d : Nat → Bool) (from' : List Nat) (I : World → List Nat → (Nat → Prop) → Prop) : Prop where
  lt : ∀ {W V E}, I W V E → ∀ k, E k → k < W.heap.size
  frame : ∀ {W W' V E}, I W V E → (∀ k, E k → W'.heap[k]? = W.heap[k]?) → W.heap.size ≤ W'.heap.size → I W' V E
  call : ∀ {W V E i}, I W V E → GM K W p g → (∀ k, E k → ¬ K k) → i < g.length → DagS.W d (par g) from' i → (∀ j, j ∈ V ↔ DagS.W d (par g) from' j ∧ i < j) → V.Pairwise (· > ·) →
    Calls Try.prog fid (#[.string (nm g i)] ++ lb) W fun e W' => e = .returned (.bool (d i)) ∧ (∃ E', I W' (V ++ [i]) E' ∧ ∀ k, E' k → E k ∨ W.heap.size ≤ k) ∧ Only E W W'

/-- The names that were seen. -/
noncomputable def seenF (g : List Nd) (V : List Nat) (s : ByteArray) : Option Int := open Classical in if s ∈ V.map (nm g) then some 1 else none

/-- Between two steps of the walk, as it lies in memory: the heap is 'H', 'Vs' were seen, the function was called for 'V'. -/
structure WM (K : Nat → Prop) (p : Nat) (g : List Nd) (I : World → List Nat → (Nat → Prop) → Prop) (w : World) (E0 : Nat → Prop) (sm : Nat) (hv : Value) (wx : World) (H : List ByteArray) (Vs V : List Nat) (E : Nat → Prop) : Prop where
  row : wx.ownsRow (w.heap.size + 1) 9 1 hv H.length (trow H)
  sz : ∀ s ∈ H, s.size ≤ 10000000
  seen : MapG OC wx sm Vs.length (seenF g Vs)
  bx : wx.cell? ⟨w.heap.size, 0, none⟩ = some (.pointer (some ⟨p, 0, none⟩))
  i : I wx V E
  ek : ∀ k, E k → ¬ K k ∧ k ≠ sm ∧ k ≠ w.heap.size ∧ hv.ownBlock ≠ some k
  e0 : ∀ k, E k → E0 k ∨ w.heap.size ≤ k
  kl : ∀ k, K k → k < w.heap.size
  sl : w.heap.size < sm
  only : Only E0 w wx
  gm : GM K wx p g

theorem cell_blk {w w' : World} {b o : Nat} {u : Value} (h : w.cell? ⟨b, o, none⟩ = some u) (hb : w'.heap[b]? = w.heap[b]?) : w'.cell? ⟨b, o, none⟩ = some u := by
  rw [← h]; simp only [World.cell?]; rw [hb]
theorem own_ne_mapG {α : Type} {t e : TypeId} {C : MC Try.prog t 9 e ByteArray α} {F : ByteArray → Option α} {w : World} {base : Nat} {e' : TypeId} {s : Nat} {v : Value} {n : Nat} {xs : List Value} (h : w.ownsRow base e' s v n xs) {b m : Nat} (hm : MapG C w b m F) : v.ownBlock ≠ some b := by
  obtain ⟨es, clock, hb⟩ := hm.isMap
  rcases h.2 with ⟨rfl, _⟩ | ⟨g, cap, cur, rfl, hb', hg, _⟩
  · simp [Value.ownBlock]
  · simp only [Value.ownBlock, ne_eq, Option.some.injEq]
    rintro rfl
    rw [hb] at hg
    cases hg

section
variable {K : Nat → Prop} {p : Nat} {g : List Nd} {fid : Nat} {lb : Array Value} {d : Nat → Bool} {from' : List Nat} {I : World → List Nat → (Nat → Prop) → Prop} {w wx w' : World} {E0 E : Nat → Prop} {sm : Nat} {hv v' : Value} {H L : List ByteArray} {Vs V : List Nat}
theorem WM.szx (h : WM K p g I w E0 sm hv wx H Vs V E) : w.heap.size < wx.heap.size := by
  have := h.seen.lt
  have := h.sl
  omega
/-- The heap's row is another one, where it lay or in a new block; all else lies as it lay. -/
theorem WM.heap (C : Cl K p g fid lb d from' I) (h : WM K p g I w E0 sm hv wx H Vs V E) (hr : w'.ownsRow (w.heap.size + 1) 9 1 v' L.length (trow L)) (hz : ∀ s ∈ L, s.size ≤ 10000000) (hg : wx.grownBy w' hv.ownBlock) (hn : ∀ k, v'.ownBlock = some k → hv.ownBlock = some k ∨ wx.heap.size ≤ k) :
    WM K p g I w E0 sm v' w' L Vs V E := by
  have hsz := h.szx
  have hbl : ∀ k, k < w.heap.size + 1 → w'.heap[k]? = wx.heap[k]? := fun k hk => hg.block k (by omega) fun e => by
    have := (h.row.lt k e.symm).1
    omega
  refine { row := hr, sz := hz, seen := h.seen.block (hg.block sm h.seen.lt (own_ne_mapG h.row h.seen).symm), bx := cell_blk h.bx (hbl _ (by omega)), i := ?_, ek := fun k hk => ?_, e0 := h.e0, kl := h.kl, sl := h.sl, only := ?_, gm := h.gm.keep hg.size fun k hk => hbl k (by have := h.kl k hk; omega) }
  · exact C.frame h.i (fun k hk => hg.block k (C.lt h.i k hk) (h.ek k hk).2.2.2.symm) hg.size
  · obtain ⟨a1, a2, a3, a4⟩ := h.ek k hk
    refine ⟨a1, a2, a3, fun e => ?_⟩
    have := C.lt h.i k hk
    rcases hn k e with e2 | e2
    · exact a4 e2
    · omega
  · exact h.only.trans (Only.of_grown (K := fun k => hv.ownBlock = some k) hg fun k e => e) fun k e => .inr (by have := (h.row.lt k e).1; omega)
/-- One was seen. -/
theorem WM.mark (C : Cl K p g fid lb d from' I) (h : WM K p g I w E0 sm hv wx H Vs V E) {Vs' : List Nat} (hm : MapG OC w' sm Vs'.length (seenF g Vs')) (hg : wx.grownBy w' (some sm)) : WM K p g I w E0 sm hv w' H Vs' V E := by
  have hsz := h.szx
  have hbl : ∀ k, k < wx.heap.size → k ≠ sm → w'.heap[k]? = wx.heap[k]? := fun k hk hne => hg.block k hk fun e => hne (by injection e)
  have hsl := h.sl
  refine { row := h.row.kept hg (.inr fun e => own_ne_mapG h.row h.seen (by rw [e])), sz := h.sz, seen := hm, bx := cell_blk h.bx (hbl _ hsz (by omega)), i := ?_, ek := h.ek, e0 := h.e0, kl := h.kl, sl := h.sl, only := ?_, gm := h.gm.keep hg.size fun k hk => hbl k (by have := h.kl k hk; omega) (by have := h.kl k hk; omega) }
  · exact C.frame h.i (fun k hk => hbl k (C.lt h.i k hk) (h.ek k hk).2.1) hg.size
  · exact h.only.trans (Only.of_grown (K := fun k => k = sm) hg fun k e => by injection e with e; exact e.symm) fun k e => .inr (by rw [e]; omega)
/-- The function was called. -/
theorem WM.called (h : WM K p g I w E0 sm hv wx H Vs V E) {V' : List Nat} {E' : Nat → Prop} (hi : I w' V' E') (he : ∀ k, E' k → E k ∨ wx.heap.size ≤ k) (ho : Only E wx w') : WM K p g I w E0 sm hv w' H Vs V' E' := by
  have hsz := h.szx
  have hsl := h.sl
  have hbl : ∀ k, k < wx.heap.size → ¬ E k → w'.heap[k]? = wx.heap[k]? := ho.block
  refine { row := ?_, sz := h.sz, seen := h.seen.block (hbl sm h.seen.lt fun e => (h.ek sm e).2.1 rfl), bx := cell_blk h.bx (hbl _ hsz fun e => (h.ek _ e).2.2.1 rfl), i := hi, ek := fun k hk => ?_, e0 := fun k hk => ?_, kl := h.kl, sl := h.sl, only := ?_, gm := h.gm.keep ho.size fun k hk => hbl k (by have := h.kl k hk; omega) fun e => (h.ek k e).1 hk }
  · rcases h.row.2 with ⟨e, hz⟩ | ⟨gb, cap, cur, rfl, r1, r2, r3⟩
    · exact ⟨h.row.1, .inl ⟨e, hz⟩⟩
    · exact ⟨h.row.1, .inr ⟨gb, cap, cur, rfl, r1, (hbl gb (Array.getElem?_eq_some_iff.1 r2).1 fun e => (h.ek gb e).2.2.2 rfl).trans r2, r3⟩⟩
  · rcases he k hk with e | e
    · exact h.ek k e
    · refine ⟨fun hk2 => by have := h.kl k hk2; omega, fun e2 => by have := h.seen.lt; omega, by omega, fun e2 => ?_⟩
      have := (h.row.lt k e2).2
      omega
  · rcases he k hk with e | e
    · exact h.e0 k e
    · exact .inr (by omega)
  · exact h.only.trans ho h.e0
end
theorem own_take {w : World} {base : Nat} {e : TypeId} {gb n c k : Nat} {xs : List Value} (h : w.ownsRow base e 1 (.slice (some ⟨gb, 0, none⟩) n c) n xs) (hk : k ≤ n) : w.ownsRow base e 1 (.slice (some ⟨gb, 0, none⟩) k c) k (xs.take k) := by
  rcases h.2 with ⟨e0, _⟩ | ⟨g', cap', cur, e0, hb, hg, hn, hm, hs, ht⟩
  · cases e0
  · injection e0 with e1 _ e3
    injection e1 with e1
    injection e1 with e1
    subst e1; subst e3
    have hl := h.1
    refine ⟨by rw [List.length_take]; omega, .inr ⟨gb, c, cur, rfl, hb, hg, by omega, hm, hs, ?_⟩⟩
    rw [← ht, List.take_take]
    congr 1
    omega

theorem _root_.Go.Proofs.Ytoeoablmcelohaa.DagS.Wf.anc_lt' {g : List Nd} {d : Nat → Bool} {l : List ByteArray} (h : Wf g) {i : Nat} (hi : DagS.W d (par g) (ids g l) i) : i < g.length := hi.le h.par_lt DagS.ids_lt
theorem told_len {g : List Nd} {d : Nat → Bool} {l : List ByteArray} (hw : Wf g) {V : List Nat} (hd : V.Pairwise (· > ·)) (hV : ∀ j ∈ V, DagS.W d (par g) (ids g l) j) : V.length ≤ g.length := by
  have := nodup_le (l := V) (m := List.range g.length) (hd.imp fun h => by show _ ≠ _; omega) fun j hj => List.mem_range.2 (hw.anc_lt' (hV j hj))
  rwa [List.length_range] at this
theorem mem_nm {g : List Nd} (hw : Wf g) {V : List Nat} (hV : ∀ j ∈ V, j < g.length) {m : Nat} (hm : m < g.length) : nm g m ∈ V.map (nm g) ↔ m ∈ V := by
  rw [List.mem_map]
  exact ⟨fun ⟨j, hj, e⟩ => hw.dist.inj (hV j hj) hm e ▸ hj, fun h => ⟨m, h, rfl⟩⟩

/-- 'append(s, x...)', s the call's own texts, x any texts: the row lies where it lay, or in a new block. -/
theorem own_app {w : World} {base : Nat} {v : Value} {n : Nat} {xs : List Value} (h : w.ownsRow base 9 1 v n xs) (hb : base ≤ w.heap.size) {a : Option Addr} {c : Nat} {l : List ByteArray} (hs : Sl w a (trow l)) (hc : a = none → c = 0) (hn : n + l.length ≤ 20000000) (ty : TypeId) :
    ∃ v' w', (Builtin.append_ #[32, 32] ty #[v, .slice a l.length c]).run Try.prog w = .ok v' w' ∧ w'.ownsRow base 9 1 v' (n + l.length) (xs ++ trow l) ∧ w.grownBy w' v.ownBlock ∧ (∀ k, v'.ownBlock = some k → v.ownBlock = some k ∨ w.heap.size ≤ k) := by
  obtain ⟨i, hi, g1, g2, g3⟩ := info_parts textElem.info
  have h63 : n + l.length ≤ maxLen := by rw [show maxLen = 9223372036854775807 from rfl]; omega
  cases a with
  | none =>
    have hl0 : l = [] := by
      rcases hs with h | ⟨_, _, h, _⟩
      · exact List.map_eq_nil_iff.1 h
      · cases h
    subst hl0
    obtain rfl := hc rfl
    have := run_append_owned_none (P := Try.prog) (w := w) base 32 ty 9 i 1 textElem.under hi v n xs h
    exact ⟨v, w, this, by rw [show trow ([] : List ByteArray) = [] from rfl, List.append_nil]; exact h, World.grownBy.refl _ _, fun k hk => .inl hk⟩
  | some a0 =>
    have hcell : ∀ j u, (trow l)[j]? = some u → w.cell? (a0.add j) = some u := by
      rcases hs with h | ⟨b, o, e, hlt, hcc⟩
      · rw [h]; intro j u hj; cases hj
      · injection e with e
        subst e
        intro j u hj
        have := hcc j u hj
        rwa [Addr.add_lit]
    obtain ⟨v1, w1, r1, o1, q1, -⟩ := run_append_own (P := Try.prog) w base 32 ty 9 i (.string ByteArray.empty) 1 16 textElem.under hi g1 g2 g3 rfl (by decide) v n xs h a0 l.length c (trow l) (by rw [trow_len, Nat.mul_one]) hcell (trow_one l) h63 (by omega) hb
    obtain ⟨v2, w2, r2, -, -, q2⟩ := (OwnG.of_own h).app (ty := ty) textElem rfl (Src.ofSlice (P := Try.prog) (tx := 32) w Try.underlying32 a0 l.length c (trow l) (by rw [trow_len, Nat.mul_one]) hcell (trow_one l)) h63 (by omega)
    rw [r1] at r2
    injection r2 with e1 e2
    subst e1 e2
    exact ⟨v1, w1, r1, o1, q1, q2⟩
theorem wp_appR {ops : Array Oper} {rest : List Oper} {o : Oper} {a : Act} {Q : Exit → Act → World → Prop} {w : World} (hgd : o.guard = none) (s x : Operand)
    (ho : o.op = .call { callee := .builtin .append, args := #[s, x], argTypes := #[32, 32] }) {base : Nat} {v : Value} {n : Nat} {xs : List Value}
    (hs : a.eval s = v) (h : w.ownsRow base 9 1 v n xs) (hb : base ≤ w.heap.size) {ad : Option Addr} {c : Nat} {l : List ByteArray} (hx : a.eval x = .slice ad l.length c) (hsl : Sl w ad (trow l)) (hc : ad = none → c = 0) (hn : n + l.length ≤ 20000000)
    (hK : ∀ v' w', w'.ownsRow base 9 1 v' (n + l.length) (xs ++ trow l) → w.grownBy w' v.ownBlock → (∀ k, v'.ownBlock = some k → v.ownBlock = some k ∨ w.heap.size ≤ k) → wpList Try.prog ops Q rest (a.put o.dst v') w') :
    wpList Try.prog ops Q (o :: rest) a w := by
  refine wpList_plain hgd fun K hK' => ?_
  obtain ⟨v', w', hr, h2, h3, h4⟩ := own_app h hb hsl hc hn o.type
  unfold Oper.wp execOp
  simp only [ho, resolve, invoke, builtin, Sem.run_bind, Sem.run_pure, Result.andThen_ok, List.map_toArray, List.map_cons, List.map_nil, hs, hx, hr]
  exact hK' _ _ (hK v' w' h2 h3 h4)

set_option maxRecDepth 100000 in
set_option maxHeartbeats 4000000 in
theorem walk_c {K : Nat → Prop} {w : World} {p : Nat} {g : List Nd} (hG : GM K w p g) {fid : Nat} {lb : Array Value} {d : Nat → Bool} {I : World → List Nat → (Nat → Prop) → Prop} {fa : Option Addr} {fc : Nat} {l : List ByteArray} (hf : Sl w fa (trow l)) (hl : l.length ≤ 9000000) (hz : ∀ s ∈ l, s.size ≤ 10000000)
    (C : Cl K p g fid lb d (ids g l) I) (eg : ∀ args w, (callFunc fid args).run Try.prog w = .ok (.enter fid args) w) {E : Nat → Prop} (hI : I w [] E) (hE : ∀ k, E k → ¬ K k) :
    Calls Try.prog 28 #[.pointer (some ⟨p, 0, none⟩), .slice fa l.length fc, .func (.func fid) #[] lb] w fun e w' => e = .returned (.tuple #[]) ∧ ∃ V E', I w' V E' ∧ DagS.Told d (par g) (ids g l) V 0 ∧ Only E w w' ∧ ∀ k, E' k → E k ∨ w.heap.size ≤ k := by
  have hbA : Below w.heap.size w (w.alloc (.cells #[.pointer (some ⟨p, 0, none⟩)] 25)) := (Below.refl _ w).alloc (Nat.le_refl _) _
  have hxA : (w.alloc (.cells #[.pointer (some ⟨p, 0, none⟩)] 25)).heap[w.heap.size]? = some (.cells #[.pointer (some ⟨p, 0, none⟩)] 25 (0, 0)) := Array.getElem?_push_size
  have hsA : (w.alloc (.cells #[.pointer (some ⟨p, 0, none⟩)] 25)).heap.size = w.heap.size + 1 := by simp
  have HCL := Lib.hid (gclone_c fa fc l _ (hf.below hbA) (by omega))
  have HG := Lib.hid hG
  have HC := Lib.hid C
  have HI := Lib.hid hI
  have HE : Hid (∀ k, E k → ¬ K k) := hE
  have HZ : Hid (∀ s ∈ l, s.size ≤ 10000000) := hz
  have hmm := fun (t : TypeId) (w : World) => run_makeMap (P := Try.prog) t w
  clear hG hf C hI hE hz
  go_enter Try.func28, Try.ntmps28
  go_upto_region 1 with fail
  generalize w.alloc (.cells #[.pointer (some ⟨p, 0, none⟩)] 25) = WA at *
  go_wp2_with (go_at_call 37; refine HCL.out.mono ?_; rintro e w1 ⟨v1, rfl, ho1, hb1⟩)
  have hb01 := hbA.trans (hb1.mono hbA.size)
  have hbM := hb01.alloc hb01.size (.map #[] 0)
  have hpt := pot_le HG.out.wf HG.out.len
  obtain ⟨N, hN⟩ : ∃ N, l.length + pot g g.length = N := ⟨_, rfl⟩
  have hNl : N ≤ 10000000 := by omega
  have hs1 : w.heap.size + 1 ≤ w1.heap.size := by rw [← hsA]; exact hb1.size
  have HJ0 : Hid (WM K p g I w E w1.heap.size v1 (w1.alloc (.map #[] 0)) l [] [] E) := by
    refine { row := ?_, sz := HZ.out, seen := ?_, bx := ?_, i := ?_, ek := fun k hk => ?_, e0 := fun k hk => .inl hk, kl := fun k hk => HG.out.lt hk, sl := by omega, only := Only.of_below hbM, gm := HG.out.below hbM }
    · rw [hsA] at ho1; exact ho1.alloc _
    · refine (MapG.made OC w1).congr fun s => ?_
      unfold seenF
      rw [if_neg]
      exact fun h => (nomatch h)
    · have h1 : w1.heap[w.heap.size]? = some (.cells #[.pointer (some ⟨p, 0, none⟩)] 25 (0, 0)) := (hb1.block _ (by omega)).trans hxA
      have h2 := ((((Below.refl _ w1).alloc (Nat.le_refl _) (.map #[] 0)).block w.heap.size (by omega)).trans h1)
      simp [World.cell?, h2]
    · exact HC.out.frame HI.out (fun k hk => hbM.block k (HC.out.lt HI.out k hk)) hbM.size
    · have := HC.out.lt HI.out k hk
      refine ⟨HE.out k hk, by omega, by omega, fun e => ?_⟩
      have := (ho1.lt k e).1
      omega
  generalize w1.heap.size = sm at *
  have HWS : Hid (WS g d (ids g l) l [] g.length) := WS.start HG.out.wf l
  have HNN : Hid (l.length + pot g g.length = N) := hN
  have hnn : l.length + pot g g.length = N := hN
  clear ho1 hb1 hb01 hbM hbA hxA hsA HCL HI hpt hs1 hN hnn
  go_loopg [6] N (fun n hv wx => ∃ H V v E', WM K p g I w E sm hv wx H V V E' ∧ WS g d (ids g l) H V v ∧ H.length + pot g v ≤ n ∧ n ≤ N)
  case atStart => exact ⟨_, _, _, _, HJ0.out, HWS.out, Nat.le_of_eq HNN.out, Nat.le_refl _⟩
  case round =>
    clear HJ0 HWS HNN
    obtain ⟨H, V, v, E', hJ, hW, hn1, hn2⟩ := hrel
    have HJ := Lib.hid hJ
    have HW := Lib.hid hW
    have HN1 := Lib.hid hn1
    have HN2 := Lib.hid hn2
    clear hJ hW hn1 hn2
    obtain ⟨ha, hc, rfl, -, -, -⟩ := own_sl HJ.out.row
    rcases Nat.eq_zero_or_pos H.length with hH | hpos
    · obtain rfl := List.eq_nil_of_length_eq_zero hH
      clear hH
      have hd : decide ((([] : List ByteArray).length : Int) > 0) = false := rfl
      go_wp2_with fail
      go_end0
      exact ⟨rfl, V, E', HJ.out.i, HW.out.done, HJ.out.only, HJ.out.e0⟩
    · obtain ⟨gb, cc, e, hcc, hgb, hgl, -⟩ := own_some HJ.out.row (own_ne HJ.out.row hpos)
      injection e with e1 _ e3
      subst e1 e3
      have hn1 := HN1.out
      have hn2 := HN2.out
      have HS := Lib.hid (hsort_c HJ.out.gm (base := w.heap.size + 1) (fun k hk => Nat.lt_succ_of_lt (HG.out.lt hk)) (Nat.lt_succ_self _) HJ.out.bx HJ.out.row HJ.out.sz (by omega))
      obtain ⟨k, hk⟩ : ∃ k, H.length = k + 1 := ⟨H.length - 1, by omega⟩
      have hd : decide ((H.length : Int) > 0) = true := decide_eq_true (by omega)
      have hd' : decide ((0 : Int) < (H.length : Int)) = true := decide_eq_true (by omega)
      have hd2 : decide (0 < H.length) = true := decide_eq_true (by omega)
      have hd3 : (0 : Int) < (H.length : Int) := by omega
      have HK1 := Lib.hid hk
      clear hk hn1
      go_upto_region 5 with (go_at_call 46; refine HS.out.mono ?_; rintro e w2 ⟨rfl, s, hp, hsrt, ho2, hg2⟩)
      have hkk := HK1.out
      have hn1 := HN1.out
      have hn2 := HN2.out
      have hsl : s.length = k + 1 := by rw [hp.length_eq, HK1.out]
      obtain ⟨L, x, rfl⟩ : ∃ L x, s = L ++ [x] := ⟨s.dropLast, s.getLast (by intro e; rw [e] at hsl; cases hsl), (List.dropLast_concat_getLast _).symm⟩
      have hLl : L.length = k := by simpa using hsl
      have hws := HW.out.perm hp
      have hsz2 : ∀ y ∈ L ++ [x], y.size ≤ 10000000 := fun y hy => HJ.out.sz y (hp.mem_iff.1 hy)
      have hx1 := hsz2 x (List.mem_append.2 (.inr (.head _)))
      have htop : ∀ y ∈ L, ord g y ≤ ord g x := fun y hy => (List.pairwise_append.1 hsrt).2.2 y hy x (.head _)
      have hM : WM K p g I w E sm (.slice (some ⟨gb, 0, none⟩) L.length hc) w2 L V V E' := by
        refine HJ.out.heap HC.out ?_ (fun y hy => hsz2 y (List.mem_append.2 (.inl hy))) hg2 (fun k hk => .inl hk)
        have := own_take ho2 (k := L.length) (by omega)
        rwa [trow_append, List.take_left' (trow_len L)] at this
      have hcell : w2.cell? ⟨gb, k, none⟩ = some (.string x) := by
        rw [ho2.cellAt k (by omega), trow_append, List.getElem?_append_right (by rw [trow_len]; omega), trow_len, hLl, Nat.sub_self]
        rfl
      obtain ⟨m1, m2, φ, hB, -⟩ := hM.gm
      have c0 := hB.c0
      have hbx := hM.bx
      obtain ⟨y0, hth⟩ := hB.there hx1
      have hlk : (Instr.lookup 61 (.map (some sm)) (.string x) false).run Try.prog w2 = .ok (.int .i64 ((seenF g V x).getD 0)) w2 := hM.seen.look x (name_max hx1)
      obtain ⟨pa, pc, hpl, hps, hpc⟩ := hB.plook hx1
      have hwk : IntKind.i64.wrap ((H.length : Int) - 1) = (k : Int) := by
        have := HK1.out
        rw [show ((H.length : Int) - 1) = (k : Int) by omega]
        exact IntWalk.i64_in _ (by omega)
      have hk0 : (0 : Int) ≤ (k : Int) := by omega
      have hk1 : (k : Int) < (H.length : Int) := by have := HK1.out; omega
      have hk2 : (k : Int) ≤ (hc : Int) := by have := HK1.out; omega
      rw [hLl] at hM
      have HM := Lib.hid hM
      have HWS := Lib.hid hws
      have HTOP := Lib.hid htop
      have HLL := Lib.hid hLl
      have HPS := Lib.hid hps
      have HPC := Lib.hid hpc
      have HSZ2 := Lib.hid hsz2
      have HB := Lib.hid hB
      have HX1 := Lib.hid hx1
      clear hM hws htop hLl hps hpc hsz2 hB hsrt hp ho2 hg2 hsl HS HJ HW hx1 hkk hn1 hn2
      cases hfx : DagS.find g x with
      | none =>
        have HFX := Lib.hid hfx
        rw [hfx] at hth
        have hth : (Instr.lookup 60 (.map (some m1)) (.string x) true).run Try.prog w2 = .ok (.tuple #[y0, .bool false]) w2 := hth
        clear hfx hpl hlk
        go_wp2_with fail
        go_roundg (gk - 1)
        case measure => have := HN1.out; have := HK1.out; omega
        case rel => exact ⟨L, V, v, E', HM.out, HWS.out.none HFX.out, by have := HN1.out; have := HK1.out; have := HLL.out; omega, by have := HN2.out; omega⟩
      | some m =>
        have HFX := Lib.hid hfx
        rw [hfx] at hth
        have hth : (Instr.lookup 60 (.map (some m1)) (.string x) true).run Try.prog w2 = .ok (.tuple #[y0, .bool true]) w2 := hth
        clear hfx
        have hmg := DagS.find_lt HFX.out
        have hnm := DagS.find_nm HFX.out
        have hVlt : ∀ j ∈ V, j < g.length := fun j hj => (HM.out.gm.wf).anc_lt' ((HWS.out.told.mem j).1 hj).1
        by_cases hmV : m ∈ V
        · have hsn : (seenF g V x).getD 0 = 1 := by
            unfold seenF
            rw [if_pos]
            · rfl
            · rw [← hnm]; exact (mem_nm HM.out.gm.wf hVlt hmg).2 hmV
          rw [hsn] at hlk
          clear hpl hsn hVlt hnm hmg
          go_wp2_with fail
          go_roundg (gk - 1)
          case measure => have := HN1.out; have := HK1.out; omega
          case rel => exact ⟨L, V, v, E', HM.out, HWS.out.seen HFX.out hmV, by have := HN1.out; have := HK1.out; have := HLL.out; omega, by have := HN2.out; omega⟩
        · have hsn : (seenF g V x).getD 0 = 0 := by
            unfold seenF
            rw [if_neg]
            · rfl
            · rw [← hnm]; exact fun h => hmV ((mem_nm HM.out.gm.wf hVlt hmg).1 h)
          rw [hsn] at hlk
          have hVn : V.length ≤ g.length := by
            have := nodup_le (l := V) (m := List.range g.length) (HWS.out.told.desc.imp fun h => by show _ ≠ _; omega) fun j hj => List.mem_range.2 (hVlt j hj)
            rwa [List.length_range] at this
          have hgl2 := HM.out.gm.len
          have hVm : V.length < maxLen := by rw [show maxLen = 9223372036854775807 from rfl]; omega
          have HSF : Hid (∀ z, (if z = x then some 1 else seenF g V z) = seenF g (V ++ [m]) z) := fun z => by
            unfold seenF
            rw [List.map_append, List.map_singleton, hnm]
            by_cases e : z = x
            · subst e
              rw [if_pos rfl, if_pos (List.mem_append.2 (.inr (.head _)))]
            · rw [if_neg e]
              by_cases e2 : z ∈ V.map (nm g)
              · rw [if_pos e2, if_pos (List.mem_append.2 (.inl e2))]
              · rw [if_neg e2, if_neg fun h => (List.mem_append.1 h).elim e2 fun h => e (List.mem_singleton.1 h)]
          have HNM := Lib.hid hnm
          have HMG := Lib.hid hmg
          have HMV : Hid (m ∉ V) := hmV
          have HWM := Lib.hid (HWS.out.all HFX.out).1
          have HAH := Lib.hid (HWS.out.ahead HM.out.gm.wf HFX.out HTOP.out hmV)
          have HSEEN := Lib.hid HM.out.seen
          have HDE := Lib.hid HWS.out.told.desc
          have HXM := Lib.hid (name_max HX1.out)
          clear hsn hVlt hnm hmg hmV hVn hgl2 hpl
          obtain ⟨u, hu⟩ : ∃ u, d m = u := ⟨_, rfl⟩
          have HU := Lib.hid hu
          have HCA : Hid (∀ W, WM K p g I w E sm (.slice (some ⟨gb, 0, none⟩) k hc) W L (V ++ [m]) V E' → Calls Try.prog fid (#[.string x] ++ lb) W fun e W' => e = .returned (.bool u) ∧ (∃ E4, I W' (V ++ [m]) E4 ∧ ∀ k, E4 k → E' k ∨ W.heap.size ≤ k) ∧ Only E' W W') := fun W hW => by
            have := HC.out.call hW.i hW.gm (fun k hk => (hW.ek k hk).1) HMG.out HWM.out HAH.out HDE.out
            rw [HNM.out, HU.out] at this
            exact this
          clear hu
          go_upto_region 10 with (at_mapUpdate; refine wp_putG rfl _ _ _ rfl rfl HSEEN.out x (1 : Int) rfl rfl HXM.out trivial hVm ?_; intro w3 hm3 hg3)
          have hM3 := HM.out.mark HC.out (Vs' := V ++ [m]) (by rw [List.length_append, List.length_singleton]; exact hm3.congr HSF.out) hg3
          have HM3 := Lib.hid hM3
          have HCB := Lib.hid (HCA.out _ hM3)
          clear hm3 hg3 hM3 HCA HSEEN HSF HM
          have HTK := Lib.hid (HWS.out.take HM3.out.gm.wf HFX.out HTOP.out HMV.out)
          have hmv := HWS.out.lt HFX.out HMV.out
          have HPT := Lib.hid (pot_take g hmv)
          cases u with
          | false =>
            go_wp2_with (go_at_fn fid; refine HCB.out.mono ?_; rintro e w4 ⟨rfl, ⟨E4, hI4, hE4⟩, ho4⟩)
            go_roundg (L.length + pot g m)
            case measure => have := HN1.out; have := HK1.out; have := HLL.out; have := HPT.out; omega
            case rel =>
              have hT := HTK.out
              rw [HU.out, if_neg (by simp), List.append_nil] at hT
              exact ⟨L, V ++ [m], m, E4, HM3.out.called hI4 hE4 ho4, hT, Nat.le_refl _, by have := HN1.out; have := HN2.out; have := HK1.out; have := HLL.out; have := HPT.out; omega⟩
          | true =>
            go_upto_region 11 with (go_at_fn fid; refine HCB.out.mono ?_; rintro e w4 ⟨rfl, ⟨E4, hI4, hE4⟩, ho4⟩)
            have hM4 := HM3.out.called hI4 hE4 ho4
            have hT := HTK.out
            rw [HU.out, if_pos rfl] at hT
            have hpl4 : DagS.parsL g x = pars g m := by unfold DagS.parsL; rw [HFX.out]; rfl
            obtain ⟨n1, n2, ψ, hB4, -⟩ := hM4.gm
            have e0 := hB4.c0
            have ebx := hM4.bx
            obtain ⟨qa, qc, epl, eps, epc⟩ := hB4.plook HX1.out
            have hpsz := hM4.gm.psz m
            rw [hpl4] at epl eps
            have HM4 := Lib.hid hM4
            have HT := Lib.hid hT
            have HEPS := Lib.hid eps
            have HEPC := Lib.hid epc
            have HPSZ := Lib.hid hpsz
            have hrow := hM4.row
            rw [HLL.out] at hrow
            have HROW := Lib.hid hrow
            have HSX : Hid (w.heap.size + 1 ≤ w4.heap.size) := hM4.szx
            have HLN : Hid (k + (pars g m).length ≤ 20000000) := by show _ ≤ _; have := HN1.out; have := HN2.out; have := HK1.out; have := HPT.out; omega
            have HGM := Lib.hid hM4.gm
            clear hI4 hE4 ho4 hM4 hT hB4 eps epc hpsz hrow hpl4
            go_wp2_with (at_builtin; refine wp_appR rfl _ _ rfl rfl HROW.out HSX.out rfl HEPS.out HEPC.out HLN.out ?_; intro v5 w5 ho5 hg5 hn5)
            go_roundg ((L ++ pars g m).length + pot g m)
            case measure => rw [List.length_append]; have := HN1.out; have := HK1.out; have := HLL.out; have := HPT.out; omega
            case rel =>
              refine ⟨L ++ pars g m, V ++ [m], m, E4, HM4.out.heap HC.out ?_ (fun y hy => ?_) hg5 hn5, HT.out, Nat.le_refl _, by rw [List.length_append]; have := HN1.out; have := HN2.out; have := HK1.out; have := HLL.out; have := HPT.out; omega⟩
              · rw [List.length_append, trow_append, HLL.out]; exact ho5
              · rcases List.mem_append.1 hy with hy | hy
                · exact HSZ2.out y (List.mem_append.2 (.inl hy))
                · exact HPSZ.out y hy
end Go.Proofs.Ytoeoablmcelohaa
namespace Go.Proofs.Ytoeoablmcelohaa
open Go Go.RowKit Go.Maps Go.Sort
open DagS (Nd nm pars par ids Wf ancS ancL upto)

/-- A variable in block b holds a row of its own: the texts l. -/
structure OutI (base b : Nat) (W : World) (l : List ByteArray) (v : Value) : Prop where
  h : W.heap[b]? = some (.cells #[v] 32 (0, 0))
  row : W.ownsRow base 9 1 v l.length (trow l)
section
variable {base b : Nat} {W W' w5 : World} {l : List ByteArray} {v v5 : Value} {x : ByteArray}
theorem OutI.lt (h : OutI base b W l v) : b < W.heap.size := (Array.getElem?_eq_some_iff.1 h.h).1
theorem OutI.ne (h : OutI base b W l v) : v.ownBlock ≠ some b := fun e => by
  obtain ⟨cur, h2⟩ := (OwnG.of_own h.row).tag e
  rw [h.h] at h2
  injection h2 with h2
  injection h2 with _ h2 _
  exact absurd h2 (by decide)
theorem OutI.cell (h : OutI base b W l v) : W.cell? ⟨b, 0, none⟩ = some v := by simp [World.cell?, h.h]
theorem OutI.fz (h : OutI base b W l v) : W.frozen? ⟨b, 0, none⟩ = false := by simp [World.frozen?, h.h]
theorem own_keep {e : TypeId} {size n : Nat} {xs : List Value} (h : W.ownsRow base e size v n xs) (hk : ∀ k, v.ownBlock = some k → W'.heap[k]? = W.heap[k]?) : W'.ownsRow base e size v n xs := by
  rcases h.2 with h2 | ⟨gb, cap, cur, rfl, r1, r2, r3⟩
  · exact ⟨h.1, .inl h2⟩
  · exact ⟨h.1, .inr ⟨gb, cap, cur, rfl, r1, (hk gb rfl).trans r2, r3⟩⟩
theorem OutI.keep (h : OutI base b W l v) (hk : ∀ k, k = b ∨ v.ownBlock = some k → W'.heap[k]? = W.heap[k]?) : OutI base b W' l v :=
  ⟨(hk b (.inl rfl)).trans h.h, own_keep h.row fun k e => hk k (.inr e)⟩
/-- One more. -/
theorem OutI.app (h : OutI base b W l v) (ho : w5.ownsRow base 9 1 v5 (l.length + 1) (trow l ++ trow [x])) (hg : (W.alloc (.cells #[.string x] 9)).grownBy w5 v.ownBlock) (hn : ∀ k, v5.ownBlock = some k → v.ownBlock = some k ∨ (W.alloc (.cells #[.string x] 9)).heap.size ≤ k) :
    OutI base b (w5.setCell ⟨b, 0, none⟩ v5) (l ++ [x]) v5 ∧ Only (fun k => k = b ∨ v.ownBlock = some k) W (w5.setCell ⟨b, 0, none⟩ v5) ∧ (∀ k, v5.ownBlock = some k → v.ownBlock = some k ∨ W.heap.size ≤ k) := by
  have hbl := h.lt
  have hbA : Below W.heap.size W (W.alloc (.cells #[.string x] 9)) := (Below.refl _ W).alloc (Nat.le_refl _) _
  have h5 : w5.heap[b]? = some (.cells #[v] 32 (0, 0)) := (hg.block b (Nat.lt_of_lt_of_le hbl hbA.size) (fun e => h.ne e.symm)).trans ((hbA.block b hbl).trans h.h)
  obtain ⟨s1, s2⟩ := set_blk h5 0 v5
  have hnew : ∀ k, v5.ownBlock = some k → v.ownBlock = some k ∨ W.heap.size ≤ k := fun k hk => (hn k hk).imp id fun e => by simp at e; omega
  have hne5 : v5.ownBlock ≠ some b := fun e => by
    rcases hnew b e with e2 | e2
    · exact h.ne e2
    · omega
  refine ⟨⟨by simpa using s1, ?_⟩, ?_, hnew⟩
  · rw [List.length_append, List.length_singleton, trow_append]
    exact ho.kept s2 (.inr hne5)
  · refine ((Only.of_below hbA).trans (Only.of_grown (K := fun k => v.ownBlock = some k) hg fun k e => e) (fun k e => .inl (.inr e))).trans (Only.of_grown (K := fun k => k = b) s2 fun k e => by injection e with e; exact e.symm) fun k e => .inl (.inl e)
end

/-- slices.Reverse of a row of one's own. -/
theorem grev_c {base : Nat} {w : World} {v : Value} {l : List ByteArray} (h : w.ownsRow base 9 1 v l.length (trow l)) (hl : l.length ≤ 20000000) :
    Calls Try.prog 34 #[v] w fun e w' => e = .returned (.tuple #[]) ∧ w'.ownsRow base 9 1 v l.length (trow l.reverse) ∧ w.grownBy w' v.ownBlock := by
  by_cases h0 : v = .slice none 0 0
  · subst h0
    have hl0 : l.length = 0 := by
      rcases h.2 with ⟨_, h1⟩ | ⟨g, cap, cur, e, _⟩
      · exact h1
      · cases e
    obtain rfl := List.eq_nil_of_length_eq_zero hl0
    refine (Try.slices_Reverse_string_empty none 0 w).mono ?_
    rintro e w' ⟨rfl, rfl⟩
    exact ⟨rfl, h, World.grownBy.refl _ _⟩
  · have h2 : w.ownsRow base 9 1 v l.length ((l.map (·.data.toList)).map encStr) := by rw [Lib.map_encStr]; exact h
    obtain ⟨gb, cap, rfl, hb, hlt, hn, hm, hz, hH⟩ := Lib.holds_of_ownsRow h2 h0
    have := Try.slices_Reverse_string gb 0 cap (l.map (·.data.toList)) w hH (by rw [List.length_map]; omega)
    rw [List.length_map] at this
    refine this.mono ?_
    rintro e w' ⟨rfl, n, rfl⟩
    refine ⟨rfl, ?_, ?_⟩
    · have h3 := Lib.ownsRow_putRow (q := n) (k := l.length) h2 (ys := (l.map (·.data.toList)).reverse) (by simp) (Nat.le_refl _)
      rw [List.take_of_length_le (by simp), ← List.map_reverse, Lib.map_encStr, List.map_reverse] at h3
      exact h3
    · refine ⟨rfl, rfl, rfl, by simp [putRow, mapBlock, Sort.ahead], fun k hk hne => ?_⟩
      simp [putRow, mapBlock, Sort.ahead, Array.getElem?_modify, show gb ≠ k from fun e => hne (by rw [← e]; rfl)]

/-- What Ancestors' function value keeps. -/
def ancI (g : List Nd) (base b : Nat) (W : World) (V : List Nat) (E : Nat → Prop) : Prop := ∃ v, OutI base b W (V.map (nm g)) v ∧ base ≤ W.heap.size ∧ ∀ k, E k ↔ k = b ∨ v.ownBlock = some k

set_option maxRecDepth 100000 in
theorem anc_cl {K : Nat → Prop} {p : Nat} {g : List Nd} {base b : Nat} {l : List ByteArray} : Cl K p g 33 #[.pointer (some ⟨b, 0, none⟩)] (fun _ => true) (ids g l) (ancI g base b) where
  lt := fun ⟨v, h, _, he⟩ k hk => by
    rcases (he k).1 hk with e | e
    · rw [e]; exact h.lt
    · exact (h.row.lt k e).2
  frame := fun ⟨v, h, hb, he⟩ hk hs => ⟨v, h.keep fun k e => hk k ((he k).2 e), Nat.le_trans hb hs, he⟩
  call := by
    rintro W V E i ⟨v, h, hb, he⟩ hG - hi - hV hD
    have hVn := told_len hG.wf hD fun j hj => ((hV j).1 hj).1
    have hgl := hG.len
    have hc := h.cell
    have hf := h.fz
    have hlt := h.lt
    have hnb := h.ne
    have HH := Lib.hid h
    have HE := Lib.hid he
    have HX : Hid ((V ++ [i]).map (nm g) = V.map (nm g) ++ [nm g i]) := by show _ = _; rw [List.map_append]; rfl
    clear h he hV hD hG
    show Calls _ _ #[.string (nm g i), .pointer (some ⟨b, 0, none⟩)] _ _
    generalize nm g i = x at *
    have hlen : (V.map (nm g)).length ≤ 1000 := by rw [List.length_map]; omega
    generalize hL : V.map (nm g) = L at *
    have HL := Lib.hid hL
    have hrow := HH.out.row.alloc (.cells #[.string x] 9)
    have hsx := sl_new W [.string x] 9 (0, 0)
    have hbs : base ≤ (W.alloc (.cells #[.string x] 9)).heap.size := by simp; omega
    have hll : L.length + [x].length ≤ 20000000 := by rw [List.length_singleton]; omega
    clear hL
    go_enter Try.func33, Try.ntmps33
    go_wp2_with (at_builtin; refine wp_appR rfl _ _ rfl rfl hrow hbs (l := [x]) rfl hsx (fun e => by cases e) hll ?_; intro v5 w5 ho5 hg5 hn5; obtain ⟨ha, ho, hn⟩ := HH.out.app ho5 hg5 hn5; have hb5 : w5.heap[b]? = W.heap[b]? := (hg5.block b (by simp; omega) (fun e => hnb e.symm)).trans (((Below.refl _ W).alloc (Nat.le_refl _) _).block b hlt); have hc5 : w5.cell? ⟨b, 0, none⟩ = some v := cell_blk hc hb5; have hf5 : w5.frozen? ⟨b, 0, none⟩ = false := by { simp only [World.frozen?, hb5]; exact hf }; obtain ⟨qa, qc, rfl, -, -, -⟩ := own_sl ho5)
    go_ret
    exact ⟨rfl, ⟨_, ⟨_, by rw [HX.out]; exact ha, Nat.le_trans hb ho.size, fun k => Iff.rfl⟩, fun k hk => hk.elim (fun e => .inl ((HE.out k).2 (.inl e))) fun e => (hn k e).imp (fun e => (HE.out k).2 (.inr e)) id⟩, ho.mono fun k hk _ => (HE.out k).2 hk⟩

set_option maxRecDepth 100000 in
set_option maxHeartbeats 1000000 in
theorem ganc_c {K : Nat → Prop} {w : World} {p : Nat} {g : List Nd} (hG : GM K w p g) {fa : Option Addr} {fc : Nat} {l : List ByteArray} (hf : Sl w fa (trow l)) (hl : l.length ≤ 9000000) (hz : ∀ s ∈ l, s.size ≤ 10000000) :
    Calls Try.prog 15 #[.pointer (some ⟨p, 0, none⟩), .slice fa l.length fc] w fun e w' => ∃ v, e = .returned v ∧ TV w' v (ancL g l) ∧ Below w.heap.size w w' := by
  have hbA : Below w.heap.size w (w.alloc (.cells #[.slice none 0 0] 32)) := (Below.refl _ w).alloc (Nat.le_refl _) _
  have hI : ancI g w.heap.size w.heap.size (w.alloc (.cells #[.slice none 0 0] 32)) [] (fun k => k = w.heap.size ∨ (Value.slice none 0 0).ownBlock = some k) := ⟨_, ⟨Array.getElem?_push_size, World.ownsRow_nil _ _ _ _⟩, hbA.size, fun k => Iff.rfl⟩
  have HWK := Lib.hid (walk_c (fc := fc) (hG.below hbA) (hf.below hbA) hl hz (anc_cl (K := K) (p := p)) (enters_of Try.func33 (by kernel_rfl) rfl) hI (fun k hk hk2 => by
    have := hG.lt hk2
    rcases hk with e | e
    · omega
    · cases e))
  have HW := Lib.hid hG.wf
  have HL := Lib.hid hG.len
  have HBA := Lib.hid hbA
  clear hG hf hz hI hbA
  go_enter Try.func15, Try.ntmps15
  go_upto_region 3 with (go_at_call 28; refine HWK.out.mono ?_; rintro e w1 ⟨rfl, V, E', ⟨v, h, hb, he⟩, hT, ho, he0⟩)
  have hlen := told_len HW.out hT.desc fun j hj => ((hT.mem j).1 hj).1
  have HV := Lib.hid (HW.out.told_anc hT)
  have hc := h.cell
  have hne := h.ne
  have hh := h.h
  have HB1 : Hid (Below w.heap.size w w1) := HBA.out.trans ⟨ho.os, ho.tape, ho.output, ho.size, fun k hk => ho.block k (by have := HBA.out.size; omega) fun e => by
    rcases e with e | e
    · omega
    · cases e⟩
  have HRV := Lib.hid (grev_c h.row (by rw [List.length_map]; have := HL.out; omega))
  have HROW := Lib.hid h.row
  clear hT ho he0 he h HWK
  go_wp2_with (go_at_call 34; refine HRV.out.mono ?_; rintro e w2 ⟨rfl, ho2, hg2⟩; have hc2 := cell_blk hc (hg2.block w.heap.size (Array.getElem?_eq_some_iff.1 hh).1 (fun e => hne e.symm)))
  go_ret
  refine ⟨_, rfl, ?_, HB1.out.grown hg2 HB1.out.size fun k e => (HROW.out.lt k e).1⟩
  have := OwnG.of_own ho2
  unfold TV ancL
  rw [← HV.out, List.map_reverse]
  rw [List.length_reverse]
  exact this
end Go.Proofs.Ytoeoablmcelohaa
