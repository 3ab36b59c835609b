/- Texts of mine, joined: A part pushed behind the others, or put together with the last one. -/
import Derived.Test.YtpcipdkoncmdcaaGreatDoorYJoinApart6
namespace Go.Proofs.YtpcipdkoncmdcaaGreatDoor
open Go Go.RowKit
/-- A row's place. -/
theorem OwnG.place {w : World} {e : TypeId} {s : Nat} {v : Value} {n : Nat} {xs : List Value} (h : OwnG w e s v n xs) (hn : 0 < n) : ∃ g o c, v = .slice (some ⟨g, o, none⟩) n c ∧ n ≤ c ∧ g < w.heap.size ∧ (∀ j u, xs[j]? = some u → w.cell? ⟨g, o + j, none⟩ = some u) ∧ ∀ j, w.frozen? ⟨g, j, none⟩ = false := by
  rcases h.2 with ⟨_, h0⟩ | ⟨g, o, cap, cur, rfl, hg, hc, hm, hs, ht⟩
  · omega
  · exact ⟨g, o, cap, rfl, hc, (Array.getElem?_eq_some_iff.1 hg).1, fun j u hu => by simp only [World.cell?, hg]; exact ht j u hu, fun j => by simp [World.frozen?, hg]⟩
/-- One cell of a row is turned. -/
theorem OwnG.setAt {w : World} {e : TypeId} {s g o n c : Nat} {xs : List Value} (h : OwnG w e s (.slice (some ⟨g, o, none⟩) n c) n xs) (j : Nat) (hj : j < xs.length) (u : Value) : OwnG (w.setCell ⟨g, o + j, none⟩ u) e s (.slice (some ⟨g, o, none⟩) n c) n (xs.set j u) := by
  refine ⟨by rw [List.length_set]; exact h.1, ?_⟩
  rcases h.2 with ⟨h1, _⟩ | ⟨g', o', cap, cur, h1, hg, hc, hm, hs, ht⟩
  · cases h1
  · injection h1 with h1 _ h2
    injection h1 with h1
    injection h1 with h1 h3
    subst h1 h2 h3
    refine .inr ⟨g, o, c, cur.setIfInBounds (o + j) u, rfl, (set_blk hg (o + j) u).1, hc, hm, by simp; exact hs, fun i v hv => ?_⟩
    rw [Array.getElem?_setIfInBounds]
    rw [List.getElem?_set] at hv
    by_cases hij : j = i
    · subst hij
      rw [if_pos rfl, if_pos hj] at hv
      have h0 := ht j xs[j] (List.getElem?_eq_getElem hj)
      have h5 := (Array.getElem?_eq_some_iff.1 h0).1
      rw [if_pos rfl, if_pos h5]; exact hv
    · rw [if_neg hij] at hv
      rw [if_neg (by omega)]
      exact ht i v hv
/-- A slice of texts, to be appended. -/
theorem src_tl {w : World} {v : Value} {l : List ByteArray} (h : Tl w v l) : Src Tryz.prog 1 82 v l.length (lrow l) w := by
  obtain ⟨a, c, rfl, h2, h3, h4, h5⟩ := h
  rcases h5 with h5 | ⟨b, o, rfl, hl, hc⟩
  · have e : l = [] := List.map_eq_nil_iff.1 h5
    subst e
    cases a with
    | none => exact Src.ofNil w Tryz.underlying82 c
    | some ad => exact Src.ofSlice w Tryz.underlying82 ad 0 c [] (by simp) (fun j u hu => by cases hu) (fun u hu => by cases hu)
  · exact Src.ofSlice w Tryz.underlying82 _ l.length c (lrow l) (by rw [lrow_len, Nat.mul_one]) (fun j u hu => by rw [Addr.add_lit]; exact hc j u hu) (lrow_one l)
theorem tl_own {w : World} {e : TypeId} {v : Value} {l : List ByteArray} (h : OwnG w e 1 v l.length (lrow l)) : Tl w v l := (Tn.of_own (F := fun _ => True) h fun _ _ => trivial).tl

section
variable {w0 w W W' : World} {q c : Nat} {pv : Value} {xs : List PtV} {bs os ts : List ByteArray} {x : PtV} {kd kd' : Int}
/-- The new part's own block is turned. -/
theorem R2.turn (h : R2 w0 w W q pv xs bs os ts x kd c) (hg : W.grownBy W' (some c)) (hb : W'.heap[c]? = some (.cells #[.int .i64 kd', x.b, x.o, x.t] 182 (0, 0))) : R2 w0 w W' q pv xs bs os ts x kd' c := by
  have hcq : c ≠ q := by have := h.hq; have := h.n8; omega
  have hcw : w.grownBy W' (some q) := by
    have := h.gr
    refine ⟨hg.os.trans this.os, hg.tape.trans this.tape, hg.output.trans this.output, Nat.le_trans this.size hg.size, fun k hk hne => ?_⟩
    rw [← this.block k hk hne]
    exact hg.block k (Nat.lt_of_lt_of_le hk this.size) (by have := h.n8; simp; omega)
  have hne : ∀ v, v = x.b ∨ v = x.o ∨ v = x.t → ∀ k, v.ownBlock = some k → k ≠ c := fun v hv k hk => (h.nw v hv k hk).2
  obtain ⟨bv, ov, tv, hj⟩ := h.lj
  exact ⟨⟨bv, ov, tv, hj.other hg hcq (Nat.le_trans (Nat.le_trans hj.q0 (Nat.le_of_lt h.hq)) h.n8) (h.lp.keepq hcw)⟩, kept_ne h.ob hg (hne _ (.inl rfl)), kept_ne h.oo hg (hne _ (.inr (.inl rfl))), kept_ne h.ot hg (hne _ (.inr (.inr rfl))), h.nw, h.d4, h.d5, h.d6, hb, h.n8, hcw, h.hq, h.lp⟩
theorem R2.below (h : R2 w0 w W q pv xs bs os ts x kd c) (hb : Below W.heap.size W W') : R2 w0 w W' q pv xs bs os ts x kd c :=
  h.turn (grown_none hb _) ((hb.block c (Array.getElem?_eq_some_iff.1 h.c8).1).trans h.c8)
theorem R2.kind (h : R2 w0 w W q pv xs bs os ts x kd c) (k2 : Int) : R2 w0 w (W.setCell ⟨c, 0, none⟩ (.int .i64 k2)) q pv xs bs os ts x k2 c :=
  h.turn (grown_set W c 0 _) (set_blk h.c8 0 _).1

/-- All parts can be read; none lies in the loom's block or the parts' own. -/
theorem LP.read (h : LP w0 w q pv xs) : ∀ y ∈ xs, Tn w (fun b => b ≠ q ∧ pv.ownBlock ≠ some b) y.b y.p.b ∧ Tn w (fun b => b ≠ q ∧ pv.ownBlock ≠ some b) y.o y.p.o ∧ Tn w (fun b => b ≠ q ∧ pv.ownBlock ≠ some b) y.t y.p.t := by
  rcases h with ⟨rfl, _⟩ | ⟨ys, z, rfl, hz⟩
  · intro y hy; cases hy
  · intro y hy
    rw [List.mem_append, List.mem_singleton] at hy
    rcases hy with hy | rfl
    · obtain ⟨h1, h2, h3⟩ := hz.old y hy
      have hk : ∀ b, FF q pv z b → b < w.heap.size → w.heap[b]? = w.heap[b]? ∧ (b ≠ q ∧ pv.ownBlock ≠ some b) := fun b hF _ => ⟨rfl, hF.1, hF.2.1⟩
      exact ⟨h1.keep (Nat.le_refl _) hk, h2.keep (Nat.le_refl _) hk, h3.keep (Nat.le_refl _) hk⟩
    · exact ⟨Tn.of_own hz.zb fun b hb => ⟨(hz.nw _ (.inr (.inl rfl)) b hb).2, hz.d1.ne hb⟩, Tn.of_own hz.zo fun b hb => ⟨(hz.nw _ (.inr (.inr (.inl rfl))) b hb).2, hz.d2.ne hb⟩, Tn.of_own hz.zt fun b hb => ⟨(hz.nw _ (.inr (.inr (.inr rfl))) b hb).2, hz.d3.ne hb⟩⟩
theorem LP.pvq (h : LP w0 w q pv xs) : ∀ k, pv.ownBlock = some k → w0.heap.size ≤ k ∧ k ≠ q ∧ k < w.heap.size := by
  intro k hk
  rcases h with ⟨rfl, rfl⟩ | ⟨ys, z, rfl, hz⟩
  · cases hk
  · exact ⟨(hz.nw _ (.inl rfl) k hk).1, (hz.nw _ (.inl rfl) k hk).2, hz.row.lt hk⟩
theorem LP.row (h : LP w0 w q pv xs) : OwnG w 182 4 pv xs.length (pvR xs) := by
  rcases h with ⟨rfl, rfl⟩ | ⟨ys, z, rfl, hz⟩
  · exact OwnG.nil _ _ _
  · exact hz.row

theorem LP.last {ys : List PtV} {z : PtV} (h : LP w0 w q pv (ys ++ [z])) : LZ w0 w q pv ys z := by
  rcases h with ⟨e, _⟩ | ⟨ys', z', e, hz⟩
  · simp at e
  · obtain ⟨e1, e2⟩ := List.append_inj' e rfl
    injection e2 with e2
    subst e1 e2
    exact hz
theorem db_new {a b : Value} {n : Nat} (h1 : ∀ k, a.ownBlock = some k → n ≤ k) (h2 : ∀ k, b.ownBlock = some k → k < n) : Db a b := by
  cases ha : a.ownBlock with
  | none => exact .inl ha
  | some k => exact .inr fun e => by have := h1 k ha; have := h2 k (e.symm.trans ha); omega

/-- A block that none of the loom's own rows is in. -/
def LPF (q : Nat) (pv : Value) (xs : List PtV) (b : Nat) : Prop := b ≠ q ∧ pv.ownBlock ≠ some b ∧ ∀ z, xs.getLast? = some z → z.b.ownBlock ≠ some b ∧ z.o.ownBlock ≠ some b ∧ z.t.ownBlock ≠ some b
/-- The part is pushed. -/
theorem R2.push {ob : Obj} {v' : Value} {W9 : World} (h : R2 w0 w W q pv xs bs os ts x (JoinS.kindOf x.p) c) (ho : OwnG W9 182 4 v' (xs.length + 1) (pvR xs ++ pvC x)) (hg : (W.alloc ob).grownBy W9 pv.ownBlock)
    (hv : ∀ k, v'.ownBlock = some k → pv.ownBlock = some k ∨ (W.alloc ob).heap.size ≤ k) : (∃ bv ov tv, LJ w0 (W9.setCell ⟨q, 3, none⟩ v') q bv ov tv v' (xs ++ [x]) bs os ts) ∧ ∀ b, b < w.heap.size → LPF q pv xs b → (W9.setCell ⟨q, 3, none⟩ v').heap[b]? = w.heap[b]? ∧ LPF q v' (xs ++ [x]) b := by
  obtain ⟨bv, ov, tv, hj⟩ := h.lj
  have hpq := h.lp.pvq
  have hpW := hj.parts.pvq
  have hsz : (W.alloc ob).heap.size = W.heap.size + 1 := by simp
  have hwW := h.gr.size
  have hqw := h.hq
  have hqW : q < W.heap.size := by omega
  have hba : Below W.heap.size W (W.alloc ob) := (Below.refl _ _).alloc (Nat.le_refl _) _
  have hs9 := hg.size
  -- what stood at W and is not the parts' own stays
  have keep9 : ∀ b, b < W.heap.size → pv.ownBlock ≠ some b → W9.heap[b]? = W.heap[b]? := fun b hb hne => (hg.block b (by omega) (fun e => hne e.symm)).trans (hba.block b hb)
  have keepS : ∀ b, b < W.heap.size → pv.ownBlock ≠ some b → b ≠ q → (W9.setCell ⟨q, 3, none⟩ v').heap[b]? = W.heap[b]? := fun b hb hne hq => ((grown_set W9 q 3 v').block b (by omega) (by simpa using hq)).trans (keep9 b hb hne)
  have hqv : ∀ k, v'.ownBlock = some k → k ≠ q := fun k hk => by
    rcases hv k hk with e | e
    · exact (hpq k e).2.1
    · omega
  have hpvq : pv.ownBlock ≠ some q := fun e => (hpq q e).2.1 rfl
  have hrow : ∀ (r : Value) (l : List ByteArray), OwnG W 9 1 r l.length (lrow l) → (∀ k, r.ownBlock = some k → w.heap.size ≤ k) → OwnG (W9.setCell ⟨q, 3, none⟩ v') 9 1 r l.length (lrow l) := fun r l hr hn =>
    hr.block fun k hk => keepS k (hr.lt hk) (fun e => by have := (hpq k e).2.2; have := hn k hk; omega) (by have := hn k hk; omega)
  have hdb : ∀ (r : Value) (l : List ByteArray), OwnG W 9 1 r l.length (lrow l) → (∀ k, r.ownBlock = some k → w.heap.size ≤ k) → Db v' r := fun r l hr hn => by
    cases hvk : v'.ownBlock with
    | none => exact .inl hvk
    | some k =>
      refine .inr fun e => ?_
      have hrk := e.symm.trans hvk
      have h1 := hr.lt hrk
      have h2 := hn k hrk
      rcases hv k hvk with e2 | e2
      · have := (hpq k e2).2.2; omega
      · omega
  have nb := fun k hk => (h.nw x.b (.inl rfl) k hk).1
  have no := fun k hk => (h.nw x.o (.inr (.inl rfl)) k hk).1
  have nt := fun k hk => (h.nw x.t (.inr (.inr rfl)) k hk).1
  have hw0 : w0.heap.size ≤ w.heap.size := Nat.le_trans hj.q0 (Nat.le_of_lt hqw)
  refine ⟨?_, fun b hb hF => ⟨(keepS b (by omega) hF.2.1 hF.1).trans (h.gr.block b hb (by simpa using hF.1)), hF.1, fun e => ?_, fun z hz => ?_⟩⟩
  rotate_left
  · rcases hv b e with e2 | e2
    · exact hF.2.1 e2
    · omega
  · rw [List.getLast?_append, List.getLast?_singleton] at hz
    injection hz with hz
    subst hz
    exact ⟨fun e => by have := nb b e; omega, fun e => by have := no b e; omega, fun e => by have := nt b e; omega⟩
  refine ⟨bv, ov, tv, ?_, hj.q0, (set_blk ((keep9 q hqW hpvq).trans hj.blk) 3 v').1, ?_, ?_, ?_, .inr ⟨xs, x, rfl, ?_⟩⟩
  · have h1 : Below w0.heap.size w0 (W.alloc ob) := hj.below.trans (hba.mono hj.below.size)
    have h2 := h1.grown hg h1.size fun k hk => (hpq k hk).1
    exact h2.grown (grown_set W9 q 3 v') h2.size fun k hk => by injection hk with hk; subst hk; exact hj.q0
  · exact hj.tb.keep (by simp [World.setCell]; omega) fun b hF hb => ⟨keepS b hb (fun e => by have := (hpq b e).1; omega) (by have := hj.q0; omega), hF⟩
  · exact hj.to_.keep (by simp [World.setCell]; omega) fun b hF hb => ⟨keepS b hb (fun e => by have := (hpq b e).1; omega) (by have := hj.q0; omega), hF⟩
  · exact hj.tt.keep (by simp [World.setCell]; omega) fun b hF hb => ⟨keepS b hb (fun e => by have := (hpq b e).1; omega) (by have := hj.q0; omega), hF⟩
  · refine ⟨?_, hrow _ _ h.ob nb, hrow _ _ h.oo no, hrow _ _ h.ot nt, ?_, hdb _ _ h.ob nb, hdb _ _ h.oo no, hdb _ _ h.ot nt, h.d4, h.d5, h.d6, fun y hy => ?_⟩
    · have e1 : (xs ++ [x]).length = xs.length + 1 := by simp
      have e2 : pvR (xs ++ [x]) = pvR xs ++ pvC x := by rw [pvR_app]; simp [pvR]
      rw [e1, e2]
      exact kept_ne ho (grown_set W9 q 3 v') hqv
    · intro v hvv k hk
      rcases hvv with rfl | rfl | rfl | rfl
      · refine ⟨?_, hqv k hk⟩
        rcases hv k hk with e | e
        · exact (hpq k e).1
        · omega
      · have := nb k hk; exact ⟨by omega, by omega⟩
      · have := no k hk; exact ⟨by omega, by omega⟩
      · have := nt k hk; exact ⟨by omega, by omega⟩
    · obtain ⟨h1, h2, h3⟩ := h.lp.read y hy
      have hk : ∀ b, (b ≠ q ∧ pv.ownBlock ≠ some b) → b < w.heap.size → (W9.setCell ⟨q, 3, none⟩ v').heap[b]? = w.heap[b]? ∧ FF q v' x b := fun b hF hb => by
        refine ⟨(keepS b (by omega) hF.2 hF.1).trans (h.gr.block b hb (by simpa using hF.1)), hF.1, fun e => ?_, fun e => ?_, fun e => ?_, fun e => ?_⟩
        · rcases hv b e with e2 | e2
          · exact hF.2 e2
          · omega
        · have := nb b e; omega
        · have := no b e; omega
        · have := nt b e; omega
      have hss : w.heap.size ≤ (W9.setCell ⟨q, 3, none⟩ v').heap.size := by simp [World.setCell]; omega
      exact ⟨h1.keep hss hk, h2.keep hss hk, h3.keep hss hk⟩

theorem pvR_set (ys : List PtV) (z z' : PtV) (hk : JoinS.kindOf z'.p = JoinS.kindOf z.p) : (((pvR (ys ++ [z])).set (ys.length * 4 + 1) z'.b).set (ys.length * 4 + 2) z'.o).set (ys.length * 4 + 3) z'.t = pvR (ys ++ [z']) := by
  rw [pvR_app, pvR_app]
  have hl := pvR_len ys
  have e : ∀ (l m : List Value) (j : Nat) (u : Value), l.length = ys.length * 4 → (l ++ m).set (ys.length * 4 + j) u = l ++ m.set j u := fun l m j u h => by
    rw [List.set_append_right _ _ (by omega)]; congr 2; omega
  rw [e _ _ _ _ hl, e _ _ _ _ hl, e _ _ _ _ hl]
  congr 1
  simp only [pvR, List.flatMap_cons, List.flatMap_nil, List.append_nil, pvC, hk]
  rfl

/-- The part is put together with the last one. -/
theorem R2.merge {ys : List PtV} {z : PtV} {g o n cap : Nat} {v1 v2 v3 : Value} {W1 W2 W3 : World} (h : R2 w0 w W q pv (ys ++ [z]) bs os ts x kd c) (hz : LZ w0 W q pv ys z) (hpv : pv = .slice (some ⟨g, o, none⟩) n cap) (kx : JoinS.kindOf x.p = 0) (kz : JoinS.kindOf z.p = 0)
    (o1 : OwnG W1 9 1 v1 (z.p.b.length + x.p.b.length) (lrow z.p.b ++ lrow x.p.b)) (g1 : W.grownBy W1 z.b.ownBlock) (n1 : ∀ k, v1.ownBlock = some k → z.b.ownBlock = some k ∨ W.heap.size ≤ k)
    (o2 : OwnG W2 9 1 v2 (z.p.o.length + x.p.o.length) (lrow z.p.o ++ lrow x.p.o)) (g2 : W1.grownBy W2 z.o.ownBlock) (n2 : ∀ k, v2.ownBlock = some k → z.o.ownBlock = some k ∨ W1.heap.size ≤ k)
    (o3 : OwnG W3 9 1 v3 (z.p.t.length + x.p.t.length) (lrow z.p.t ++ lrow x.p.t)) (g3 : W2.grownBy W3 z.t.ownBlock) (n3 : ∀ k, v3.ownBlock = some k → z.t.ownBlock = some k ∨ W2.heap.size ≤ k) (hb1 : ∀ k, v1.ownBlock = some k → k < W1.heap.size) (hb2 : ∀ k, v2.ownBlock = some k → k < W2.heap.size) :
    (∃ bv ov tv, LJ w0 (((W3.setCell ⟨g, o + (ys.length * 4 + 1), none⟩ v1).setCell ⟨g, o + (ys.length * 4 + 2), none⟩ v2).setCell ⟨g, o + (ys.length * 4 + 3), none⟩ v3) q bv ov tv pv (ys ++ [⟨⟨z.p.b ++ x.p.b, z.p.o ++ x.p.o, z.p.t ++ x.p.t⟩, v1, v2, v3⟩]) bs os ts) ∧
    ∀ b, b < w.heap.size → LPF q pv (ys ++ [z]) b → (((W3.setCell ⟨g, o + (ys.length * 4 + 1), none⟩ v1).setCell ⟨g, o + (ys.length * 4 + 2), none⟩ v2).setCell ⟨g, o + (ys.length * 4 + 3), none⟩ v3).heap[b]? = w.heap[b]? ∧ LPF q pv (ys ++ [⟨⟨z.p.b ++ x.p.b, z.p.o ++ x.p.o, z.p.t ++ x.p.t⟩, v1, v2, v3⟩]) b := by
  obtain ⟨bv, ov, tv, hj⟩ := h.lj
  subst hpv
  have hgo : (Value.slice (some ⟨g, o, none⟩) n cap).ownBlock = some g := rfl
  have hgN := hz.nw _ (.inl rfl) g hgo
  have hgW := hz.row.lt hgo
  have s1 := g1.size
  have s2 := g2.size
  have s3 := g3.size
  have q0 := hj.q0
  have hqW := hj.lt
  have bN := hz.nw _ (.inr (.inl rfl))
  have oN := hz.nw _ (.inr (.inr (.inl rfl)))
  have tN := hz.nw _ (.inr (.inr (.inr rfl)))
  have bL := fun k hk => hz.zb.lt (k := k) hk
  have oL := fun k hk => hz.zo.lt (k := k) hk
  have tL := fun k hk => hz.zt.lt (k := k) hk
  have d1 : z.b.ownBlock ≠ some g := fun e => hz.d1.ne e rfl
  have d2 : z.o.ownBlock ≠ some g := fun e => hz.d2.ne e rfl
  have d3 : z.t.ownBlock ≠ some g := fun e => hz.d3.ne e rfl
  -- blocks of W that none of the three rows owns
  have keep3 : ∀ b, b < W.heap.size → z.b.ownBlock ≠ some b → z.o.ownBlock ≠ some b → z.t.ownBlock ≠ some b → W3.heap[b]? = W.heap[b]? := fun b hb h1 h2 h3 =>
    (g3.block b (by omega) (fun e => h3 e.symm)).trans ((g2.block b (by omega) (fun e => h2 e.symm)).trans (g1.block b hb (fun e => h1 e.symm)))
  have gs : W3.grownBy (((W3.setCell ⟨g, o + (ys.length * 4 + 1), none⟩ v1).setCell ⟨g, o + (ys.length * 4 + 2), none⟩ v2).setCell ⟨g, o + (ys.length * 4 + 3), none⟩ v3) (some g) :=
    ((grown_set W3 g _ v1).trans (grown_set _ g _ v2)).trans (grown_set _ g _ v3)
  have keep6 : ∀ b, b < W.heap.size → z.b.ownBlock ≠ some b → z.o.ownBlock ≠ some b → z.t.ownBlock ≠ some b → b ≠ g → (((W3.setCell ⟨g, o + (ys.length * 4 + 1), none⟩ v1).setCell ⟨g, o + (ys.length * 4 + 2), none⟩ v2).setCell ⟨g, o + (ys.length * 4 + 3), none⟩ v3).heap[b]? = W.heap[b]? := fun b hb h1 h2 h3 h4 =>
    (gs.block b (by omega) (by simpa using h4)).trans (keep3 b hb h1 h2 h3)
  have hq6 := keep6 q hqW (fun e => (bN q e).2 rfl) (fun e => (oN q e).2 rfl) (fun e => (tN q e).2 rfl) (fun e => hgN.2 e.symm)
  have s6 := gs.size
  have v1g : v1.ownBlock ≠ some g := fun e => by rcases n1 g e with e2 | e2; exact d1 e2; omega
  have v2g : v2.ownBlock ≠ some g := fun e => by rcases n2 g e with e2 | e2; exact d2 e2; omega
  have v3g : v3.ownBlock ≠ some g := fun e => by rcases n3 g e with e2 | e2; exact d3 e2; omega
  have e12 : Db v1 v2 := by
    cases hv : v1.ownBlock with
    | none => exact .inl hv
    | some k =>
      refine .inr fun e => ?_
      have e2 := e.symm.trans hv
      rcases n1 k hv with a1 | a1 <;> rcases n2 k e2 with a2 | a2
      · exact hz.d4.ne a2 a1
      · have := bL k a1; omega
      · have := oL k a2; omega
      · have := hb1 k hv; omega
  have e13 : Db v1 v3 := by
    cases hv : v1.ownBlock with
    | none => exact .inl hv
    | some k =>
      refine .inr fun e => ?_
      have e2 := e.symm.trans hv
      rcases n1 k hv with a1 | a1 <;> rcases n3 k e2 with a2 | a2
      · exact hz.d5.ne a2 a1
      · have := bL k a1; omega
      · have := tL k a2; omega
      · have := hb1 k hv; omega
  have e23 : Db v2 v3 := by
    cases hv : v2.ownBlock with
    | none => exact .inl hv
    | some k =>
      refine .inr fun e => ?_
      have e2 := e.symm.trans hv
      rcases n2 k hv with a1 | a1 <;> rcases n3 k e2 with a2 | a2
      · exact hz.d6.ne a2 a1
      · have := oL k a1; omega
      · have := tL k a2; omega
      · have := hb2 k hv; omega
  have r1 : OwnG W3 9 1 v1 (z.p.b.length + x.p.b.length) (lrow z.p.b ++ lrow x.p.b) := o1.block fun k hk =>
    (g3.block k (by have := hb1 k hk; omega) (fun e => by
      rcases n1 k hk with a | a
      · exact hz.d5.ne e.symm a
      · have := tL k e.symm; omega)).trans (g2.block k (hb1 k hk) (fun e => by
      rcases n1 k hk with a | a
      · exact hz.d4.ne e.symm a
      · have := oL k e.symm; omega))
  have r2 : OwnG W3 9 1 v2 (z.p.o.length + x.p.o.length) (lrow z.p.o ++ lrow x.p.o) := o2.block fun k hk =>
    g3.block k (hb2 k hk) (fun e => by
      rcases n2 k hk with a | a
      · exact hz.d6.ne e.symm a
      · have := tL k e.symm; omega)
  have ne_g : ∀ (v : Value), v.ownBlock ≠ some g → ∀ k, v.ownBlock = some k → k ≠ g := fun v hv k hk e => hv (by rw [hk, e])
  have hrow : OwnG W3 182 4 (.slice (some ⟨g, o, none⟩) n cap) (ys ++ [z]).length (pvR (ys ++ [z])) := hz.row.block fun k hk => by
    have : k = g := by injection (hgo.symm.trans hk) with e; exact e.symm
    subst this
    exact keep3 k hgW d1 d2 d3
  have hnl : n = (ys ++ [z]).length := by
    rcases hrow.2 with ⟨e, _⟩ | ⟨_, _, _, _, e, _⟩
    · cases e
    · injection e
  subst hnl
  have hpl := pvR_len (ys ++ [z])
  rw [List.length_append, List.length_singleton] at hpl
  have hrow6 := ((hrow.setAt (ys.length * 4 + 1) (by rw [hpl]; omega) v1).setAt (ys.length * 4 + 2) (by rw [List.length_set, hpl]; omega) v2).setAt (ys.length * 4 + 3) (by rw [List.length_set, List.length_set, hpl]; omega) v3
  have k0 : JoinS.kindOf (⟨z.p.b ++ x.p.b, z.p.o ++ x.p.o, z.p.t ++ x.p.t⟩ : JoinS.Pt ByteArray) = JoinS.kindOf z.p := by
    rw [kz]
    rw [JoinS.kind0] at kx kz ⊢
    exact ⟨by rw [kx.1, kz.1], by rw [kx.2, kz.2]⟩
  have hps := pvR_set ys z ⟨⟨z.p.b ++ x.p.b, z.p.o ++ x.p.o, z.p.t ++ x.p.t⟩, v1, v2, v3⟩ k0
  simp only at hps
  rw [hps] at hrow6
  have tn6 : ∀ (v : Value) (l : List ByteArray), Tn W (fun b => b < w0.heap.size) v l → Tn (((W3.setCell ⟨g, o + (ys.length * 4 + 1), none⟩ v1).setCell ⟨g, o + (ys.length * 4 + 2), none⟩ v2).setCell ⟨g, o + (ys.length * 4 + 3), none⟩ v3) (fun b => b < w0.heap.size) v l := fun v l ht =>
    ht.keep (by omega) fun b hF hb => ⟨keep6 b hb (fun e => by have := (bN b e).1; omega) (fun e => by have := (oN b e).1; omega) (fun e => by have := (tN b e).1; omega) (by omega), hF⟩
  refine ⟨?_, fun b hb hF => ?_⟩
  rotate_left
  · obtain ⟨f1, f2, f3⟩ := hF
    obtain ⟨f3, f4, f5⟩ := f3 z (by simp)
    have hbW : b < W.heap.size := by have := h.gr.size; omega
    refine ⟨(keep6 b hbW f3 f4 f5 (fun e => f2 (by rw [e]; rfl))).trans (h.gr.block b hb (by simpa using f1)), f1, f2, fun z' hz' => ?_⟩
    rw [List.getLast?_append, List.getLast?_singleton] at hz'
    injection hz' with hz'
    subst hz'
    refine ⟨fun e => ?_, fun e => ?_, fun e => ?_⟩
    · rcases n1 b e with a | a
      · exact f3 a
      · omega
    · rcases n2 b e with a | a
      · exact f4 a
      · omega
    · rcases n3 b e with a | a
      · exact f5 a
      · omega
  refine ⟨bv, ov, tv, ?_, q0, hq6.trans hj.blk, tn6 _ _ hj.tb, tn6 _ _ hj.to_, tn6 _ _ hj.tt, .inr ⟨ys, _, rfl, ?_⟩⟩
  · have b0 := hj.below.grown g1 hj.below.size fun k hk => (bN k hk).1
    have b1 := b0.grown g2 b0.size fun k hk => (oN k hk).1
    have b2 := b1.grown g3 b1.size fun k hk => (tN k hk).1
    exact b2.grown gs b2.size fun k hk => by injection hk with hk; subst hk; exact hgN.1
  · refine ⟨by simpa using hrow6, ?_, ?_, ?_, ?_, .inr (fun e => v1g e.symm), .inr (fun e => v2g e.symm), .inr (fun e => v3g e.symm), e12, e13, e23, fun y hy => ?_⟩
    · have := kept_ne r1 gs (ne_g v1 v1g)
      rw [← lrow_app, ← List.length_append] at this; exact this
    · have := kept_ne r2 gs (ne_g v2 v2g)
      rw [← lrow_app, ← List.length_append] at this; exact this
    · have := kept_ne o3 gs (ne_g v3 v3g)
      rw [← lrow_app, ← List.length_append] at this; exact this
    · intro v hv k hk
      rcases hv with rfl | rfl | rfl | rfl
      · have : k = g := by injection (hgo.symm.trans hk) with e; exact e.symm
        subst this; exact hgN
      · rcases n1 k hk with a | a
        · exact bN k a
        · omega
      · rcases n2 k hk with a | a
        · exact oN k a
        · omega
      · rcases n3 k hk with a | a
        · exact tN k a
        · omega
    · obtain ⟨h1, h2, h3⟩ := hz.old y hy
      have hk : ∀ b, FF q (.slice (some ⟨g, o, none⟩) (ys ++ [z]).length cap) z b → b < W.heap.size → (((W3.setCell ⟨g, o + (ys.length * 4 + 1), none⟩ v1).setCell ⟨g, o + (ys.length * 4 + 2), none⟩ v2).setCell ⟨g, o + (ys.length * 4 + 3), none⟩ v3).heap[b]? = W.heap[b]? ∧ FF q (.slice (some ⟨g, o, none⟩) (ys ++ [z]).length cap) ⟨⟨z.p.b ++ x.p.b, z.p.o ++ x.p.o, z.p.t ++ x.p.t⟩, v1, v2, v3⟩ b := fun b hF hb => by
        obtain ⟨f1, f2, f3, f4, f5⟩ := hF
        refine ⟨keep6 b hb f3 f4 f5 (fun e => f2 (by rw [e]; rfl)), f1, f2, fun e => ?_, fun e => ?_, fun e => ?_⟩
        · rcases n1 b e with a | a
          · exact f3 a
          · omega
        · rcases n2 b e with a | a
          · exact f4 a
          · omega
        · rcases n3 b e with a | a
          · exact f5 a
          · omega
      exact ⟨h1.keep (by omega) hk, h2.keep (by omega) hk, h3.keep (by omega) hk⟩
end
/-- What is still to come fits. -/
structure Bd (xs : List PtV) (bs os ts : List ByteArray) : Prop where
  n : xs.length + bs.length + os.length + ts.length ≤ 30000000
  x : ∀ x ∈ xs, x.p.b.length + bs.length ≤ 10000000 ∧ x.p.o.length + os.length ≤ 10000000 ∧ x.p.t.length + ts.length ≤ 10000000
  b : bs.length ≤ 10000000
  o : os.length ≤ 10000000
  t : ts.length ≤ 10000000
section
variable {xs ys : List PtV} {bs os ts : List ByteArray} {i j k : Nat} {p : JoinS.Pt ByteArray} {vb vo vt : Value}
theorem Bd.push (h : Bd xs bs os ts) (hi : i ≤ bs.length) (hj : j ≤ os.length) (hk : k ≤ ts.length) (h0 : ¬ i + j + k = 0) (hp : p = ⟨bs.take i, os.take j, ts.take k⟩) : Bd (xs ++ [⟨p, vb, vo, vt⟩]) (bs.drop i) (os.drop j) (ts.drop k) := by
  have h1 := h.n
  have h2 := h.b
  have h3 := h.o
  have h4 := h.t
  refine ⟨by simp only [List.length_append, List.length_singleton, List.length_drop]; omega, fun x hx => ?_, by rw [List.length_drop]; omega, by rw [List.length_drop]; omega, by rw [List.length_drop]; omega⟩
  rw [List.length_drop, List.length_drop, List.length_drop]
  rw [List.mem_append, List.mem_singleton] at hx
  rcases hx with hx | rfl
  · have := h.x x hx; omega
  · subst hp
    simp only [List.length_take]
    omega
theorem Bd.merge {z : PtV} (h : Bd (ys ++ [z]) bs os ts) (hi : i ≤ bs.length) (hj : j ≤ os.length) (hk : k ≤ ts.length) (hp : p = ⟨bs.take i, os.take j, ts.take k⟩) : Bd (ys ++ [⟨⟨z.p.b ++ p.b, z.p.o ++ p.o, z.p.t ++ p.t⟩, vb, vo, vt⟩]) (bs.drop i) (os.drop j) (ts.drop k) := by
  have h1 := h.n
  have h2 := h.b
  have h3 := h.o
  have h4 := h.t
  refine ⟨by simp only [List.length_append, List.length_singleton, List.length_drop] at h1 ⊢; omega, fun x hx => ?_, by rw [List.length_drop]; omega, by rw [List.length_drop]; omega, by rw [List.length_drop]; omega⟩
  rw [List.length_drop, List.length_drop, List.length_drop]
  rw [List.mem_append, List.mem_singleton] at hx
  rcases hx with hx | rfl
  · have := h.x x (by simp [hx]); omega
  · have := h.x z (by simp)
    subst hp
    simp only [List.length_append, List.length_take]
    omega
end
theorem join_nil {p : JoinS.Pt ByteArray} (h : ¬ p.b.length + p.o.length + p.t.length = 0) : JoinS.join [] p = [p] := by
  unfold JoinS.join; rw [if_neg h]; rfl
theorem join_snoc {l : List (JoinS.Pt ByteArray)} {z p : JoinS.Pt ByteArray} (h : ¬ p.b.length + p.o.length + p.t.length = 0) : JoinS.join (l ++ [z]) p = if JoinS.kindOf p = 0 ∧ JoinS.kindOf z = 0 then l ++ [⟨z.b ++ p.b, z.o ++ p.o, z.t ++ p.t⟩] else l ++ [z] ++ [p] := by
  unfold JoinS.join
  rw [if_neg h]
  simp

theorem ld_parts (ad : Addr) (v : Value) (W : World) (h : W.cell? ad = some v) : (Instr.loadAt 148 (.pointer (some ad))).run Tryz.prog W = .ok v W := by go_simp
theorem ld_strs (ad : Addr) (v : Value) (W : World) (h : W.cell? ad = some v) : (Instr.loadAt 82 (.pointer (some ad))).run Tryz.prog W = .ok v W := by go_simp
theorem st_parts (ad : Addr) (u : Value) (a : Option Addr) (n c : Nat) (W : World) (h : W.cell? ad = some u) (hf : W.frozen? ad = false) : (Instr.storeAt 148 (.pointer (some ad)) (.slice a n c)).run Tryz.prog W = .ok () (W.setCell ad (.slice a n c)) := by go_simp
theorem st_strs (ad : Addr) (u : Value) (a : Option Addr) (n c : Nat) (W : World) (h : W.cell? ad = some u) (hf : W.frozen? ad = false) : (Instr.storeAt 82 (.pointer (some ad)) (.slice a n c)).run Tryz.prog W = .ok () (W.setCell ad (.slice a n c)) := by go_simp
/-- A whole block is read. -/
theorem ld_blk {P : Program} {ty e : TypeId} {b : Nat} {cs : Array Value} {fr : Nat × Nat} {d : TypeDesc} (hu : P.underlying ty = some d) (hd : d.isRow = true) (hi : (P.info? ty).map (·.size) = some cs.toList.length) (W : World) (hb : W.heap[b]? = some (.cells cs e fr)) :
    (Instr.loadAt ty (.pointer (some ⟨b, 0, none⟩))).run P W = .ok (.agg cs) W := by
  have := run_loadAt_mid (P := P) W b 0 ty cs.toList d (fun j v hj => by rw [Nat.zero_add]; simp only [World.cell?, hb]; rw [← Array.getElem?_toList]; exact hj) hu hd hi
  simpa using this
end Go.Proofs.YtpcipdkoncmdcaaGreatDoor
