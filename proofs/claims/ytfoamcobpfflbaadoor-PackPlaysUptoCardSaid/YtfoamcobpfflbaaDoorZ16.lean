/- Texts of mine, joined: What the document's SHA-256 holds in memory, part by part; its loops' code. -/
import Derived.Test.YtfoamcobpfflbaaDoorZ15
namespace Go.Proofs.YtfoamcobpfflbaaDoor
open Go Go.RowKit

theorem nb_bl (s : ByteArray) : nb (bl s) = s.data.toList.map fun b => Value.int .u8 b.toNat := by unfold nb bl; rw [List.map_map]; rfl

/-- The bytes under way. -/
structure RB (w wx : World) (v : Value) (L : List Nat) : Prop where
  b : Below w.heap.size w wx
  r : OwnF wx 5 1 v L.length (nb L)
  new : ∀ k, v.ownBlock = some k → w.heap.size ≤ k

theorem RB.alloc {w wx : World} {v : Value} {L : List Nat} (h : RB w wx v L) (o : Obj) : RB w (wx.alloc o) v L :=
  ⟨h.b.alloc h.b.size o, h.r.alloc o, h.new⟩
theorem RB.below {w wx w' : World} {v : Value} {L : List Nat} (h : RB w wx v L) (hb : Below wx.heap.size wx w') : RB w w' v L := ⟨h.b.trans (hb.mono h.b.size), h.r.below hb, h.new⟩
theorem RB.app {w wx w' : World} {v v' : Value} {L X : List Nat} (h : RB w wx v L) (ho : OwnF w' 5 1 v' (L.length + X.length) (nb L ++ nb X)) (hg : wx.grownBy w' v.ownBlock) (hv : ∀ k, v'.ownBlock = some k → v.ownBlock = some k ∨ wx.heap.size ≤ k) : RB w w' v' (L ++ X) := by
  have := h.b.size
  exact ⟨h.b.grown hg h.b.size (fun k e => h.new k e), by rw [List.length_append, nb_append]; exact ho, fun k hk => (hv k hk).elim (h.new k) (fun h => by omega)⟩

/-- The rounds' constants, the state, and the padded bytes. -/
structure RH (w0 wx : World) (bk bh g o : Nat) (P : List Nat) (H : Nat → Nat) : Prop where
  b : Below w0.heap.size w0 wx
  k : ∃ cs, ArrF wx bk 137 .u64 64 cs Sha.kk
  h : ∃ cs, ArrF wx bh 137 .u64 8 cs H
  s : ∀ i, i < P.length → wx.cell? ⟨g, o + i, none⟩ = some (.int .u8 (Sha.byteAt P i))
  gl : g < wx.heap.size
  gn : g ≠ bh
  ne : bk ≠ bh
  lo : w0.heap.size ≤ bh
  hl : bh < wx.heap.size
theorem RH.below {w0 wx w' : World} {bk bh g o : Nat} {P : List Nat} {H : Nat → Nat} (h : RH w0 wx bk bh g o P H) (hb : Below wx.heap.size wx w') : RH w0 w' bk bh g o P H :=
  ⟨h.b.trans (hb.mono h.b.size), by obtain ⟨c, h⟩ := h.k; exact ⟨c, h.below hb⟩, by obtain ⟨c, h⟩ := h.h; exact ⟨c, h.below hb⟩, fun i hi => by rw [hb.cell (p := ⟨g, o + i, none⟩) h.gl]; exact h.s i hi, Nat.lt_of_lt_of_le h.gl hb.size, h.gn, h.ne, h.lo, Nat.lt_of_lt_of_le h.hl hb.size⟩
theorem RH.drewN {w0 wx : World} {bk bh g o : Nat} {P : List Nat} {H : Nat → Nat} (h : RH w0 wx bk bh g o P H) (q : Nat) : RH w0 (wx.drewN q) bk bh g o P H := h.below (below_dN (Below.refl _ _) q)
theorem RH.grown {w0 wx w' : World} {bk bh g o x : Nat} {P : List Nat} {H : Nat → Nat} (h : RH w0 wx bk bh g o P H) (hg : wx.grownBy w' (some x)) (h0 : w0.heap.size ≤ x) (h1 : x ≠ bk) (h2 : x ≠ bh) (h3 : x ≠ g) : RH w0 w' bk bh g o P H :=
  ⟨h.b.grown hg h.b.size (fun k e => by injection e with e; omega), by obtain ⟨c, h⟩ := h.k; exact ⟨c, h.kept hg (fun e => by injection e with e; exact h1 e.symm)⟩, by obtain ⟨c, h⟩ := h.h; exact ⟨c, h.kept hg (fun e => by injection e with e; exact h2 e.symm)⟩, fun i hi => by
    have := hg.block g h.gl (fun e => by injection e with e; exact h3 e.symm)
    rw [show w'.cell? ⟨g, o + i, none⟩ = wx.cell? ⟨g, o + i, none⟩ by simp only [World.cell?, this]]; exact h.s i hi, Nat.lt_of_lt_of_le h.gl hg.size, h.gn, h.ne, h.lo, Nat.lt_of_lt_of_le h.hl hg.size⟩
theorem RH.set {w0 wx : World} {bk bh g o : Nat} {P : List Nat} {H : Nat → Nat} (h : RH w0 wx bk bh g o P H) (j : Nat) (z : Int) (v : Nat) (hz : z = v) : RH w0 (wx.setCell ⟨bh, j, none⟩ (.int .u64 z)) bk bh g o P (Sha.upd H j v) := by
  subst hz
  obtain ⟨ck, hk⟩ := h.k
  obtain ⟨ch, hh⟩ := h.h
  obtain ⟨h1, h2⟩ := hh.set j v
  exact ⟨h.b.grown h2 h.b.size (fun k e => by injection e with e; have := h.lo; omega), ⟨ck, hk.kept h2 (fun e => by injection e with e; exact h.ne e)⟩, ⟨_, h1⟩, fun i hi => by
    have := h2.block g h.gl (fun e => by injection e with e; exact h.gn e)
    rw [show (wx.setCell ⟨bh, j, none⟩ (.int .u64 v)).cell? ⟨g, o + i, none⟩ = wx.cell? ⟨g, o + i, none⟩ by simp only [World.cell?, this]]; exact h.s i hi, Nat.lt_of_lt_of_le h.gl h2.size, h.gn, h.ne, h.lo, Nat.lt_of_lt_of_le h.hl h2.size⟩
theorem RH.congr {w0 wx : World} {bk bh g o : Nat} {P : List Nat} {H G : Nat → Nat} (h : RH w0 wx bk bh g o P H) (e : ∀ i, i < 8 → H i = G i) : RH w0 wx bk bh g o P G := ⟨h.b, h.k, by obtain ⟨c, h⟩ := h.h; exact ⟨c, h.congr e⟩, h.s, h.gl, h.gn, h.ne, h.lo, h.hl⟩

/-- 64 zeros. -/
def z64 : Array Value := nums .u64 (List.replicate 64 0)
theorem make64 (w : World) : (Instr.makeSlice 138 (.int .i64 64) (.int .i64 64)).run Tryd.prog w = .ok (.slice (some ⟨w.heap.size, 0, none⟩) 64 64) (w.alloc (.cells z64 137)) := by
  obtain ⟨i, hi, hz, hs, hb⟩ := info_parts (show (Tryd.prog.info? 137).map (fun i => (i.zero, i.size, i.bytes)) = some (some (.int .u64 0), 1, 8) by kernel_rfl)
  have := run_make (P := Tryd.prog) w 138 137 i (.int .u64 0) Tryd.underlying138 hi hz .i64 .i64 64 64 (by omega) (by omega) (by rw [hb]; omega) (by omega)
  rw [this, hs, show madeCells (Value.int .u64 0).cells (Int.toNat 64 * 1) = z64 by kernel_rfl]
  rfl

/-- .. and the words of a block. -/
structure WS (w0 wx : World) (bk bh g o : Nat) (P : List Nat) (H : Nat → Nat) (bw : Nat) (f : Nat → Nat) : Prop where
  r : RH w0 wx bk bh g o P H
  w : ∃ cs, ArrF wx bw 137 .u64 64 cs f
  e1 : w0.heap.size ≤ bw
  e2 : bw ≠ bk
  e3 : bw ≠ bh
  e4 : bw ≠ g
theorem WS.c {w0 wx : World} {bk bh g o bw : Nat} {P : List Nat} {H f : Nat → Nat} (h : WS w0 wx bk bh g o P H bw f) (i : Nat) (hi : i < 64) : wx.cell? ⟨bw, i, none⟩ = some (.int .u64 (f i)) := by obtain ⟨cs, h⟩ := h.w; exact h.c i hi
theorem WS.fz {w0 wx : World} {bk bh g o bw : Nat} {P : List Nat} {H f : Nat → Nat} (h : WS w0 wx bk bh g o P H bw f) (i : Nat) : wx.frozen? ⟨bw, i, none⟩ = false := by obtain ⟨cs, h⟩ := h.w; exact h.fz i
theorem WS.below {w0 wx w' : World} {bk bh g o bw : Nat} {P : List Nat} {H f : Nat → Nat} (h : WS w0 wx bk bh g o P H bw f) (hb : Below wx.heap.size wx w') : WS w0 w' bk bh g o P H bw f := ⟨h.r.below hb, by obtain ⟨c, h⟩ := h.w; exact ⟨c, h.below hb⟩, h.e1, h.e2, h.e3, h.e4⟩
theorem WS.drewN {w0 wx : World} {bk bh g o bw : Nat} {P : List Nat} {H f : Nat → Nat} (h : WS w0 wx bk bh g o P H bw f) (q : Nat) : WS w0 (wx.drewN q) bk bh g o P H bw f := h.below (below_dN (Below.refl _ _) q)
theorem WS.congr {w0 wx : World} {bk bh g o bw : Nat} {P : List Nat} {H f f' : Nat → Nat} (h : WS w0 wx bk bh g o P H bw f) (e : ∀ i, i < 64 → f i = f' i) : WS w0 wx bk bh g o P H bw f' := ⟨h.r, by obtain ⟨c, h⟩ := h.w; exact ⟨c, h.congr e⟩, h.e1, h.e2, h.e3, h.e4⟩
theorem WS.set {w0 wx : World} {bk bh g o bw : Nat} {P : List Nat} {H f : Nat → Nat} (h : WS w0 wx bk bh g o P H bw f) (j : Nat) (z : Int) (v : Nat) (hz : z = v) : WS w0 (wx.setCell ⟨bw, j, none⟩ (.int .u64 z)) bk bh g o P H bw (Sha.upd f j v) := by
  subst hz
  obtain ⟨cs, ha⟩ := h.w
  obtain ⟨h1, h2⟩ := ha.set j v
  exact ⟨h.r.grown h2 h.e1 h.e2 h.e3 h.e4, ⟨_, h1⟩, h.e1, h.e2, h.e3, h.e4⟩
theorem WS.start {w0 wx : World} {bk bh g o : Nat} {P : List Nat} {H : Nat → Nat} (h : RH w0 wx bk bh g o P H) : WS w0 (wx.alloc (.cells z64 137)) bk bh g o P H wx.heap.size (fun _ => 0) := by
  have hk : bk < wx.heap.size := by obtain ⟨c, h⟩ := h.k; exact h.lt
  have hh := h.hl
  have hg := h.gl
  exact ⟨h.below ((Below.refl _ wx).alloc (Nat.le_refl _) _), ⟨_, (arr_nums (List.replicate 64 0) Array.getElem?_push_size).congr fun i hi => by rw [List.getD_eq_getElem?_getD, List.getElem?_eq_getElem hi, List.getElem_replicate]; rfl⟩, h.b.size, by omega, by omega, by omega⟩

theorem u64Elem : Elem Tryd.prog 138 137 (.int .u64 0) 1 8 := ⟨Tryd.underlying138, by kernel_rfl⟩

/-- .. and the eight numbers of a round. -/
structure VS (w0 wx : World) (bk bh g o : Nat) (P : List Nat) (H : Nat → Nat) (bw : Nat) (SC : Nat → Nat) (bv ov : Nat) (f : Nat → Nat) : Prop where
  w : WS w0 wx bk bh g o P H bw SC
  lt : bv < wx.heap.size
  ne : bv ≠ bh
  c : ∀ i, i < 8 → wx.cell? ⟨bv, ov + i, none⟩ = some (.int .u64 (f i))
theorem VS.below {w0 wx w' : World} {bk bh g o bw bv ov : Nat} {P : List Nat} {H SC f : Nat → Nat} (h : VS w0 wx bk bh g o P H bw SC bv ov f) (hb : Below wx.heap.size wx w') : VS w0 w' bk bh g o P H bw SC bv ov f :=
  ⟨h.w.below hb, Nat.lt_of_lt_of_le h.lt hb.size, h.ne, fun i hi => by rw [hb.cell (p := ⟨bv, ov + i, none⟩) h.lt]; exact h.c i hi⟩
theorem VS.drewN {w0 wx : World} {bk bh g o bw bv ov : Nat} {P : List Nat} {H SC f : Nat → Nat} (h : VS w0 wx bk bh g o P H bw SC bv ov f) (q : Nat) : VS w0 (wx.drewN q) bk bh g o P H bw SC bv ov f := h.below (below_dN (Below.refl _ _) q)
theorem VS.kc {w0 wx : World} {bk bh g o bw bv ov : Nat} {P : List Nat} {H SC f : Nat → Nat} (h : VS w0 wx bk bh g o P H bw SC bv ov f) (i : Nat) (hi : i < 64) : wx.cell? ⟨bk, i, none⟩ = some (.int .u64 (Sha.kk i)) := by obtain ⟨c, h⟩ := h.w.r.k; exact h.c i hi
/-- The next eight. -/
theorem VS.next {w0 wx : World} {bk bh g o bw bv ov : Nat} {P : List Nat} {H SC f : Nat → Nat} (h : VS w0 wx bk bh g o P H bw SC bv ov f) (l : List Nat) (f' : Nat → Nat) (hl : l.length = 8) (hf : ∀ i, i < 8 → l.getD i 0 = f' i) :
    VS w0 (wx.alloc (.cells (nums .u64 l) 137)) bk bh g o P H bw SC wx.heap.size 0 f' := by
  have hb : Below wx.heap.size wx (wx.alloc (.cells (nums .u64 l) 137)) := (Below.refl _ wx).alloc (Nat.le_refl _) _
  have ha : ArrF (wx.alloc (.cells (nums .u64 l) 137)) wx.heap.size 137 .u64 l.length (nums .u64 l) (fun i => l.getD i 0) := arr_nums l Array.getElem?_push_size
  have hh := h.w.r.hl
  exact ⟨h.w.below hb, ha.lt, by omega, fun i hi => by rw [Nat.zero_add, ha.c i (by omega), hf i hi]⟩

/-- The state and the numbers that are added to it. -/
structure RV (w0 wx : World) (bk bh g o : Nat) (P : List Nat) (H : Nat → Nat) (bv : Nat) (V : Nat → Nat) : Prop where
  r : RH w0 wx bk bh g o P H
  lt : bv < wx.heap.size
  ne : bv ≠ bh
  c : ∀ i, i < 8 → wx.cell? ⟨bv, i, none⟩ = some (.int .u64 (V i))
theorem RV.ch {w0 wx : World} {bk bh g o bv : Nat} {P : List Nat} {H V : Nat → Nat} (h : RV w0 wx bk bh g o P H bv V) (i : Nat) (hi : i < 8) : wx.cell? ⟨bh, i, none⟩ = some (.int .u64 (H i)) := by obtain ⟨c, h⟩ := h.r.h; exact h.c i hi
theorem RV.fz {w0 wx : World} {bk bh g o bv : Nat} {P : List Nat} {H V : Nat → Nat} (h : RV w0 wx bk bh g o P H bv V) (i : Nat) : wx.frozen? ⟨bh, i, none⟩ = false := by obtain ⟨c, h⟩ := h.r.h; exact h.fz i
theorem RV.drewN {w0 wx : World} {bk bh g o bv : Nat} {P : List Nat} {H V : Nat → Nat} (h : RV w0 wx bk bh g o P H bv V) (q : Nat) : RV w0 (wx.drewN q) bk bh g o P H bv V := ⟨h.r.drewN q, h.lt, h.ne, h.c⟩
theorem RV.congr {w0 wx : World} {bk bh g o bv : Nat} {P : List Nat} {H G V : Nat → Nat} (h : RV w0 wx bk bh g o P H bv V) (e : ∀ i, i < 8 → H i = G i) : RV w0 wx bk bh g o P G bv V := ⟨h.r.congr e, h.lt, h.ne, h.c⟩
theorem RV.set {w0 wx : World} {bk bh g o bv : Nat} {P : List Nat} {H V : Nat → Nat} (h : RV w0 wx bk bh g o P H bv V) (j : Nat) (z : Int) (v : Nat) (hz : z = v) : RV w0 (wx.setCell ⟨bh, j, none⟩ (.int .u64 z)) bk bh g o P (Sha.upd H j v) bv V := by
  have h2 := h.r.set j z v hz
  subst hz
  obtain ⟨ch, hh⟩ := h.r.h
  obtain ⟨-, hg⟩ := hh.set j v
  refine ⟨h2, Nat.lt_of_lt_of_le h.lt hg.size, h.ne, fun i hi => ?_⟩
  have := hg.block bv h.lt (fun e => by injection e with e; exact h.ne e)
  rw [show (wx.setCell ⟨bh, j, none⟩ (.int .u64 v)).cell? ⟨bv, i, none⟩ = wx.cell? ⟨bv, i, none⟩ by simp only [World.cell?, this]]
  exact h.c i hi

/-- The id under way. -/
structure OS (w0 wx : World) (bi bh : Nat) (H F : Nat → Nat) : Prop where
  i : IA w0 wx bi F
  h : ∃ cs, ArrF wx bh 137 .u64 8 cs H
  ne : bi ≠ bh
theorem OS.ch {w0 wx : World} {bi bh : Nat} {H F : Nat → Nat} (h : OS w0 wx bi bh H F) (i : Nat) (hi : i < 8) : wx.cell? ⟨bh, i, none⟩ = some (.int .u64 (H i)) := by obtain ⟨cs, h⟩ := h.h; exact h.c i hi
theorem OS.c {w0 wx : World} {bi bh : Nat} {H F : Nat → Nat} (h : OS w0 wx bi bh H F) (i : Nat) (hi : i < 32) : wx.cell? ⟨bi, i, none⟩ = some (.int .u8 (F i)) := h.i.c i hi
theorem OS.fz {w0 wx : World} {bi bh : Nat} {H F : Nat → Nat} (h : OS w0 wx bi bh H F) (i : Nat) : wx.frozen? ⟨bi, i, none⟩ = false := h.i.fz i
theorem OS.drewN {w0 wx : World} {bi bh : Nat} {H F : Nat → Nat} (h : OS w0 wx bi bh H F) (q : Nat) : OS w0 (wx.drewN q) bi bh H F := by
  obtain ⟨⟨a, ⟨c, ha⟩, l⟩, ⟨c2, h2⟩, ne⟩ := h
  exact ⟨⟨below_dN a q, ⟨c, ha.h, ha.sz, ha.at_⟩, l⟩, ⟨c2, h2.h, h2.sz, h2.at_⟩, ne⟩
theorem OS.set {w0 wx : World} {bi bh : Nat} {H F G : Nat → Nat} (h : OS w0 wx bi bh H F) (j : Nat) (v : Nat) (e : ∀ i, i < 32 → (if i = j then v else F i) = G i) : OS w0 (wx.setCell ⟨bi, j, none⟩ (.int .u8 v)) bi bh H G := by
  obtain ⟨cs, ha⟩ := h.i.a
  obtain ⟨c2, h2⟩ := h.h
  have hg := (ha.set j v).2
  exact ⟨h.i.set j v e, ⟨c2, h2.kept hg (fun e => by injection e with e; exact h.ne e.symm)⟩, h.ne⟩

/-- The loops of some code that lie in no other one, in the order of the text. -/
def codeLoops : Code → List Code
  | .loop c => [c]
  | .seq a b => codeLoops a ++ codeLoops b
  | .block _ c => codeLoops c
  | .scope c => codeLoops c
  | .cond _ a b => codeLoops a ++ codeLoops b
  | _ => []
noncomputable def blkBody : Code := ((Tryd.f32.body.map codeLoops).getD []).getD 2 .skip
noncomputable def wBody : Code := (codeLoops blkBody).getD 0 .skip
noncomputable def vBody : Code := (codeLoops blkBody).getD 1 .skip
end Go.Proofs.YtfoamcobpfflbaaDoor
