/- Texts of mine, joined: The law PackPlays: its walk. -/
import Derived.Test.YtfoamcobpfflbaaDoorZ50
namespace Go.Proofs.YtfoamcobpfflbaaDoor
open Go Go.RowKit Go.Maps
open VfsS (St)

namespace PackT
/-- Made, the file there for sure. -/
def FL (r : Nat) : St := ⟨[⟨ByteArray.empty, 0⟩], [(nm, 0)], [(nm, 0)], [], r, 2, -1⟩
theorem t2r (r : Nat) : VfsS.flushAllS (C1 r) = (FL r, 0) := by rfl
theorem tiedF (r : Nat) : PackS.Tied (FL r) (PackS.new nm) nm [] := ⟨PackS.Good.new nm, ⟨ByteArray.empty, rfl, rfl⟩, fun d h => by cases h⟩
end PackT
def newQ (n : Nat) : Array Value := #[.slice none 0 0, .slice none 0 0, .slice none 0 0, .slice none 0 0, .int .i64 (n : Int), .int .i64 0, .int .i64 (-1)]

theorem rrq_new (E : Nat → Prop) (w : World) (n : Nat) (hn : n ≤ 4194304) : RR E w (newQ n) (VfsS.newS n) 0 :=
  ⟨none, none, none, none, 0, 0, 0, 0, rfl, { f := OwnG.nil _ _ _, n := OwnG.nil _ _ _, s := OwnG.nil _ _ _, a := OwnG.nil _ _ _, kf := (fun k hk => nomatch hk), kn := (fun k hk => nomatch hk), ks := (fun k hk => nomatch hk), ka := (fun k hk => nomatch hk), wf := VfsS.Wf.new hn, lf := Nat.le_refl _, ln := Nat.le_refl _, la := Nat.le_refl _, st := Nat.le_refl _, big := by omega, lim := by show (-1 : Int) ≤ -1; omega }⟩

/-- What the loop knows: the pack beside its file system, the document's file system in a block, the document's records. -/
structure PlU (w0 wx : World) (p q b9 : Nat) (vL : Value) (S : St) (P : PackS.Pk) (L : List (List Nat)) (cs : Array Value) (E : Nat → Prop) (N : Nat) : Prop where
  pw : PW E w0 wx p q S P (400000 + N) N
  t : PackS.Tied S P PackT.nm L
  e9 : E b9
  h9 : wx.heap[b9]? = some (.cells cs 36 (0, 0))
  rr : RR E wx cs S N
  row : OwnG wx 9 1 vL L.length (srow L)
  ek : ∀ k, vL.ownBlock = some k → E k

section
variable {w0 wx w' : World} {p q b9 : Nat} {vL : Value} {S : St} {P : PackS.Pk} {L : List (List Nat)} {cs : Array Value} {E : Nat → Prop} {N : Nat}
theorem PlU.lt (h : PlU w0 wx p q b9 vL S P L cs E N) : b9 < wx.heap.size := (Array.getElem?_eq_some_iff.1 h.h9).1
/-- What only makes new blocks. -/
theorem PlU.below (h : PlU w0 wx p q b9 vL S P L cs E N) (hb : Below wx.heap.size wx w') : PlU w0 w' p q b9 vL S P L cs (Kx E wx.heap.size w'.heap.size) N :=
  ⟨h.pw.below hb, h.t, .inl h.e9, (hb.block b9 h.lt).trans h.h9, (h.rr.below hb).sub fun _ hk _ => .inl hk, h.row.below hb, fun k hk => .inl (h.ek k hk)⟩
theorem PlU.mono {N' : Nat} (h : PlU w0 wx p q b9 vL S P L cs E N) (hN : N ≤ N') (hb : N' ≤ 10000000) : PlU w0 wx p q b9 vL S P L cs E N' :=
  ⟨h.pw.mono (by omega) (by omega) hN (by omega), h.t, h.e9, h.h9, h.rr.mono hN (by omega), h.row, h.ek⟩
/-- The program's own calls: E's blocks are as they were. -/
theorem PlU.prog (h : PlU w0 wx p q b9 vL S P L cs E N) {S' : St} {P' : PackS.Pk} {q' N' : Nat} (hp : PW E w0 w' p q' S' P' (400000 + N') N') (hs : ∀ k, E k → w'.heap[k]? = wx.heap[k]?) :
    PW E w0 w' p q' S' P' (400000 + N') N' ∧ w'.heap[b9]? = some (.cells cs 36 (0, 0)) ∧ RR E w' cs S N ∧ OwnG w' 9 1 vL L.length (srow L) :=
  ⟨hp, (hs b9 h.e9).trans h.h9, h.rr.blocks hs, h.row.block fun k hk => hs k (h.ek k hk)⟩
end

/-- The same beside any state of the document's file system. -/
structure PlB (w0 wx : World) (p q b9 : Nat) (S : St) (P : PackS.Pk) (Sd : St) (cs : Array Value) (E : Nat → Prop) (N : Nat) : Prop where
  pw : PW E w0 wx p q S P (400000 + N) N
  e9 : E b9
  h9 : wx.heap[b9]? = some (.cells cs 36 (0, 0))
  rr : RR E wx cs Sd N

section
variable {w0 wx w' w2 : World} {p q b9 N : Nat} {S Sd : St} {P : PackS.Pk} {cs : Array Value} {E : Nat → Prop}
theorem PlU.b {vL : Value} {L : List (List Nat)} (h : PlU w0 wx p q b9 vL S P L cs E N) : PlB w0 wx p q b9 S P S cs E N := ⟨h.pw, h.e9, h.h9, h.rr⟩
theorem PlB.u {vL : Value} {L : List (List Nat)} (h : PlB w0 wx p q b9 S P S cs E N) (t : PackS.Tied S P PackT.nm L) (r : OwnG wx 9 1 vL L.length (srow L)) (ek : ∀ k, vL.ownBlock = some k → E k) : PlU w0 wx p q b9 vL S P L cs E N := ⟨h.pw, t, h.e9, h.h9, h.rr, r, ek⟩
theorem PlB.lt (h : PlB w0 wx p q b9 S P Sd cs E N) : b9 < wx.heap.size := (Array.getElem?_eq_some_iff.1 h.h9).1
theorem PlB.below (h : PlB w0 wx p q b9 S P Sd cs E N) (hb : Below wx.heap.size wx w') : PlB w0 w' p q b9 S P Sd cs (Kx E wx.heap.size w'.heap.size) N :=
  ⟨h.pw.below hb, .inl h.e9, (hb.block b9 h.lt).trans h.h9, (h.rr.below hb).sub fun _ hk _ => .inl hk⟩
/-- The program's own calls: E's blocks are as they were. -/
theorem PlB.prog (h : PlB w0 wx p q b9 S P Sd cs E N) {S' : St} {P' : PackS.Pk} {q' Np Nv N' : Nat} (hp : PW E w0 w' p q' S' P' Np Nv) (hs : ∀ k, E k → w'.heap[k]? = wx.heap[k]?) (h1 : Np ≤ 400000 + N') (h2 : Nv ≤ N') (h3 : N ≤ N') (h4 : N' ≤ 1000000) : PlB w0 w' p q' b9 S' P' Sd cs E N' :=
  ⟨hp.mono h1 (by omega) h2 (by omega), h.e9, (hs b9 h.e9).trans h.h9, (h.rr.blocks hs).mono h3 (by omega)⟩
/-- The document's calls: what they tell fills the document's block. -/
theorem PlB.doc (h : PlB w0 wx p q b9 S P Sd cs E N) {Sd' : St} {cs' : Array Value} {Nd N' : Nat} (rr : RR (Ku E wx.heap.size) w' cs' Sd' Nd) (hb : Below wx.heap.size wx w') (g : w'.grownBy w2 (some b9)) (h2 : w2.heap[b9]? = some (.cells cs' 36 (0, 0))) (h1 : Nd ≤ N') (h3 : N ≤ N') (h4 : N' ≤ 1000000) :
    PlB w0 w2 p q b9 S P Sd' cs' (Kx E wx.heap.size w'.heap.size) N' := by
  have hl := h.lt
  have h9' := (hb.block b9 hl).trans h.h9
  exact ⟨((h.pw.below hb).grown g (.inl h.e9)).mono (by omega) (by omega) h3 (by omega), .inl h.e9, h2, (rr.upto.other h9' (by decide) g).mono h1 (by omega)⟩
end

theorem sl_take {w : World} {a : Option Addr} {l : List Nat} (h : Sl w a (nb l)) (n : Nat) : Sl w a (nb (l.take n)) := by
  rcases h with h | ⟨b, o, r1, r2, r3⟩
  · refine .inl ?_
    have : l = [] := by cases l with | nil => rfl | cons x l => cases h
    rw [this, List.take_nil]; rfl
  · refine .inr ⟨b, o, r1, r2, fun i u hu => r3 i u ?_⟩
    unfold nb at hu ⊢
    rw [List.map_take] at hu
    rw [List.getElem?_take] at hu
    split at hu
    · exact hu
    · cases hu
/-- What makes a file durable leaves it as it is. -/
theorem PackS.Tied.sync {S : St} {P : PackS.Pk} {nm : ByteArray} {L : List (List Nat)} (h : PackS.Tied S P nm L) (hi : ∀ x ∈ S.now, x.2 < S.files.length) : PackS.Tied (VfsS.syncS S nm).1 P nm L := by
  obtain ⟨t, ht, hf⟩ := h.read
  refine ⟨h.good, ⟨t, ?_, hf⟩, h.len⟩
  rw [← ht]
  unfold VfsS.syncS
  cases e : VfsS.find S.now nm with
  | none => rfl
  | some j =>
    simp only
    by_cases h2 : S.limit = 0
    · rw [if_pos h2]
    · rw [if_neg h2]
      unfold VfsS.readS
      show (VfsS.find (VfsS.stepS S).now nm).map _ = _
      rw [VfsS.stepS_now, e]
      show some (VfsS.fl (VfsS.putS (VfsS.stepS S) j _) j).text = some (VfsS.fl S j).text
      rw [VfsS.fl_put (by rw [VfsS.stepS_files]; exact hi _ (VfsS.find_mem e)), if_pos rfl]

/-- The file system's own Append, beside a pack. -/
theorem pappend_p {E : Nat → Prop} {w0 w : World} {p q N M : Nat} {S : St} {P : PackS.Pk} (h : PW E w0 w p q S P N M) (s b : ByteArray) {a : Option Addr} {c : Nat} (hs : s.size ≤ 10000000) (hb : b.size ≤ 10000000) (hsl : SlE (fun _ => False) w0 w a (byteCells b)) (hM : M + 2 ≤ 100000000) :
    Calls Tryd.prog 27 #[.pointer (some ⟨p, 0, none⟩), .string s, .slice a b.size c] w fun e w' => e = .returned (.int .i64 (VfsS.appendS S s b).2) ∧ PW E w0 w' p q (VfsS.appendS S s b).1 P N (M + 2) ∧ ∀ k, E k → w'.heap[k]? = w.heap[k]? := by
  obtain ⟨⟨K, h1, h2, h3⟩, hbd⟩ := h
  refine (append_e h2 s b a c hs hb ?_ hM).mono ?_
  · rcases hsl with h | ⟨x, o, r1, r2, r3⟩
    · exact .inl h
    · exact .inr ⟨x, o, r1, r2.imp id False.elim, r3⟩
  rintro e w' ⟨rfl, r2, r3⟩
  exact ⟨rfl, PW.fs h1 h3 hbd r2 r3⟩

set_option maxRecDepth 100000 in
set_option maxHeartbeats 4000000 in
theorem lawPlays15_c (room : Int) (a : Option Addr) (c : Nat) (os : List OpQ) (w : World) (hg : Gl w) (hsl : Sl w a (opqRow os)) (hos : ∀ o ∈ os, OpQR w o 1048576) :
    Calls Tryd.prog 3 #[.int .i64 room, .slice a os.length c] w fun e w' => e = .returned (.bool true) ∧ Below w.heap.size w w' := by
  have HSL := Lib.hid hsl
  have HOS := Lib.hid hos
  clear hsl hos
  go_enter Tryd.func3, Tryd.ntmps3
  go_upto_region 3 with (go_at_call 13; refine (awake15_c _ hg).mono ?_; rintro e w0 ⟨rfl, hb0⟩)
  have hg0 := hg.below hb0 (Nat.le_refl _)
  go_wp2_with fail
  refine (new_a room w0 hg0).mono ?_
  rintro e w1 (⟨hr, rfl, rfl⟩ | ⟨hr, p, rfl, H1⟩)
  · go_wp2_with fail
    refine (rwrong_c room _).mono ?_
    rw [if_pos hr]
    rintro e w2 ⟨rfl, rfl⟩
    go_wp2_with fail
    go_ret
    exact ⟨rfl, hb0⟩
  obtain ⟨r, rfl⟩ : ∃ r : Nat, room = (r : Int) := ⟨room.toNat, by omega⟩
  rw [Int.toNat_natCast] at H1
  have HB0 := Lib.hid hb0
  have HFIN : Hid (∀ W, Below w0.heap.size w0 W → Below w.heap.size w W) := fun W hW => HB0.out.trans (hW.mono HB0.out.size)
  by_cases h60 : 60 < os.length
  · have hd : decide ((os.length : Int) > 60) = true := decide_eq_true (by omega)
    have hd' : decide ((60 : Int) < (os.length : Int)) = true := decide_eq_true (by omega)
    go_wp2_with fail
    go_ret
    exact ⟨rfl, HFIN.out _ H1.out⟩
  have hd : decide ((os.length : Int) > 60) = false := decide_eq_false (by omega)
  have hd' : decide ((60 : Int) < (os.length : Int)) = false := decide_eq_false (by omega)
  clear hb0 hg hg0
  go_wp2_with fail
  refine (pcreate_p H1.toE PackT.nm (by decide) (by omega)).mono ?_
  rw [PackT.t1r]
  rintro e w2 ⟨-, h | ⟨-, q, rfl, H2⟩⟩
  · exact absurd rfl h.1
  have H2 : PW (fun _ => False) w0 w2 p q (PackT.C1 r) (PackS.new PackT.nm) 0 3 := H2
  have HN := fun W : World => (show Calls Tryd.prog 18 #[.int .i64 (r : Int)] W fun e w'' => e = .returned (.agg (newQ r)) ∧ Below W.heap.size W w'' from rnew_c r W)
  have HN := Lib.hid HN
  have hrn : r ≤ 4194304 := by omega
  have hcr := fun W : World => rcreate_r (rrq_new (fun _ => False) W r hrn) PackT.nm (by decide) (by omega)
  simp only [PackT.t1r] at hcr
  have HCR := Lib.hid hcr
  clear H1 hd hd' hcr
  go_upto_region 10 with (first
    | (go_at_call 18; refine (HN.out _).mono ?_; rintro e w3 ⟨rfl, hb3⟩)
    | (go_at_call 17; refine (HCR.out _).mono ?_; rintro e w4 ⟨cs4, rfl, hr4, hb4⟩; have hsz4 := hr4.size; have hone4 := hr4.one; have hI : (w4.alloc (.cells #[.slice none 0 0, .slice none 0 0, .slice none 0 0, .slice none 0 0, .int .i64 0, .int .i64 0, .int .i64 0] 36)).heap[w4.heap.size]? = some (.cells #[.slice none 0 0, .slice none 0 0, .slice none 0 0, .slice none 0 0, .int .i64 0, .int .i64 0, .int .i64 0] 36 (0, 0)) := Array.getElem?_push_size)
    | (refine wp_storeB rfl 36 _ _ rfl w4.heap.size cs4 rfl rfl hI (by rw [hsz4]; rfl) (by rw [hsz4]; kernel_rfl) hone4 ?_; intro w5 h5 g5))
  have hb24 : Below w2.heap.size w2 w4 := hb3.trans (hb4.mono hb3.size)
  have hb25 : Below w2.heap.size w2 w5 := (hb24.alloc hb24.size _).grown g5 (hb24.alloc hb24.size _).size (fun k e => by injection e with e; have := hb24.size; omega)
  have H5 := H2.below hb25
  have hr5 := ((hr4.below (below_alloc w4 (.cells #[.slice none 0 0, .slice none 0 0, .slice none 0 0, .slice none 0 0, .int .i64 0, .int .i64 0, .int .i64 0] 36))).other hI (by decide) g5).sub (E' := Kx (fun _ => False) w2.heap.size w5.heap.size) (fun k hk hl => .inr ⟨hk.elim False.elim (fun h => Nat.le_trans hb3.size h), hl⟩)
  have he9 : Kx (fun _ => False) w2.heap.size w5.heap.size w4.heap.size := .inr ⟨hb24.size, (Array.getElem?_eq_some_iff.1 h5).1⟩
  generalize w4.heap.size = b9 at *
  generalize Kx (fun _ => False) w2.heap.size w5.heap.size = E5 at *
  clear H2 hb24 hb25 hb3 hb4 hr4 hI g5 HN HCR
  have hfl := pflush_p H5 (by omega)
  rw [PackT.t2r] at hfl
  have HFL := Lib.hid hfl
  clear hfl
  go_upto_region 11 with (go_at_call 19; refine HFL.out.mono ?_; rintro e w6 ⟨rfl, H6, hs6⟩)
  have h6 := (hs6 b9 he9).trans h5
  have hr6 := hr5.blocks hs6
  have hrf := rflushAll_r hr6 (by omega)
  simp only [PackT.t2r] at hrf
  have HRF := Lib.hid hrf
  clear hs6 h5 hr5 H5 hrf HFL
  go_upto_region 12 with (first
    | (refine wp_loadB rfl 36 _ rfl b9 rfl h6 _ Tryd.underlying36 rfl (by rw [Array.length_toList, hsz4]; kernel_rfl) ?_)
    | (go_at_call 20; refine HRF.out.mono ?_; rintro e w7 ⟨cs7, rfl, hr7, hb7⟩; have h7 := (hb7.block b9 (Array.getElem?_eq_some_iff.1 h6).1).trans h6; have hsz7 := hr7.size; have hone7 := hr7.one)
    | (refine wp_storeB rfl 36 _ _ rfl b9 cs7 rfl rfl h7 (by rw [hsz4, hsz7]) (by rw [hsz7]; kernel_rfl) hone7 ?_; intro w8 h8 g8))
  have H8 := (H6.below hb7).grown g8 (.inl he9)
  have hr8 := hr7.upto.other h7 (by decide) g8
  have hU : PlU w0 w8 p q b9 (.slice none 0 0) (PackT.FL r) (PackS.new PackT.nm) [] cs7 (Kx E5 w6.heap.size w7.heap.size) 10 :=
    ⟨H8.mono (by omega) (by omega) (by omega) (by omega), PackT.tiedF r, .inl he9, h8, hr8.mono (by omega) (by omega), OwnG.nil _ _ _, (fun k h => by cases h)⟩
  clear H6 h6 hr6 HRF hr7 hb7 h7 g8 H8 hr8
  go_wp2_with fail
  go_loopw [80, 7, 11] (fun iv qv lv wx => ∃ (i q : Nat) (S : St) (P : PackS.Pk) (L : List (List Nat)) (cs : Array Value) (E : Nat → Prop), i ≤ os.length ∧ iv = .int .i64 i ∧ qv = .pointer (some ⟨q, 0, none⟩) ∧ PlU w0 wx p q b9 lv S P L cs E (10 + 20 * i)) (fun iv _ _ _ => (os.length - intOf iv).toNat)
  case atStart => exact ⟨0, q, _, _, _, _, _, Nat.zero_le _, rfl, rfl, hU⟩
  case round =>
    clear hU
    obtain ⟨i, q, S, P, L, cs, E, hi, rfl, rfl, hU⟩ := hrel
    by_cases hil : i < os.length
    · have hd : decide ((i : Int) < (os.length : Int)) = true := decide_eq_true (by omega)
      have hbw := HFIN.out _ hU.pw.out
      obtain ⟨b, o, rfl, hb, hro⟩ := opq_at HSL.out hil
      have hrw : wr.rangeAt b (o + i * 4) (opqCells os[i]).toList := fun j u hu => (hbw.cell (p := ⟨b, o + i * 4 + j, none⟩) hb).trans (hro j u hu)
      have hOk := (HOS.out _ (List.getElem_mem hil))
      generalize os[i] = c at *
      have hI : (wr.alloc (.cells #[.int .i64 0, .slice none 0 0, .int .i64 0, .int .i64 0] 45)).heap[wr.heap.size]? = some (.cells #[.int .i64 0, .slice none 0 0, .int .i64 0, .int .i64 0] 45 (0, 0)) := Array.getElem?_push_size
      have h145 : (opqCells c).all (·.oneCell') = true := by simp [opqCells, Value.oneCell']
      have hi45 : (Tryd.prog.info? 45).map (·.size) = some (opqCells c).size := by show _ = some 4; kernel_rfl
      have b0 : (0 : Int) ≤ (i : Int) := by omega
      have b1 : (i : Int) < (os.length : Int) := by omega
      have hw1 : IntKind.i64.wrap ((i : Int) + 1) = ((i + 1 : Nat) : Int) := IntWalk.i64_in _ (by omega)
      have HU := Lib.hid hU
      have HBW := Lib.hid hbw
      clear hro hU hbw
      go_upto_region 18 with (first
        | (refine wpList_load_mid rfl 45 _ rfl b (o + i * 4) rfl (opqCells c).toList _ hrw Tryd.underlying45 rfl (by kernel_rfl) ?_)
        | (refine wp_storeB rfl 45 _ _ rfl wr.heap.size (opqCells c) rfl rfl hI rfl hi45 h145 ?_; intro w2 h2 g2))
      have hb2 : Below wr.heap.size wr w2 := ((Below.refl _ wr).alloc (Nat.le_refl _) _).grown g2 (by simp) (fun k e => by injection e with e; omega)
      have hU2 := HU.out.below hb2
      have hl13 : wr.heap.size < w2.heap.size := (Array.getElem?_eq_some_iff.1 h2).1
      have he13 : Kx E wr.heap.size w2.heap.size wr.heap.size := .inr ⟨Nat.le_refl _, hl13⟩
      have HD0 := Lib.hid (hOk.sl.below (HBW.out.trans (hb2.mono HBW.out.size)))
      have HDW := Lib.hid hOk.sl
      have HDL := Lib.hid hOk.lt
      obtain ⟨hcap1, hcap2, hcap3⟩ := hOk.cap
      generalize wr.heap.size = b13 at *
      generalize Kx E b13 w2.heap.size = E2 at *
      clear hI g2 hb2 hrw HU h145 hi45 hOk HBW
      have c0 : w2.cell? ⟨b13, 0, none⟩ = some (.int .i64 c.kind) := by rw [cell_of h2]; rfl
      have c1 : w2.cell? ⟨b13, 1, none⟩ = some (.slice c.da c.data.length c.dc) := by rw [cell_of h2]; rfl
      have HU2 := Lib.hid hU2
      clear hU2
      go_upto_if 88 with fail
      go_cut [14] from 89 to 90 (fun v14 wx => v14 = .slice c.da (c.data.take 400).length c.dc ∧ wx = w2)
      case first =>
        by_cases hbig : 400 < c.data.length
        · have hdd : decide ((c.data.length : Int) > 400) = true := decide_eq_true (by omega)
          have hdd' : decide ((400 : Int) < (c.data.length : Int)) = true := decide_eq_true (by omega)
          have hto : ∀ W, (Instr.slice 43 (.slice c.da c.data.length c.dc) none (some (.int .i64 400)) none).run Tryd.prog W = .ok (.slice c.da 400 c.dc) W := fun W => bytes_to (m := 400) (by omega)
          have h400 : (c.data.take 400).length = 400 := by rw [List.length_take]; omega
          go_wp2_with fail
          go_meet
          case rel => exact ⟨by rw [h400], rfl⟩
        · have hdd : decide ((c.data.length : Int) > 400) = false := decide_eq_false (by omega)
          have hdd' : decide ((400 : Int) < (c.data.length : Int)) = false := decide_eq_false (by omega)
          have h400 : c.data.take 400 = c.data := List.take_of_length_le (by omega)
          go_wp2_with fail
          go_meet
          case rel => exact ⟨by rw [h400], rfl⟩
      case rest =>
        obtain ⟨rfl, rfl⟩ := hcut
        obtain ⟨d, hdd⟩ : ∃ d, c.data.take 400 = d := ⟨_, rfl⟩
        have HD4 : Hid (d.length ≤ 400) := by show _ ≤ _; rw [← hdd, List.length_take]; omega
        have HDB : Hid (∀ x ∈ d, x < 256) := fun x hx => HDL.out x (List.mem_of_mem_take (hdd ▸ hx))
        have HDS : Hid (Sl w0 c.da (nb d)) := by rw [← hdd]; exact (sl_take HDW.out 400).below HB0.out
        rw [hdd]
        clear hdd HDL HDW HD0 hcap1 hcap2 hcap3
        go_step
        go_step
        go_cut [7, 11] from 91 to 222 (fun v7 v11 wx => ∃ (q : Nat) (S : St) (P : PackS.Pk) (L : List (List Nat)) (cs : Array Value) (E : Nat → Prop), v7 = .pointer (some ⟨q, 0, none⟩) ∧ PlU w0 wx p q b9 v11 S P L cs E (10 + 20 * (i + 1)))
        case first =>
          by_cases hk : c.kind = 0
          · -- @dev{ ADD
            have k0 : decide (c.kind = 0) = true := decide_eq_true hk
            have j0 : (c.kind == 0) = true := by rw [beq_iff_eq]; exact hk
            clear hk
            obtain ⟨S1, P1, x, k, hadd⟩ : ∃ S1 P1 x k, PackS.add P S d = (S1, P1, x, k) := ⟨_, _, _, _, rfl⟩
            obtain ⟨tA, e1, e2, e3⟩ := HU2.out.t.add HU2.out.pw.idx HDB.out
            have hx : OkId x := by have := add_id_ok P S d; rw [hadd] at this; exact this
            rw [hadd] at tA e1 e2 e3
            simp only at tA e1 e2 e3
            obtain ⟨L1, hradd⟩ : ∃ L1, PackS.radd S PackT.nm L d = (S1, L1, x, k) := ⟨_, by rw [e1, e2, e3]⟩
            rw [hradd] at tA
            simp only at tA
            have hpa := padd_p (c := c.dc) HU2.out.pw (slE_old HDS.out HU2.out.pw.out) HDB.out (by have := HD4.out; omega) (by omega) (by omega)
            unfold AddP at hpa
            rw [hadd] at hpa
            simp only at hpa
            have hzx : ∀ W, (binOp .neq 47 (.agg (nums .u8 x)) (.agg (nums .u8 x))).run Tryd.prog W = .ok (.bool false) W := fun W => by
              have := id_neq hx hx W
              rw [decide_eq_true rfl] at this
              exact this
            have HPA := Lib.hid hpa
            have HRADD := Lib.hid hradd
            have HTA := Lib.hid tA
            clear hpa hradd tA e1 e2 e3 hadd
            go_upto_region 24 with (first
              | (go_at_call 21; refine HPA.out.mono ?_; rintro e w3 ⟨rfl, H3, hs3⟩; have hI3 : (w3.alloc (.cells #[Value.int .u8 0, Value.int .u8 0, Value.int .u8 0, Value.int .u8 0, Value.int .u8 0, Value.int .u8 0, Value.int .u8 0, Value.int .u8 0, Value.int .u8 0, Value.int .u8 0, Value.int .u8 0, Value.int .u8 0, Value.int .u8 0, Value.int .u8 0, Value.int .u8 0, Value.int .u8 0, Value.int .u8 0, Value.int .u8 0, Value.int .u8 0, Value.int .u8 0, Value.int .u8 0, Value.int .u8 0, Value.int .u8 0, Value.int .u8 0, Value.int .u8 0, Value.int .u8 0, Value.int .u8 0, Value.int .u8 0, Value.int .u8 0, Value.int .u8 0, Value.int .u8 0, Value.int .u8 0] 47)).heap[w3.heap.size]? = some (.cells #[Value.int .u8 0, Value.int .u8 0, Value.int .u8 0, Value.int .u8 0, Value.int .u8 0, Value.int .u8 0, Value.int .u8 0, Value.int .u8 0, Value.int .u8 0, Value.int .u8 0, Value.int .u8 0, Value.int .u8 0, Value.int .u8 0, Value.int .u8 0, Value.int .u8 0, Value.int .u8 0, Value.int .u8 0, Value.int .u8 0, Value.int .u8 0, Value.int .u8 0, Value.int .u8 0, Value.int .u8 0, Value.int .u8 0, Value.int .u8 0, Value.int .u8 0, Value.int .u8 0, Value.int .u8 0, Value.int .u8 0, Value.int .u8 0, Value.int .u8 0, Value.int .u8 0, Value.int .u8 0] 47 (0, 0)) := Array.getElem?_push_size)
              | (refine wp_storeB rfl 47 _ _ rfl w3.heap.size (nums .u8 x) rfl rfl hI3 (by rw [nums_size, hx.1]; rfl) (by rw [nums_size, hx.1]; kernel_rfl) (nums_one _ _) ?_; intro w4 h4 g4))
            have hb34 : Below w3.heap.size w3 w4 := ((Below.refl _ w3).alloc (Nat.le_refl _) _).grown g4 (by simp) (fun k e => by injection e with e; omega)
            have HB3 := HU2.out.b.prog (N' := 12 + 20 * i) H3 hs3 (by omega) (by omega) (by omega) (by omega)
            have HB4 := Lib.hid (HB3.below hb34)
            have hrow4 := (HU2.out.row.block fun k hk => hs3 k (HU2.out.ek k hk)).below hb34
            have h94 := HB4.out.h9
            have hsz4 := HB4.out.rr.size
            have hl15 := (Array.getElem?_eq_some_iff.1 h4).1
            obtain ⟨la, lc, er, -, -, -⟩ := hrow4.form
            rw [er] at hrow4
            have hra := radd_c HB4.out.rr PackT.nm (ofL d) hrow4 HU2.out.t.len (HU2.out.t.few HU2.out.pw.wf) (by rw [ofL_size]; have := HD4.out; omega) (by omega)
            rw [← er, bl_ofL HDB.out] at hra
            unfold RAddP at hra
            rw [HRADD.out] at hra
            simp only at hra
            have HRA := Lib.hid hra
            have hcv := run_str_of (P := Tryd.prog) Tryd.underlying43 Tryd.underlying5 Tryd.underlying9 (b := ofL d) (w := w4) (by rw [byteCells_ofL HDB.out]; exact HDS.out.below HB4.out.pw.out) c.dc
            rw [ofL_size] at hcv
            generalize w3.heap.size = b15 at *
            clear HB3 hrow4 hra er H3 hs3 hI3 g4 HPA hb34
            go_upto_region 25 with (first
              | (refine wp_loadB rfl 36 _ rfl b9 rfl h94 _ Tryd.underlying36 rfl (by rw [Array.length_toList, hsz4]; kernel_rfl) ?_)
              | (go_at_call 22; refine HRA.out.mono ?_; rintro e w5 ⟨cs5, v5, rfl, hr5, hrow5, hek5, hb5⟩; have hsz5 := hr5.size; have hone5 := hr5.one; have hI17 : ((w5.alloc (.cells #[.slice none 0 0, .slice none 0 0, .slice none 0 0, .slice none 0 0, .int .i64 0, .int .i64 0, .int .i64 0] 36)).alloc (.cells #[Value.int .u8 0, Value.int .u8 0, Value.int .u8 0, Value.int .u8 0, Value.int .u8 0, Value.int .u8 0, Value.int .u8 0, Value.int .u8 0, Value.int .u8 0, Value.int .u8 0, Value.int .u8 0, Value.int .u8 0, Value.int .u8 0, Value.int .u8 0, Value.int .u8 0, Value.int .u8 0, Value.int .u8 0, Value.int .u8 0, Value.int .u8 0, Value.int .u8 0, Value.int .u8 0, Value.int .u8 0, Value.int .u8 0, Value.int .u8 0, Value.int .u8 0, Value.int .u8 0, Value.int .u8 0, Value.int .u8 0, Value.int .u8 0, Value.int .u8 0, Value.int .u8 0, Value.int .u8 0] 47)).heap[w5.heap.size]? = some (.cells #[.slice none 0 0, .slice none 0 0, .slice none 0 0, .slice none 0 0, .int .i64 0, .int .i64 0, .int .i64 0] 36 (0, 0)) := ((below_alloc _ _).block _ (by simp)).trans (push_at rfl))
              | (refine wp_storeB rfl 36 _ _ rfl w5.heap.size cs5 rfl rfl hI17 (by rw [hsz5]; rfl) (by rw [hsz5]; kernel_rfl) hone5 ?_; intro w6 h6 g6; have hI19 : w6.heap[w5.heap.size + 1]? = some (.cells #[Value.int .u8 0, Value.int .u8 0, Value.int .u8 0, Value.int .u8 0, Value.int .u8 0, Value.int .u8 0, Value.int .u8 0, Value.int .u8 0, Value.int .u8 0, Value.int .u8 0, Value.int .u8 0, Value.int .u8 0, Value.int .u8 0, Value.int .u8 0, Value.int .u8 0, Value.int .u8 0, Value.int .u8 0, Value.int .u8 0, Value.int .u8 0, Value.int .u8 0, Value.int .u8 0, Value.int .u8 0, Value.int .u8 0, Value.int .u8 0, Value.int .u8 0, Value.int .u8 0, Value.int .u8 0, Value.int .u8 0, Value.int .u8 0, Value.int .u8 0, Value.int .u8 0, Value.int .u8 0] 47 (0, 0)) := (g6.block _ (by simp) (fun e => by injection e with e; omega)).trans (push_at (by simp)))
              | (refine wp_storeB rfl 47 _ _ rfl (w5.heap.size + 1) (nums .u8 x) rfl rfl hI19 (by rw [nums_size, hx.1]; rfl) (by rw [nums_size, hx.1]; kernel_rfl) (nums_one _ _) ?_; intro w7 h7 g7))
            have hb56 := (((Below.refl _ w5).alloc (Nat.le_refl _) (.cells #[.slice none 0 0, .slice none 0 0, .slice none 0 0, .slice none 0 0, .int .i64 0, .int .i64 0, .int .i64 0] 36)).alloc (by simp) (.cells #[Value.int .u8 0, Value.int .u8 0, Value.int .u8 0, Value.int .u8 0, Value.int .u8 0, Value.int .u8 0, Value.int .u8 0, Value.int .u8 0, Value.int .u8 0, Value.int .u8 0, Value.int .u8 0, Value.int .u8 0, Value.int .u8 0, Value.int .u8 0, Value.int .u8 0, Value.int .u8 0, Value.int .u8 0, Value.int .u8 0, Value.int .u8 0, Value.int .u8 0, Value.int .u8 0, Value.int .u8 0, Value.int .u8 0, Value.int .u8 0, Value.int .u8 0, Value.int .u8 0, Value.int .u8 0, Value.int .u8 0, Value.int .u8 0, Value.int .u8 0, Value.int .u8 0, Value.int .u8 0] 47)).grown g6 (by simp; omega) (fun k e => by injection e with e; omega)
            have hb57 := hb56.grown g7 hb56.size (fun k e => by injection e with e; omega)
            have h177 := (g7.block _ (Array.getElem?_eq_some_iff.1 h6).1 (fun e => by injection e with e; omega)).trans h6
            have hb47 := hb5.trans (hb57.mono hb5.size)
            have h97 := (hb47.block b9 HB4.out.lt).trans h94
            have h157 := (hb47.block b15 hl15).trans h4
            have hw45 : b15 < w5.heap.size := Nat.lt_of_lt_of_le hl15 hb5.size
            have h9l : b9 < w5.heap.size := Nat.lt_of_lt_of_le HB4.out.lt hb5.size
            have hne : b15 ≠ b9 := by
              intro e
              subst e
              rw [h94] at h4
              injection h4 with h4
              injection h4 with h4 h5
              exact absurd h5 (by decide)
            have hr7 := Lib.hid (hr5.below hb57)
            have hrow7 := Lib.hid (hrow5.below hb57)
            generalize w5.heap.size = b17 at *
            clear hI17 hI19 g6 g7 hb56 hb57 hr5 hrow5 HRA hb5
            go_upto_region 26 with (first
              | (refine wp_loadB rfl 36 _ rfl b17 rfl h177 _ Tryd.underlying36 rfl (by rw [Array.length_toList, hsz5]; kernel_rfl) ?_)
              | (refine wp_storeB rfl 36 _ _ rfl b9 cs5 rfl rfl h97 (by rw [hsz4, hsz5]) (by rw [hsz5]; kernel_rfl) hone5 ?_; intro w8 h8 g8))
            have h158 := (g8.block b15 (Array.getElem?_eq_some_iff.1 h157).1 (fun e => hne (Option.some.inj e))).trans h157
            have h198 := (g8.block (b17 + 1) (Array.getElem?_eq_some_iff.1 h7).1 (fun e => by injection e with e; omega)).trans h7
            have HZ := Lib.hid (((HB4.out.doc hr7.out hb47 g8 h8 (N' := 10 + 20 * (i + 1)) (by omega) (by omega) (by omega)).u HTA.out (own_other hrow7.out h97 (by decide) g8) (fun k hk => (hek5 k hk).elim (fun h => .inl (.inl (HU2.out.ek k h))) fun h => .inr ⟨h, hrow7.out.lt hk⟩)))
            clear h97 h157 h7 h8 g8 hek5 hb47
            go_wp2_with (first
              | (refine wp_loadB rfl 47 _ rfl b15 rfl h158 _ id_under rfl (idSz _ hx) ?_)
              | (refine wp_loadB rfl 47 _ rfl (b17 + 1) rfl h198 _ id_under rfl (idSz _ hx) ?_))
            go_meet
            case rel => exact ⟨q, S1, P1, L1, cs5, _, rfl, HZ.out⟩
          by_cases hk1 : c.kind = 1
          · -- @dev{ SYNC
            have k0 : decide (c.kind = 0) = false := decide_eq_false (by omega)
            have j0 : (c.kind == 0) = false := by rw [beq_eq_false_iff_ne]; omega
            have k1 : decide (c.kind = 1) = true := decide_eq_true hk1
            have j1 : (c.kind == 1) = true := by rw [beq_iff_eq]; exact hk1
            clear hk hk1
            have hps := psync_p HU2.out.pw (by omega)
            rw [HU2.out.t.good.name] at hps
            have hts := HU2.out.t.sync HU2.out.pw.idx
            obtain ⟨S1, k, hsy⟩ : ∃ S1 k, VfsS.syncS S PackT.nm = (S1, k) := ⟨_, _, rfl⟩
            have hrs := fun (W : World) (h : RR E2 W cs S (12 + 20 * i)) => rsync_r h PackT.nm (by omega)
            simp only [hsy] at hps hts hrs
            have HPS := Lib.hid hps
            have HRS := Lib.hid hrs
            have HTS := Lib.hid hts
            clear hps hrs hts hsy
            go_upto_region 30 with (go_at_call 23; refine HPS.out.mono ?_; rintro e w3 ⟨rfl, H3, hs3⟩)
            have HB3 := Lib.hid (HU2.out.b.prog (N' := 12 + 20 * i) H3 hs3 (by omega) (by omega) (by omega) (by omega))
            have hrow3 := Lib.hid (HU2.out.row.block fun k hk => hs3 k (HU2.out.ek k hk))
            have h93 := HB3.out.h9
            have hsz3 := HB3.out.rr.size
            have HR3 := Lib.hid (HRS.out w3 HB3.out.rr)
            clear H3 hs3 HPS HRS
            go_upto_region 31 with (first
              | (refine wp_loadB rfl 36 _ rfl b9 rfl h93 _ Tryd.underlying36 rfl (by rw [Array.length_toList, hsz3]; kernel_rfl) ?_)
              | (go_at_call 24; refine HR3.out.mono ?_; rintro e w5 ⟨cs5, rfl, hr5, hb5⟩; have hsz5 := hr5.size; have hone5 := hr5.one; have hI17 : (w5.alloc (.cells #[.slice none 0 0, .slice none 0 0, .slice none 0 0, .slice none 0 0, .int .i64 0, .int .i64 0, .int .i64 0] 36)).heap[w5.heap.size]? = some (.cells #[.slice none 0 0, .slice none 0 0, .slice none 0 0, .slice none 0 0, .int .i64 0, .int .i64 0, .int .i64 0] 36 (0, 0)) := push_at rfl)
              | (refine wp_storeB rfl 36 _ _ rfl w5.heap.size cs5 rfl rfl hI17 (by rw [hsz5]; rfl) (by rw [hsz5]; kernel_rfl) hone5 ?_; intro w7 h7 g7))
            have hb57 := ((Below.refl _ w5).alloc (Nat.le_refl _) (.cells #[.slice none 0 0, .slice none 0 0, .slice none 0 0, .slice none 0 0, .int .i64 0, .int .i64 0, .int .i64 0] 36)).grown g7 (by simp) (fun k e => by injection e with e; omega)
            have hb37 := hb5.trans (hb57.mono hb5.size)
            have h97 := (hb37.block b9 HB3.out.lt).trans h93
            have hr7 := Lib.hid (hr5.below hb57)
            generalize w5.heap.size = b17 at *
            clear hI17 g7 hb57 hr5 HR3 hb5
            go_upto_region 32 with (first
              | (refine wp_loadB rfl 36 _ rfl b17 rfl h7 _ Tryd.underlying36 rfl (by rw [Array.length_toList, hsz5]; kernel_rfl) ?_)
              | (refine wp_storeB rfl 36 _ _ rfl b9 cs5 rfl rfl h97 (by rw [hsz3, hsz5]) (by rw [hsz5]; kernel_rfl) hone5 ?_; intro w8 h8 g8))
            have HZ := Lib.hid (((HB3.out.doc hr7.out hb37 g8 h8 (N' := 10 + 20 * (i + 1)) (by omega) (by omega) (by omega)).u HTS.out (own_other (hrow3.out.below hb37) h97 (by decide) g8) (fun k hk => .inl (HU2.out.ek k hk))))
            clear h97 h7 h8 g8 hb37
            go_wp2_with fail
            go_meet
            case rel => exact ⟨q, S1, P, L, cs5, _, rfl, HZ.out⟩
          by_cases hk23 : c.kind = 2 ∨ c.kind = 3
          · have k0 : decide (c.kind = 0) = false := decide_eq_false (by omega)
            have j0 : (c.kind == 0) = false := by rw [beq_eq_false_iff_ne]; omega
            have k1 : decide (c.kind = 1) = false := decide_eq_false (by omega)
            have j1 : (c.kind == 1) = false := by rw [beq_eq_false_iff_ne]; omega
            clear hk hk1
            go_upto_if 121 with fail
            go_step
            go_step
            go_cut [134] from 134 to 136 (fun v134 wx => v134 = .bool true ∧ wx = wc)
            case first =>
              by_cases hk2 : c.kind = 2
              · have k2 : decide (c.kind = 2) = true := decide_eq_true hk2
                have j2 : (c.kind == 2) = true := by rw [beq_iff_eq]; exact hk2
                go_wp2_with fail
                go_meet
                case rel => exact ⟨rfl, rfl⟩
              · have k2 : decide (c.kind = 2) = false := decide_eq_false hk2
                have j2 : (c.kind == 2) = false := by rw [beq_eq_false_iff_ne]; exact hk2
                have k3 : decide (c.kind = 3) = true := decide_eq_true (by omega)
                have j3 : (c.kind == 3) = true := by rw [beq_iff_eq]; omega
                go_wp2_with fail
                go_meet
                case rel => exact ⟨rfl, rfl⟩
            obtain ⟨rfl, rfl⟩ := hcut
            first
              | (go_step; go_cut [] from 137 to 161 (fun wx => ∃ (S1 : St) (cs1 : Array Value) (E1 : Nat → Prop), PlB w0 wx p q b9 S1 P S1 cs1 E1 (13 + 20 * i)))
              | (go_step; go_step; go_step; go_cut [] from 137 to 161 (fun wx => ∃ (S1 : St) (cs1 : Array Value) (E1 : Nat → Prop), PlB w0 wx p q b9 S1 P S1 cs1 E1 (13 + 20 * i)))
              | (go_step; go_step; go_step; go_step; go_cut [] from 137 to 161 (fun wx => ∃ (S1 : St) (cs1 : Array Value) (E1 : Nat → Prop), PlB w0 wx p q b9 S1 P S1 cs1 E1 (13 + 20 * i)))
              | (go_cut [] from 137 to 161 (fun wx => ∃ (S1 : St) (cs1 : Array Value) (E1 : Nat → Prop), PlB w0 wx p q b9 S1 P S1 cs1 E1 (13 + 20 * i)))
            case first =>
              by_cases hk2 : c.kind = 2
              · -- @dev{ CA
                have k2 : decide (c.kind = 2) = true := decide_eq_true hk2
                have j2 : (c.kind == 2) = true := by rw [beq_iff_eq]; exact hk2
                clear hk23 hk2
                have c2 : wc.cell? ⟨b13, 2, none⟩ = some (.int .i64 c.n) := by rw [cell_of h2]; rfl
                have c3 : wc.cell? ⟨b13, 3, none⟩ = some (.int .i64 c.m) := by rw [cell_of h2]; rfl
                have HPC := Lib.hid (pcrash_p HU2.out.pw c.n c.m)
                have HC2 := Lib.hid c2
                have HC3 := Lib.hid c3
                go_upto_region 38 with (go_at_call 25; refine HPC.out.mono ?_; rintro e w3 ⟨rfl, H3, hs3⟩)
                have HB3 := Lib.hid (HU2.out.b.prog (N' := 12 + 20 * i) H3 hs3 (by omega) (by omega) (by omega) (by omega))
                have h93 := HB3.out.h9
                have hsz3 := HB3.out.rr.size
                have d2 : w3.cell? ⟨b13, 2, none⟩ = some (.int .i64 c.n) := by rw [cell_of ((hs3 b13 he13).trans h2)]; rfl
                have d3 : w3.cell? ⟨b13, 3, none⟩ = some (.int .i64 c.m) := by rw [cell_of ((hs3 b13 he13).trans h2)]; rfl
                have HR3 := Lib.hid (rcrash_r HB3.out.rr c.n c.m)
                clear c2 c3 HC2 HC3 H3 hs3 HPC
                go_wp2_with (first
                  | (refine wp_loadB rfl 36 _ rfl b9 rfl h93 _ Tryd.underlying36 rfl (by rw [Array.length_toList, hsz3]; kernel_rfl) ?_)
                  | (go_at_call 26; refine HR3.out.mono ?_; rintro e w5 ⟨cs5, rfl, hr5, hb5⟩; have hsz5 := hr5.size; have hone5 := hr5.one; have h95 := (hb5.block b9 HB3.out.lt).trans h93)
                  | (refine wp_storeB rfl 36 _ _ rfl b9 cs5 rfl rfl h95 (by rw [hsz3, hsz5]) (by rw [hsz5]; kernel_rfl) hone5 ?_; intro w8 h8 g8))
                have HZ := Lib.hid (HB3.out.doc hr5 hb5 g8 h8 (N' := 13 + 20 * i) (by omega) (by omega) (by omega))
                clear hr5 hb5 g8 h8 h95 HR3
                go_meet
                case rel => exact ⟨_, cs5, _, HZ.out⟩
              · -- @dev{ CB
                have k2 : decide (c.kind = 2) = false := decide_eq_false hk2
                have j2 : (c.kind == 2) = false := by rw [beq_eq_false_iff_ne]; exact hk2
                have k3 : decide (c.kind = 3) = true := decide_eq_true (by omega)
                have j3 : (c.kind == 3) = true := by rw [beq_iff_eq]; omega
                clear hk23 hk2
                have hpa := pappend_p (c := c.dc) HU2.out.pw PackT.nm (ofL d) (by decide) (by rw [ofL_size]; have := HD4.out; omega) (by rw [byteCells_ofL HDB.out]; exact slE_old HDS.out HU2.out.pw.out) (by omega)
                rw [ofL_size] at hpa
                obtain ⟨S1, k, hap⟩ : ∃ S1 k, VfsS.appendS S PackT.nm (ofL d) = (S1, k) := ⟨_, _, rfl⟩
                have hra := fun (W : World) (h : RR E2 W cs S (12 + 20 * i)) => rappend_r h PackT.nm (ofL d) (by rw [ofL_size]; have := HD4.out; omega) (by omega)
                simp only [hap] at hpa hra
                have HPA := Lib.hid hpa
                have HRA := Lib.hid hra
                clear hpa hra hap
                go_upto_region 40 with (go_at_call 27; refine HPA.out.mono ?_; rintro e w3 ⟨rfl, H3, hs3⟩)
                have HB3 := Lib.hid (HU2.out.b.prog (N' := 12 + 20 * i) H3 hs3 (by omega) (by omega) (by omega) (by omega))
                have h93 := HB3.out.h9
                have hsz3 := HB3.out.rr.size
                have hcv := run_str_of (P := Tryd.prog) Tryd.underlying43 Tryd.underlying5 Tryd.underlying9 (b := ofL d) (w := w3) (by rw [byteCells_ofL HDB.out]; exact HDS.out.below HB3.out.pw.out) c.dc
                rw [ofL_size] at hcv
                have HR3 := Lib.hid (HRA.out w3 HB3.out.rr)
                clear H3 hs3 HPA HRA
                go_wp2_with (first
                  | (refine wp_loadB rfl 36 _ rfl b9 rfl h93 _ Tryd.underlying36 rfl (by rw [Array.length_toList, hsz3]; kernel_rfl) ?_)
                  | (go_at_call 28; refine HR3.out.mono ?_; rintro e w5 ⟨cs5, rfl, hr5, hb5⟩; have hsz5 := hr5.size; have hone5 := hr5.one; have h95 := (hb5.block b9 HB3.out.lt).trans h93)
                  | (refine wp_storeB rfl 36 _ _ rfl b9 cs5 rfl rfl h95 (by rw [hsz3, hsz5]) (by rw [hsz5]; kernel_rfl) hone5 ?_; intro w8 h8 g8))
                have HZ := Lib.hid (HB3.out.doc hr5 hb5 g8 h8 (N' := 13 + 20 * i) (by omega) (by omega) (by omega))
                clear hr5 hb5 g8 h8 h95 HR3
                go_meet
                case rel => exact ⟨S1, cs5, _, HZ.out⟩
            case rest =>
              -- @dev{ CR
              obtain ⟨S1, cs1, E1, hx1⟩ := hcut
              have HX1 := Lib.hid hx1
              clear hx1 HU2 h2 c0 c1 he13 HDS HDB HD4 hk23
              have h91 := HX1.out.h9
              have hsz1 := HX1.out.rr.size
              obtain ⟨o1, o2, o3, o4⟩ := PackS.tied_open (nm := PackT.nm) HX1.out.pw.idx
              have hro := ropen_c HX1.out.rr PackT.nm (by omega)
              unfold ROpenP at hro
              have hpo := fun (E8 : Nat → Prop) (W : World) (N8 : Nat) (h : VE E8 w0 W p S1 N8) (hN : N8 + 2 ≤ 100000000) => popen_p h PackT.nm (by decide) hN
              unfold OpenP at hpo
              obtain ⟨S2, L2, k, hrop⟩ : ∃ S2 L2 k, PackS.ropened S1 PackT.nm = (S2, L2, k) := ⟨_, _, _, rfl⟩
              obtain ⟨S3, op, k3, hopd⟩ : ∃ S3 op k3, PackS.opened S1 PackT.nm = (S3, op, k3) := ⟨_, _, _, rfl⟩
              rw [hrop, hopd] at o1 o2 o3 o4
              simp only [hrop] at hro
              simp only [hopd] at hpo
              simp only at o1 o2 o3 o4
              subst o1 o2
              have HRO := Lib.hid hro
              have HPO := Lib.hid hpo
              have HO3 := Lib.hid o3
              have HO4 := Lib.hid o4
              clear hro hpo o3 o4 hrop hopd
              go_upto_region 42 with (first
                | (refine wp_loadB rfl 36 _ rfl b9 rfl h91 _ Tryd.underlying36 rfl (by rw [Array.length_toList, hsz1]; kernel_rfl) ?_)
                | (go_at_call 29; refine HRO.out.mono ?_; rintro e w5 ⟨cs5, v5, rfl, hr5, ht5, hb5⟩; have hsz5 := hr5.size; have hone5 := hr5.one; have hI24 : (w5.alloc (.cells #[.slice none 0 0, .slice none 0 0, .slice none 0 0, .slice none 0 0, .int .i64 0, .int .i64 0, .int .i64 0] 36)).heap[w5.heap.size]? = some (.cells #[.slice none 0 0, .slice none 0 0, .slice none 0 0, .slice none 0 0, .int .i64 0, .int .i64 0, .int .i64 0] 36 (0, 0)) := push_at rfl)
                | (refine wp_storeB rfl 36 _ _ rfl w5.heap.size cs5 rfl rfl hI24 (by rw [hsz5]; rfl) (by rw [hsz5]; kernel_rfl) hone5 ?_; intro w7 h7 g7))
              have hb57 := ((Below.refl _ w5).alloc (Nat.le_refl _) (.cells #[.slice none 0 0, .slice none 0 0, .slice none 0 0, .slice none 0 0, .int .i64 0, .int .i64 0, .int .i64 0] 36)).grown g7 (by simp) (fun k e => by injection e with e; omega)
              have hb17 := hb5.trans (hb57.mono hb5.size)
              have h97 := (hb17.block b9 HX1.out.lt).trans h91
              have hr7 := Lib.hid (hr5.below hb57)
              have hrow7 := Lib.hid (ht5.r.below hb57)
              have hnew := Lib.hid ht5.new
              generalize w5.heap.size = b24 at *
              clear hI24 g7 hb57 hr5 hb5 ht5 HRO
              go_upto_region 43 with (first
                | (refine wp_loadB rfl 36 _ rfl b24 rfl h7 _ Tryd.underlying36 rfl (by rw [Array.length_toList, hsz5]; kernel_rfl) ?_)
                | (refine wp_storeB rfl 36 _ _ rfl b9 cs5 rfl rfl h97 (by rw [hsz1, hsz5]) (by rw [hsz5]; kernel_rfl) hone5 ?_; intro w8 h8 g8))
              have HB8 := Lib.hid (HX1.out.doc hr7.out hb17 g8 h8 (N' := 14 + 20 * i) (by omega) (by omega) (by omega))
              have hrow8 := Lib.hid (own_other hrow7.out h97 (by decide) g8)
              have hek : Hid (∀ k, v5.ownBlock = some k → Kx E1 wc.heap.size w7.heap.size k) := fun k hk => .inr ⟨hnew.out k hk, hrow7.out.lt hk⟩
              generalize Kx E1 wc.heap.size w7.heap.size = E8 at *
              clear h97 h7 h8 g8 hb17 hr7 hrow7 hnew h91 hsz1 hsz5 hone5
              have hpo8 := HPO.out E8 w8 _ HB8.out.pw.ve (by omega)
              cases op with
              | none =>
                have hk : k3 ≠ 0 := HO3.out.1 rfl
                have hkd : decide (k3 = 0) = false := decide_eq_false hk
                have hkb : (k3 == 0) = false := by rw [beq_eq_false_iff_ne]; exact hk
                have hkn : (k3 != 0) = true := by rw [bne, hkb]; rfl
                have hpn := hpo8.mono (R' := fun e w' => e = .returned (.tuple #[.pointer none, .int .i64 k3]) ∧ VE E8 w0 w' p S3 (14 + 20 * i + 2)) (by
                  intro e w' h
                  have h2 := h.2
                  rcases h2 with h3 | h3
                  · exact ⟨h3.2.1, h3.2.2⟩
                  · obtain ⟨P9, h4⟩ := h3
                    obtain ⟨q9, h5⟩ := h4
                    have hn := h5.1
                    cases hn)
                have HPN := Lib.hid hpn
                clear hpo8 hpn HPO hk
                go_wp2_with (go_at_call 30; refine HPN.out.mono ?_; rintro e w9 ⟨rfl, VE9⟩)
                go_ret
                exact ⟨rfl, HFIN.out _ VE9.out⟩
              | some P9 =>
                have hk : k3 = 0 := Classical.byContradiction fun h => by have := HO3.out.2 h; cases this
                subst hk
                have hpn := hpo8.mono (R' := fun e w' => ∃ q9, e = .returned (.tuple #[.pointer (some ⟨q9, 0, none⟩), .int .i64 0]) ∧ PW E8 w0 w' p q9 S3 P9 400000 (14 + 20 * i + 2) ∧ ∀ k, E8 k → w'.heap[k]? = w8.heap[k]?) (by
                  intro e w' h
                  have h2 := h.2
                  rcases h2 with h3 | h3
                  · have hn := h3.1
                    cases hn
                  · obtain ⟨P', h4⟩ := h3
                    obtain ⟨q9, h5⟩ := h4
                    have hn := h5.1
                    injection hn with hn
                    subst hn
                    exact ⟨q9, h5.2.2.1, h5.2.2.2, h.1⟩)
                have HPN := Lib.hid hpn
                have t9 := Lib.hid (HO4.out P9 rfl)
                clear hpo8 hpn HPO
                go_upto_region 44 with (go_at_call 30; refine HPN.out.mono ?_; rintro e w9 ⟨q9, rfl, H9, hs9⟩)
                have HZ := Lib.hid (((HB8.out.prog (N' := 10 + 20 * (i + 1)) H9 hs9 (by omega) (by omega) (by omega) (by omega)).u t9.out (hrow8.out.block fun k hk => hs9 k (hek.out k hk)) hek.out))
                clear H9 hs9 HPN
                go_wp2_with fail
                go_meet
                case rel => exact ⟨q9, S3, P9, L2, cs5, _, rfl, HZ.out⟩
          by_cases hk4 : c.kind = 4
          · -- @dev{ GET
            have k0 : decide (c.kind = 0) = false := decide_eq_false (by omega)
            have j0 : (c.kind == 0) = false := by rw [beq_eq_false_iff_ne]; omega
            have k1 : decide (c.kind = 1) = false := decide_eq_false (by omega)
            have j1 : (c.kind == 1) = false := by rw [beq_eq_false_iff_ne]; omega
            have k2 : decide (c.kind = 2) = false := decide_eq_false (by omega)
            have j2 : (c.kind == 2) = false := by rw [beq_eq_false_iff_ne]; omega
            have k3 : decide (c.kind = 3) = false := decide_eq_false (by omega)
            have j3 : (c.kind == 3) = false := by rw [beq_eq_false_iff_ne]; omega
            have k4 : decide (c.kind = 4) = true := decide_eq_true hk4
            have j4 : (c.kind == 4) = true := by rw [beq_iff_eq]; exact hk4
            clear hk hk1 hk23 hk4
            obtain ⟨t, ht, hft⟩ := HU2.out.t.read
            have hx := okId_sum d
            have hgp := pget_p HU2.out.pw hx
            rw [HU2.out.t.good.get ht hft] at hgp
            have hsum := fun W' => refsum_c (w := W') (ofL d) (by rw [ofL_size]; have := HD4.out; omega)
            rw [bl_ofL HDB.out] at hsum
            have hgw := fun (W : World) (hW : Below wc.heap.size wc W) => pget_p (HU2.out.pw.below hW) hx
            rw [HU2.out.t.good.get ht hft] at hgw
            have hlt := HU2.out.t.len
            have hfew := HU2.out.t.few HU2.out.pw.wf
            have hhw := fun (W : World) (a : Option Addr) (n : Nat) (h : Sl W a (srow L)) => rhas_c (c := n) h hlt (by omega) hx
            have hol : ∀ o, PackS.rhas L (Sha.sum d) = some o → ∀ y ∈ o, y < 256 := fun o ho => (hlt o (PackS.rhas_sum ho).2).2
            generalize Sha.sum d = x at *
            obtain ⟨rh, hrh⟩ : ∃ rh, PackS.rhas L x = rh := ⟨_, rfl⟩
            rw [hrh] at hgw hhw hol
            have HGW := Lib.hid hgw
            have HHW := Lib.hid hhw
            have HOL := Lib.hid hol
            have HSUM := Lib.hid hsum
            have hcv : ∀ W, Below wc.heap.size wc W → _ := fun W hW => run_str_of (P := Tryd.prog) Tryd.underlying43 Tryd.underlying5 Tryd.underlying9 (b := ofL d) (w := W) (by rw [byteCells_ofL HDB.out]; exact (HDS.out.below HU2.out.pw.out).below hW) c.dc
            rw [ofL_size] at hcv
            have HCV := Lib.hid hcv
            have hcv0 := hcv _ (Below.refl _ wc)
            clear hgp hgw hhw hol hsum hrh ht hft t hcv hlt hfew
            go_upto_region 50 with (first
              | (go_at_call 32; refine (HSUM.out _).mono ?_; rintro e w2 ⟨rfl, hb2⟩)
              | (go_at_call 31; refine (HGW.out _ hb2).mono ?_; rintro e w3 ⟨ga, gc, rfl, hn3, -, hb3⟩))
            have hb23 := hb2.trans (hb3.mono hb2.size)
            have hcv3 := HCV.out _ hb23
            have HN3 := Lib.hid hn3
            obtain ⟨la, lc, er, -, -, -⟩ := HU2.out.row.form
            have hrow3 := HU2.out.row.below hb23
            rw [er] at hrow3
            have hhas := fun (W : World) (hW : Below w3.heap.size w3 W) => HHW.out W la lc (hrow3.sl.below hW)
            rw [← er] at hhas
            have HHAS := Lib.hid hhas
            have HB23 := Lib.hid hb23
            clear hcv0 hb2 hb3 hb23 hn3 hrow3 hhas er HCV HGW HHW
            go_upto_region 51 with (first
              | (go_at_call 32; refine (HSUM.out _).mono ?_; rintro e w4 ⟨rfl, hb4⟩)
              | (go_at_call 33; refine (HHAS.out _ hb4).mono ?_; rintro e w5 ⟨rfl, hb5⟩))
            have hb35 := hb4.trans (hb5.mono hb4.size)
            have HZ := Lib.hid ((HU2.out.below (HB23.out.trans (hb35.mono HB23.out.size))).mono (N' := 10 + 20 * (i + 1)) (by omega) (by omega))
            obtain ⟨ga', gc', eg, -, -, hg3⟩ := HN3.out.r.form
            injection eg with eg1 _ eg2
            subst eg1 eg2
            cases rh with
            | none =>
              have hcg := run_str_of (P := Tryd.prog) Tryd.underlying43 Tryd.underlying5 Tryd.underlying9 (b := ofL []) (w := w5) (by rw [byteCells_ofL (l := []) (by intro _ h; cases h)]; exact hg3.below hb35) gc
              rw [ofL_size, List.length_nil] at hcg
              have hcmp : ((ofL []).toList == (ofL []).toList) = true := beq_self_eq_true _
              simp only [Option.getD_none, Option.isSome_none]
              clear hb4 hb5 hcv3 hb35 hg3
              go_wp2_with fail
              go_meet
              case rel => exact ⟨q, S, P, L, cs, _, rfl, HZ.out⟩
            | some o =>
              have hcg := run_str_of (P := Tryd.prog) Tryd.underlying43 Tryd.underlying5 Tryd.underlying9 (b := ofL o) (w := w5) (by rw [byteCells_ofL (HOL.out o rfl)]; exact hg3.below hb35) gc
              rw [ofL_size] at hcg
              have hcmp : ((ofL o).toList == (ofL o).toList) = true := beq_self_eq_true _
              simp only [Option.getD_some, Option.isSome_some]
              clear hb4 hb5 hcv3 hb35 hg3
              go_wp2_with fail
              go_meet
              case rel => exact ⟨q, S, P, L, cs, _, rfl, HZ.out⟩
          -- @dev{ NEG
          have k0 : decide (c.kind = 0) = false := decide_eq_false (by omega)
          have k1 : decide (c.kind = 1) = false := decide_eq_false (by omega)
          have k2 : decide (c.kind = 2) = false := decide_eq_false (by omega)
          have k3 : decide (c.kind = 3) = false := decide_eq_false (by omega)
          have k4 : decide (c.kind = 4) = false := decide_eq_false (by omega)
          have j0 : (c.kind == 0) = false := by rw [beq_eq_false_iff_ne]; omega
          have j1 : (c.kind == 1) = false := by rw [beq_eq_false_iff_ne]; omega
          have j2 : (c.kind == 2) = false := by rw [beq_eq_false_iff_ne]; omega
          have j3 : (c.kind == 3) = false := by rw [beq_eq_false_iff_ne]; omega
          have j4 : (c.kind == 4) = false := by rw [beq_eq_false_iff_ne]; omega
          have HX := Lib.hid (HU2.out.mono (N' := 10 + 20 * (i + 1)) (by omega) (by omega))
          clear hk hk1 hk23 hk4 HU2
          go_wp2_with fail
          go_meet
          case rel => exact ⟨_, _, _, _, _, _, rfl, HX.out⟩
        case rest =>
          -- @dev{ REST
          clear HU2 h2 c0 c1 HD4 HDB HDS he13
          obtain ⟨q, S, P, L, cs, E, rfl, hx⟩ := hcut
          have HX := Lib.hid hx
          clear hx
          -- the tail
          obtain ⟨t, ht, hft⟩ := HX.out.t.read
          have hps : P.size = t.size := by rw [HX.out.t.good.size, ← hft, bl_len]
          have hrd := pread_p HX.out.pw PackT.nm (by decide)
          rw [ht] at hrd
          simp only [Option.getD_some, Option.isSome_some, if_true] at hrd
          have HRD := Lib.hid hrd
          have HPS := Lib.hid hps
          have hrr := fun (W : World) (hW : Below wc.heap.size wc W) => rread_r (HX.out.rr.below hW) PackT.nm
          simp only [ht] at hrr
          have HRR := Lib.hid hrr
          clear hrd hrr hps
          go_upto_region 54 with (go_at_call 34; refine HRD.out.mono ?_; rintro e w3 ⟨ra, rc, rfl, hro, H3, hb3⟩)
          have HX3 := Lib.hid (HX.out.below hb3)
          have h93 := HX3.out.h9
          have hszc := HX3.out.rr.size
          obtain ⟨ra', rc', er, -, -, hrs⟩ := hro.form
          injection er with e1 _ e2
          subst e1 e2
          have hrr3 : Calls Tryd.prog 35 #[.agg cs, .string PackT.nm] w3 fun e w' => e = .returned (.tuple #[.string t, .int .i64 0]) ∧ Below w3.heap.size w3 w' := HRR.out _ hb3
          have HR3 := Lib.hid hrr3
          clear hro hb3 H3 HRD HRR hrr3
          go_upto_region 55 with (first
            | (refine wp_loadB rfl 36 _ rfl b9 rfl h93 _ Tryd.underlying36 rfl (by rw [Array.length_toList, hszc]; kernel_rfl) ?_)
            | (go_at_call 35; refine HR3.out.mono ?_; rintro e w4 ⟨rfl, hb4⟩))
          have HX4 := Lib.hid (HX3.out.below hb4)
          have hcv := run_str_of (P := Tryd.prog) Tryd.underlying43 Tryd.underlying5 Tryd.underlying9 (hrs.below hb4) rc
          have hcmp : (t.toList == t.toList) = true := beq_self_eq_true _
          obtain ⟨Kp, hkp⟩ := HX4.out.pw.pk
          obtain ⟨la, lc, er, -, -, hls⟩ := HX4.out.row.form
          have hkn := known_c (c := lc) hkp HX4.out.t.good hls HX4.out.t.len (HX4.out.t.few HX4.out.pw.wf)
          rw [← er] at hkn
          have HKN := Lib.hid hkn
          have hsz := psize_p HX4.out.pw
          rw [HPS.out] at hsz
          have HSZ := Lib.hid hsz
          clear hrs hb4 hkp hls er hkn hsz h93 hszc HR3
          go_wp2_with (first
            | (go_at_call 36; refine HSZ.out.mono ?_; rintro e w5 ⟨rfl, rfl⟩)
            | (go_at_call 37; refine HKN.out.mono ?_; rintro e w6 ⟨rfl, hb6⟩))
          go_roundw
          case rel => exact ⟨i + 1, q, S, P, L, cs, _, by omega, by first | rfl | go_num, rfl, HX4.out.below hb6⟩
          case measure => simp [intOf]; omega
    · obtain rfl : i = os.length := by omega
      have hd : decide ((os.length : Int) < (os.length : Int)) = false := decide_eq_false (by omega)
      go_wp2_with fail
      go_ret
      exact ⟨rfl, HFIN.out _ hU.pw.out⟩
end Go.Proofs.YtfoamcobpfflbaaDoor
