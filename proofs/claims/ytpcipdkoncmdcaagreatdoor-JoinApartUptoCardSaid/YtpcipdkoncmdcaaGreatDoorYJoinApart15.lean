/- Texts of mine, joined: Walk: a path's texts woven. -/
import Derived.Test.YtpcipdkoncmdcaaGreatDoorYJoinApart14
namespace Go.Proofs.YtpcipdkoncmdcaaGreatDoor
open Go Go.RowKit
open JoinS (lns isText parts joinAll tellAll clean cat)
def oursB : ByteArray := ⟨#[111, 117, 114, 115]⟩
def theirsB : ByteArray := ⟨#[116, 104, 101, 105, 114, 115]⟩

inductive GR where
  | err (e : Int)
  | stop
  | go (l : T3 (List ByteArray))
/-- The texts are had, from the n-th last snapshot on. -/
def gathF (src : List Nat → ByteArray × Int) (has : T3 Bool) (ids : T3 (List Nat)) : Nat → T3 (List ByteArray) → GR
  | 0, l => .go l
  | n + 1, l =>
    if has.get (2 - n) = false then gathF src has ids n l else
    if (src (ids.get (2 - n))).2 ≠ 0 then .err (src (ids.get (2 - n))).2 else
    if isText (src (ids.get (2 - n))).1 = false then .stop else gathF src has ids n (l.set (2 - n) (lns (src (ids.get (2 - n))).1))

/-- The error, the kind, the text. -/
def weaveS (src : List Nat → ByteArray × Int) (has : T3 Bool) (ids : T3 (List Nat)) : Int × Nat × ByteArray :=
  if has.b = false ∨ has.c = false then (0, 3, ByteArray.empty) else
  match gathF src has ids 3 ⟨[], [], []⟩ with
  | .err e => (e, 3, ByteArray.empty)
  | .stop => (0, 3, ByteArray.empty)
  | .go l => (0, if clean (joinAll [] (parts l.a l.b l.c)) then 2 else 3, cat (tellAll oursB theirsB (joinAll [] (parts l.a l.b l.c))))

theorem T3.get_set {α : Type} (t : T3 α) (i j : Nat) (v : α) (hi : i < 3) (hj : j < 3) : (t.set i v).get j = if j = i then v else t.get j := by
  rcases i with _ | _ | _ | i <;> rcases j with _ | _ | _ | j <;> first | rfl | omega
theorem TR.ig {w : World} {q : Nat} {t : Th} (h : TR w q t) {i : Nat} (hi : i < 3) : w.rangeAt q (39 + i * 32) (nb (t.ids.get i)) := by
  rcases i with _ | _ | _ | i
  · exact h.i0
  · exact h.i1
  · exact h.i2
  · omega
theorem OkTh.ig {t : Th} (h : OkTh t) {i : Nat} (hi : i < 3) : OkId (t.ids.get i) := by
  rcases i with _ | _ | _ | i
  · exact h.ia
  · exact h.ib
  · exact h.ic
  · omega

/-- Three lists in a block. -/
structure L3 (w : World) (p : Nat) (L : T3 (List ByteArray)) : Prop where
  h : ∃ va vb vc, w.heap[p]? = some (.cells #[va, vb, vc] 120 (0, 0)) ∧ Tn w (fun b => b ≠ p) va L.a ∧ Tn w (fun b => b ≠ p) vb L.b ∧ Tn w (fun b => b ≠ p) vc L.c
section
variable {w w' : World} {p : Nat} {L : T3 (List ByteArray)}
theorem L3.lt (h : L3 w p L) : p < w.heap.size := by obtain ⟨va, vb, vc, h1, _⟩ := h.h; exact (Array.getElem?_eq_some_iff.1 h1).1
theorem L3.below (h : L3 w p L) (hb : Below w.heap.size w w') : L3 w' p L := by
  obtain ⟨va, vb, vc, h1, h2, h3, h4⟩ := h.h
  have hk : ∀ b, b ≠ p → b < w.heap.size → w'.heap[b]? = w.heap[b]? ∧ b ≠ p := fun b h1 h2 => ⟨hb.block b h2, h1⟩
  exact ⟨va, vb, vc, (hb.block p (Array.getElem?_eq_some_iff.1 h1).1).trans h1, h2.keep hb.size hk, h3.keep hb.size hk, h4.keep hb.size hk⟩
theorem L3.cell (h : L3 w p L) {i : Nat} (hi : i < 3) : ∃ v, w.cell? ⟨p, i, none⟩ = some v ∧ Tl w v (L.get i) := by
  obtain ⟨va, vb, vc, h1, h2, h3, h4⟩ := h.h
  rcases i with _ | _ | _ | i
  · exact ⟨va, by simp only [World.cell?, h1]; rfl, h2.tl⟩
  · exact ⟨vb, by simp only [World.cell?, h1]; rfl, h3.tl⟩
  · exact ⟨vc, by simp only [World.cell?, h1]; rfl, h4.tl⟩
  · omega
theorem L3.fz (h : L3 w p L) (i : Nat) : w.frozen? ⟨p, i, none⟩ = false := by
  obtain ⟨va, vb, vc, h1, _⟩ := h.h
  simp [World.frozen?, h1]
theorem L3.put (h : L3 w p L) {i : Nat} (hi : i < 3) {v : Value} {l : List ByteArray} (hv : Tn w (fun b => b ≠ p) v l) : L3 (w.setCell ⟨p, i, none⟩ v) p (L.set i l) := by
  obtain ⟨va, vb, vc, h1, h2, h3, h4⟩ := h.h
  have hk : ∀ b, b ≠ p → b < w.heap.size → (w.setCell ⟨p, i, none⟩ v).heap[b]? = w.heap[b]? ∧ b ≠ p := fun b e hb => ⟨(grown_set w p i v).block b hb (by simpa using e), e⟩
  have hs := (grown_set w p i v).size
  have hb := (set_blk h1 i v).1
  rcases i with _ | _ | _ | i
  · exact ⟨v, vb, vc, hb, hv.keep hs hk, h3.keep hs hk, h4.keep hs hk⟩
  · exact ⟨va, v, vc, hb, h2.keep hs hk, hv.keep hs hk, h4.keep hs hk⟩
  · exact ⟨va, vb, v, hb, h2.keep hs hk, h3.keep hs hk, hv.keep hs hk⟩
  · omega
end
theorem gath_step (src : List Nat → ByteArray × Int) (has : T3 Bool) (ids : T3 (List Nat)) {i : Nat} (hi : i < 3) (L : T3 (List ByteArray)) : gathF src has ids (3 - i) L =
    if has.get i = false then gathF src has ids (3 - (i + 1)) L else
    if (src (ids.get i)).2 ≠ 0 then .err (src (ids.get i)).2 else
    if isText (src (ids.get i)).1 = false then .stop else gathF src has ids (3 - (i + 1)) (L.set i (lns (src (ids.get i)).1)) := by
  rcases i with _ | _ | _ | i
  · rfl
  · rfl
  · rfl
  · omega
theorem gro_below {w W W' : World} {q : Nat} (h : w.grownBy W (some q)) (hb : Below W.heap.size W W') : w.grownBy W' (some q) :=
  h.trans ⟨hb.os, hb.tape, hb.output, hb.size, fun k hk _ => hb.block k hk⟩
theorem gro_new {w W W' : World} {q p : Nat} (h : w.grownBy W (some q)) (hp : w.heap.size ≤ p) (hg : W.grownBy W' (some p)) : w.grownBy W' (some q) :=
  h.andThen hg fun j e => by cases e; exact .inl hp
def Smal (L : T3 (List ByteArray)) : Prop := ∀ j, j < 3 → (L.get j).length ≤ 1000 ∧ ∀ s ∈ L.get j, s.size ≤ 1000
theorem Smal.put {L : T3 (List ByteArray)} (h : Smal L) {i : Nat} (hi : i < 3) {l : List ByteArray} (h1 : l.length ≤ 1000) (h2 : ∀ s ∈ l, s.size ≤ 1000) : Smal (L.set i l) := by
  intro j hj
  rw [T3.get_set _ _ _ _ hi hj]
  split
  · exact ⟨h1, h2⟩
  · exact h j hj
def fns (v : Value) : Value := .func (Fn.method "Text") #[v] #[]

theorem mem_total {x : JoinS.Pt ByteArray} : ∀ {l : List (JoinS.Pt ByteArray)}, x ∈ l → JoinS.ptot x ≤ JoinS.total l
  | y :: l, h => by
    rcases List.mem_cons.1 h with rfl | h
    · simp only [JoinS.total]; omega
    · have := mem_total h; simp only [JoinS.total]; omega
set_option maxRecDepth 100000 in
theorem shelf_text (v : Value) (w : World) : (method 340 34 (.agg #[v]) "Text").run Tryz.prog w = .ok (166, .agg #[v]) w := by
  kernel_rfl
theorem own_new {w : World} {base : Nat} {e : TypeId} {s n : Nat} {v : Value} {xs : List Value} (h : w.ownsRow base e s v n xs) {b : Nat} (hb : v.ownBlock = some b) : base ≤ b := by
  obtain ⟨h1, h2⟩ := h
  rcases h2 with ⟨rfl, h0⟩ | ⟨g, cap, cur, rfl, hbb, hg, hn, hc, hs, ht⟩
  · cases hb
  · cases hb; exact hbb
/-- Bounds of what is woven. -/
theorem woven_small {L : T3 (List ByteArray)} (h : Smal L) {ps : List (JoinS.Pt ByteArray)} (hps : ps = joinAll [] (parts L.a L.b L.c)) (u v : ByteArray) (hu : u.size ≤ 1000) (hv : v.size ≤ 1000) :
    (∀ k, (tellAll u v (ps.take k)).length ≤ 100000) ∧ (∀ x ∈ ps, x.b.length ≤ 10000 ∧ x.o.length ≤ 10000 ∧ x.t.length ≤ 10000) ∧ (∀ x ∈ ps, JoinS.AllL (fun s => s.size ≤ 1000) x) ∧ (tellAll u v ps).length ≤ 100000 ∧ (cat (tellAll u v ps)).size ≤ 1000000000 := by
  have ha := h 0 (by decide)
  have hb := h 1 (by decide)
  have hc := h 2 (by decide)
  simp only [T3.get] at ha hb hc
  obtain ⟨ht, hl⟩ := JoinS.parts_count L.a L.b L.c
  rw [← hps] at ht hl
  have hall : ∀ x ∈ ps, JoinS.AllL (fun s => s.size ≤ 1000) x := by
    rw [hps]
    exact JoinS.joinAll_all _ [] (fun x hx => nomatch hx) (JoinS.raw_all _ _ _ _ _ _ _ ha.2 hb.2 hc.2)
  have htk : ∀ k, (tellAll u v (ps.take k)).length ≤ 100000 := by
    intro k
    have h1 := JoinS.tell_len u v (ps.take k)
    have h2 : JoinS.total (ps.take k) ≤ JoinS.total ps := by
      have := JoinS.total_app (ps.take k) (ps.drop k)
      rw [List.take_append_drop] at this; omega
    have h3 : (ps.take k).length ≤ ps.length := by rw [List.length_take]; omega
    omega
  have hfull : (tellAll u v ps).length ≤ 100000 := by have := htk ps.length; rwa [List.take_length] at this
  refine ⟨htk, fun x hx => ?_, hall, hfull, ?_⟩
  · have := mem_total hx
    simp only [JoinS.ptot] at this
    omega
  · have h1 := JoinS.cat_size (M := 1020) (JoinS.tell_all (M := 1000) hu hv hall)
    have h2 : (tellAll u v ps).length * 1020 ≤ 100000 * 1020 := Nat.mul_le_mul_right _ hfull
    omega

/-- A text in a block that is not below B, or none. -/
def TxN (B : Nat) (w : World) (v : Value) (t : ByteArray) : Prop := (t = ByteArray.empty ∧ v = .slice none 0 0) ∨ ∃ g c, v = .slice (some ⟨g, 0, none⟩) t.size c ∧ B ≤ g ∧ Tx w v t
theorem TxN.tx {B : Nat} {w : World} {v : Value} {t : ByteArray} (h : TxN B w v t) : Tx w v t := by
  rcases h with ⟨rfl, rfl⟩ | ⟨_, _, _, _, h⟩
  · exact .nil _
  · exact h
theorem TxN.kept {B q : Nat} {w w' : World} {v : Value} {t : ByteArray} (h : TxN B w v t) (hg : w.grownBy w' (some q)) (hq : q < B) : TxN B w' v t := by
  rcases h with h | ⟨g, c, rfl, hb, h⟩
  · exact .inl h
  · exact .inr ⟨g, c, rfl, hb, h.kept hg (by simp; omega)⟩
theorem TxN.below {B : Nat} {w w' : World} {v : Value} {t : ByteArray} (h : TxN B w v t) (hb : Below w.heap.size w w') : TxN B w' v t := by
  rcases h with h | ⟨g, c, rfl, h1, h⟩
  · exact .inl h
  · exact .inr ⟨g, c, rfl, h1, h.below hb⟩
theorem TxN.one {B : Nat} {w : World} {v : Value} {t : ByteArray} (h : TxN B w v t) : v.oneCell' = true := by
  rcases h with ⟨_, rfl⟩ | ⟨_, _, rfl, _⟩ <;> rfl

set_option maxRecDepth 100000 in
set_option maxHeartbeats 8000000 in
theorem weave3_c {w : World} {q : Nat} {t : Th} {sv : Value} {bl : List Bl} (h : TR w q t) (htv : t.tv = .slice none 0 0) (hz : ∀ id, (textS bl id).1.size ≤ 1000) (hqs : ∀ W : World, w.grownBy W (some q) → BS W sv bl) :
    Calls Tryz.prog 54 #[.pointer (some ⟨q, 0, none⟩), SrcV sv] w fun e w' => ∃ tv, e = .returned (.int .i64 (weaveS (textS bl) t.has t.ids).1) ∧ TR w' q { t with kind := (weaveS (textS bl) t.has t.ids).2.1, tv := tv } ∧ TxN w.heap.size w' tv (weaveS (textS bl) t.has t.ids).2.2 ∧ w.grownBy w' (some q) := by
  obtain ⟨hT1, hg1⟩ := h.kind 3
  have hq := h.blk.lt
  have c1 : w.cell? ⟨q, 1, none⟩ = some (.int .i64 t.kind) := h.blk.cell rfl
  have f1 := h.blk.fz 1
  have HT := Lib.hid hT1
  have HG := Lib.hid hg1
  have HQS := Lib.hid hqs
  generalize hW1 : w.setCell ⟨q, 1, none⟩ (.int .i64 ((3 : Nat) : Int)) = W1 at *
  have hW1' : w.setCell ⟨q, 1, none⟩ (.int .i64 (3 : Int)) = W1 := hW1
  clear hT1 hg1 hW1 h hqs
  unfold SrcV
  go_enter Tryz.func54, Tryz.ntmps54
  go_upto_region 2 with fail
  rw [hW1'] at *
  have h0 := HT.out.h0
  have h1 := HT.out.h1
  have h2 := HT.out.h2
  simp only at h0 h1 h2
  by_cases hbc : t.has.b = false ∨ t.has.c = false
  · have HW : Hid (weaveS (textS bl) t.has t.ids = (0, 3, ByteArray.empty)) := by show _ = _; unfold weaveS; rw [if_pos hbc]
    have hend : ∃ tv, (weaveS (textS bl) t.has t.ids).1 = 0 ∧ TR W1 q { t with kind := (weaveS (textS bl) t.has t.ids).2.1, tv := tv } ∧ TxN w.heap.size W1 tv (weaveS (textS bl) t.has t.ids).2.2 ∧ w.grownBy W1 (some q) := by
      rw [HW.out]
      exact ⟨t.tv, rfl, HT.out, by rw [htv]; exact .inl ⟨rfl, rfl⟩, HG.out⟩
    have HE := Lib.hid hend
    clear hend HW HT HG HQS hz
    rcases Bool.eq_false_or_eq_true t.has.b with eb | eb
    · rcases Bool.eq_false_or_eq_true t.has.c with ec | ec
      · exfalso; rw [eb, ec] at hbc; simp at hbc
      · clear hbc
        rw [eb] at h1; rw [ec] at h2
        go_wp2_with fail
        go_ret
        obtain ⟨tv, e0, hh⟩ := HE.out
        exact ⟨by rw [e0]; rfl, tv, hh⟩
    · clear hbc
      rw [eb] at h1
      go_wp2_with fail
      go_ret
      obtain ⟨tv, e0, hh⟩ := HE.out
      exact ⟨by rw [e0]; rfl, tv, hh⟩
  · have eb : t.has.b = true := by cases e : t.has.b with | true => rfl | false => exact absurd (.inl e) hbc
    have ec : t.has.c = true := by cases e : t.has.c with | true => rfl | false => exact absurd (.inr e) hbc
    have HW : Hid (weaveS (textS bl) t.has t.ids = match gathF (textS bl) t.has t.ids 3 ⟨[], [], []⟩ with
      | .err e => (e, 3, ByteArray.empty)
      | .stop => (0, 3, ByteArray.empty)
      | .go l => (0, if clean (joinAll [] (parts l.a l.b l.c)) then 2 else 3, cat (tellAll oursB theirsB (joinAll [] (parts l.a l.b l.c))))) := by show _ = _; unfold weaveS; rw [if_neg hbc]
    clear hbc
    rw [eb] at h1
    rw [ec] at h2
    clear eb ec
    go_upto_region 5 with fail
    have hbp : (W1.alloc (.cells #[.slice none 0 0, .slice none 0 0, .slice none 0 0] 120 (0, 0))).heap[W1.heap.size]? = some (.cells #[.slice none 0 0, .slice none 0 0, .slice none 0 0] 120 (0, 0)) := Array.getElem?_push_size
    have hB2 : Below W1.heap.size W1 (W1.alloc (.cells #[.slice none 0 0, .slice none 0 0, .slice none 0 0] 120 (0, 0))) := (Below.refl _ W1).alloc (Nat.le_refl _) _
    have hp3 : w.heap.size ≤ W1.heap.size := HG.out.size
    have hqp : q < W1.heap.size := HT.out.blk.lt
    generalize hW2 : W1.alloc (.cells #[.slice none 0 0, .slice none 0 0, .slice none 0 0] 120 (0, 0)) = W2 at *
    clear hW2
    have HT2 := Lib.hid (HT.out.below hB2)
    have HG2 := Lib.hid (gro_below HG.out hB2)
    have HL2 : Hid (L3 W2 W1.heap.size ⟨[], [], []⟩) := ⟨_, _, _, hbp, ⟨none, 0, rfl, Nat.le_refl _, Nat.zero_le _, fun _ => rfl, .inl rfl⟩, ⟨none, 0, rfl, Nat.le_refl _, Nat.zero_le _, fun _ => rfl, .inl rfl⟩, ⟨none, 0, rfl, Nat.le_refl _, Nat.zero_le _, fun _ => rfl, .inl rfl⟩⟩
    have HRA : Hid (W2.rangeAt q 36 [.bool t.has.a, .bool t.has.b, .bool t.has.c]) := by
      intro j v hv
      rcases j with _ | _ | _ | j
      · cases hv; exact HT2.out.h0
      · cases hv; exact HT2.out.h1
      · cases hv; exact HT2.out.h2
      · simp at hv
    clear h0 h1 h2 HG HT hB2 hbp c1 f1 hW1'
    generalize hp3e : W1.heap.size = p3 at *
    clear hp3e
    go_upto_region 6 with (refine wpList_load_mid rfl 45 _ rfl q 36 rfl [.bool t.has.a, .bool t.has.b, .bool t.has.c] _ HRA.out Tryz.underlying45 rfl (by kernel_rfl) ?_)
    clear HRA
    obtain ⟨t3, ht3⟩ : ∃ t3 : Th, t3 = { t with kind := 3 } := ⟨_, rfl⟩
    have HE3 := Lib.hid ht3
    rw [← ht3] at HT2
    clear ht3
    go_loopw [39] (fun iv wx => ∃ i : Nat, i ≤ 3 ∧ iv = .int .i64 i ∧ ∃ L, Hid (gathF (textS bl) t.has t.ids 3 ⟨[], [], []⟩ = gathF (textS bl) t.has t.ids (3 - i) L) ∧ Hid (L3 wx p3 L) ∧ Hid (Smal L) ∧ Hid (TR wx q t3) ∧ Hid (w.grownBy wx (some q)) ∧ p3 < wx.heap.size) (fun iv _ => (3 - intOf iv).toNat)
    case atStart => exact ⟨0, by decide, rfl, _, rfl, HL2.out, fun j hj => by rcases j with _ | _ | _ | j <;> first | exact ⟨Nat.zero_le _, fun s hs => nomatch hs⟩ | omega, HT2, HG2, HL2.out.lt⟩
    case round =>
      obtain ⟨i, hi, rfl, L, HGA, HL, HSM, HT, HG, hpw⟩ := hrel
      by_cases hlt : i < 3
      · have d1 : decide ((i : Int) < 3) = true := decide_eq_true (by omega)
        have d2 : decide (i < 3) = true := decide_eq_true hlt
        have d3 : (0 : Int) ≤ (i : Int) := by omega
        have d4 : (i : Int) < 3 := by omega
        have dw : IntKind.i64.wrap ((i : Int) + 1) = ((i + 1 : Nat) : Int) := IntWalk.i64_in _ (by omega)
        have hix : ∀ W : World, (Instr.index 45 (.agg #[.bool t.has.a, .bool t.has.b, .bool t.has.c]) (.int .i64 i)).run Tryz.prog W = .ok (.bool (t.has.get i)) W := run_index_agg Tryz.underlying45 (by kernel_rfl) (fun w => by simp [isAgg, run_underlying Tryz.underlying4]; try rfl) hlt (by rcases i with _ | _ | _ | i <;> first | rfl | omega)
        have hst := gath_step (textS bl) t.has t.ids hlt L
        rw [← HGA.out] at hst
        cases hz0 : t.has.get i with
        | false =>
          rw [hz0] at hix hst
          rw [if_pos rfl] at hst
          have HST := Lib.hid hst
          clear hst hz0
          go_wp2_with fail
          go_roundw
          case rel => exact ⟨i + 1, by omega, by go_num, L, HST, HL, HSM, HT, HG, hpw⟩
          case measure => simp [intOf]; omega
        | true =>
          rw [hz0] at hix hst
          rw [if_neg (by decide)] at hst
          have HST := Lib.hid hst
          clear hst hz0
          have HTI : Hid (∀ W : World, TR W q t3 → W.rangeAt q (39 + i * 32) (nb (t.ids.get i))) := fun W h => by have := h.ig hlt; rw [HE3.out] at this; exact this
          have hokt : OkTh t3 := HT.out.ok
          have HOKI : Hid (OkId (t.ids.get i)) := by have := hokt.ig hlt; rw [HE3.out] at this; exact this
          clear hokt
          have hzi := hz (t.ids.get i)
          have HTX := Lib.hid (stext_c (HQS.out (wr.drewN 1) (gro_below HG.out (below_dN (Below.refl _ wr) 1))) HOKI.out (by omega))
          generalize textS bl (t.ids.get i) = xe at *
          obtain ⟨tx, er⟩ := xe
          have HB6 : Hid (Below wr.heap.size wr (wr.drewN 1)) := below_dN (Below.refl _ wr) 1
          have hs0 : TR (wr.drewN 1) q t3 := HT.out.below HB6.out
          simp only at hzi HTX HST
          go_upto_region 9 with fail
          refine wp_region_hz (fun W => TR W q t3) (.tk 0 (.tk 1 (.tk 2 (.tk 3 (.tk 4 (.tk 5 (.tk 6 (.tk 7 (.tk 8 (.tk 9 (.tk 10 (.fc 11 (.tk 12 (.tk 13 (.tk 14 (.tk 15 (.tk 16 (.nil)))))))))))))))))) (by kernel_rfl) (by kernel_rfl) (fun _ _ _ _ _ h => h) ?_
          refine goZ_tk rfl rfl 46 rfl (.iface 34 (.agg #[sv])) (fun _ => rfl) ?_; simp only [zT, zA, zB]
          refine goZ_tk rfl rfl 47 rfl (.pointer (some ⟨q, 0, none⟩)) (fun _ => rfl) ?_; simp only [zT, zA, zB]
          refine goZ_tk rfl rfl 48 rfl (.int .i64 i) (fun _ => rfl) ?_; simp only [zT, zA, zB]
          refine goZ_tk rfl rfl 49 rfl (.pointer (some ⟨q, 0, none⟩)) (fun _ => rfl) ?_; simp only [zT, zA, zB]
          refine goZ_tk rfl rfl 50 rfl (.pointer (some ⟨q, 0, none⟩)) (fun _ => rfl) ?_; simp only [zT, zA, zB]
          refine goZ_tk rfl rfl 51 rfl (.pointer (some ⟨q, 39, none⟩)) (fun _ => rfl) ?_; simp only [zT, zA, zB]
          refine goZ_tk rfl rfl 52 rfl (.pointer (some ⟨q, 39 + i * 32, none⟩)) (fun _ => by go_simp) ?_; simp only [zT, zA, zB]
          refine goZ_ld rfl rfl 53 rfl 43 _ rfl ⟨q, 39 + i * 32, none⟩ (.agg (nums .u8 (t.ids.get i))) rfl (fun W hS => ld_id HOKI.out (HTI.out W hS)) (hs0) ?_; simp only [zT, zA, zB]
          refine goZ_tk rfl rfl 54 rfl (fns (.iface 34 (.agg #[sv]))) (fun _ => by unfold fns execOp Instr.makeFunc; simp [go_sem, Act.eval]) ?_; simp only [zT, zA, zB]
          refine goZ_tk rfl rfl 55 rfl (fns (.iface 34 (.agg #[sv]))) (fun _ => rfl) ?_; simp only [zT, zA, zB]
          refine goZ_tk rfl rfl 56 rfl (.iface 34 (.agg #[sv])) (fun _ => rfl) ?_; simp only [zT, zA, zB]
          refine goZ_enter (ds' := []) rfl rfl (by kernel_rfl) 57 rfl 166 #[.agg #[sv], .agg (nums .u8 (t.ids.get i))] (by unfold execOp; simp [go_sem]; rw [shelf_text]; simp only [Result.andThen_ok]; exact enters_of Tryz.func166 (by kernel_rfl) rfl _ _) (HTX.out.mono ?_)
          rintro e W5 ⟨tv, rfl, htx, hb5⟩
          have HX5 := Lib.hid htx
          have HB5 := Lib.hid hb5
          clear htx hb5
          refine ⟨.tuple #[tv, .int .i64 er], rfl, fun h => absurd rfl h, ?_⟩; simp only [zT, zA, zB]
          refine goZ_tk rfl rfl 45 rfl (.tuple #[tv, .int .i64 er]) (fun _ => rfl) ?_; simp only [zT, zA, zB]
          refine goZ_tk rfl rfl 58 rfl tv (fun _ => rfl) ?_; simp only [zT, zA, zB]
          refine goZ_tk rfl rfl 59 rfl (.int .i64 er) (fun _ => rfl) ?_; simp only [zT, zA, zB]
          refine goZ_tk rfl rfl 8 rfl tv (fun _ => rfl) ?_; simp only [zT, zA, zB]
          refine goZ_tk rfl rfl 9 rfl (.int .i64 er) (fun _ => rfl) ?_; simp only [zT, zA, zB]
          refine goZ_end ?_
          clear hs0 HTX HTI hix
          have HBW : Hid (Below wr.heap.size wr W5) := HB6.out.trans (HB5.out.mono HB6.out.size)
          have hpw5 : p3 < W5.heap.size := Nat.lt_of_lt_of_le hpw HBW.out.size
          have HT5 := Lib.hid (HT.out.below HBW.out)
          have HL5 := Lib.hid (HL.out.below HBW.out)
          have HG5 := Lib.hid (gro_below HG.out HBW.out)
          clear HB6 HB5 HBW HT HL HG hpw
          by_cases her : er = 0
          · subst her
            rw [if_neg (by simp)] at HST
            cases hit : isText tx with
            | false =>
              rw [hit, if_pos rfl] at HST
              have HIT := Lib.hid (istext_c HX5.out)
              rw [hit] at HIT
              clear hit
              have hfin : weaveS (textS bl) t.has t.ids = (0, 3, ByteArray.empty) := by rw [HW.out, HST.out]
              have HF := Lib.hid hfin
              clear hfin
              go_wp2_with (first | (go_at_call 85; refine HIT.out.mono ?_; rintro e w2 ⟨rfl, hw⟩; have hw := hw.symm; subst hw))
              go_ret
              exact ⟨t.tv, by rw [HF.out]; rfl, by rw [HF.out]; rw [HE3.out] at HT5; exact HT5.out, by rw [HF.out, htv]; exact .inl ⟨rfl, rfl⟩, HG5.out⟩
            | true =>
              rw [hit, if_neg (by decide)] at HST
              have HIT := Lib.hid (istext_c HX5.out)
              rw [hit] at HIT
              clear hit
              have HSP := Lib.hid (lsplt_c HX5.out (by omega))
              have hl1 := JoinS.lns_len tx
              have HSI := Lib.hid (JoinS.lns_size tx)
              generalize lns tx = lt at *
              go_wp2_with (first
                | (go_at_call 85; refine HIT.out.mono ?_; rintro e w2 ⟨rfl, hw⟩; have hw := hw.symm; subst hw)
                | (go_at_call 86; refine HSP.out.mono ?_; rintro e w2 ⟨v2, rfl, ho2, hb2⟩
                   obtain ⟨a2, c2, rfl, -⟩ := Tl.of_own ho2
                   have HO2 := Lib.hid ho2; have HB2 := Lib.hid hb2; clear ho2 hb2
                   have HL6 := Lib.hid (HL5.out.below HB2.out)
                   obtain ⟨vc, hvc, -⟩ := HL6.out.cell hlt
                   have hvf := HL6.out.fz i))
              go_roundw
              case rel =>
                have hgs := grown_set w2 p3 i (.slice a2 lt.length c2)
                have hne : some q ≠ some p3 := by simp; omega
                refine ⟨i + 1, by omega, by go_num, L.set i lt, HST, ?_, HSM.out.put hlt (by omega) (fun s hs => by have := HSI.out s hs; omega), (HT5.out.below HB2.out).kept hgs hne, gro_new (gro_below HG5.out HB2.out) hp3 hgs, Nat.lt_of_lt_of_le (Nat.lt_of_lt_of_le hpw5 HB2.out.size) hgs.size⟩
                exact HL6.out.put hlt (Tn.of_own (OwnG.of_own HO2.out) fun b hb => by have := own_new HO2.out hb; omega)
              case measure => simp [intOf]; omega
          · rw [if_pos her] at HST
            have e0 : (er == 0) = false := beq_eq_false_iff_ne.2 her
            have hfin : weaveS (textS bl) t.has t.ids = (er, 3, ByteArray.empty) := by rw [HW.out, HST.out]
            have HF := Lib.hid hfin
            clear hfin
            go_wp2_with fail
            go_ret
            exact ⟨t.tv, by rw [HF.out]; rfl, by rw [HF.out]; rw [HE3.out] at HT5; exact HT5.out, by rw [HF.out, htv]; exact .inl ⟨rfl, rfl⟩, HG5.out⟩
      · have hi3 : i = 3 := by omega
        have HGo : Hid (gathF (textS bl) t.has t.ids 3 ⟨[], [], []⟩ = .go L) := by show _ = _; rw [HGA.out, hi3]; rfl
        clear HGA
        have d1 : decide ((i : Int) < 3) = false := decide_eq_false (by omega)
        have d2 : decide (i < 3) = false := decide_eq_false hlt
        obtain ⟨va, hva, tla⟩ := HL.out.cell (i := 0) (by decide)
        obtain ⟨vb, hvb, tlb⟩ := HL.out.cell (i := 1) (by decide)
        obtain ⟨vc, hvc, tlc⟩ := HL.out.cell (i := 2) (by decide)
        simp only [T3.get] at tla tlb tlc
        have hsa := (HSM.out 0 (by decide)).1
        have hsb := (HSM.out 1 (by decide)).1
        have hsc := (HSM.out 2 (by decide)).1
        simp only [T3.get] at hsa hsb hsc
        have hm1 : L.a.length * L.b.length ≤ 1048576 := Nat.le_trans (Nat.mul_le_mul hsa hsb) (by decide)
        have hm2 : L.a.length * L.c.length ≤ 1048576 := Nat.le_trans (Nat.mul_le_mul hsa hsc) (by decide)
        have HWV := Lib.hid (weave_c tla tlb tlc (by omega) (by omega) (by omega) hm1 hm2)
        have HBD := Lib.hid (woven_small HSM.out (ps := joinAll [] (parts L.a L.b L.c)) rfl oursB theirsB (by decide) (by decide))
        obtain ⟨cl, hcl⟩ : ∃ cl, clean (joinAll [] (parts L.a L.b L.c)) = cl := ⟨_, rfl⟩
        have hfin : weaveS (textS bl) t.has t.ids = (0, if cl then 2 else 3, cat (tellAll oursB theirsB (joinAll [] (parts L.a L.b L.c)))) := by rw [HW.out, HGo.out, ← hcl]
        have HF := Lib.hid hfin
        have HCL := Lib.hid hcl
        clear hfin hcl hm1 hm2 hsa hsb hsc tla tlb tlc hi3 HGo
        generalize joinAll [] (parts L.a L.b L.c) = ps at *
        clear hi
        go_upto_region 20 with (first
          | (go_at_call 88
             have hmem : ∀ x ∈ xs, x.p ∈ ps := fun x hx => by rw [← HXS.out]; exact List.mem_map_of_mem hx
             refine (text_c HPR.out oursB theirsB (by decide) (by decide) (by rw [HXS.out]; exact fun k => Nat.le_trans (HBD.out.1 k) (by decide)) (fun x hx => by have := HBD.out.2.1 _ (hmem x hx); omega) (fun x hx => by
               have h := HBD.out.2.2.1 _ (hmem x hx)
               exact ⟨fun s hs => Nat.le_trans (h.1 s hs) (by decide), fun s hs => Nat.le_trans (h.2.1 s hs) (by decide), fun s hs => Nat.le_trans (h.2.2 s hs) (by decide)⟩)).mono ?_
             rw [HXS.out]
             rintro e W7 ⟨tv7, rfl, htl7, hb7⟩
             have HTL7 := Lib.hid htl7; have HB7 := Lib.hid hb7; clear htl7 hb7 hmem
             rw [HCL.out])
          | (go_at_call 87; refine HWV.out.mono ?_; rintro e W6 ⟨pv, xs, rfl, hpr, hxs, hb6⟩
             have HPR := Lib.hid hpr; have HXS := Lib.hid hxs; have HB6 := Lib.hid hb6; clear hpr hxs hb6))
        have HB67 : Hid (Below wr.heap.size wr W7) := HB6.out.trans (HB7.out.mono HB6.out.size)
        have HT7 := Lib.hid (HT.out.below HB67.out)
        have HG7 := Lib.hid (gro_below HG.out HB67.out)
        clear HB67 HB6 HB7 HT HG HL hva hvb hvc HPR HXS HWV HCL hpw
        have HJ := Lib.hid (ljn_c HTL7.out (Nat.le_trans HBD.out.2.2.2.1 (by decide)) HBD.out.2.2.2.2)
        go_upto_region 21 with (first
          | (go_at_call 89; refine HJ.out.mono ?_; rintro e W8 ⟨g8, c8, rfl, hg8, htx8, hb8⟩
             have HX8 := Lib.hid htx8; have HB8 := Lib.hid hb8; clear htx8 hb8
             have HT8 := Lib.hid (HT7.out.below HB8.out)
             have HG8 := Lib.hid (gro_below HG7.out HB8.out)
             have hc35 : W8.cell? ⟨q, 35, none⟩ = some t3.tv := HT8.out.blk.cell (by simp [tcs, List.getElem?_append, nb_len, HT8.out.ok.id.1])
             have hf35 := HT8.out.blk.fz 35))
        have hq7 : q < W7.heap.size := HT7.out.blk.lt
        have hg8b : w.heap.size ≤ g8 := Nat.le_trans HG7.out.size hg8
        obtain ⟨ht9, hg9⟩ := HT8.out.text (.slice (some ⟨g8, 0, none⟩) (cat (tellAll oursB theirsB ps)).size c8) rfl
        have htx9 := HX8.out.kept hg9 (by simp; omega)
        generalize W8.setCell ⟨q, 35, none⟩ (.slice (some ⟨g8, 0, none⟩) (cat (tellAll oursB theirsB ps)).size c8) = W9 at *
        have HG9 := Lib.hid (HG8.out.trans hg9)
        clear hc35 hf35 HT7 HT8 HX8 HB8 HG7 HG8 hg9 HJ HTL7
        cases cl with
        | false =>
          have HT9 := Lib.hid ht9
          have HX9 := Lib.hid htx9
          clear ht9 htx9
          go_wp2_with fail
          go_ret
          exact ⟨.slice (some ⟨g8, 0, none⟩) (cat (tellAll oursB theirsB ps)).size c8, by rw [HF.out]; rfl, by rw [HF.out]; rw [HE3.out] at HT9; exact HT9.out, by rw [HF.out]; exact .inr ⟨_, _, rfl, hg8b, HX9.out⟩, HG9.out⟩
        | true =>
          obtain ⟨ht10, hg10⟩ := ht9.kind 2
          have hc1 : W9.cell? ⟨q, 1, none⟩ = some (.int .i64 t3.kind) := ht9.blk.cell rfl
          have hf1 := ht9.blk.fz 1
          have htx10 := htx9.kept hg10 (by simp; omega)
          have HG10 := Lib.hid (HG9.out.trans hg10)
          clear ht9 htx9 HG9 hg10
          generalize hW10 : W9.setCell ⟨q, 1, none⟩ (.int .i64 ((2 : Nat) : Int)) = W10 at *
          have hW10' : W9.setCell ⟨q, 1, none⟩ (.int .i64 (2 : Int)) = W10 := hW10
          clear hW10
          have HT10 := Lib.hid ht10
          have HX10 := Lib.hid htx10
          clear ht10 htx10
          go_wp2_with fail
          go_ret
          exact ⟨by rw [HF.out]; rfl, .slice (some ⟨g8, 0, none⟩) (cat (tellAll oursB theirsB ps)).size c8, by rw [HF.out]; rw [HE3.out] at HT10; exact HT10.out, by rw [HF.out]; exact .inr ⟨_, _, rfl, hg8b, HX10.out⟩, HG10.out⟩
end Go.Proofs.YtpcipdkoncmdcaaGreatDoor
