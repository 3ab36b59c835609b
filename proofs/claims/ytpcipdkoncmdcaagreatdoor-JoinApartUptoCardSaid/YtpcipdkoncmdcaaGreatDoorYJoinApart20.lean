/- Texts of mine, joined: Walk: join.Clean; outcomes as they lie, to be read. | string(b), []byte("..") over slices of bytes. Of every program. | The benches' first question of joining: plain values, and what the walks read off. | Merging small rows of files. | Walk: the benches' first question of joining. | Files made by a call: one to a slice, three slices in a block. | What the rows of this seat share: the tables in the witness's world, the bulk's bound. | Slices of one-cell elements that came in, opened: of words and of whole numbers. | []byte, [2]int and [3]int that came in, opened. -/
import Derived.Laws.BytesArg
import Derived.Lib.SlBytesConst
import Derived.Test.YtpcipdkoncmdcaaGreatDoorCards
import Derived.Test.YtpcipdkoncmdcaaGreatDoorTie
import Derived.ProofKit
import Derived.OpenShut
import Derived.Deep.DeepHandedRow
import Derived.Lib.LaidTab
import Derived.Lib.LaidU8
import Derived.Deep.Slices
import Derived.Laws.IdiomArrays
import Derived.Test.YtpcipdkoncmdcaaGreatDoorYJoinApart19
namespace Go.Proofs.YtpcipdkoncmdcaaGreatDoor
open Go Go.RowKit Go.Maps
/-- Outcomes in memory. -/
structure OR (w : World) (v : Value) (V : List Ov) : Prop where
  sl : ∃ a c, v = .slice a V.length c ∧ Sl w a (ouR V)
  ok : ∀ x ∈ V, OkOu x.o
section
variable {w w' : World} {v : Value} {V : List Ov}
theorem OR.below (h : OR w v V) (hb : Below w.heap.size w w') : OR w' v V := by
  obtain ⟨a, c, h1, h2⟩ := h.sl
  exact ⟨⟨a, c, h1, h2.below hb⟩, h.ok⟩
theorem OR.lit (h : OR w v V) : ∃ a c, v = .slice a V.length c := by obtain ⟨a, c, e, _⟩ := h.sl; exact ⟨a, c, e⟩
theorem MO.or {w0 : World} {B : Nat} (h : MO w0 w B v V) : OR w v V := by
  obtain ⟨a, c, e, _, _, hs⟩ := h.row.form
  exact ⟨⟨a, c, e, hs⟩, h.ok⟩
theorem OR.at (h : OR w v V) {k : Nat} (hk : k < V.length) : ∃ b o c, v = .slice (some ⟨b, o, none⟩) V.length c ∧ b < w.heap.size ∧ ∀ j (hj : j < V.length), w.rangeAt b (o + j * 135) (ouC V[j]) := by
  obtain ⟨a, c, rfl, hs⟩ := h.sl
  rcases hs with e | ⟨b, o, rfl, hl, hc⟩
  · have := ouR_len h.ok; rw [e] at this; simp at this; omega
  · refine ⟨b, o, c, rfl, hl, fun j hj i u hu => ?_⟩
    have hi : i < 135 := by have := (List.getElem?_eq_some_iff.1 hu).1; rw [ouC_len (h.ok _ (List.getElem_mem hj))] at this; exact this
    rw [Nat.add_assoc]
    exact hc _ _ (by rw [ouR_get h.ok j hj i hi]; exact hu)
end
/-- No clash. -/
def cleanO (o : Ou) : Bool := decide (o.kind = 1) || decide (o.kind = 2)

set_option maxRecDepth 100000 in
set_option maxHeartbeats 2000000 in
theorem cleanf_c {x : Ov} (hx : OkOu x.o) (ht : x.tv.oneCell' = true) (w : World) : Calls Tryz.prog 37 #[.agg (ouC x).toArray] w fun e w' => e = .returned (.bool (!cleanO x.o)) ∧ Below w.heap.size w w' := by
  have HCL := Lib.hid (ouC_len hx)
  have HONE := Lib.hid (ouC_one ht)
  obtain ⟨W1, hW1⟩ : ∃ W1, w.alloc (.cells (ouC x).toArray 54 (0, 0)) = W1 := ⟨_, rfl⟩
  have hB1 : Below w.heap.size w W1 := by rw [← hW1]; exact (Below.refl _ w).alloc (Nat.le_refl _) _
  have hk : W1.cell? ⟨w.heap.size, 1, none⟩ = some (.int .i64 x.o.kind) := by
    have : W1.heap[w.heap.size]? = some (.cells (ouC x).toArray 54 (0, 0)) := by rw [← hW1]; exact Array.getElem?_push_size
    simp only [World.cell?, this]; simp [ouC]
  have HB1 := Lib.hid hB1
  have HW1 := Lib.hid hW1
  have HX : Hid ((!cleanO x.o) = (decide (x.o.kind ≠ 1) && decide (x.o.kind ≠ 2))) := by show _ = _; unfold cleanO; simp
  clear hB1 hW1
  go_enter Tryz.func37, Tryz.ntmps37
  go_upto_region 1 with fail
  rw [HW1.out]
  by_cases h1 : x.o.kind = 1
  · have e1 : ((x.o.kind : Int) == 1) = true := beq_iff_eq.2 (by omega)
    go_wp2_with fail
    go_ret
    exact ⟨by rw [HX.out]; simp [h1], HB1.out⟩
  · have e1 : ((x.o.kind : Int) == 1) = false := beq_eq_false_iff_ne.2 (by omega)
    by_cases h2 : x.o.kind = 2
    · have e2 : ((x.o.kind : Int) == 2) = true := beq_iff_eq.2 (by omega)
      go_wp2_with fail
      go_ret
      exact ⟨by rw [HX.out]; simp [h2], HB1.out⟩
    · have e2 : ((x.o.kind : Int) == 2) = false := beq_eq_false_iff_ne.2 (by omega)
      go_wp2_with fail
      go_ret
      exact ⟨by rw [HX.out]; simp [h1, h2]; omega, HB1.out⟩

theorem enter_cleanf : ∀ args w, (callFunc 37 args).run Tryz.prog w = .ok (.enter 37 args) w := enters_of Tryz.func37 (by kernel_rfl) rfl

set_option maxRecDepth 100000 in
set_option maxHeartbeats 2000000 in
theorem cindex_c {w : World} {v : Value} {V : List Ov} (h : OR w v V) (ht : ∀ x ∈ V, x.tv.oneCell' = true) (hl : V.length ≤ 9000000) :
    Calls Tryz.prog 64 #[v, .func (.func 37) #[] #[]] w fun e w' => (∃ z : Int, e = .returned (.int .i64 z) ∧ (z ≥ 0 ↔ ∃ x ∈ V, cleanO x.o = false)) ∧ Below w.heap.size w w' := by
  have HF := Lib.hid h
  have HT := Lib.hid ht
  have eg := enter_cleanf
  obtain ⟨a, c, rfl⟩ := h.lit
  clear h ht
  go_enter Tryz.func64, Tryz.ntmps64
  go_wp2_with fail
  go_loopw [8] (fun iv wx => ∃ i : Nat, i ≤ V.length ∧ iv = .int .i64 i ∧ Hid (∀ x ∈ V.take i, cleanO x.o = true) ∧ Hid (Below w.heap.size w wx)) (fun iv _ => (V.length - intOf iv).toNat)
  case atStart => exact ⟨0, Nat.zero_le _, rfl, fun s hs => (nomatch hs), Below.refl _ _⟩
  case round =>
    obtain ⟨i, hi, rfl, HNO, HB⟩ := hrel
    by_cases hil : i < V.length
    · have hd : decide ((i : Int) < (V.length : Int)) = true := decide_eq_true (by omega)
      obtain ⟨b, o, c', e, hbl, hr⟩ := (HF.out.below HB.out).at hil
      injection e with e1 _ e2
      subst e1 e2
      have HR : Hid (wr.rangeAt b (o + i * 135) (ouC V[i])) := hr i hil
      have HCL : Hid ((ouC V[i]).length = 135) := ouC_len (HF.out.ok _ (List.getElem_mem hil))
      have HC := Lib.hid (cleanf_c (HF.out.ok _ (List.getElem_mem hil)) (HT.out _ (List.getElem_mem hil)))
      have HTK : Hid (V.take (i + 1) = V.take i ++ [V[i]]) := by show _ = _; rw [List.take_add_one, List.getElem?_eq_getElem hil]; rfl
      have HME : Hid (V[i] ∈ V) := List.getElem_mem hil
      have hi0 : (0 : Int) ≤ i := by omega
      have hi1 : (i : Int) < V.length := by omega
      have hw1 : IntKind.i64.wrap ((i : Int) + 1) = ((i + 1 : Nat) : Int) := IntWalk.i64_in _ (by omega)
      clear hr
      generalize V[i] = x at *
      obtain ⟨y, hy⟩ : ∃ y, cleanO x.o = y := ⟨_, rfl⟩
      rw [hy] at HC
      cases y with
      | false =>
        go_wp2_with (first
          | (refine wpList_load_mid rfl 54 _ rfl b (o + i * 135) rfl (ouC x) _ HR.out Tryz.underlying54 rfl (by rw [HCL.out]; exact out_info) ?_)
          | (go_at_fn 37; refine (HC.out _).mono ?_; rintro e w2 ⟨rfl, hb2⟩))
        go_ret
        exact ⟨⟨_, rfl, ⟨fun _ => ⟨x, HME.out, hy⟩, fun _ => by omega⟩⟩, HB.out.trans (hb2.mono HB.out.size)⟩
      | true =>
        go_wp2_with (first
          | (refine wpList_load_mid rfl 54 _ rfl b (o + i * 135) rfl (ouC x) _ HR.out Tryz.underlying54 rfl (by rw [HCL.out]; exact out_info) ?_)
          | (go_at_fn 37; refine (HC.out _).mono ?_; rintro e w2 ⟨rfl, hb2⟩))
        go_roundw
        case rel =>
          refine ⟨i + 1, by omega, by first | rfl | go_num, fun z hz => ?_, HB.out.trans (hb2.mono HB.out.size)⟩
          rw [HTK.out, List.mem_append, List.mem_singleton] at hz
          rcases hz with hz | rfl
          · exact HNO.out z hz
          · exact hy
        case measure => simp [intOf]; omega
    · obtain rfl : i = V.length := by omega
      have hd : decide ((V.length : Int) < (V.length : Int)) = false := decide_eq_false (by omega)
      go_wp2_with fail
      go_ret
      have h := HNO.out
      rw [List.take_length] at h
      exact ⟨⟨_, rfl, ⟨fun h => by omega, fun ⟨s, h1, h2⟩ => by rw [h s h1] at h2; cases h2⟩⟩, HB.out⟩

set_option maxRecDepth 100000 in
theorem clean_c {w : World} {v : Value} {V : List Ov} (h : OR w v V) (ht : ∀ x ∈ V, x.tv.oneCell' = true) (hl : V.length ≤ 9000000) :
    Calls Tryz.prog 18 #[v] w fun e w' => e = .returned (.bool (V.all fun x => cleanO x.o)) ∧ Below w.heap.size w w' := by
  have HCT : Hid (Calls Tryz.prog 36 #[v, .func (.func 37) #[] #[]] w fun e w' => e = .returned (.bool (!V.all fun x => cleanO x.o)) ∧ Below w.heap.size w w') := by
    have HC := Lib.hid (cindex_c h ht hl)
    obtain ⟨a, c, rfl⟩ := h.lit
    clear h ht
    go_enter Tryz.func36, Tryz.ntmps36
    go_wp2_with (go_at_call 64; refine HC.out.mono ?_; rintro e w1 ⟨⟨z, rfl, hz⟩, hb⟩)
    go_ret
    refine ⟨?_, hb⟩
    by_cases hp : ∃ x ∈ V, cleanO x.o = false
    · have e1 : (V.all fun x => cleanO x.o) = false := by
        obtain ⟨x, hx, he⟩ := hp
        rw [List.all_eq_false]; exact ⟨x, hx, by rw [he]; simp⟩
      rw [e1, decide_eq_true hp]; rfl
    · have e1 : (V.all fun x => cleanO x.o) = true := by
        rw [List.all_eq_true]
        intro x hx
        cases h : cleanO x.o with
        | true => rfl
        | false => exact absurd ⟨x, hx, h⟩ hp
      rw [e1, decide_eq_false hp]; rfl
  obtain ⟨a, c, rfl⟩ := h.lit
  clear h ht
  go_enter Tryz.func18, Tryz.ntmps18
  go_wp2_with (go_at_call 36; refine HCT.out.mono ?_; rintro e w1 ⟨rfl, hb⟩)
  go_ret
  exact ⟨by simp, hb⟩
end Go.Proofs.YtpcipdkoncmdcaaGreatDoor
namespace Go.Proofs.YtpcipdkoncmdcaaGreatDoor
open Go Go.RowKit
theorem byteCells_ints (b : ByteArray) : byteCells b = (b.data.toList.map fun x => (x.toNat : Int)).map (Value.int .u8) := by
  unfold byteCells; rw [List.map_map]; rfl

theorem run_str_of {P : Program} {src dst e : TypeId} (hs : P.underlying src = some (.slice e)) (he : P.underlying e = some (.int .u8)) (hd : P.underlying dst = some .string) {w : World} {a : Option Addr} {b : ByteArray} (h : Sl w a (byteCells b)) (c : Nat) :
    (convert src dst (.slice a b.size c)).run P w = .ok (.string b) w := by
  rcases h with h | ⟨x, o, rfl, _, h⟩
  · have hb : b.size = 0 := by
      have := congrArg List.length h
      rw [byteCells_ints, List.length_map, List.length_map, List.length_nil, Array.length_toList] at this
      exact this
    obtain rfl : b = ⟨#[]⟩ := by
      cases b with | mk d => congr 1; exact Array.eq_empty_of_size_eq_zero hb
    cases a with
    | none => exact run_convert_bytes_nil w src e hs he _ c dst hd
    | some a =>
      rw [run_convert_bytes_string w src dst e _ _ c hs he hd, show (⟨#[]⟩ : ByteArray).size = 0 from rfl, run_bytesToString w a 0 c [] (by
        have := run_loadCells_list (P := P) w a [] (fun j v hj => by simp at hj)
        simpa using this)]
      rfl
  · have hlen : (b.data.toList.map fun x => (x.toNat : Int)).length = b.size := by rw [List.length_map, Array.length_toList]; rfl
    rw [run_convert_bytes_arg w src e hs he x o b.size c _ hlen (fun i hi => by
      refine h i _ ?_
      rw [byteCells_ints, List.getElem?_map, List.getElem?_eq_getElem (by rw [hlen]; exact hi)]
      simp [List.getD, List.getElem?_eq_getElem (by rw [hlen]; exact hi)]) dst hd]
    congr 2
    unfold strOfNums
    cases b with | mk d => simp [Function.comp_def]

theorem sl_new (w : World) (cs : List Value) (e : TypeId) (f : Nat × Nat) : Sl (w.alloc (.cells cs.toArray e f)) (some ⟨w.heap.size, 0, none⟩) cs := by
  refine .inr ⟨_, _, rfl, by simp, fun i u hu => ?_⟩
  rw [Nat.zero_add]
  simp only [World.cell?]
  rw [show (w.alloc (.cells cs.toArray e f)).heap[w.heap.size]? = some (.cells cs.toArray e f) from Array.getElem?_push_size]
  simpa using hu
end Go.Proofs.YtpcipdkoncmdcaaGreatDoor
namespace Go.Proofs.YtpcipdkoncmdcaaGreatDoor
open Go Go.RowKit
def idn (n : Nat) : List Nat := n :: List.replicate 31 0
def bl0 : List Bl := [⟨idn 1, ⟨#[97, 10, 98, 10, 99, 10]⟩, 0⟩, ⟨idn 2, ⟨#[120, 10, 98, 10, 99, 10]⟩, 0⟩, ⟨idn 3, ⟨#[97, 10, 98, 10, 121, 10]⟩, 0⟩]
def T1a : T3 (List Fi) := ⟨[⟨⟨#[112]⟩, idn 1, 0⟩], [⟨⟨#[112]⟩, idn 2, 4607182418800017408⟩], [⟨⟨#[112]⟩, idn 3, 4611686018427387904⟩]⟩
def T2a : T3 (List Fi) := ⟨[], [⟨⟨#[112]⟩, idn 2, 0⟩], [⟨⟨#[112, 47, 113]⟩, idn 3, 0⟩]⟩
def oA : Ou := ⟨⟨#[112]⟩, 2, List.replicate 32 0, 4611686018427387904, ⟨#[120, 10, 98, 10, 121, 10]⟩, ⟨true, true, true⟩, ⟨idn 1, idn 2, idn 3⟩⟩
theorem aw1 : (mergeS (textS bl0) (upT T1a 3) (chkA T1a 3)).1 = 0 := by kernel_rfl
theorem aw2 : (mergeS (textS bl0) (upT T1a 3) (chkA T1a 3)).2 = [oA] := by kernel_rfl
theorem aw3 : (mergeS (textS bl0) (upT T2a 3) (chkA T2a 3)).1 = 0 := by kernel_rfl
theorem aw4 : (mergeS (textS bl0) (upT T2a 3) (chkA T2a 3)).2.map (·.kind) = [1, 4] := by kernel_rfl

theorem textS_size {l : List Bl} {M : Nat} (h : ∀ b ∈ l, b.text.size ≤ M) (id : List Nat) : (textS l id).1.size ≤ M := by
  unfold textS
  split
  · exact Nat.zero_le _
  · rename_i b hb
    split
    · exact h b (List.mem_of_find?_eq_some hb)
    · exact Nat.zero_le _
theorem idn_ok (n : Nat) (h : n < 256) : OkId (idn n) := ⟨rfl, fun x hx => by
  rcases List.mem_cons.1 hx with rfl | hx
  · exact h
  · rw [List.eq_of_mem_replicate hx]; decide⟩
theorem tx_str {w : World} {v : Value} {t : ByteArray} (h : Tx w v t) : (convert 52 9 v).run Tryz.prog w = .ok (.string t) w := by
  obtain ⟨a, c, rfl, _, _, _, hs⟩ := h
  exact run_str_of (P := Tryz.prog) Tryz.underlying52 Tryz.underlying5 Tryz.underlying9 hs c

-- values built
theorem file_info : (Tryz.prog.info? 56).map (·.size) = some 34 := by kernel_rfl
theorem file_zero : ((Tryz.prog.info? 56).bind (·.zero)).isSome = true := by kernel_rfl
/-- A slice of one file. -/
theorem rb_fs {f : Fi} (h : OkFi f) (w : World) : (Instr.buildSlice 22 1 #[(0, .agg (fiC f).toArray)]).run Tryz.prog w = .ok (.slice (some ⟨w.heap.size, 0, none⟩) 1 1) (w.alloc (.cells (fiC f).toArray 56)) :=
  run_build1 Tryz.underlying22 file_info file_zero (by decide) (by decide) (by rw [List.size_toArray]; exact fiC_len h) w
theorem fs_one {f : Fi} (h : OkFi f) (w : World) : FS (w.alloc (.cells (fiC f).toArray 56)) (.slice (some ⟨w.heap.size, 0, none⟩) 1 1) [f] := by
  refine ⟨⟨some ⟨w.heap.size, 0, none⟩, 1, rfl, ?_⟩, fun x hx => by rw [List.mem_singleton] at hx; rw [hx]; exact h, by simp⟩
  have : fiR [f] = fiC f := by simp [fiR]
  rw [this]
  exact sl_new w _ _ _
theorem FS.nil (w : World) : FS w (.slice none 0 0) [] := ⟨⟨none, 0, rfl, .inl rfl⟩, (fun _ h => nomatch h), by decide⟩
theorem BS.nil (w : World) : BS w (.slice none 0 0) [] := ⟨⟨none, 0, rfl, .inl rfl⟩, (fun _ h => nomatch h), by decide⟩
theorem bs_bl0 (w : World) : BS (w.alloc (.cells (blR bl0).toArray 78)) (.slice (some ⟨w.heap.size, 0, none⟩) 3 3) bl0 := by
  refine ⟨⟨some ⟨w.heap.size, 0, none⟩, 3, rfl, sl_new w _ _ _⟩, fun x hx => ?_, by decide⟩
  simp only [bl0, List.mem_cons, List.not_mem_nil, or_false] at hx
  rcases hx with rfl | rfl | rfl
  · exact ⟨idn_ok _ (by decide), by decide⟩
  · exact ⟨idn_ok _ (by decide), by decide⟩
  · exact ⟨idn_ok _ (by decide), by decide⟩
end Go.Proofs.YtpcipdkoncmdcaaGreatDoor
namespace Go.Proofs.YtpcipdkoncmdcaaGreatDoor
open Go Go.RowKit
theorem wp_to {P : Program} {c : Code} {Q : Exit → Act → World → Prop} {a : Act} {w w' : World} (he : w = w') (h : c.wp P Q a w') : c.wp P Q a w := he ▸ h
theorem mem_one {α : Type} {x : α} {V : List Ov} {f : Ov → α} (h : V.map f = [x]) : ∃ v, V = [v] ∧ f v = x := by
  cases V with
  | nil => cases h
  | cons v l =>
    cases l with
    | nil => exact ⟨v, rfl, (List.cons.inj h).1⟩
    | cons y l => have := congrArg List.length h; simp at this
/-- Three files, each in a slice of its own. -/
theorem merge3_c {W : World} {sv : Value} {bl : List Bl} {f1 f2 f3 : Fi} (o1 : OkFi f1) (o2 : OkFi f2) (o3 : OkFi f3) (hg : Gl W) (hz : ∀ id, (textS bl id).1.size ≤ 1000) (hs : BS W sv bl) :
    Calls Tryz.prog 13 #[.agg #[.slice (some ⟨W.heap.size, 0, none⟩) 1 1, .slice (some ⟨W.heap.size + 1, 0, none⟩) 1 1, .slice (some ⟨W.heap.size + 1 + 1, 0, none⟩) 1 1], SrcV sv] (((W.alloc (.cells (fiC f1).toArray 56)).alloc (.cells (fiC f2).toArray 56)).alloc (.cells (fiC f3).toArray 56))
      fun e w' => ∃ ov V, e = .returned (.tuple #[ov, .int .i64 (mergeS (textS bl) (upT ⟨[f1], [f2], [f3]⟩ 3) (chkA ⟨[f1], [f2], [f3]⟩ 3)).1]) ∧ V.map (·.o) = (mergeS (textS bl) (upT ⟨[f1], [f2], [f3]⟩ 3) (chkA ⟨[f1], [f2], [f3]⟩ 3)).2 ∧ MO W w' W.heap.size ov V := by
  have hb : ∀ (W : World) (o : Obj), Below W.heap.size W (W.alloc o) := fun W o => (Below.refl _ W).alloc (Nat.le_refl _) _
  have es : ∀ (W : World) (o : Obj), (W.alloc o).heap.size = W.heap.size + 1 := fun W o => by simp
  have h1 := fs_one o1 W
  have h2 := fs_one o2 (W.alloc (.cells (fiC f1).toArray 56))
  have h3 := fs_one o3 ((W.alloc (.cells (fiC f1).toArray 56)).alloc (.cells (fiC f2).toArray 56))
  have b1 := hb W (.cells (fiC f1).toArray 56)
  have b2 := hb (W.alloc (.cells (fiC f1).toArray 56)) (.cells (fiC f2).toArray 56)
  have b3 := hb ((W.alloc (.cells (fiC f1).toArray 56)).alloc (.cells (fiC f2).toArray 56)) (.cells (fiC f3).toArray 56)
  have b23 := b2.trans (b3.mono b2.size)
  have b123 := b1.trans (b23.mono b1.size)
  have hm := merge_c (T := ⟨[f1], [f2], [f3]⟩) (h1.below b23) (h2.below b3) h3 (hg.below b123 (Nat.le_refl _)) hz (hs.below b123)
  rw [es (W.alloc _), es W] at hm
  refine hm.mono ?_
  rintro e w' ⟨ov, V, rfl, hV, hMO⟩
  have hw := b123.size
  exact ⟨ov, V, rfl, hV, ⟨hMO.row, fun k hk => Nat.le_trans hw (hMO.own k hk), fun v hv => ⟨(hMO.tx v hv).1.mono hw, (hMO.tx v hv).2⟩, hMO.ok, Nat.le_refl _, b123.trans (hMO.below.mono hw)⟩⟩
/-- Two files. -/
theorem merge2_c {W : World} {sv : Value} {bl : List Bl} {f2 f3 : Fi} (o2 : OkFi f2) (o3 : OkFi f3) (hg : Gl W) (hz : ∀ id, (textS bl id).1.size ≤ 1000) (hs : BS W sv bl) :
    Calls Tryz.prog 13 #[.agg #[.slice none 0 0, .slice (some ⟨W.heap.size, 0, none⟩) 1 1, .slice (some ⟨W.heap.size + 1, 0, none⟩) 1 1], SrcV sv] ((W.alloc (.cells (fiC f2).toArray 56)).alloc (.cells (fiC f3).toArray 56))
      fun e w' => ∃ ov V, e = .returned (.tuple #[ov, .int .i64 (mergeS (textS bl) (upT ⟨[], [f2], [f3]⟩ 3) (chkA ⟨[], [f2], [f3]⟩ 3)).1]) ∧ V.map (·.o) = (mergeS (textS bl) (upT ⟨[], [f2], [f3]⟩ 3) (chkA ⟨[], [f2], [f3]⟩ 3)).2 ∧ MO W w' W.heap.size ov V := by
  have hb : ∀ (W : World) (o : Obj), Below W.heap.size W (W.alloc o) := fun W o => (Below.refl _ W).alloc (Nat.le_refl _) _
  have es : ∀ (W : World) (o : Obj), (W.alloc o).heap.size = W.heap.size + 1 := fun W o => by simp
  have h2 := fs_one o2 W
  have h3 := fs_one o3 (W.alloc (.cells (fiC f2).toArray 56))
  have b2 := hb W (.cells (fiC f2).toArray 56)
  have b3 := hb (W.alloc (.cells (fiC f2).toArray 56)) (.cells (fiC f3).toArray 56)
  have b23 := b2.trans (b3.mono b2.size)
  have hm := merge_c (T := ⟨[], [f2], [f3]⟩) (FS.nil _) (h2.below b3) h3 (hg.below b23 (Nat.le_refl _)) hz (hs.below b23)
  rw [es W] at hm
  refine hm.mono ?_
  rintro e w' ⟨ov, V, rfl, hV, hMO⟩
  have hw := b23.size
  exact ⟨ov, V, rfl, hV, ⟨hMO.row, fun k hk => Nat.le_trans hw (hMO.own k hk), fun v hv => ⟨(hMO.tx v hv).1.mono hw, (hMO.tx v hv).2⟩, hMO.ok, Nat.le_refl _, b23.trans (hMO.below.mono hw)⟩⟩

end Go.Proofs.YtpcipdkoncmdcaaGreatDoor
namespace Go.Proofs.YtpcipdkoncmdcaaGreatDoor
open Go Go.RowKit
theorem calls_to {P : Program} {f : FuncId} {args : Array Value} {Q : Ending → World → Prop} {w w' : World} (he : w = w') (h : Calls P f args w' Q) : Calls P f args w Q := he ▸ h
theorem tx_one {w : World} {v : Value} {t : ByteArray} (h : Tx w v t) : v.oneCell' = true := by obtain ⟨a, c, rfl, _⟩ := h; rfl
theorem mem_two {α : Type} {x y : α} {V : List Ov} {f : Ov → α} (h : V.map f = [x, y]) : ∃ v u, V = [v, u] ∧ f v = x ∧ f u = y := by
  cases V with
  | nil => cases h
  | cons v l =>
    obtain ⟨h1, h2⟩ := List.cons.inj h
    obtain ⟨u, rfl, h3⟩ := mem_one h2
    exact ⟨v, u, rfl, h1, h3⟩
set_option maxRecDepth 100000 in
set_option maxHeartbeats 4000000 in
theorem awake_c (w : World) (hg : Gl w) : Calls Tryz.prog 10 #[] w fun e w' => e = .returned (.bool true) ∧ Below w.heap.size w w' := by
  have o1 : OkFi ⟨⟨#[112]⟩, idn 1, 0⟩ := ⟨idn_ok 1 (by decide), by decide, by decide⟩
  have o2 : OkFi ⟨⟨#[112]⟩, idn 2, 0⟩ := ⟨idn_ok 2 (by decide), by decide, by decide⟩
  have o3 : OkFi ⟨⟨#[112, 47, 113]⟩, idn 3, 0⟩ := ⟨idn_ok 3 (by decide), by decide, by decide⟩
  have p2 : OkFi ⟨⟨#[112]⟩, idn 2, 4607182418800017408⟩ := ⟨idn_ok 2 (by decide), by decide, by decide⟩
  have p3 : OkFi ⟨⟨#[112]⟩, idn 3, 4611686018427387904⟩ := ⟨idn_ok 3 (by decide), by decide, by decide⟩
  have HM1 : Hid (∀ (W : World) (sv : Value), Gl W → BS W sv bl0 → Calls Tryz.prog 13 #[.agg #[.slice (some ⟨W.heap.size, 0, none⟩) 1 1, .slice (some ⟨W.heap.size + 1, 0, none⟩) 1 1, .slice (some ⟨W.heap.size + 1 + 1, 0, none⟩) 1 1], SrcV sv] (((W.alloc (.cells (fiC ⟨⟨#[112]⟩, idn 1, 0⟩).toArray 56)).alloc (.cells (fiC ⟨⟨#[112]⟩, idn 2, 4607182418800017408⟩).toArray 56)).alloc (.cells (fiC ⟨⟨#[112]⟩, idn 3, 4611686018427387904⟩).toArray 56))
      fun e w' => ∃ g o c x, e = .returned (.tuple #[.slice (some ⟨g, o, none⟩) 1 c, .int .i64 0]) ∧ OR w' (.slice (some ⟨g, o, none⟩) 1 c) [x] ∧ x.tv.oneCell' = true ∧ cleanO x.o = true ∧ w'.rangeAt g o (ouC x) ∧ x.o = oA ∧ Tx w' x.tv oA.text ∧ g < w'.heap.size ∧ Below W.heap.size W w') := by
    intro W sv hg hs
    refine (merge3_c o1 p2 p3 hg (fun id => textS_size (by decide) id) hs).mono ?_
    rintro e w' ⟨ov, V, rfl, hV, hMO⟩
    have hV' : V.map (·.o) = [oA] := hV.trans aw2
    obtain ⟨x, rfl, hx⟩ := mem_one hV'
    obtain ⟨g, o, c, rfl, hgl, hr⟩ := hMO.or.at (k := 0) (by simp)
    have hr0 := hr 0 (by simp)
    rw [Nat.zero_mul, Nat.add_zero] at hr0
    have htx := (hMO.tx x (by simp)).1.tx
    rw [hx] at htx
    refine ⟨g, o, c, x, congrArg (fun z => Ending.returned (Value.tuple #[.slice (some ⟨g, o, none⟩) 1 c, .int .i64 z])) aw1, hMO.or, tx_one htx, by rw [hx]; rfl, hr0, hx, htx, hgl, hMO.below⟩
  have HM2 : Hid (∀ (W : World) (sv : Value), Gl W → BS W sv bl0 → Calls Tryz.prog 13 #[.agg #[.slice none 0 0, .slice (some ⟨W.heap.size, 0, none⟩) 1 1, .slice (some ⟨W.heap.size + 1, 0, none⟩) 1 1], SrcV sv] ((W.alloc (.cells (fiC ⟨⟨#[112]⟩, idn 2, 0⟩).toArray 56)).alloc (.cells (fiC ⟨⟨#[112, 47, 113]⟩, idn 3, 0⟩).toArray 56))
      fun e w' => ∃ g o c x y, e = .returned (.tuple #[.slice (some ⟨g, o, none⟩) 2 c, .int .i64 0]) ∧ OR w' (.slice (some ⟨g, o, none⟩) 2 c) [x, y] ∧ x.tv.oneCell' = true ∧ y.tv.oneCell' = true ∧ cleanO y.o = false ∧ w'.rangeAt g (o + 135) (ouC y) ∧ y.o.kind = 4 ∧ g < w'.heap.size ∧ Below W.heap.size W w') := by
    intro W sv hg hs
    refine (merge2_c o2 o3 hg (fun id => textS_size (by decide) id) hs).mono ?_
    rintro e w' ⟨ov, V, rfl, hV, hMO⟩
    have hk : V.map (fun x => x.o.kind) = [1, 4] := by
      have := congrArg (List.map (·.kind)) hV
      rw [List.map_map] at this
      exact this.trans aw4
    obtain ⟨x, y, rfl, hx, hy⟩ := mem_two hk
    obtain ⟨g, o, c, rfl, hgl, hr⟩ := hMO.or.at (k := 0) (by simp)
    have hr1 := hr 1 (by simp)
    rw [Nat.one_mul] at hr1
    refine ⟨g, o, c, x, y, congrArg (fun z => Ending.returned (Value.tuple #[.slice (some ⟨g, o, none⟩) 2 c, .int .i64 z])) aw3, hMO.or, tx_one (hMO.tx x (by simp)).1.tx, tx_one (hMO.tx y (by simp)).1.tx, by unfold cleanO; rw [hy]; rfl, hr1, hy, hgl, hMO.below⟩
  have HGL := Lib.hid hg
  clear o1 o2 o3 p2 p3 hg
  go_enter Tryz.func10, Tryz.ntmps10
  go_upto_region 2 with fail
  refine wp_to (w' := w.alloc (.cells (blR bl0).toArray 78)) (by kernel_rfl) ?_
  obtain ⟨W1, hW1⟩ : ∃ W1, w.alloc (.cells (blR bl0).toArray 78) = W1 := ⟨_, rfl⟩
  have HBS : Hid (BS W1 (.slice (some ⟨w.heap.size, 0, none⟩) 3 3) bl0) := by show BS _ _ _; rw [← hW1]; exact bs_bl0 w
  have HB1 : Hid (Below w.heap.size w W1) := by show Below _ _ _; rw [← hW1]; exact (Below.refl _ w).alloc (Nat.le_refl _) _
  rw [hW1]
  clear hW1
  have HG1 := Lib.hid (HGL.out.below HB1.out (Nat.le_refl _))
  have HLE : Hid (w.heap.size ≤ W1.heap.size) := HB1.out.size
  generalize hsb : w.heap.size = sb at *
  have HSB := Lib.hid hsb
  clear hsb
  go_upto_region 3 with (go_at_call 13; refine calls_to (w' := (((W1.alloc (.cells (fiC ⟨⟨#[112]⟩, idn 1, 0⟩).toArray 56)).alloc (.cells (fiC ⟨⟨#[112]⟩, idn 2, 4607182418800017408⟩).toArray 56)).alloc (.cells (fiC ⟨⟨#[112]⟩, idn 3, 4611686018427387904⟩).toArray 56))) (by kernel_rfl) ?_; refine (HM1.out W1 _ HG1.out HBS.out).mono ?_; rintro e W2 ⟨g, o, c, x, rfl, hor, hone, hcl, hrg, hx, htx, hgl, hb2⟩)
  have HG2 := Lib.hid (HG1.out.below hb2 (Nat.le_refl _))
  have HBS2 := Lib.hid (HBS.out.below hb2)
  have HB2 := Lib.hid (HB1.out.trans (hb2.mono HLE.out))
  have HLE2 : Hid (sb ≤ W2.heap.size) := Nat.le_trans HLE.out hb2.size
  have HOR := Lib.hid hor
  have HONE := Lib.hid hone
  have HCL := Lib.hid hcl
  have HRG := Lib.hid hrg
  have HX := Lib.hid hx
  have HTX := Lib.hid htx
  have HGL2 := Lib.hid hgl
  clear hor hone hcl hrg hx htx hgl hb2 HM1 HGL HB1
  go_upto_region 4 with (go_at_call 13; refine calls_to (w' := ((W2.alloc (.cells (fiC ⟨⟨#[112]⟩, idn 2, 0⟩).toArray 56)).alloc (.cells (fiC ⟨⟨#[112, 47, 113]⟩, idn 3, 0⟩).toArray 56))) (by kernel_rfl) ?_; refine (HM2.out W2 _ HG2.out HBS2.out).mono ?_; rintro e W3 ⟨g2, o2, c2, x2, y2, rfl, hor2, hx2, hy2, hcl2, hr2, hk2, hg2l, hb3⟩)
  have HOR3 := Lib.hid (HOR.out.below hb3)
  have HB3 := Lib.hid (HB2.out.trans (hb3.mono HLE2.out))
  have hk : W3.cell? ⟨g, o + 1, none⟩ = some (.int .i64 2) := by
    rw [hb3.cell (p := ⟨g, o + 1, none⟩) HGL2.out]
    have := HRG.out 1 (.int .i64 x.o.kind) rfl
    rw [HX.out] at this; exact this
  have ht : W3.cell? ⟨g, o + 35, none⟩ = some x.tv := by
    rw [hb3.cell (p := ⟨g, o + 35, none⟩) HGL2.out]
    exact HRG.out 35 x.tv (by unfold ouC; rw [HX.out]; rfl)
  have hs : W3.cell? ⟨g, o + 34, none⟩ = some (.float .f64 4611686018427387904) := by
    rw [hb3.cell (p := ⟨g, o + 34, none⟩) HGL2.out]
    exact HRG.out 34 _ (by unfold ouC; rw [HX.out]; rfl)
  have hcv := tx_str (HTX.out.below hb3)
  have hk4 : W3.cell? ⟨g2, o2 + 135 + 1, none⟩ = some (.int .i64 4) := by
    have := hr2 1 (.int .i64 y2.o.kind) rfl
    rw [hk2] at this; exact this
  have HC1 := Lib.hid (clean_c HOR3.out (by intro z hz; rw [List.mem_singleton] at hz; rw [hz]; exact HONE.out) (by simp))
  have HC2 := Lib.hid (fun (W : World) (hb : Below W3.heap.size W3 W) => clean_c (hor2.below hb) (by intro z hz; simp at hz; rcases hz with rfl | rfl; exact hx2; exact hy2) (by simp))
  have HG2L := Lib.hid hg2l
  clear hg2l
  have HB3L : Hid (sb ≤ W3.heap.size) := Nat.le_trans HLE2.out hb3.size
  clear hr2 hor2 hx2 hy2 hk2 HM2 HBS HBS2 HG1 HG2 HRG HX HTX HONE HGL2 HOR HOR3
  obtain ⟨tv, htv⟩ : ∃ tv, x.tv = tv := ⟨_, rfl⟩
  rw [htv] at ht hcv
  have HD1 : Hid (([x2, y2].all fun x => cleanO x.o) = false) := by show _ = _; simp [hcl2]
  have hd0 : ([x].all fun x => cleanO x.o) = true := by simp [HCL.out]
  rw [hd0] at HC1
  have hot : oA.text.toList = [120, 10, 98, 10, 121, 10] := by rw [Lib.toList_data]; rfl
  clear hd0 hcl2 HCL
  go_wp2_with (first
    | (go_at_call 18; refine HC1.out.mono ?_; rintro e W4 ⟨rfl, hb4⟩; have hk5 := (hb4.cell (p := ⟨g2, o2 + 135 + 1, none⟩) HG2L.out).trans hk4)
    | (go_at_call 18; refine (HC2.out _ hb4).mono ?_; rw [HD1.out]; rintro e W5 ⟨rfl, hb5⟩))
  go_ret
  exact ⟨rfl, by rw [HSB.out]; exact HB3.out.trans ((hb4.mono HB3L.out).trans (hb5.mono (Nat.le_trans HB3L.out hb4.size)))⟩
end Go.Proofs.YtpcipdkoncmdcaaGreatDoor
namespace Go.Proofs.YtpcipdkoncmdcaaGreatDoor
open Go Go.RowKit
theorem exec_build {P : Program} {ev : Operand → Value} {o : Oper} {t : TypeId} (parts : Array (Nat × Operand)) (ho : o.op = .build t parts) {vs : Array (Nat × Value)} (hp : (parts.map fun (i, y) => (i, ev y)) = vs) {v : Value} (hr : ∀ w, (Instr.build t vs).run P w = .ok v w) : ∀ w, (execOp ev o).run P w = .ok (.value v) w := by
  intro w
  unfold execOp
  simp only [ho, hp, Sem.run_bind, hr, Result.andThen_ok, Sem.run_pure]
theorem exec_bin {P : Program} {ev : Operand → Value} {o : Oper} {b : BinOp} {t rt : TypeId} (x y : Operand) (ho : o.op = .binOp b t x y rt) {u v r : Value} (hx : ev x = u) (hy : ev y = v) (hg : ∀ w, (eqGuard b t x y u v).run P w = .ok () w) (hr : ∀ w, (binOp b t u v).run P w = .ok r w) : ∀ w, (execOp ev o).run P w = .ok (.value r) w := by
  intro w
  unfold execOp
  simp only [ho, hx, hy, Sem.run_bind, hg, hr, Result.andThen_ok, Sem.run_pure]
theorem id_same {x : List Nat} (hx : OkId x) (w : World) : (binOp .neq 43 (.agg (nums .u8 x)) (.agg (nums .u8 x))).run Tryz.prog w = .ok (.bool false) w := by
  rw [id_neq hx hx]; simp
theorem exec_slice {P : Program} {ev : Operand → Value} {o : Oper} {t : TypeId} {n : Nat} (parts : Array (Nat × Operand)) (ho : o.op = .buildSlice t n parts) {vs : Array (Nat × Value)} (hp : (parts.map fun (i, y) => (i, ev y)) = vs) {v : Value} {w w' : World} (hr : (Instr.buildSlice t n vs).run P w = .ok v w') : (execOp ev o).run P w = .ok (.value v) w' := by
  unfold execOp
  simp only [ho, hp, Sem.run_bind, hr, Result.andThen_ok, Sem.run_pure]
/-- Three slices of one file each in a block, so far i of them. -/
structure F3 (w : World) (p : Nat) (V : Nat → Value) (i : Nat) (f : Nat → Fi) : Prop where
  blk : w.heap[p]? = some (.cells #[V 0, V 1, V 2] 23 (0, 0))
  fs : ∀ j, j < i → ∃ b, V j = .slice (some ⟨b, 0, none⟩) 1 1 ∧ b ≠ p ∧ w.heap[b]? = some (.cells (fiC (f j)).toArray 56 (0, 0))
  un : ∀ j, i ≤ j → V j = .slice none 0 0
section
variable {w w' : World} {p : Nat} {V : Nat → Value} {i : Nat} {f : Nat → Fi}
theorem F3.lt (h : F3 w p V i f) : p < w.heap.size := (Array.getElem?_eq_some_iff.1 h.blk).1
theorem F3.below (h : F3 w p V i f) (hb : Below w.heap.size w w') : F3 w' p V i f :=
  ⟨(hb.block p h.lt).trans h.blk, fun j hj => by
    obtain ⟨b, h1, h2, h3⟩ := h.fs j hj
    exact ⟨b, h1, h2, (hb.block b (Array.getElem?_eq_some_iff.1 h3).1).trans h3⟩, h.un⟩
theorem F3.cell (h : F3 w p V i f) {j : Nat} (hj : j < 3) : w.cell? ⟨p, j, none⟩ = some (V j) := by
  simp only [World.cell?, h.blk]
  rcases j with _ | _ | _ | j
  · rfl
  · rfl
  · rfl
  · omega
theorem F3.put (h : F3 w p V i f) (hi : i < 3) {b : Nat} (hne : b ≠ p) (hb : w.heap[b]? = some (.cells (fiC (f i)).toArray 56 (0, 0))) :
    F3 (w.setCell ⟨p, i, none⟩ (.slice (some ⟨b, 0, none⟩) 1 1)) p (fun j => if j = i then .slice (some ⟨b, 0, none⟩) 1 1 else V j) (i + 1) f ∧ w.grownBy (w.setCell ⟨p, i, none⟩ (.slice (some ⟨b, 0, none⟩) 1 1)) (some p) := by
  have hg := grown_set w p i (.slice (some ⟨b, 0, none⟩) 1 1)
  refine ⟨⟨?_, fun j hj => ?_, fun j hj => ?_⟩, hg⟩
  · have := (set_blk h.blk i (.slice (some ⟨b, 0, none⟩) 1 1)).1
    rw [this]
    rcases i with _ | _ | _ | i
    · rfl
    · rfl
    · rfl
    · omega
  · have hk : ∀ c, c ≠ p → c < w.heap.size → (w.setCell ⟨p, i, none⟩ (.slice (some ⟨b, 0, none⟩) 1 1)).heap[c]? = w.heap[c]? := fun c e hc => hg.block c hc (by simpa using e)
    by_cases e : j = i
    · subst e
      exact ⟨b, if_pos rfl, hne, (hk b hne (Array.getElem?_eq_some_iff.1 hb).1).trans hb⟩
    · obtain ⟨c, h1, h2, h3⟩ := h.fs j (by omega)
      exact ⟨c, (if_neg e).trans h1, h2, (hk c h2 (Array.getElem?_eq_some_iff.1 h3).1).trans h3⟩
  · rw [if_neg (by omega)]; exact h.un j (by omega)
theorem F3.one (h : F3 w p V i f) (hf : ∀ j, OkFi (f j)) {j : Nat} (hj : j < i) : FS w (V j) [f j] := by
  obtain ⟨b, h1, _, h3⟩ := h.fs j hj
  have e : fiR [f j] = fiC (f j) := by simp [fiR]
  refine ⟨⟨some ⟨b, 0, none⟩, 1, h1, ?_⟩, fun x hx => by rw [List.mem_singleton] at hx; rw [hx]; exact hf j, by simp⟩
  rw [e]
  refine .inr ⟨b, 0, rfl, (Array.getElem?_eq_some_iff.1 h3).1, fun i u hu => ?_⟩
  simp only [World.cell?, h3, Nat.zero_add]; simpa using hu
end
-- the plain law
end Go.Proofs.YtpcipdkoncmdcaaGreatDoor
namespace Go.Proofs.YtpcipdkoncmdcaaGreatDoor
theorem gl_of_shaped {W : World} (h : W.ShapedOpen Tryz.prog) : Gl W := by
  obtain ⟨m, hm⟩ := Tryz.laysM146.s1_3 W h
  have hm : W.cell? ⟨1, 0, none⟩ = some (.int .i64 m) := hm
  exact ⟨⟨m, hm⟩, World.block_lt_of_cell? W _ hm⟩

open Go.ChangeShapes Go.WideShapes Go.ChangeAt Go.RowKit
/-- The cells of the two listed tables. -/
def acceptCells : Array Value := (List.flatten ((List.range 16).map fun i => [Value.int .u8 (Lib.accLo i : Int), Value.int .u8 (Lib.accHi i : Int)])).toArray
def firstCells : Array Value := ((List.range 256).map fun c => Value.int .u8 (Lib.firstT c : Int)).toArray

def lay1 (n : Nat) (cs : Array Value) (w : World) : World :=
  { w with heap := w.heap.modify n fun
      | .cells _ t frozen => .cells cs t frozen
      | o => o }

noncomputable def laidWorld (os : Os) : World := lay1 3 acceptCells (lay1 2 firstCells (World.holding Tryz.prog os ⟨#[], #[], []⟩))
theorem laid_met (os : Os) (args : Array Value) : laidMet Tryz.prog Rows.joinTimesUptoRow.laid ((laidWorld os).forCall (fun _ _ => 0) ⟨#[], args, []⟩).memory :=
  laidMet_of_run' 300 (by kernel_rfl) (by kernel_rfl)

/-- Arguments read behind the call as they read before it. -/
theorem trodAll_below {H : Type} {enc : TypeId × Value → H} {P : Program} (hl : laidOutB P = true) {W W' : World} (hb : Below W.heap.size W W') : ∀ (ts : List TypeId) (vs : List Value) (ds : List (DataW H)) (ps : List MemPlace),
    (∀ t ∈ ts, P.readableRec t = true ∧ t < P.types.size) → DataW.TrodAll enc P W 0 (fun _ => true) true ts vs ds ps → (∀ x ∈ ps, x.block < W.heap.size) → DataW.TrodAll enc P W' 0 (fun b => decide (b < W.heap.size)) true ts vs ds ps
  | [], vs, ds, ps, _, h, _ => by obtain ⟨rfl, rfl, rfl⟩ := trodAll_nil h; exact trodAll_mk0
  | t :: ts, vs, ds, ps, ht, h, hlt => by
    obtain ⟨v, vs', d, ds', p, q, rfl, rfl, rfl, h1, h2⟩ := trodAll_cons h
    obtain ⟨hr, hrow⟩ := ht t (by simp)
    exact trodAll_cons_mk (hb.trod hl hr hrow h1 fun x hx => hlt x (by simp [hx])) (trodAll_below hl hb ts vs' ds' q (fun t' h' => ht t' (by simp [h'])) h2 fun x hx => hlt x (by simp [hx]))

theorem trodAll_length {H : Type} {enc : TypeId × Value → H} {P : Program} {W : World} {base : Nat} {sp : Nat → Bool} {hd : Bool} : ∀ (ts : List TypeId) (vs : List Value) (ds : List (DataW H)) (ps : List MemPlace), DataW.TrodAll enc P W base sp hd ts vs ds ps → ds.length = ts.length
  | [], vs, ds, ps, h => by obtain ⟨rfl, rfl, rfl⟩ := trodAll_nil h; rfl
  | t :: ts, vs, ds, ps, h => by
    obtain ⟨v, vs', d, ds', p, q, rfl, rfl, rfl, h1, h2⟩ := trodAll_cons h
    simp [trodAll_length ts vs' ds' q h2]

set_option maxRecDepth 100000 in
/-- A law's row: from what the call comes to. -/
theorem law_lifted {f : FuncId} {fn : Func} {spec : ChangeSpec} {laid : List (String × DataW Unit)} {os : Os} {H : Type} {enc : TypeId × Value → H} {F : Stop.Interp} (started : os.Started)
    (hfn : Tryz.prog.funcs[f]? = some fn) (noInit : Tryz.prog.inits.idxOf? f = none) (hr : fn.resultTypes = #[4]) (hv : spec.vars = [])
    (hspec : ∀ ds : List (DataW H), ds.length = fn.params.toList.length → spec.fn H ds = { results := [.lit (.bool true)], args := ds })
    (hlay : laidOutB Tryz.prog = true) (hread : ∀ t ∈ fn.params.toList, Tryz.prog.readableRec t = true ∧ t < Tryz.prog.types.size)
    (witness : ∃ (w : World) (tape : Tape) (i : Input), w.os = os ∧ (w.forCall tape i).Shaped Tryz.checked.prog ∧ i.vars = [] ∧ Input.okWide Tryz.checked.prog (w.forCall tape i) .any w.heap.size f i ∧
      (Rows.OpenSpec.upto spec).preRow enc Tryz.checked.prog fn [] false laid (w.forCall tape i).memory i.args ∧ ({} : Assume).holds Tryz.checked.prog (lone (Frame.enter Tryz.checked.prog f i.args .normal) [] (w.forCall tape i)))
    (contract : ∀ (W : World) (base : Nat) (args : Array Value) (ds : List (DataW H)) (p : List MemPlace),
      (∀ (j : Nat) t v, fn.params[j]? = some t → args[j]? = some v → Value.okWide Tryz.prog W .any base t v) →
      DataW.TrodAll enc Tryz.prog W 0 (fun _ => true) true fn.params.toList args.toList ds p → Rows.uptoSmall H ds = true → laidMetH Tryz.prog laid W → W.ShapedOpen Tryz.prog →
      Calls Tryz.prog f args W fun e W' => e = .returned (.bool true) ∧ Below W.heap.size W W') :
    ReturnsInHanded {} Tryz.checked os f .any ((Rows.OpenSpec.upto spec).preRow enc Tryz.prog fn [] false laid) (((Rows.OpenSpec.upto spec).at F).post enc Tryz.prog fn false true false false) := by
  refine returnsInHanded_of_row (C := Tryz.checked) (s := Rows.OpenSpec.upto spec) (by kernel_rfl) started noInit hfn witness ?_
  intro W base args ds gs before hval hW _ hcond _ hL hshape _
  have hW' := hW
  obtain ⟨p, q, hA, hV, rfl, hfz, hnd⟩ := hW
  have hA : DataW.TrodAll enc Tryz.prog W 0 (fun _ => true) true fn.params.toList args.toList ds p := hA
  have hV : DataW.TrodVars enc Tryz.checked.prog W (fun x => true) spec.vars gs q := hV
  rw [hv] at hV
  obtain ⟨rfl, rfl⟩ := trodVars_none hV
  have hk := hcond _ rfl
  rw [List.append_nil] at hk
  refine (contract W base args ds p hval hA hk hL hshape).mono fun e W' ⟨he, hb⟩ => ?_
  subst he
  have hlt : ∀ x ∈ p, x.block < W.heap.size := fun x hx => hW'.lt x (by simpa using hx)
  have e1 : spec.fn H (ds ++ []) = { results := [.lit (.bool true)], args := ds } := by rw [List.append_nil]; exact hspec ds (trodAll_length _ _ _ _ hA)
  refine ⟨_, rfl, ds, [], p ++ [], [], p, [], hW', ?_, ?_, ?_, hb.frame _, fun h => by cases h⟩
  · show DataW.TrodAll enc Tryz.prog W' _ _ _ fn.resultTypes.toList _ (spec.fn H (ds ++ [])).results []
    rw [e1, hr]
    exact trodAll_cons_mk (shut_bool Tryz.underlying4 _) trodAll_mk0
  · show DataW.TrodAll enc Tryz.prog W' _ _ _ fn.params.toList _ (spec.fn H (ds ++ [])).args p
    rw [e1]
    exact trodAll_below hlay hb _ _ _ _ hread hA hlt
  · show DataW.TrodVars enc Tryz.prog W' _ spec.vars (spec.fn H (ds ++ [])).vars []
    rw [e1, hv]
    rfl

theorem bulk_one {H : Type} (d : DataW H) : 1 ≤ Rows.uptoBulk d := by
  cases d with
  | lit l => cases l <;> simp [Rows.uptoBulk]
  | nil => simp [Rows.uptoBulk]
  | ptr d => simp [Rows.uptoBulk]
  | slice elems spare => simp [Rows.uptoBulk]
  | agg parts => simp [Rows.uptoBulk]
  | iface t d => simp [Rows.uptoBulk]
  | map entries => simp [Rows.uptoBulk]
  | held h => simp [Rows.uptoBulk]

theorem bulk_part {H : Type} {d : DataW H} {l : List (DataW H)} (h : d ∈ l) : Rows.uptoBulk d ≤ Rows.uptoBulkAll l := by
  induction l with
  | nil => cases h
  | cons x r ih =>
    simp only [Rows.uptoBulkAll]
    cases List.mem_cons.1 h with
    | inl e => subst e; omega
    | inr e => have := ih e; omega

theorem bulk_str {H : Type} (s : ByteArray) : Rows.uptoBulk (DataW.lit (H := H) (.string s.data.toList)) = s.size + 1 := by
  rw [Lib.size_eq]; simp only [Rows.uptoBulk]

theorem bulk_bound {H : Type} {l : List (DataW H)} (hk : Rows.uptoSmall H l = true) : Rows.uptoBulkAll l ≤ 1048576 := of_decide_eq_true hk

theorem bulk_mem {H : Type} {d : DataW H} {l : List (DataW H)} (hk : Rows.uptoSmall H l = true) (h : d ∈ l) : Rows.uptoBulk d ≤ 1048576 := Nat.le_trans (bulk_part h) (bulk_bound hk)

end Go.Proofs.YtpcipdkoncmdcaaGreatDoor
namespace Go.Proofs.YtpcipdkoncmdcaaGreatDoor
open Go Go.ChangeShapes Go.WideShapes Go.ChangeAt Go.RowKit
theorem trod_float {P : Program} {H : Type} {enc : TypeId × Value → H} {w : World} {base : Nat} {spare : Nat → Bool} {held : Bool} {fuel : Nat} {t : TypeId} {cs : List Value} {x : DataW H × List MemPlace} {k : FloatKind}
    (ht : P.underlying t = some (.float k)) (h : DataW.trod enc P w base spare held fuel t cs = some x) : ∃ n, cs = [.float k n] ∧ x = (.lit (.float k n), []) ∧ (Lit.float k n).wf = true := by
  cases fuel with
  | zero => simp [DataW.trod] at h
  | succ n =>
    unfold DataW.trod at h
    rw [ht] at h
    split at h <;> simp_all

theorem int_wf {k : IntKind} {n a b : Int} (h : (Lit.int k n).wf = true) (ha : a = k.min) (hb : k.max = b) : a ≤ n ∧ n ≤ b := by
  simp only [Lit.wf, Bool.and_eq_true, decide_eq_true_eq] at h
  omega

end Go.Proofs.YtpcipdkoncmdcaaGreatDoor
namespace Go.Proofs.YtpcipdkoncmdcaaGreatDoor
open Go Go.ChangeShapes Go.WideShapes Go.ChangeAt Go.RowKit
theorem i64_wf {n : Int} (h : (Lit.int .i64 n).wf = true) : -9223372036854775808 ≤ n ∧ n ≤ 9223372036854775807 := int_wf h (by decide) (by decide)

end Go.Proofs.YtpcipdkoncmdcaaGreatDoor
