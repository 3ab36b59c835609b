/- Texts of mine, joined: A pack's calls that came in, opened; what the law PackPlays knows. | Walks of the reference's path functions, second part (for seats without Compare). | Walks over the document's answer: Create. -/
import Derived.BigQuiet
import Derived.Deep.QuietTactic
import Derived.Test.YtfoamcobpfflbaaDoorZ49
namespace Go.Proofs.YtfoamcobpfflbaaDoor
open Go Go.ChangeShapes Go.WideShapes Go.ChangeAt Go.RowKit
open VfsS (St)

/-- One call. -/
structure OpQ where
  kind : Int
  da : Option Addr
  dc : Nat
  data : List Nat
  n : Int
  m : Int
instance : Inhabited OpQ := ⟨⟨0, none, 0, [], 0, 0⟩⟩
def opqCells (o : OpQ) : Array Value := #[.int .i64 o.kind, .slice o.da o.data.length o.dc, .int .i64 o.n, .int .i64 o.m]
structure OpQR (W : World) (o : OpQ) (b : Nat) : Prop where
  sl : Sl W o.da (nb o.data)
  lt : ∀ x ∈ o.data, x < 256
  len : o.data.length < b
  cap : CapOk o.da o.data.length o.dc
theorem OpQR.mono {W : World} (o : OpQ) (a b : Nat) (hab : a ≤ b) (h : OpQR W o a) : OpQR W o b := ⟨h.sl, h.lt, by have := h.len; omega, h.cap⟩
theorem OpQR.below {W W' : World} {o : OpQ} {b : Nat} (h : OpQR W o b) (hb : Below W.heap.size W W') : OpQR W' o b := ⟨h.sl.below hb, h.lt, h.len, h.cap⟩

theorem len4 {α : Type} {l : List α} (h : l.length = 4) : ∃ a b c d, l = [a, b, c, d] := by
  match l, h with
  | [a, b, c, d], _ => exact ⟨a, b, c, d, rfl⟩

set_option maxRecDepth 100000 in
theorem opn_opq {H : Type} {enc : TypeId × Value → H} {W : World} : Opn enc Tryd.prog W 45 OpQ (fun o => (opqCells o).toList) (OpQR W) := by
  intro n cs x h
  obtain ⟨xs, m, -, hx, hl, hxl, hf⟩ := DataW.trod_struct Tryd.underlying45 h
  obtain ⟨a0, a1, a2, a3, rfl⟩ := len4 (hl.trans (by kernel_rfl))
  obtain ⟨x0, x1, x2, x3, rfl⟩ := len4 hxl
  obtain ⟨k, e0, -⟩ := opn_i64 (W := W) Tryd.underlying3 m _ x0 (hf 0 _ rfl)
  obtain ⟨⟨a, c, d⟩, e1, b1, b1', b1''⟩ := opn_bytes2 (W := W) Tryd.underlying43 (by kernel_rfl) Tryd.underlying5 m _ x1 (hf 1 _ rfl)
  obtain ⟨p, e2, -⟩ := opn_i64 (W := W) Tryd.underlying3 m _ x2 (hf 2 _ rfl)
  obtain ⟨q, e3, -⟩ := opn_i64 (W := W) Tryd.underlying3 m _ x3 (hf 3 _ rfl)
  obtain rfl := (List.cons.inj e0).1
  obtain rfl := (List.cons.inj e1).1
  obtain rfl := (List.cons.inj e2).1
  obtain rfl := (List.cons.inj e3).1
  have hb : Rows.uptoBulk x.1 = Rows.uptoBulk x0.1 + (Rows.uptoBulk x1.1 + (Rows.uptoBulk x2.1 + (Rows.uptoBulk x3.1 + 0))) + 1 := by
    rw [hx]; simp only [Rows.uptoBulk, Rows.uptoBulkAll, List.map_cons, List.map_nil]
  refine ⟨⟨k, a, c, bl d, p, q⟩, ?_, by rw [← nb_ba]; exact b1, bl_lt d, ?_, ?_⟩
  · show _ = [Value.int .i64 k, .slice a (bl d).length c, .int .i64 p, .int .i64 q]
    rw [bl_len]
  · show (bl d).length < _
    rw [bl_len]; simp only at b1'; omega
  · show CapOk a (bl d).length c
    rw [bl_len]; exact b1''

def opqRow (l : List OpQ) : List Value := l.flatMap fun o => (opqCells o).toList

set_option maxRecDepth 100000 in
theorem open_opqs {H : Type} {enc : TypeId × Value → H} {W : World} {base : Nat} {v : Value} {d : DataW H} {p : List MemPlace} (hv : Value.okWide Tryd.prog W .any base 22 v)
    (h : DataW.Trod enc Tryd.prog W 0 (fun _ => true) true 22 v d p) (hk : Rows.uptoBulk d ≤ 1048576) :
    ∃ (a : Option Addr) (c : Nat) (os : List OpQ), v = .slice a os.length c ∧ Sl W a (opqRow os) ∧ os.length ≤ 1048576 ∧ ∀ o ∈ os, OpQR W o 1048576 := by
  obtain ⟨a0, len, cap, rfl⟩ := okWide_slice Tryd.underlying22 hv
  obtain ⟨⟨a, c, l⟩, e, h1, -, h3, -, h5⟩ := (opn_slice (enc := enc) (W := W) Tryd.underlying22 (k := 4) (by kernel_rfl) (by decide) OpQR.mono (fun _ => 0) (fun _ _ _ => Nat.zero_le _) opn_opq).arg h
  have e := (List.cons.inj e).1
  exact ⟨a, c, l, e, h1, by simp only at h3; omega, fun o ho => OpQR.mono o _ _ hk (h5 o ho)⟩

/-- A call's cells in the script. -/
theorem opq_at {W : World} {a : Option Addr} {os : List OpQ} (h : Sl W a (opqRow os)) {i : Nat} (hi : i < os.length) : ∃ b o, a = some ⟨b, o, none⟩ ∧ b < W.heap.size ∧ W.rangeAt b (o + i * 4) (opqCells os[i]).toList := by
  have hlen : (opqRow os).length = os.length * 4 := flat_len (fun o => (opqCells o).toList) 4 os (fun y _ => rfl)
  obtain ⟨b, o, e, hb, hc⟩ := h.at (k := i * 4) (by omega)
  refine ⟨b, o, e, hb, fun j u hu => ?_⟩
  have hj : j < 4 := (List.getElem?_eq_some_iff.1 hu).1
  have h1 := flat_at (fun o => (opqCells o).toList) 4 os (fun y _ => rfl) i hi j hj
  rw [hu] at h1
  obtain ⟨hlt, h2⟩ := List.getElem?_eq_some_iff.1 h1
  have := hc (i * 4 + j) hlt
  rw [Nat.add_assoc]
  rw [this]
  exact congrArg some h2

/-- What is known of records whose frames are a file. -/
theorem PackS.Tied.few {S : St} {P : PackS.Pk} {nm : ByteArray} {L : List (List Nat)} (h : PackS.Tied S P nm L) (hw : VfsS.Wf S) : L.length ≤ 400000 := by
  obtain ⟨t, ht, hf⟩ := h.read
  have h1 := read_size hw ht
  have h2 := PackS.frames_ge L
  rw [← hf, bl_len] at h2
  omega
end Go.Proofs.YtfoamcobpfflbaaDoor
namespace Go.Proofs.YtfoamcobpfflbaaDoor
open Go Go.RowKit

theorem okB_of {c : UInt8} (h : ((c.toNat : Int) < 32 ∨ ((c.toNat : Int) == 127) = true) ∨ ((c.toNat : Int) == 47) = true) : PathS.okB c = false := by
  unfold PathS.okB
  simp only [UInt8.lt_iff_toNat_lt]
  rcases h with (h | h) | h
  · have : c.toNat < 32 := by omega
    simp [this]
  · have : c = 127 := by rw [show (127 : Int) = ((127 : UInt8).toNat : Int) from rfl, byte_eq] at h; simpa using h
    subst this; decide
  · have : c = 47 := by rw [show (47 : Int) = ((47 : UInt8).toNat : Int) from rfl, byte_eq] at h; simpa using h
    subst this; decide
theorem okB_not {c : UInt8} (h1 : 32 ≤ (c.toNat : Int)) (h2 : ((c.toNat : Int) == 127) = false) (h3 : ((c.toNat : Int) == 47) = false) : PathS.okB c = true := by
  unfold PathS.okB
  simp only [UInt8.lt_iff_toNat_lt]
  have h4 : ¬ c.toNat < 32 := by omega
  rw [show (127 : Int) = ((127 : UInt8).toNat : Int) from rfl, byte_eq] at h2
  rw [show (47 : Int) = ((47 : UInt8).toNat : Int) from rfl, byte_eq] at h3
  simp at h2 h3
  simp [h2, h3]
  omega

theorem okB_cases (c : UInt8) : ((c.toNat : Int) < 32 ∧ Hid (PathS.okB c = false)) ∨ (32 ≤ (c.toNat : Int) ∧ ((c.toNat : Int) == 127) = true ∧ Hid (PathS.okB c = false)) ∨ (32 ≤ (c.toNat : Int) ∧ ((c.toNat : Int) == 127) = false ∧ ((c.toNat : Int) == 47) = true ∧ Hid (PathS.okB c = false)) ∨ (32 ≤ (c.toNat : Int) ∧ ((c.toNat : Int) == 127) = false ∧ ((c.toNat : Int) == 47) = false ∧ Hid (PathS.okB c = true)) := by
  by_cases h1 : (c.toNat : Int) < 32
  · exact .inl ⟨h1, okB_of (.inl (.inl h1))⟩
  · cases h2 : ((c.toNat : Int) == 127)
    · cases h3 : ((c.toNat : Int) == 47)
      · exact .inr (.inr (.inr ⟨by omega, rfl, rfl, okB_not (by omega) h2 h3⟩))
      · exact .inr (.inr (.inl ⟨by omega, rfl, rfl, okB_of (.inr h3)⟩))
    · exact .inr (.inl ⟨by omega, rfl, okB_of (.inl (.inr h2))⟩)

set_option maxRecDepth 100000 in
set_option maxHeartbeats 400000 in
theorem ref_name (s : ByteArray) (w : World) (hs : s.size ≤ 10000000) :
    Calls Tryd.prog 86 #[.string s] w fun e w' => e = .returned (.bool (PathS.name s)) ∧ w = w' := by
  have HN := Lib.hid (@PathS.name_no s)
  have HM := Lib.hid (@PathS.name_rest s)
  go_enter Tryd.func86, Tryd.ntmps86
  go_wp2_with fail
  all_goals simp only [Lib.toList_data] at *
  · go_ret; exact ⟨ret_bool (HN.out (.inl ‹_›)), rfl⟩
  · go_ret; exact ⟨ret_bool (HN.out (.inr (.inl ‹_›))), rfl⟩
  · go_ret; exact ⟨ret_bool (HN.out (.inr (.inr (.inl ‹_›)))), rfl⟩
  · have h5 : 64 < s.data.toList.length := by
      rw [← Lib.size_eq]
      rcases (by assumption : ((s.data.toList.isEmpty = true ∨ (s.data.toList == [46]) = true) ∨ (s.data.toList == [46, 46]) = true) ∨ 64 < (s.size : Int)) with ((h | h) | h) | h
      · exact absurd (List.isEmpty_iff.1 h) ‹_›
      · exact absurd (beq_iff_eq.1 h) ‹_›
      · exact absurd (beq_iff_eq.1 h) ‹_›
      · omega
    go_ret; exact ⟨ret_bool (HN.out (.inr (.inr (.inr h5)))), rfl⟩
  · have h6 := (by assumption : ((s.data.toList.isEmpty = false ∧ (s.data.toList == [46]) = false) ∧ (s.data.toList == [46, 46]) = false) ∧ (s.size : Int) ≤ 64).2
    have HR := Lib.hid (HM.out ‹_› ‹_› ‹_› (by rw [← Lib.size_eq]; omega))
    have hs : s.size ≤ 64 := by omega
    go_loop [3] (fun i => ∃ k : Nat, k ≤ s.size ∧ i = .int .i64 k ∧ Hid (PathS.name s = (s.data.toList.drop k).all PathS.okB)) (fun i => s.size - (intOf i).toNat)
    case atStart => exact ⟨0, by omega, rfl, HR⟩
    case round =>
      obtain ⟨k, hk, rfl, HP⟩ := hrel
      clear HN HM HR
      by_cases hlt : k < s.size
      · have HD := Lib.hid (PathS.drop_at s k hlt)
        rcases okB_cases s[k] with ⟨h1, HB⟩ | ⟨h1, h2, HB⟩ | ⟨h1, h2, h3, HB⟩ | ⟨h1, h2, h3, HB⟩
        · go_wp2_with fail
          go_ret; exact ⟨ret_bool (by rw [HP.out, HD.out, List.all_cons, HB.out]; rfl), rfl⟩
        · go_wp2_with fail
          go_ret; exact ⟨ret_bool (by rw [HP.out, HD.out, List.all_cons, HB.out]; rfl), rfl⟩
        · go_wp2_with fail
          go_ret; exact ⟨ret_bool (by rw [HP.out, HD.out, List.all_cons, HB.out]; rfl), rfl⟩
        · go_wp2_with fail
          go_round
          case rel => exact ⟨k + 1, by omega, by go_num, by show _ = _; rw [HP.out, HD.out, List.all_cons, HB.out]; rfl⟩
          case measure => simp [intOf]; omega
      · go_wp2_with fail
        go_ret
        refine ⟨ret_bool ?_, rfl⟩
        rw [HP.out, List.drop_eq_nil_of_le (by rw [← Lib.size_eq]; omega)]; rfl

theorem split_len (s : ByteArray) : (PathS.split s).length ≤ s.size + 1 := by
  unfold PathS.split; split
  · simp
  · exact PathS.splitTo_len s (s.size + 1)

set_option maxRecDepth 100000 in
set_option maxHeartbeats 400000 in
theorem ref_check (s : ByteArray) (w : World) (hs : s.size ≤ 10000000) :
    Calls Tryd.prog 58 #[.string s] w fun e w' => e = .returned (.int .i64 (PathS.check s)) ∧ Below w.heap.size w w' := by
  have hpl := split_len s
  have HC : Hid (PathS.check s = if 255 < s.size ∨ 16 < (PathS.split s).length then 2 else if (PathS.split s).all PathS.name then (if (PathS.split s).length = 0 then 50 else 0) else 50) := by show _ = _; rfl
  have hpz : ∀ x ∈ PathS.split s, x.size ≤ 10000000 := by
    intro x hx
    rw [PathS.split_spl] at hx
    have := PathS.spl_size s x hx
    omega
  go_enter Tryd.func58, Tryd.ntmps58
  go_wp2_with fail
  refine (ref_split s w hs).mono ?_
  rintro e w1 ⟨v, rfl, hb, hown⟩
  obtain ⟨a, c, rfl, -, -, hsl⟩ := own_sl hown
  clear hown
  generalize PathS.split s = l at *
  have HZ := Lib.hid hpz
  clear hpz
  by_cases h1 : 255 < s.size
  · have g1 : decide (255 < (s.size : Int)) = true := by simp; omega
    go_wp2_with fail
    go_ret
    exact ⟨ret_i64 (by rw [HC.out, if_pos (.inl h1)]), hb⟩
  · have g1 : decide (255 < (s.size : Int)) = false := by simp; omega
    by_cases h2 : 16 < l.length
    · have g2 : decide (16 < (l.length : Int)) = true := by simp; omega
      go_wp2_with fail
      go_ret
      exact ⟨ret_i64 (by rw [HC.out, if_pos (.inr h2)]), hb⟩
    · have g2 : decide (16 < (l.length : Int)) = false := by simp; omega
      go_wp2_with fail
      go_loop [4] (fun i => ∃ k : Nat, k ≤ l.length ∧ i = .int .i64 k ∧ Hid ((l.take k).all PathS.name = true)) (fun i => l.length - (intOf i).toNat)
      case atStart => exact ⟨0, by omega, rfl, by show _ = _; rfl⟩
      case round =>
        obtain ⟨k, hk, rfl, HP⟩ := hrel
        by_cases hlt : k < l.length
        · obtain ⟨b, o, rfl, hbl, hc⟩ := hsl.at (k := k) (by simpa using hlt)
          have hcell : w1.cell? ⟨b, o + k, none⟩ = some (.string l[k]) := by rw [hc k (by simpa using hlt), List.getElem_map]
          clear hc
          have hsz := HZ.out _ (List.getElem_mem hlt)
          have HT := Lib.hid (show l.take (k + 1) = l.take k ++ [l[k]] from List.take_succ_eq_append_getElem hlt)
          cases hn : PathS.name l[k]
          · have HN := Lib.hid hn; clear hn
            have HA : Hid (l.all PathS.name = false) := by
              show _ = _
              rw [Bool.eq_false_iff]; intro h; have := List.all_eq_true.1 h l[k] (List.getElem_mem hlt); rw [HN.out] at this; cases this
            go_wp2_with (go_at_call 86; refine (ref_name _ _ hsz).mono ?_; rw [HN.out]; rintro e w2 ⟨rfl, rfl⟩)
            go_ret
            exact ⟨ret_i64 (by rw [HC.out, if_neg (by omega), HA.out]; rfl), hb⟩
          · have HN := Lib.hid hn; clear hn
            go_wp2_with (go_at_call 86; refine (ref_name _ _ hsz).mono ?_; rw [HN.out]; rintro e w2 ⟨rfl, rfl⟩)
            go_round
            case rel => exact ⟨k + 1, by omega, by go_num, by show _ = _; rw [HT.out, List.all_append, HP.out]; simp [HN.out]⟩
            case measure => simp [intOf]; omega
        · have HA : Hid (l.all PathS.name = true) := by
            show _ = _; have := HP.out; rwa [List.take_of_length_le (by omega)] at this
          by_cases h0 : l.length = 0
          · have g0 : ((l.length : Int) == 0) = true := by rw [h0]; rfl
            go_wp2_with fail
            go_ret
            exact ⟨ret_i64 (by rw [HC.out, if_neg (by omega), HA.out, if_pos rfl, if_pos h0]), hb⟩
          · have g0 : ((l.length : Int) == 0) = false := beq_eq_false_iff_ne.2 (by omega)
            go_wp2_with fail
            go_ret
            exact ⟨ret_i64 (by rw [HC.out, if_neg (by omega), HA.out, if_pos rfl, if_neg h0]), hb⟩

end Go.Proofs.YtfoamcobpfflbaaDoor
namespace Go.Proofs.YtfoamcobpfflbaaDoor
open Go Go.RowKit
open VfsS (File Chg Nm St find doL)

theorem _root_.Go.Proofs.YtfoamcobpfflbaaDoor.VfsS.Wf.more {S : St} (h : VfsS.Wf S) : VfsS.Wf { S with files := S.files ++ [⟨ByteArray.empty, 0⟩] } where
  idx i hi := by
    have := h.idx i hi
    show i < (S.files ++ [_]).length
    rw [List.length_append]; omega
  dn := h.dn
  ds := h.ds
  zn := h.zn
  zs := h.zs
  za := h.za
  dur f hf := by
    rcases List.mem_append.1 hf with hf | hf
    · exact h.dur f hf
    · rw [List.mem_singleton] at hf; subst hf; exact ⟨Nat.le_refl _, by decide⟩
  room := h.room
  lim := h.lim

section
variable {E E' : Nat → Prop} {w w' : World} {S : St} {N : Nat} {cs : Array Value}

set_option maxRecDepth 100000 in
set_option maxHeartbeats 1000000 in
theorem rcreate_r (h : RR E w cs S N) (s : ByteArray) (hs : s.size ≤ 10000000) (hN : N + 3 ≤ 40000000) :
    Calls Tryd.prog 17 #[.agg cs, .string s] w fun e w' => ∃ cs', e = .returned (.tuple #[.agg cs', .int .i64 (VfsS.createS S s).2]) ∧ RR (Ku E w.heap.size) w' cs' (VfsS.createS S s).1 (N + 3) ∧ Below w.heap.size w w' := by
  have h0 := h
  obtain ⟨fa, na, sa, aa, fc, nc, sc, ac, rfl, hx⟩ := h
  have hone := h0.one
  have hT : TB w ((w.alloc (.cells #[.slice fa S.files.length fc, .slice na S.now.length nc, .slice sa S.sure.length sc, .slice aa S.acts.length ac, .int .i64 S.room, .int .i64 S.steps, .int .i64 S.limit] 36)).alloc (.cells #[.slice none 0 0, .slice none 0 0, .slice none 0 0, .slice none 0 0, .int .i64 0, .int .i64 0, .int .i64 0] 36)) w.heap.size (w.heap.size + 1) (rcells S fa na sa aa fc nc sc ac) fs0 := TB.start w _ _
  show Calls _ _ #[.agg #[.slice fa S.files.length fc, .slice na S.now.length nc, .slice sa S.sure.length sc, .slice aa S.acts.length ac, .int .i64 S.room, .int .i64 S.steps, .int .i64 S.limit], .string s] _ _
  have HFF := Lib.hid (fun (wc : World) (hbc : Below ((w.alloc (.cells #[.slice fa S.files.length fc, .slice na S.now.length nc, .slice sa S.sure.length sc, .slice aa S.acts.length ac, .int .i64 S.room, .int .i64 S.steps, .int .i64 S.limit] 36)).alloc (.cells #[.slice none 0 0, .slice none 0 0, .slice none 0 0, .slice none 0 0, .int .i64 0, .int .i64 0, .int .i64 0] 36)).heap.size ((w.alloc (.cells #[.slice fa S.files.length fc, .slice na S.now.length nc, .slice sa S.sure.length sc, .slice aa S.acts.length ac, .int .i64 S.room, .int .i64 S.steps, .int .i64 S.limit] 36)).alloc (.cells #[.slice none 0 0, .slice none 0 0, .slice none 0 0, .slice none 0 0, .int .i64 0, .int .i64 0, .int .i64 0] 36)) wc) => rfind_c (w := wc) ((hx.n.below hT.below).below hbc) (by have := hx.ln; have := hx.big; omega) s)
  have HCK := Lib.hid (ref_check s ((w.alloc (.cells #[.slice fa S.files.length fc, .slice na S.now.length nc, .slice sa S.sure.length sc, .slice aa S.acts.length ac, .int .i64 S.room, .int .i64 S.steps, .int .i64 S.limit] 36)).alloc (.cells #[.slice none 0 0, .slice none 0 0, .slice none 0 0, .slice none 0 0, .int .i64 0, .int .i64 0, .int .i64 0] 36)) hs)
  go_enter Tryd.func17, Tryd.ntmps17
  go_upto_region 1 with fail
  generalize (w.alloc (.cells #[.slice fa S.files.length fc, .slice na S.now.length nc, .slice sa S.sure.length sc, .slice aa S.acts.length ac, .int .i64 S.room, .int .i64 S.steps, .int .i64 S.limit] 36)).alloc (.cells #[.slice none 0 0, .slice none 0 0, .slice none 0 0, .slice none 0 0, .int .i64 0, .int .i64 0, .int .i64 0] 36) = W at *
  have hrW := h0.below hT.below
  have hwf := hx.wf
  have HSTEP := Lib.hid (fun (wc : World) (hbc : Below W.heap.size W wc) => rstep_r (hrW.below hbc) (by omega))
  clear hx
  by_cases hck : PathS.check s = 0
  · rw [hck] at HCK
    cases hf : find S.now s with
    | some i =>
      have HS : Hid (VfsS.createS S s = (S, 5)) := by show _ = _; unfold VfsS.createS; rw [hf]; simp only [hck, ne_eq, not_true, if_false, Option.isSome_some, if_true]
      rw [hf] at HFF
      have HF : Hid (∀ wc, Below W.heap.size W wc → Calls Tryd.prog 59 #[.slice na S.now.length nc, .string s] wc fun e w' => e = .returned (.int .i64 (i : Int)) ∧ w' = wc) := HFF.out
      have hd : decide ((i : Int) ≥ 0) = true := decide_eq_true (by omega)
      clear hf HFF hck
      go_wp2_with (first | (go_at_call 59; refine (HF.out _ (by assumption)).mono ?_; rintro e w' ⟨rfl, rfl⟩) | (go_at_call 58; refine HCK.out.mono ?_; rintro e wc ⟨rfl, hbc⟩; have hTc := hT.to hbc; have hrc := hrW.below hbc; have c1 : wc.cell? ⟨w.heap.size, 1, none⟩ = some (.slice na S.now.length nc) := hTc.c 1 rfl) | (refine wp_load0 hT2 rfl _ rfl rfl hs1 ?_) | (refine wp_load0 hTc rfl _ rfl rfl rfl ?_) | (refine wp_load0 hT rfl _ rfl rfl rfl ?_) | (refine wp_store1 hTc rfl _ _ rfl rfl rfl rfl rfl hone ?_; intro w4 hT4 hg4; have hr4 := hrc.in1 hTc hg4))
      (try simp only [Exit.inBlock, Exit.then])
      refine bodyPost_ret (hT4.ret2 rfl rfl _ rfl) rfl ?_
      rw [HS.out]
      exact ⟨_, rfl, (hr4.up _).mono (by omega) hN, hT4.below⟩
    | none =>
      rw [hf] at HFF
      have HF : Hid (∀ wc, Below W.heap.size W wc → Calls Tryd.prog 59 #[.slice na S.now.length nc, .string s] wc fun e w' => e = .returned (.int .i64 (-1)) ∧ w' = wc) := HFF.out
      by_cases hl : S.limit = 0
      · have HS : Hid (VfsS.createS S s = (S, 190)) := by show _ = _; unfold VfsS.createS; rw [hf]; simp only [hck, ne_eq, not_true, if_false, Option.isSome_none, Bool.false_eq_true, if_pos hl]
        have HT : Hid (VfsS.stepS S = S) := by show _ = _; unfold VfsS.stepS; rw [if_pos hl]
        rw [limB hl] at HSTEP
        clear hf HFF hck hl
        go_wp2_with (first | (go_at_call 59; refine (HF.out _ (by assumption)).mono ?_; rintro e w' ⟨rfl, rfl⟩) | (go_at_call 58; refine HCK.out.mono ?_; rintro e wc ⟨rfl, hbc⟩; have hTc := hT.to hbc; have hrc := hrW.below hbc; have c1 : wc.cell? ⟨w.heap.size, 1, none⟩ = some (.slice na S.now.length nc) := hTc.c 1 rfl) | (go_at_call 60; refine (HSTEP.out _ (by assumption)).mono ?_; rintro e w1 ⟨cs1, rfl, hr1, hb1⟩; have hT1 := hTc.to hb1; have hs1 := hr1.size; have ho1 := hr1.one) | (refine wp_store0 hT1 rfl _ _ rfl rfl rfl rfl hs1 ho1 ?_; intro w2 hT2 hg2; have hr2 := hr1.in0 hT1 hg2) | (refine wp_load0 hT2 rfl _ rfl rfl hs1 ?_) | (refine wp_load0 hTc rfl _ rfl rfl rfl ?_) | (refine wp_load0 hT rfl _ rfl rfl rfl ?_) | (refine wp_store1 hT2 rfl _ _ rfl rfl rfl rfl hs1 ho1 ?_; intro w4 hT4 hg4; have hr4 := hr2.in1 hT2 hg4))
        (try simp only [Exit.inBlock, Exit.then])
        refine bodyPost_ret (hT4.ret2 hs1 rfl _ rfl) rfl ?_
        rw [HS.out]
        rw [HT.out] at hr4
        exact ⟨_, rfl, (hr4.up _).mono (by omega) hN, hT4.below⟩
      · have HS : Hid (VfsS.createS S s = (VfsS.changeS { VfsS.stepS S with files := (VfsS.stepS S).files ++ [⟨ByteArray.empty, 0⟩] } ⟨ByteArray.empty, s, some (VfsS.stepS S).files.length⟩, 0)) := by show _ = _; unfold VfsS.createS; rw [hf, VfsS.stepS_files]; simp only [hck, ne_eq, not_true, if_false, Option.isSome_none, Bool.false_eq_true, if_neg hl]
        rw [limA hl] at HSTEP
        clear hf HFF hck hl
        go_upto_region 9 with (first | (go_at_call 59; refine (HF.out _ (by assumption)).mono ?_; rintro e w' ⟨rfl, rfl⟩) | (go_at_call 58; refine HCK.out.mono ?_; rintro e wc ⟨rfl, hbc⟩; have hTc := hT.to hbc; have hrc := hrW.below hbc; have c1 : wc.cell? ⟨w.heap.size, 1, none⟩ = some (.slice na S.now.length nc) := hTc.c 1 rfl) | (go_at_call 60; refine (HSTEP.out _ (by assumption)).mono ?_; rintro e w1 ⟨cs1, rfl, hr1, hb1⟩; have hT1 := hTc.to hb1; have hs1 := hr1.size; have ho1 := hr1.one) | (refine wp_store0 hT1 rfl _ _ rfl rfl rfl rfl hs1 ho1 ?_; intro w2 hT2 hg2; have hr2 := hr1.in0 hT1 hg2) | (refine wp_load0 hT2 rfl _ rfl rfl hs1 ?_) | (refine wp_load0 hTc rfl _ rfl rfl rfl ?_) | (refine wp_load0 hT rfl _ rfl rfl rfl ?_))
        have hr2' := hr2
        have hwf2 := hr2.wf.more
        generalize VfsS.stepS S = T at *
        obtain ⟨fa1, na1, sa1, aa1, fc1, nc1, sc1, ac1, e1, hx1⟩ := hr2'
        subst e1
        have hbA : Below w2.heap.size w2 (w2.alloc (.cells #[] 119)) := (Below.refl _ w2).alloc (Nat.le_refl _) _
        have c0' : (w2.alloc (.cells #[] 119)).cell? ⟨w.heap.size, 0, none⟩ = some (.slice fa1 T.files.length fc1) := (hT2.to hbA).c 0 rfl
        have hsrc := src_ownG (P := Tryd.prog) (tx := 32) Tryd.underlying32 (hx1.f.alloc (.cells #[] 119)) (one_files _)
        have hlf := hx1.lf
        have hmx : 0 + T.files.length ≤ maxLen := by rw [show maxLen = 9223372036854775807 from rfl]; omega
        have hby : (0 + T.files.length) * 24 ≤ 140737488355328 := by omega
        have hwr : IntKind.i64.wrap ((T.files.length : Int) + 1 - 1) = (T.files.length : Int) := by rw [IntWalk.i64_in _ (by omega)]; omega
        have hwr2 : IntKind.i64.wrap (((T.files.length + 1 : Nat) : Int) - 1) = (T.files.length : Int) := by rw [IntWalk.i64_in _ (by omega)]; omega
        go_upto_region 10 with (at_builtin; refine wp_appG rfl _ _ _ _ rfl fileElem rfl rfl (OwnG.empty _ _ _) rfl hsrc hmx hby ?_; intro v3 w3 hp3 hg3 hv3)
        have hb3 : Below w2.heap.size w2 w3 := hbA.grown hg3 (by simp) (fun k e => by have e : some w2.heap.size = some k := e; injection e with e; omega)
        have hv3' : ∀ k, v3.ownBlock = some k → w2.heap.size ≤ k := fun k hk => by
          rcases hv3 k hk with e | e
          · have e : some w2.heap.size = some k := e; injection e with e; omega
          · simp at e; omega
        clear hsrc hmx hby c0' hg3 hv3 hbA
        have hsn := Src.ofNew (P := Tryd.prog) (w := w3) (tx := 32) (e := 119) Tryd.underlying32 (show [Value.string ByteArray.empty, Value.int .i64 0].length = 2 from rfl) (by intro u hu; simp at hu; rcases hu with rfl | rfl <;> rfl)
        have hmx2 : 0 + T.files.length + 1 ≤ maxLen := by rw [show maxLen = 9223372036854775807 from rfl]; omega
        have hby2 : (0 + T.files.length + 1) * 24 ≤ 140737488355328 := by omega
        go_upto_region 11 with (at_builtin; refine wp_appG rfl _ _ _ _ rfl fileElem rfl rfl (hp3.alloc _) rfl hsn hmx2 hby2 ?_; intro v4 w4 hp4 hg4 hv4; obtain ⟨ba, bc, rfl, hbc, hbm, hbs⟩ := hp4.form; have hb4 : Below w2.heap.size w2 w4 := ((hb3.alloc hb3.size _).grown hg4 (by have := hb3.size; simp; omega) hv3'); have hT4 := hT2.to hb4; have z0 := hT4.f 0; have k0 : w4.cell? ⟨w.heap.size, 0, none⟩ = some (.slice fa1 T.files.length fc1) := hT4.c 0 rfl)
        rw [Nat.zero_add] at hp4 hv4
        have hv4' : ∀ k, (Value.slice ba (T.files.length + 1) bc).ownBlock = some k → w2.heap.size ≤ k := fun k hk => by
          rcases hv4 k (by simpa using hk) with e | e
          · exact hv3' k e
          · have := hb3.size; simp at e; omega
        obtain ⟨hT5, hg5⟩ := hT4.set0 0 (.slice ba (T.files.length + 1) bc)
        have hlen : (T.files ++ [(⟨ByteArray.empty, 0⟩ : File)]).length = T.files.length + 1 := by simp
        have hr4 : RR (Ku E w.heap.size) w4 ((rcells T fa1 na1 sa1 aa1 fc1 nc1 sc1 ac1).setIfInBounds 0 (.slice ba (T.files.length + 1) bc)) { T with files := T.files ++ [⟨ByteArray.empty, 0⟩] } (N + 2) := by
          have hx4 := hx1.below hb4
          have hln := hx1.ln
          have hla := hx1.la
          have hst := hx1.st
          refine ⟨ba, na1, sa1, aa1, bc, nc1, sc1, ac1, ?_, ?_⟩
          · unfold rcells; simp only [hlen]; rfl
          · exact { f := by show OwnG w4 _ 2 (.slice ba (T.files ++ [_]).length bc) (T.files ++ [_]).length _; rw [hlen, flrow_append]; simpa [flrow] using hp4
                    n := hx4.n, s := hx4.s, a := hx4.a
                    kf := fun k hk => .inr (by have := hv4' k (by rw [← hlen]; exact hk); have := hT2.below.size; omega)
                    kn := fun k hk => .inl (hx1.kn k hk), ks := fun k hk => .inl (hx1.ks k hk), ka := fun k hk => .inl (hx1.ka k hk)
                    wf := hwf2, lf := by show (T.files ++ [_]).length ≤ N + 2; rw [hlen]; omega
                    ln := by show T.now.length ≤ N + 2; omega
                    la := by show T.sure.length + T.acts.length ≤ N + 2; omega
                    st := by show T.steps ≤ N + 2; omega
                    big := by omega, lim := hx1.lim }
        have hr5 := hr4.in0 hT4 hg5
        have HCH := Lib.hid (rchange_r hr5 ⟨ByteArray.empty, s, some T.files.length⟩ (by intro i hi; injection hi with hi; subst hi; show T.files.length < (T.files ++ [_]).length; rw [hlen]; omega) (show ByteArray.empty.size ≤ 10000000 by decide) hs (by omega))
        have d0 := hT5.c 0 (x := .slice ba (T.files.length + 1) bc) rfl
        clear hwf2 hp3 hp4 hv4 hv4' hg4 hsn hbs hlen
        generalize w4.setCell ⟨w.heap.size, 0, none⟩ (.slice ba (T.files.length + 1) bc) = w5 at *
        go_wp2_with (first | (refine wp_load0 hT5 rfl _ rfl rfl rfl ?_) | (go_at_call 61; refine HCH.out.mono ?_; rintro e w3 ⟨cs3, rfl, hr3, hb3⟩; have hT3 := hT5.to hb3; have hs3 := hr3.size; have ho3 := hr3.one) | (refine wp_store1 hT3 rfl _ _ rfl rfl rfl rfl hs3 ho3 ?_; intro w4 hT4 hg4; have hr4 := hr3.in1 hT3 hg4))
        (try simp only [Exit.inBlock, Exit.then])
        refine bodyPost_ret (hT4.ret2 hs3 rfl _ rfl) rfl ?_
        rw [HS.out]
        exact ⟨_, rfl, hr4.sub (fun k hk _ => hk.elim id (fun h => .inr (by have := hT5.below.size; omega))), hT4.below⟩
  · have HS : Hid (VfsS.createS S s = (S, PathS.check s)) := by show _ = _; unfold VfsS.createS; rw [if_pos hck]
    have d1 : (PathS.check s == 0) = false := by rw [beq_eq_false_iff_ne]; exact hck
    have d2 : (PathS.check s != 0) = true := by rw [bne_iff_ne]; exact hck
    clear hck
    generalize PathS.check s = ck at *
    go_wp2_with (first | (go_at_call 58; refine HCK.out.mono ?_; rintro e wc ⟨rfl, hbc⟩; have hTc := hT.to hbc; have hrc := hrW.below hbc; have c1 : wc.cell? ⟨w.heap.size, 1, none⟩ = some (.slice na S.now.length nc) := hTc.c 1 rfl) | (refine wp_load0 hT2 rfl _ rfl rfl hs1 ?_) | (refine wp_load0 hTc rfl _ rfl rfl rfl ?_) | (refine wp_load0 hT rfl _ rfl rfl rfl ?_) | (refine wp_store1 hTc rfl _ _ rfl rfl rfl rfl rfl hone ?_; intro w4 hT4 hg4; have hr4 := hrc.in1 hTc hg4))
    (try simp only [Exit.inBlock, Exit.then])
    refine bodyPost_ret (hT4.ret2 rfl rfl _ rfl) rfl ?_
    rw [HS.out]
    exact ⟨_, rfl, (hr4.up _).mono (by omega) hN, hT4.below⟩
end
end Go.Proofs.YtfoamcobpfflbaaDoor
