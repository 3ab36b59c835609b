/- Texts of mine, joined: Walks: a blob's text, by the document, as a source. | How much a weaving tells at most. No program in sight. -/
import Derived.Test.YtpcipdkoncmdcaaGreatDoorYJoinApart13
namespace Go.Proofs.YtpcipdkoncmdcaaGreatDoor
open Go Go.RowKit
/-- A blob of the document. -/
structure Bl where
  id : List Nat
  text : ByteArray
  bad : Int
def blC (b : Bl) : List Value := nb b.id ++ [.string b.text, .int .i64 b.bad]
def blR (l : List Bl) : List Value := l.flatMap blC
structure OkBl (b : Bl) : Prop where
  id : OkId b.id
  bad : -9223372036854775808 ≤ b.bad ∧ b.bad ≤ 9223372036854775807
theorem blC_len {b : Bl} (h : OkBl b) : (blC b).length = 34 := by simp [blC, nb_len, h.id.1]
theorem blR_len : ∀ {l : List Bl}, (∀ b ∈ l, OkBl b) → (blR l).length = l.length * 34
  | [], _ => rfl
  | b :: l, h => by
    show (blC b ++ blR l).length = _
    rw [List.length_append, blC_len (h b (by simp)), blR_len (fun x hx => h x (by simp [hx])), List.length_cons]; omega
theorem blR_get : ∀ {l : List Bl}, (∀ b ∈ l, OkBl b) → ∀ (k : Nat) (hk : k < l.length) (j : Nat), j < 34 → (blR l)[k * 34 + j]? = (blC l[k])[j]?
  | b :: l, h, 0, _, j, hj => by
    show (blC b ++ blR l)[0 * 34 + j]? = _
    rw [Nat.zero_mul, Nat.zero_add, List.getElem?_append_left (by rw [blC_len (h b (by simp))]; exact hj)]; rfl
  | b :: l, h, k + 1, hk, j, hj => by
    show (blC b ++ blR l)[(k + 1) * 34 + j]? = _
    have hl := blC_len (h b (by simp))
    rw [List.getElem?_append_right (by rw [hl]; omega), hl, show (k + 1) * 34 + j - 34 = k * 34 + j by omega]
    exact blR_get (fun x hx => h x (by simp [hx])) k (by simpa using hk) j hj

/-- What the document's Text tells. -/
def textS (l : List Bl) (id : List Nat) : ByteArray × Int :=
  match l.find? fun b => decide (b.id = id) with
  | none => (ByteArray.empty, 4)
  | some b => if b.bad = 0 then (b.text, 0) else (ByteArray.empty, b.bad)
/-- The blobs in memory. -/
structure BS (w : World) (v : Value) (l : List Bl) : Prop where
  sl : ∃ a c, v = .slice a l.length c ∧ Sl w a (blR l)
  ok : ∀ b ∈ l, OkBl b
  n : l.length ≤ 10000000
theorem BS.below {w w' : World} {v : Value} {l : List Bl} (h : BS w v l) (hb : Below w.heap.size w w') : BS w' v l := by
  obtain ⟨a, c, h1, h2⟩ := h.sl
  exact ⟨⟨a, c, h1, h2.below hb⟩, h.ok, h.n⟩
theorem BS.at {w : World} {v : Value} {l : List Bl} (h : BS w v l) {k : Nat} (hk : k < l.length) : ∃ b o c, v = .slice (some ⟨b, o, none⟩) l.length c ∧ b < w.heap.size ∧ w.rangeAt b (o + k * 34) (nb l[k].id) ∧ w.cell? ⟨b, o + k * 34 + 32, none⟩ = some (.string l[k].text) ∧ w.cell? ⟨b, o + k * 34 + 33, none⟩ = some (.int .i64 l[k].bad) := by
  obtain ⟨a, c, rfl, hs⟩ := h.sl
  have hok := h.ok _ (List.getElem_mem hk)
  have hg := fun j hj => blR_get h.ok k hk j hj
  rcases hs with e | ⟨b, o, rfl, hl, hc⟩
  · have := blR_len h.ok; rw [e] at this; simp at this; omega
  · refine ⟨b, o, c, rfl, hl, fun j u hu => ?_, ?_, ?_⟩
    · have hj := (List.getElem?_eq_some_iff.1 hu).1
      rw [nb_len, hok.id.1] at hj
      rw [Nat.add_assoc]
      refine hc _ _ ?_
      rw [hg j (by omega)]
      unfold blC
      rw [List.getElem?_append_left (by rw [nb_len, hok.id.1]; exact hj)]; exact hu
    · rw [Nat.add_assoc]
      refine hc _ _ ?_
      rw [hg 32 (by omega)]
      unfold blC
      rw [List.getElem?_append_right (by rw [nb_len, hok.id.1]; omega), nb_len, hok.id.1]; rfl
    · rw [Nat.add_assoc]
      refine hc _ _ ?_
      rw [hg 33 (by omega)]
      unfold blC
      rw [List.getElem?_append_right (by rw [nb_len, hok.id.1]; omega), nb_len, hok.id.1]; rfl
theorem BS.lit {w : World} {v : Value} {l : List Bl} (h : BS w v l) : ∃ a c, v = .slice a l.length c := by obtain ⟨a, c, e, _⟩ := h.sl; exact ⟨a, c, e⟩

theorem find_drop {l : List Bl} {id : List Nat} {k : Nat} (hk : k < l.length) : (l.drop k).find? (fun b => decide (b.id = id)) = if l[k].id = id then some l[k] else (l.drop (k + 1)).find? (fun b => decide (b.id = id)) := by
  rw [List.drop_eq_getElem_cons hk, List.find?_cons]
  by_cases h : l[k].id = id
  · simp [h]
  · simp [h]

set_option maxRecDepth 100000 in
set_option maxHeartbeats 2000000 in
theorem rtext_c {w : World} {v : Value} {l : List Bl} {id : List Nat} (h : BS w v l) (hid : OkId id) : Calls Tryz.prog 59 #[v, .agg (nums .u8 id)] w fun e w' => e = .returned (.tuple #[.string (textS l id).1, .int .i64 (textS l id).2]) ∧ Below w.heap.size w w' := by
  have hn := h.n
  have HS := Lib.hid h
  obtain ⟨a, c, rfl⟩ := h.lit
  clear h
  have hba : Below w.heap.size w (w.alloc (.cells (nums .u8 id) 43 (0, 0))) := (Below.refl _ w).alloc (Nat.le_refl _) _
  have hbx : (w.alloc (.cells (nums .u8 id) 43 (0, 0))).heap[w.heap.size]? = some (.cells (nums .u8 id) 43 (0, 0)) := Array.getElem?_push_size
  go_enter Tryz.func59, Tryz.ntmps59
  go_upto_region 2 with fail
  generalize hW1 : w.alloc (.cells (nums .u8 id) 43 (0, 0)) = W1 at *
  clear hW1
  have HSW := Lib.hid (HS.out.below hba)
  have HBX := Lib.hid hbx
  have HBA := Lib.hid hba
  have heq := fun (x : List Nat) (hx : OkId x) W => id_eql hx hid W
  have HEQ := Lib.hid heq
  clear hbx hba HS heq
  go_loopw [6] (fun iv wx => ∃ k : Nat, k ≤ l.length ∧ iv = .int .i64 k ∧ Hid (l.find? (fun b => decide (b.id = id)) = (l.drop k).find? (fun b => decide (b.id = id))) ∧ Below W1.heap.size W1 wx) (fun iv _ => (l.length - intOf iv).toNat)
  case atStart => exact ⟨0, Nat.zero_le _, rfl, rfl, Below.refl _ _⟩
  case round =>
    obtain ⟨k, hk, rfl, HF, hb⟩ := hrel
    have HB := Lib.hid hb
    clear hb
    by_cases hlt : k < l.length
    · have d1 : decide ((k : Int) < (l.length : Int)) = true := decide_eq_true (by omega)
      have d2 : decide (k < l.length) = true := decide_eq_true hlt
      have d3 : (0 : Int) ≤ (k : Int) := by omega
      have d4 : (k : Int) < (l.length : Int) := by omega
      have dw : IntKind.i64.wrap ((k : Int) + 1) = ((k + 1 : Nat) : Int) := IntWalk.i64_in _ (by omega)
      obtain ⟨b, o, c', e, hbl, hr1, hr2, hr3⟩ := (HSW.out.below HB.out).at hlt
      injection e with e1 _ e2
      subst e1 e2
      have hok := HSW.out.ok _ (List.getElem_mem hlt)
      have HFD := Lib.hid (find_drop (id := id) hlt)
      have heq := HEQ.out _ hok.id
      have HOKI := Lib.hid hok.id
      have hbd := hok.bad
      have HR1 := Lib.hid hr1
      have hk34 : k + 1 ≤ l.length := hlt
      clear hr1 hok
      generalize l[k] = x at *
      have HX : Hid (wr.heap[w.heap.size]? = some (.cells (nums .u8 id) 43 (0, 0))) := (HB.out.block _ (Array.getElem?_eq_some_iff.1 HBX.out).1).trans HBX.out
      have hne : w.heap.size < wr.heap.size := (Array.getElem?_eq_some_iff.1 HX.out).1
      go_upto_region 4 with fail
      refine wp_region_hz (fun W => W.rangeAt b (o + k * 34) (nb x.id) ∧ W.heap[w.heap.size]? = some (.cells (nums .u8 id) 43 (0, 0))) (.tk 0 (.tk 1 (.tk 2 (.tk 3 (.tk 4 (.tk 5 (.tk 6 (.nil)))))))) (by kernel_rfl) (by kernel_rfl) (fun _ _ _ _ _ h => h) ?_
      have hs0 : (fun W => W.rangeAt b (o + k * 34) (nb x.id) ∧ W.heap[w.heap.size]? = some (.cells (nums .u8 id) 43 (0, 0))) (wr.drewN 1) := ⟨HR1.out, HX.out⟩
      refine goZ_tk rfl rfl 13 rfl (.slice (some ⟨b, o, none⟩) l.length c) (fun _ => rfl) ?_; simp only [zT, zA, zB]
      refine goZ_tk rfl rfl 14 rfl (.int .i64 k) (fun _ => rfl) ?_; simp only [zT, zA, zB]
      refine goZ_tk rfl rfl 15 rfl (.pointer (some ⟨b, o + k * 34, none⟩)) (fun _ => by go_simp) ?_; simp only [zT, zA, zB]
      refine goZ_tk rfl rfl 16 rfl (.pointer (some ⟨b, o + k * 34, none⟩)) (fun _ => rfl) ?_; simp only [zT, zA, zB]
      refine goZ_ld rfl rfl 17 rfl 43 _ rfl ⟨b, o + k * 34, none⟩ (.agg (nums .u8 x.id)) rfl (fun W hS => ld_id HOKI.out hS.1) (hs0) ?_; simp only [zT, zA, zB]
      refine goZ_ld rfl rfl 18 rfl 43 _ rfl ⟨w.heap.size, 0, none⟩ (.agg (nums .u8 id)) rfl (fun W hS => ld_blk id_under rfl (by rw [Array.length_toList, nums_size, hid.1]; kernel_rfl) W hS.2) (hs0) ?_; simp only [zT, zA, zB]
      refine goZ_tk rfl rfl 19 rfl (.bool (decide (x.id = id))) (fun W => by go_simp) ?_; simp only [zT, zA, zB]
      refine goZ_end ?_
      have hB1 : Below wr.heap.size wr (wr.drewN 1) := below_dN (Below.refl _ wr) 1
      by_cases hid2 : x.id = id
      · rw [decide_eq_true hid2]
        have HT : Hid (l.find? (fun b => decide (b.id = id)) = some x) := by show _ = _; rw [HF.out, HFD.out, if_pos hid2]
        clear HF HFD hid2 heq
        by_cases hb0 : x.bad = 0
        · have e0 : (x.bad == 0) = true := by simp [hb0]
          have HTX : Hid (textS l id = (x.text, 0)) := by show _ = _; unfold textS; rw [HT.out]; simp [hb0]
          clear hb0
          go_wp2_with fail
          go_ret2
          exact ⟨by rw [HTX.out]; rfl, HBA.out.trans ((HB.out.trans (hB1.mono HB.out.size)).mono HBA.out.size)⟩
        · have e0 : (x.bad == 0) = false := beq_eq_false_iff_ne.2 hb0
          have HTX : Hid (textS l id = (ByteArray.empty, x.bad)) := by show _ = _; unfold textS; rw [HT.out]; simp [hb0]
          clear hb0
          go_upto_region 6 with fail
          refine wp_region_hz (fun W => W.cell? ⟨b, o + k * 34 + 33, none⟩ = some (.int .i64 x.bad)) (.tk 0 (.tk 1 (.tk 2 (.tk 3 (.tk 4 (.tk 5 (.tk 6 (.nil)))))))) (by kernel_rfl) (by kernel_rfl) (fun _ _ _ _ _ h => h) ?_
          refine goZ_tk rfl rfl 26 rfl (.slice (some ⟨b, o, none⟩) l.length c) (fun _ => rfl) ?_; simp only [zT, zA, zB]
          refine goZ_tk rfl rfl 27 rfl (.int .i64 k) (fun _ => rfl) ?_; simp only [zT, zA, zB]
          refine goZ_tk rfl rfl 28 rfl (.pointer (some ⟨b, o + k * 34, none⟩)) (fun _ => by go_simp) ?_; simp only [zT, zA, zB]
          refine goZ_tk rfl rfl 29 rfl (.pointer (some ⟨b, o + k * 34 + 33, none⟩)) (fun _ => rfl) ?_; simp only [zT, zA, zB]
          refine goZ_ld rfl rfl 30 rfl 3 _ rfl ⟨b, o + k * 34 + 33, none⟩ (.int .i64 x.bad) rfl (fun W hS => ld_int _ _ W hS) (hr3) ?_; simp only [zT, zA, zB]
          refine goZ_tk rfl rfl 4 rfl (.string ByteArray.empty) (fun _ => rfl) ?_; simp only [zT, zA, zB]
          refine goZ_tk rfl rfl 5 rfl (.int .i64 x.bad) (fun _ => rfl) ?_; simp only [zT, zA, zB]
          refine goZ_end ?_
          go_wp2_with fail
          go_ret2
          exact ⟨by rw [HTX.out]; rfl, HBA.out.trans ((HB.out.trans ((below_dN hB1 1).mono HB.out.size)).mono HBA.out.size)⟩
      · rw [decide_eq_false hid2]
        have HF2 : Hid (l.find? (fun b => decide (b.id = id)) = (l.drop (k + 1)).find? (fun b => decide (b.id = id))) := by show _ = _; rw [HF.out, HFD.out, if_neg hid2]
        clear HF HFD hid2 heq
        go_wp2_with fail
        go_roundw
        case rel => exact ⟨k + 1, hk34, by go_num, HF2, HB.out.trans (hB1.mono HB.out.size)⟩
        case measure => simp [intOf]; omega
    · have d1 : decide ((k : Int) < (l.length : Int)) = false := decide_eq_false (by omega)
      have d2 : decide (k < l.length) = false := decide_eq_false hlt
      have HTX : Hid (textS l id = (ByteArray.empty, 4)) := by
        show _ = _
        unfold textS
        rw [HF.out, List.drop_of_length_le (by omega)]; rfl
      clear HF
      go_wp2_with fail
      go_ret2
      exact ⟨by rw [HTX.out]; rfl, HBA.out.trans (HB.out.mono HBA.out.size)⟩

/-- The source of the bench: a struct of the document's blobs. -/
def SrcV (v : Value) : Value := .iface 34 (.agg #[v])

set_option maxRecDepth 100000 in
set_option maxHeartbeats 2000000 in
theorem stext_c {w : World} {v : Value} {l : List Bl} {id : List Nat} (h : BS w v l) (hid : OkId id) (hz : (textS l id).1.size ≤ 1000000000) : Calls Tryz.prog 166 #[.agg #[v], .agg (nums .u8 id)] w fun e w' => ∃ tv, e = .returned (.tuple #[tv, .int .i64 (textS l id).2]) ∧ Tx w' tv (textS l id).1 ∧ Below w.heap.size w w' := by
  have hba : Below w.heap.size w (w.alloc (.cells #[v] 34 (0, 0))) := (Below.refl _ w).alloc (Nat.le_refl _) _
  have hbb : Below w.heap.size w ((w.alloc (.cells #[v] 34 (0, 0))).alloc (.cells (nums .u8 id) 43 (0, 0))) := hba.alloc hba.size _
  have hsz : (w.alloc (.cells #[v] 34 (0, 0))).heap.size = w.heap.size + 1 := by simp
  have hb1 : ((w.alloc (.cells #[v] 34 (0, 0))).alloc (.cells (nums .u8 id) 43 (0, 0))).heap[w.heap.size]? = some (.cells #[v] 34 (0, 0)) := ((Below.refl _ (w.alloc (.cells #[v] 34 (0, 0)))).alloc (Nat.le_refl _) _ |>.block w.heap.size (by rw [hsz]; omega)).trans Array.getElem?_push_size
  have hb2 : ((w.alloc (.cells #[v] 34 (0, 0))).alloc (.cells (nums .u8 id) 43 (0, 0))).heap[w.heap.size + 1]? = some (.cells (nums .u8 id) 43 (0, 0)) := by rw [← hsz]; exact Array.getElem?_push_size
  obtain ⟨a, c, rfl⟩ := h.lit
  generalize hW : (w.alloc (.cells #[.slice a l.length c] 34 (0, 0))).alloc (.cells (nums .u8 id) 43 (0, 0)) = W at *
  have HRT := Lib.hid (rtext_c (h.below hbb) hid)
  generalize hts : textS l id = ts at *
  obtain ⟨t, er⟩ := ts
  have c1 : W.cell? ⟨w.heap.size, 0, none⟩ = some (.slice a l.length c) := by simp only [World.cell?, hb1]; rfl
  have hld : (Instr.loadAt 43 (.pointer (some ⟨w.heap.size + 1, 0, none⟩))).run Tryz.prog W = .ok (.agg (nums .u8 id)) W := ld_blk id_under rfl (by rw [Array.length_toList, nums_size, hid.1]; kernel_rfl) W hb2
  have HC : Hid (∀ W : World, ∃ c w', (convert 9 52 (.string t)).run Tryz.prog W = .ok (.slice (some ⟨W.heap.size, 0, none⟩) t.size c) w' ∧ Tx w' (.slice (some ⟨W.heap.size, 0, none⟩) t.size c) t ∧ Below W.heap.size W w') := by
    intro W
    obtain ⟨c, w', h1, h2, h3⟩ := own_bytes (P := Tryz.prog) W 9 52 5 t Tryz.underlying9 Tryz.underlying52 Tryz.underlying5 (by simp only [maxLen]; simp only at hz; omega)
    exact ⟨c, w', h1, tx_own h2, h3⟩
  have HBB := Lib.hid hbb
  clear hba hbb hsz hb1 hts h
  go_enter Tryz.func166, Tryz.ntmps166
  go_upto_region 1 with fail
  simp only at hz HRT
  clear hW hld
  have HB2 := Lib.hid hb2
  clear hb2
  go_wp2_with (first
    | (refine wp_loadB rfl 43 _ rfl (w.heap.size + 1) rfl HB2.out _ id_under rfl (by rw [Array.length_toList, nums_size, hid.1]; kernel_rfl) ?_)
    | (go_at_call 59; refine HRT.out.mono ?_; rintro e w2 ⟨rfl, hb3⟩; obtain ⟨c5, w5, hcv, htx, hb5⟩ := HC.out w2; have HTX := Lib.hid htx; have HB3 := Lib.hid (HBB.out.trans ((hb3.trans (hb5.mono hb3.size)).mono HBB.out.size)); clear htx hb3 hb5))
  go_ret2
  exact ⟨_, rfl, HTX.out, HB3.out⟩
end Go.Proofs.YtpcipdkoncmdcaaGreatDoor
namespace Go.Proofs.YtpcipdkoncmdcaaGreatDoor
namespace JoinS
def ptot (p : Pt ByteArray) : Nat := p.b.length + p.o.length + p.t.length
def total : List (Pt ByteArray) → Nat
  | [] => 0
  | p :: l => ptot p + total l
theorem total_app : ∀ (l m : List (Pt ByteArray)), total (l ++ m) = total l + total m
  | [], m => by simp [total]
  | p :: l, m => by rw [List.cons_append, total, total, total_app l m]; omega
theorem join_total (l : List (Pt ByteArray)) (p : Pt ByteArray) : total (join l p) = total l + ptot p ∧ (l.length ≤ total l → (join l p).length ≤ total (join l p)) := by
  unfold join
  split
  · rename_i h
    have : ptot p = 0 := h
    exact ⟨by omega, fun h => h⟩
  · rename_i h
    have hp : 1 ≤ ptot p := by unfold ptot; omega
    cases hl : l.getLast? with
    | none => simp only; rw [total_app]; simp only [total, List.length_append, List.length_singleton]; exact ⟨by omega, fun h => by omega⟩
    | some q =>
      simp only
      have e := dl_last hl
      have e2 : total l = total l.dropLast + ptot q := by
        have h9 := total_app l.dropLast [q]
        rw [e] at h9
        rw [h9]; simp [total]
      have e3 : l.length = l.dropLast.length + 1 := by
        have h9 := congrArg List.length e
        rw [List.length_append, List.length_singleton] at h9
        exact h9.symm
      split
      · rw [total_app]
        simp only [total, List.length_append, List.length_singleton, ptot] at *
        exact ⟨by omega, fun h => by omega⟩
      · rw [total_app]; simp only [total, List.length_append, List.length_singleton]; exact ⟨by omega, fun h => by omega⟩
theorem joinAll_total : ∀ (r l : List (Pt ByteArray)), total (joinAll l r) = total l + total r ∧ (l.length ≤ total l → (joinAll l r).length ≤ total (joinAll l r))
  | [], l => ⟨by simp [joinAll, total], fun h => h⟩
  | p :: r, l => by
    obtain ⟨h1, h2⟩ := joinAll_total r (join l p)
    obtain ⟨h3, h4⟩ := join_total l p
    show total (joinAll (join l p) r) = _ ∧ (_ → (joinAll (join l p) r).length ≤ total (joinAll (join l p) r))
    refine ⟨by rw [h1, h3, total]; omega, fun h => h2 (h4 h)⟩
theorem raw_total : ∀ (r : List (Nat × Nat × Nat)) (bs os ts : List ByteArray) (i j k : Nat), total (raw bs os ts i j k r) = bs.length + os.length + ts.length
  | [], bs, os, ts, i, j, k => by simp [raw, total, ptot]
  | (x, y, z) :: r, bs, os, ts, i, j, k => by
    rw [raw, total, total, raw_total r]
    simp only [ptot, List.length_take, List.length_drop]
    omega
theorem parts_count (b o t : List ByteArray) : total (joinAll [] (parts b o t)) = b.length + o.length + t.length ∧ (joinAll [] (parts b o t)).length ≤ b.length + o.length + t.length := by
  obtain ⟨h1, h2⟩ := joinAll_total (parts b o t) []
  have h3 : total (parts b o t) = b.length + o.length + t.length := raw_total _ _ _ _ _ _ _
  have h4 : total (joinAll [] (parts b o t)) = b.length + o.length + t.length := by rw [h1, h3]; simp [total]
  have := h2 (Nat.le_refl _)
  exact ⟨h4, by omega⟩

def AllL (Q : ByteArray → Prop) (p : Pt ByteArray) : Prop := (∀ s ∈ p.b, Q s) ∧ (∀ s ∈ p.o, Q s) ∧ ∀ s ∈ p.t, Q s
variable {Q : ByteArray → Prop}
theorem join_all {l : List (Pt ByteArray)} {p : Pt ByteArray} (hl : ∀ x ∈ l, AllL Q x) (hp : AllL Q p) : ∀ x ∈ join l p, AllL Q x := by
  have happ : ∀ x ∈ l ++ [p], AllL Q x := fun x hx => by
    rw [List.mem_append, List.mem_singleton] at hx
    rcases hx with hx | rfl
    · exact hl x hx
    · exact hp
  unfold join
  split
  · exact hl
  · cases hg : l.getLast? with
    | none => exact happ
    | some q =>
      simp only
      split
      · intro x hx
        rw [List.mem_append, List.mem_singleton] at hx
        have hq := hl q (List.mem_of_getLast? hg)
        rcases hx with hx | rfl
        · exact hl x (List.dropLast_subset l hx)
        · refine ⟨fun s hs => ?_, fun s hs => ?_, fun s hs => ?_⟩
          · rcases List.mem_append.1 hs with h | h
            · exact hq.1 s h
            · exact hp.1 s h
          · rcases List.mem_append.1 hs with h | h
            · exact hq.2.1 s h
            · exact hp.2.1 s h
          · rcases List.mem_append.1 hs with h | h
            · exact hq.2.2 s h
            · exact hp.2.2 s h
      · exact happ
theorem joinAll_all : ∀ (r l : List (Pt ByteArray)), (∀ x ∈ l, AllL Q x) → (∀ x ∈ r, AllL Q x) → ∀ x ∈ joinAll l r, AllL Q x
  | [], l, hl, _ => hl
  | p :: r, l, hl, hr => joinAll_all r (join l p) (join_all hl (hr p (by simp))) fun x hx => hr x (by simp [hx])
theorem raw_all : ∀ (r : List (Nat × Nat × Nat)) (bs os ts : List ByteArray) (i j k : Nat), (∀ s ∈ bs, Q s) → (∀ s ∈ os, Q s) → (∀ s ∈ ts, Q s) → ∀ x ∈ raw bs os ts i j k r, AllL Q x
  | [], bs, os, ts, i, j, k, hb, ho, ht => by
    intro x hx
    rw [raw, List.mem_singleton] at hx
    subst hx
    exact ⟨hb, ho, ht⟩
  | (x, y, z) :: r, bs, os, ts, i, j, k, hb, ho, ht => by
    intro p hp
    rw [raw, List.mem_cons, List.mem_cons] at hp
    rcases hp with rfl | rfl | hp
    · exact ⟨fun s hs => hb s (List.mem_of_mem_take hs), fun s hs => ho s (List.mem_of_mem_take hs), fun s hs => ht s (List.mem_of_mem_take hs)⟩
    · exact ⟨fun s hs => hb s (List.mem_of_mem_drop (List.mem_of_mem_take hs)), fun s hs => ho s (List.mem_of_mem_drop (List.mem_of_mem_take hs)), fun s hs => ht s (List.mem_of_mem_drop (List.mem_of_mem_take hs))⟩
    · exact raw_all r _ _ _ _ _ _ (fun s hs => hb s (List.mem_of_mem_drop hs)) (fun s hs => ho s (List.mem_of_mem_drop hs)) (fun s hs => ht s (List.mem_of_mem_drop hs)) p hp
theorem closed_all {l : List ByteArray} {M : Nat} (h : ∀ s ∈ l, s.size ≤ M) : ∀ s ∈ closed l, s.size ≤ M + 1 := by
  unfold closed
  cases hg : l.getLast? with
  | none => intro s hs; cases hs
  | some x =>
    simp only
    split
    · intro s hs; have := h s hs; omega
    · intro s hs
      rw [List.mem_append, List.mem_singleton] at hs
      rcases hs with hs | rfl
      · have := h s (List.dropLast_subset l hs); omega
      · have := h x (List.mem_of_getLast? hg)
        rw [ByteArray.size_append]
        show x.size + 1 ≤ _
        omega
theorem closed_length (l : List ByteArray) : (closed l).length = l.length := by
  unfold closed
  cases h : l.getLast? with
  | none => rw [List.getLast?_eq_none_iff.1 h]
  | some x =>
    simp only
    split
    · rfl
    · have := congrArg List.length (dl_last h)
      simp only [List.length_append, List.length_singleton] at this ⊢; omega
theorem emit_len (u v : ByteArray) (p : Pt ByteArray) : (emit u v p).length ≤ ptot p + 4 := by
  unfold emit ptot
  split
  · simp only [List.length_append, List.length_singleton, closed_length]; omega
  · split <;> omega
theorem tell_len (u v : ByteArray) : ∀ l : List (Pt ByteArray), (tellAll u v l).length ≤ total l + 4 * l.length
  | [] => by simp [tellAll]
  | p :: l => by
    have h1 := tell_len u v l
    have h2 := emit_len u v p
    show (emit u v p ++ tellAll u v l).length ≤ _
    rw [List.length_append, total, List.length_cons]; omega
theorem emit_all {u v : ByteArray} {M : Nat} (hu : u.size ≤ M) (hv : v.size ≤ M) {p : Pt ByteArray} (h : AllL (fun s => s.size ≤ M) p) : ∀ s ∈ emit u v p, s.size ≤ M + 20 := by
  unfold emit
  split
  · intro s hs
    simp only [List.mem_append, List.mem_singleton] at hs
    have hm1 : (m1 u).size = 8 + u.size + 1 := by unfold m1; rw [ByteArray.size_append, ByteArray.size_append]; rfl
    have hm4 : (m4 v).size = 8 + v.size + 1 := by unfold m4; rw [ByteArray.size_append, ByteArray.size_append]; rfl
    rcases hs with (((((rfl | hs) | rfl) | hs) | rfl) | hs) | rfl
    · omega
    · have := closed_all h.2.1 s hs; omega
    · have : m2.size = 13 := rfl
      omega
    · have := closed_all h.1 s hs; omega
    · have : m3.size = 8 := rfl
      omega
    · have := closed_all h.2.2 s hs; omega
    · omega
  · split
    · intro s hs; have := h.2.2 s hs; simp only at this; omega
    · intro s hs; have := h.2.1 s hs; simp only at this; omega
theorem tell_all {u v : ByteArray} {M : Nat} (hu : u.size ≤ M) (hv : v.size ≤ M) {l : List (Pt ByteArray)} (h : ∀ p ∈ l, AllL (fun s => s.size ≤ M) p) : ∀ s ∈ tellAll u v l, s.size ≤ M + 20 := by
  intro s hs
  obtain ⟨p, hp, hs⟩ := List.mem_flatMap.1 hs
  exact emit_all hu hv (h p hp) s hs
theorem cat_size {l : List ByteArray} {M : Nat} (h : ∀ s ∈ l, s.size ≤ M) : (cat l).size ≤ l.length * M := by
  have e : ∀ l : List ByteArray, (cat l).size = (l.map (·.size)).sum := by
    intro l
    rw [Lib.size_eq]
    show (l.flatMap fun b => b.data.toList).length = _
    rw [List.length_flatMap]
    congr 1
  rw [e]
  induction l with
  | nil => simp
  | cons a l ih =>
    have h1 := h a (by simp)
    have h2 := ih fun s hs => h s (by simp [hs])
    rw [List.map_cons, List.sum_cons, List.length_cons, Nat.succ_mul]; omega
theorem lns_size (t : ByteArray) : ∀ s ∈ lns t, s.size ≤ t.size := by
  have h : ∀ (l acc : List UInt8), ∀ s ∈ lnA acc l, s.size ≤ acc.length + l.length := by
    intro l
    induction l with
    | nil =>
      intro acc s hs
      unfold lnA at hs
      split at hs
      · cases hs
      · rw [List.mem_singleton] at hs; subst hs; rw [Lib.size_eq]; simp
    | cons c r ih =>
      intro acc s hs
      unfold lnA at hs
      split at hs
      · rcases List.mem_cons.1 hs with rfl | hs
        · rw [Lib.size_eq]; simp
        · have := ih [] s hs; simp at this ⊢; omega
      · have := ih (acc ++ [c]) s hs; simp at this ⊢; omega
  intro s hs
  have := h t.data.toList [] s hs
  rw [← Lib.size_eq] at this; simpa using this
end JoinS
end Go.Proofs.YtpcipdkoncmdcaaGreatDoor
