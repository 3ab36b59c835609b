/- Texts of mine, joined: Walk: what becomes of a path. | Walks: lying under. -/
import Derived.Test.YtpcipdkoncmdcaaGreatDoorYJoinApart15
namespace Go.Proofs.YtpcipdkoncmdcaaGreatDoor
open Go Go.RowKit
structure Dec where
  keep : Bool
  err : Int
  kind : Nat
  id : List Nat
  text : ByteArray
def eqS (h1 h2 : Bool) (x y : List Nat) : Bool := decide (h1 = h2) && decide (x = y)
/-- What is decided on a path. -/
def decS (src : List Nat → ByteArray × Int) (has : T3 Bool) (ids : T3 (List Nat)) (id0 : List Nat) : Dec :=
  if eqS has.b has.c ids.b ids.c || eqS has.a has.c ids.a ids.c then ⟨has.b, 0, 1, ids.b, ByteArray.empty⟩
  else if eqS has.a has.b ids.a ids.b then ⟨has.c, 0, 1, ids.c, ByteArray.empty⟩
  else ⟨true, (weaveS src has ids).1, (weaveS src has ids).2.1, id0, (weaveS src has ids).2.2⟩

theorem TR.stamped {w : World} {q : Nat} {t : Th} (h : TR w q t) : w.cell? ⟨q, 34, none⟩ = some (.float .f64 t.stamp) := h.blk.cell (by simp [tcs, nb_len, h.ok.id.1])

theorem TxN.mono {B B' : Nat} {w : World} {v : Value} {t : ByteArray} (h : TxN B w v t) (hb : B' ≤ B) : TxN B' w v t := by
  rcases h with h | ⟨g, c, e, h1, h⟩
  · exact .inl h
  · exact .inr ⟨g, c, e, Nat.le_trans hb h1, h⟩

set_option maxRecDepth 100000 in
set_option maxHeartbeats 8000000 in
theorem decide_c {w : World} {q : Nat} {t : Th} {sv : Value} {bl : List Bl} (h : TR w q t) (htv : t.tv = .slice none 0 0) (hz : ∀ id, (textS bl id).1.size ≤ 1000) (hqs : ∀ W : World, w.grownBy W (some q) → BS W sv bl) :
    Calls Tryz.prog 28 #[.pointer (some ⟨q, 0, none⟩), SrcV sv] w fun e w' => ∃ tv, e = .returned (.tuple #[.bool (decS (textS bl) t.has t.ids t.id).keep, .int .i64 (decS (textS bl) t.has t.ids t.id).err]) ∧ TR w' q { t with kind := (decS (textS bl) t.has t.ids t.id).kind, id := (decS (textS bl) t.has t.ids t.id).id, stamp := whenS t.has t.sts, tv := tv } ∧ TxN w.heap.size w' tv (decS (textS bl) t.has t.ids t.id).text ∧ w.grownBy w' (some q) := by
  obtain ⟨z12, e12⟩ : ∃ z, eqS t.has.b t.has.c t.ids.b t.ids.c = z := ⟨_, rfl⟩
  obtain ⟨z02, e02⟩ : ∃ z, eqS t.has.a t.has.c t.ids.a t.ids.c = z := ⟨_, rfl⟩
  obtain ⟨z01, e01⟩ : ∃ z, eqS t.has.a t.has.b t.ids.a t.ids.b = z := ⟨_, rfl⟩
  have H12 : Hid (∀ W, TR W q t → Calls Tryz.prog 52 #[.pointer (some ⟨q, 0, none⟩), .int .i64 1, .int .i64 2] W fun e w' => e = .returned (.bool z12) ∧ ∃ n, w' = W.drewN n) := fun W h => by have := same12_c h; rw [← e12]; exact this
  have H02 : Hid (∀ W, TR W q t → Calls Tryz.prog 52 #[.pointer (some ⟨q, 0, none⟩), .int .i64 0, .int .i64 2] W fun e w' => e = .returned (.bool z02) ∧ ∃ n, w' = W.drewN n) := fun W h => by have := same02_c h; rw [← e02]; exact this
  have H01 : Hid (∀ W, TR W q t → Calls Tryz.prog 52 #[.pointer (some ⟨q, 0, none⟩), .int .i64 0, .int .i64 1] W fun e w' => e = .returned (.bool z01) ∧ ∃ n, w' = W.drewN n) := fun W h => by have := same01_c h; rw [← e01]; exact this
  have HD : Hid (decS (textS bl) t.has t.ids t.id = if z12 || z02 then ⟨t.has.b, 0, 1, t.ids.b, ByteArray.empty⟩ else if z01 then ⟨t.has.c, 0, 1, t.ids.c, ByteArray.empty⟩ else ⟨true, (weaveS (textS bl) t.has t.ids).1, (weaveS (textS bl) t.has t.ids).2.1, t.id, (weaveS (textS bl) t.has t.ids).2.2⟩) := by show _ = _; unfold decS; rw [e12, e02, e01]
  have HTW := Lib.hid h
  have HGW : Hid (w.grownBy w (some q)) := (World.grownBy.trans (b := w) ⟨rfl, rfl, rfl, Nat.le_refl _, fun _ _ _ => rfl⟩ ⟨rfl, rfl, rfl, Nat.le_refl _, fun _ _ _ => rfl⟩)
  have HQS := Lib.hid hqs
  have HZ := Lib.hid hz
  have hib := h.ok.ib
  have hic := h.ok.ic
  have hq : q < w.heap.size := h.blk.lt
  have HIB := Lib.hid hib
  have HIC := Lib.hid hic
  have HTV := Lib.hid htv
  clear e12 e02 e01 h hqs hz hib hic htv
  unfold SrcV
  go_enter Tryz.func28, Tryz.ntmps28
  rcases Bool.eq_false_or_eq_true z12 with rfl | rfl
  · clear H02 H01
    go_upto_region 8 with (first
        | (go_at_call 52; refine (H12.out _ HTW.out).mono ?_; rintro e w2 ⟨rfl, n, hw⟩; replace HTW : Hid (TR w2 q t) := (by show TR w2 q t; rw [hw]; exact HTW.out.below (below_dN (Below.refl _ _) n)); replace HGW : Hid (w.grownBy w2 (some q)) := (by show w.grownBy w2 (some q); rw [hw]; exact gro_below HGW.out (below_dN (Below.refl _ _) n)); clear hw H12))
    obtain ⟨ht6, hg6⟩ := HTW.out.kind 1
    have hc1 : w2.cell? ⟨q, 1, none⟩ = some (.int .i64 t.kind) := HTW.out.blk.cell rfl
    have hf1 := HTW.out.blk.fz 1
    have HTH : Hid ((w2.setCell ⟨q, 1, none⟩ (.int .i64 ((1 : Nat) : Int))).there q 2 32) := ht6.blk.there 2 32 (by rw [tcs_len ht6.ok]; omega)
    obtain ⟨ht7, hg7⟩ := ht6.idput HIB.out
    have HT7 := Lib.hid ht7
    have HG7 := Lib.hid ((HGW.out.trans hg6).trans hg7)
    clear ht6 hg6 ht7 hg7
    go_upto_region 9 with (first
      | (refine wpList_load_mid rfl 43 _ rfl q 71 rfl (nb t.ids.b) _ HTW.out.i1 id_under rfl (by rw [nb_len, HIB.out.1]; kernel_rfl) ?_)
      | (refine wpList_store_mid rfl 43 _ _ rfl q 2 (nb t.ids.b).toArray rfl rfl (by rw [List.size_toArray, nb_len, HIB.out.1]; exact HTH.out) (by rw [List.size_toArray, nb_len, HIB.out.1]; kernel_rfl) (by rw [List.all_toArray, List.all_eq_true]; intro u hu; obtain ⟨x, -, rfl⟩ := List.mem_map.1 hu; rfl) ?_))
    have hw6 : w2.setCell ⟨q, 1, none⟩ (.int .i64 ((1 : Nat) : Int)) = w2.setCell ⟨q, 1, none⟩ (.int .i64 1) := rfl
    rw [hw6] at HT7 HG7
    clear hw6 HTH hc1 hf1 HTW HGW
    generalize (w2.setCell ⟨q, 1, none⟩ (.int .i64 1)).setCells q 2 (nb t.ids.b) = W8 at *
    obtain ⟨t8, ht8⟩ : ∃ t8 : Th, t8 = { t with kind := 1, id := t.ids.b } := ⟨_, rfl⟩
    have HE8 := Lib.hid ht8
    have HT8 : Hid (TR W8 q t8) := by show TR W8 q t8; rw [ht8]; exact HT7.out
    have HG8 := HG7
    have HTX : Hid (TxN w.heap.size W8 (.slice none 0 0) ByteArray.empty) := .inl ⟨rfl, rfl⟩
    clear ht8 HT7 HG7
    have HWN : Hid (∀ W, TR W q t8 → Calls Tryz.prog 53 #[.pointer (some ⟨q, 0, none⟩)] W fun e w' => e = .returned (.float .f64 (whenS t.has t.sts)) ∧ Below W.heap.size W w') := fun W h => by have := when_c h; rw [HE8.out] at this; exact this
    go_upto_region 10 with (go_at_call 53; refine (HWN.out _ HT8.out).mono ?_; rintro e w9 ⟨rfl, hb⟩; have HT9 := Lib.hid (HT8.out.below hb); have HG9 := Lib.hid (gro_below HG8.out hb); have HX9 := Lib.hid (HTX.out.below hb); have hc34 := HT9.out.stamped; have hf34 := HT9.out.blk.fz 34; have hsf : (store ⟨q, 34, none⟩ (.float .f64 (whenS t.has t.sts))).run Tryz.prog w9 = .ok () (w9.setCell ⟨q, 34, none⟩ (.float .f64 (whenS t.has t.sts))) := (by rw [run_store _ _ _ _ _ rfl, hc34]; simp [hf34]); clear hb)
    obtain ⟨ht10, hg10⟩ := HT9.out.stamp (whenS t.has t.sts)
    have htx10 := HX9.out.kept hg10 hq
    generalize w9.setCell ⟨q, 34, none⟩ (.float .f64 (whenS t.has t.sts)) = W10 at *
    have HT10 := Lib.hid ht10
    have HX10 := Lib.hid htx10
    have HG10 := Lib.hid (HG9.out.trans hg10)
    clear hc34 hf34 hsf HT9 HG9 HX9 hg10 HTX ht10 htx10 HWN HT8 HG8
    have hh : W10.cell? ⟨q, 37, none⟩ = some (.bool t.has.b) := by have := HT10.out.h1; rw [HE8.out] at this; exact this
    go_wp2_with fail
    go_ret2
    exact ⟨.slice none 0 0, by rw [HD.out]; rfl, by rw [HD.out]; have := HT10.out; rw [HE8.out] at this; rw [← HTV.out]; exact this, by rw [HD.out]; exact HX10.out, HG10.out⟩
  rcases Bool.eq_false_or_eq_true z02 with rfl | rfl
  · clear H01
    go_upto_region 8 with (first
        | (go_at_call 52; refine (H12.out _ HTW.out).mono ?_; rintro e w2 ⟨rfl, n, hw⟩; replace HTW : Hid (TR w2 q t) := (by show TR w2 q t; rw [hw]; exact HTW.out.below (below_dN (Below.refl _ _) n)); replace HGW : Hid (w.grownBy w2 (some q)) := (by show w.grownBy w2 (some q); rw [hw]; exact gro_below HGW.out (below_dN (Below.refl _ _) n)); clear hw H12)
        | (go_at_call 52; refine (H02.out _ HTW.out).mono ?_; rintro e w2 ⟨rfl, n, hw⟩; replace HTW : Hid (TR w2 q t) := (by show TR w2 q t; rw [hw]; exact HTW.out.below (below_dN (Below.refl _ _) n)); replace HGW : Hid (w.grownBy w2 (some q)) := (by show w.grownBy w2 (some q); rw [hw]; exact gro_below HGW.out (below_dN (Below.refl _ _) n)); clear hw H02))
    obtain ⟨ht6, hg6⟩ := HTW.out.kind 1
    have hc1 : w2.cell? ⟨q, 1, none⟩ = some (.int .i64 t.kind) := HTW.out.blk.cell rfl
    have hf1 := HTW.out.blk.fz 1
    have HTH : Hid ((w2.setCell ⟨q, 1, none⟩ (.int .i64 ((1 : Nat) : Int))).there q 2 32) := ht6.blk.there 2 32 (by rw [tcs_len ht6.ok]; omega)
    obtain ⟨ht7, hg7⟩ := ht6.idput HIB.out
    have HT7 := Lib.hid ht7
    have HG7 := Lib.hid ((HGW.out.trans hg6).trans hg7)
    clear ht6 hg6 ht7 hg7
    go_upto_region 9 with (first
      | (refine wpList_load_mid rfl 43 _ rfl q 71 rfl (nb t.ids.b) _ HTW.out.i1 id_under rfl (by rw [nb_len, HIB.out.1]; kernel_rfl) ?_)
      | (refine wpList_store_mid rfl 43 _ _ rfl q 2 (nb t.ids.b).toArray rfl rfl (by rw [List.size_toArray, nb_len, HIB.out.1]; exact HTH.out) (by rw [List.size_toArray, nb_len, HIB.out.1]; kernel_rfl) (by rw [List.all_toArray, List.all_eq_true]; intro u hu; obtain ⟨x, -, rfl⟩ := List.mem_map.1 hu; rfl) ?_))
    have hw6 : w2.setCell ⟨q, 1, none⟩ (.int .i64 ((1 : Nat) : Int)) = w2.setCell ⟨q, 1, none⟩ (.int .i64 1) := rfl
    rw [hw6] at HT7 HG7
    clear hw6 HTH hc1 hf1 HTW HGW
    generalize (w2.setCell ⟨q, 1, none⟩ (.int .i64 1)).setCells q 2 (nb t.ids.b) = W8 at *
    obtain ⟨t8, ht8⟩ : ∃ t8 : Th, t8 = { t with kind := 1, id := t.ids.b } := ⟨_, rfl⟩
    have HE8 := Lib.hid ht8
    have HT8 : Hid (TR W8 q t8) := by show TR W8 q t8; rw [ht8]; exact HT7.out
    have HG8 := HG7
    have HTX : Hid (TxN w.heap.size W8 (.slice none 0 0) ByteArray.empty) := .inl ⟨rfl, rfl⟩
    clear ht8 HT7 HG7
    have HWN : Hid (∀ W, TR W q t8 → Calls Tryz.prog 53 #[.pointer (some ⟨q, 0, none⟩)] W fun e w' => e = .returned (.float .f64 (whenS t.has t.sts)) ∧ Below W.heap.size W w') := fun W h => by have := when_c h; rw [HE8.out] at this; exact this
    go_upto_region 10 with (go_at_call 53; refine (HWN.out _ HT8.out).mono ?_; rintro e w9 ⟨rfl, hb⟩; have HT9 := Lib.hid (HT8.out.below hb); have HG9 := Lib.hid (gro_below HG8.out hb); have HX9 := Lib.hid (HTX.out.below hb); have hc34 := HT9.out.stamped; have hf34 := HT9.out.blk.fz 34; have hsf : (store ⟨q, 34, none⟩ (.float .f64 (whenS t.has t.sts))).run Tryz.prog w9 = .ok () (w9.setCell ⟨q, 34, none⟩ (.float .f64 (whenS t.has t.sts))) := (by rw [run_store _ _ _ _ _ rfl, hc34]; simp [hf34]); clear hb)
    obtain ⟨ht10, hg10⟩ := HT9.out.stamp (whenS t.has t.sts)
    have htx10 := HX9.out.kept hg10 hq
    generalize w9.setCell ⟨q, 34, none⟩ (.float .f64 (whenS t.has t.sts)) = W10 at *
    have HT10 := Lib.hid ht10
    have HX10 := Lib.hid htx10
    have HG10 := Lib.hid (HG9.out.trans hg10)
    clear hc34 hf34 hsf HT9 HG9 HX9 hg10 HTX ht10 htx10 HWN HT8 HG8
    have hh : W10.cell? ⟨q, 37, none⟩ = some (.bool t.has.b) := by have := HT10.out.h1; rw [HE8.out] at this; exact this
    go_wp2_with fail
    go_ret2
    exact ⟨.slice none 0 0, by rw [HD.out]; rfl, by rw [HD.out]; have := HT10.out; rw [HE8.out] at this; rw [← HTV.out]; exact this, by rw [HD.out]; exact HX10.out, HG10.out⟩
  rcases Bool.eq_false_or_eq_true z01 with rfl | rfl
  · skip
    go_upto_region 8 with (first
        | (go_at_call 52; refine (H12.out _ HTW.out).mono ?_; rintro e w2 ⟨rfl, n, hw⟩; replace HTW : Hid (TR w2 q t) := (by show TR w2 q t; rw [hw]; exact HTW.out.below (below_dN (Below.refl _ _) n)); replace HGW : Hid (w.grownBy w2 (some q)) := (by show w.grownBy w2 (some q); rw [hw]; exact gro_below HGW.out (below_dN (Below.refl _ _) n)); clear hw H12)
        | (go_at_call 52; refine (H02.out _ HTW.out).mono ?_; rintro e w2 ⟨rfl, n, hw⟩; replace HTW : Hid (TR w2 q t) := (by show TR w2 q t; rw [hw]; exact HTW.out.below (below_dN (Below.refl _ _) n)); replace HGW : Hid (w.grownBy w2 (some q)) := (by show w.grownBy w2 (some q); rw [hw]; exact gro_below HGW.out (below_dN (Below.refl _ _) n)); clear hw H02)
        | (go_at_call 52; refine (H01.out _ HTW.out).mono ?_; rintro e w2 ⟨rfl, n, hw⟩; replace HTW : Hid (TR w2 q t) := (by show TR w2 q t; rw [hw]; exact HTW.out.below (below_dN (Below.refl _ _) n)); replace HGW : Hid (w.grownBy w2 (some q)) := (by show w.grownBy w2 (some q); rw [hw]; exact gro_below HGW.out (below_dN (Below.refl _ _) n)); clear hw H01))
    obtain ⟨ht6, hg6⟩ := HTW.out.kind 1
    have hc1 : w2.cell? ⟨q, 1, none⟩ = some (.int .i64 t.kind) := HTW.out.blk.cell rfl
    have hf1 := HTW.out.blk.fz 1
    have HTH : Hid ((w2.setCell ⟨q, 1, none⟩ (.int .i64 ((1 : Nat) : Int))).there q 2 32) := ht6.blk.there 2 32 (by rw [tcs_len ht6.ok]; omega)
    obtain ⟨ht7, hg7⟩ := ht6.idput HIC.out
    have HT7 := Lib.hid ht7
    have HG7 := Lib.hid ((HGW.out.trans hg6).trans hg7)
    clear ht6 hg6 ht7 hg7
    go_upto_region 9 with (first
      | (refine wpList_load_mid rfl 43 _ rfl q 103 rfl (nb t.ids.c) _ HTW.out.i2 id_under rfl (by rw [nb_len, HIC.out.1]; kernel_rfl) ?_)
      | (refine wpList_store_mid rfl 43 _ _ rfl q 2 (nb t.ids.c).toArray rfl rfl (by rw [List.size_toArray, nb_len, HIC.out.1]; exact HTH.out) (by rw [List.size_toArray, nb_len, HIC.out.1]; kernel_rfl) (by rw [List.all_toArray, List.all_eq_true]; intro u hu; obtain ⟨x, -, rfl⟩ := List.mem_map.1 hu; rfl) ?_))
    have hw6 : w2.setCell ⟨q, 1, none⟩ (.int .i64 ((1 : Nat) : Int)) = w2.setCell ⟨q, 1, none⟩ (.int .i64 1) := rfl
    rw [hw6] at HT7 HG7
    clear hw6 HTH hc1 hf1 HTW HGW
    generalize (w2.setCell ⟨q, 1, none⟩ (.int .i64 1)).setCells q 2 (nb t.ids.c) = W8 at *
    obtain ⟨t8, ht8⟩ : ∃ t8 : Th, t8 = { t with kind := 1, id := t.ids.c } := ⟨_, rfl⟩
    have HE8 := Lib.hid ht8
    have HT8 : Hid (TR W8 q t8) := by show TR W8 q t8; rw [ht8]; exact HT7.out
    have HG8 := HG7
    have HTX : Hid (TxN w.heap.size W8 (.slice none 0 0) ByteArray.empty) := .inl ⟨rfl, rfl⟩
    clear ht8 HT7 HG7
    have HWN : Hid (∀ W, TR W q t8 → Calls Tryz.prog 53 #[.pointer (some ⟨q, 0, none⟩)] W fun e w' => e = .returned (.float .f64 (whenS t.has t.sts)) ∧ Below W.heap.size W w') := fun W h => by have := when_c h; rw [HE8.out] at this; exact this
    go_upto_region 10 with (go_at_call 53; refine (HWN.out _ HT8.out).mono ?_; rintro e w9 ⟨rfl, hb⟩; have HT9 := Lib.hid (HT8.out.below hb); have HG9 := Lib.hid (gro_below HG8.out hb); have HX9 := Lib.hid (HTX.out.below hb); have hc34 := HT9.out.stamped; have hf34 := HT9.out.blk.fz 34; have hsf : (store ⟨q, 34, none⟩ (.float .f64 (whenS t.has t.sts))).run Tryz.prog w9 = .ok () (w9.setCell ⟨q, 34, none⟩ (.float .f64 (whenS t.has t.sts))) := (by rw [run_store _ _ _ _ _ rfl, hc34]; simp [hf34]); clear hb)
    obtain ⟨ht10, hg10⟩ := HT9.out.stamp (whenS t.has t.sts)
    have htx10 := HX9.out.kept hg10 hq
    generalize w9.setCell ⟨q, 34, none⟩ (.float .f64 (whenS t.has t.sts)) = W10 at *
    have HT10 := Lib.hid ht10
    have HX10 := Lib.hid htx10
    have HG10 := Lib.hid (HG9.out.trans hg10)
    clear hc34 hf34 hsf HT9 HG9 HX9 hg10 HTX ht10 htx10 HWN HT8 HG8
    have hh : W10.cell? ⟨q, 38, none⟩ = some (.bool t.has.c) := by have := HT10.out.h2; rw [HE8.out] at this; exact this
    go_wp2_with fail
    go_ret2
    exact ⟨.slice none 0 0, by rw [HD.out]; rfl, by rw [HD.out]; have := HT10.out; rw [HE8.out] at this; rw [← HTV.out]; exact this, by rw [HD.out]; exact HX10.out, HG10.out⟩
  · skip
    go_upto_region 12 with (first
        | (go_at_call 52; refine (H12.out _ HTW.out).mono ?_; rintro e w2 ⟨rfl, n, hw⟩; replace HTW : Hid (TR w2 q t) := (by show TR w2 q t; rw [hw]; exact HTW.out.below (below_dN (Below.refl _ _) n)); replace HGW : Hid (w.grownBy w2 (some q)) := (by show w.grownBy w2 (some q); rw [hw]; exact gro_below HGW.out (below_dN (Below.refl _ _) n)); clear hw H12)
        | (go_at_call 52; refine (H02.out _ HTW.out).mono ?_; rintro e w2 ⟨rfl, n, hw⟩; replace HTW : Hid (TR w2 q t) := (by show TR w2 q t; rw [hw]; exact HTW.out.below (below_dN (Below.refl _ _) n)); replace HGW : Hid (w.grownBy w2 (some q)) := (by show w.grownBy w2 (some q); rw [hw]; exact gro_below HGW.out (below_dN (Below.refl _ _) n)); clear hw H02)
        | (go_at_call 52; refine (H01.out _ HTW.out).mono ?_; rintro e w2 ⟨rfl, n, hw⟩; replace HTW : Hid (TR w2 q t) := (by show TR w2 q t; rw [hw]; exact HTW.out.below (below_dN (Below.refl _ _) n)); replace HGW : Hid (w.grownBy w2 (some q)) := (by show w.grownBy w2 (some q); rw [hw]; exact gro_below HGW.out (below_dN (Below.refl _ _) n)); clear hw H01)
        | (go_at_call 54; refine (weave3_c HTW.out HTV.out HZ.out (fun W hg => HQS.out W (HGW.out.trans hg))).mono ?_; rintro e W8 ⟨tv, rfl, ht8, htx8, hg8⟩
           have HT7 := Lib.hid ht8; have HTX := Lib.hid (htx8.mono HGW.out.size); have HG8 := Lib.hid (HGW.out.trans hg8); clear ht8 htx8 hg8))
    obtain ⟨t8, ht8⟩ : ∃ t8 : Th, t8 = { t with kind := (weaveS (textS bl) t.has t.ids).2.1, tv := tv } := ⟨_, rfl⟩
    have HE8 := Lib.hid ht8
    have HT8 : Hid (TR W8 q t8) := by show TR W8 q t8; rw [ht8]; exact HT7.out
    clear ht8 HT7 HTW HGW
    have HWN : Hid (∀ W, TR W q t8 → Calls Tryz.prog 53 #[.pointer (some ⟨q, 0, none⟩)] W fun e w' => e = .returned (.float .f64 (whenS t.has t.sts)) ∧ Below W.heap.size W w') := fun W h => by have := when_c h; rw [HE8.out] at this; exact this
    go_upto_region 13 with (go_at_call 53; refine (HWN.out _ HT8.out).mono ?_; rintro e w9 ⟨rfl, hb⟩; have HT9 := Lib.hid (HT8.out.below hb); have HG9 := Lib.hid (gro_below HG8.out hb); have HX9 := Lib.hid (HTX.out.below hb); have hc34 := HT9.out.stamped; have hf34 := HT9.out.blk.fz 34; have hsf : (store ⟨q, 34, none⟩ (.float .f64 (whenS t.has t.sts))).run Tryz.prog w9 = .ok () (w9.setCell ⟨q, 34, none⟩ (.float .f64 (whenS t.has t.sts))) := (by rw [run_store _ _ _ _ _ rfl, hc34]; simp [hf34]); clear hb)
    obtain ⟨ht10, hg10⟩ := HT9.out.stamp (whenS t.has t.sts)
    have htx10 := HX9.out.kept hg10 hq
    generalize w9.setCell ⟨q, 34, none⟩ (.float .f64 (whenS t.has t.sts)) = W10 at *
    have HT10 := Lib.hid ht10
    have HX10 := Lib.hid htx10
    have HG10 := Lib.hid (HG9.out.trans hg10)
    clear hc34 hf34 hsf HT9 HG9 HX9 hg10 HTX ht10 htx10 HWN HT8 HG8
    go_wp2_with fail
    go_ret2
    exact ⟨tv, by rw [HD.out]; rfl, by rw [HD.out]; have := HT10.out; rw [HE8.out] at this; exact this, by rw [HD.out]; exact HX10.out, HG10.out⟩
end Go.Proofs.YtpcipdkoncmdcaaGreatDoor
namespace Go.Proofs.YtpcipdkoncmdcaaGreatDoor
open Go Go.RowKit
set_option maxRecDepth 100000 in
set_option maxHeartbeats 400000 in
theorem under_c (p f : ByteArray) (w : World) (hf : f.size ≤ 100000000) :
    Calls Tryz.prog 29 #[.string p, .string f] w fun e w' => e = .returned (.bool (PathS.under p f)) ∧ w = w' := by
  have ef := isEmpty_iff f
  have ep := isEmpty_iff p
  have hap : (f ++ ⟨#[47]⟩ : ByteArray).data.toList = f.data.toList ++ [47] := by simp
  have HU : Hid (PathS.under p f = if f.size = 0 then decide (p.size ≠ 0) else Lib.hasPrefix p.data.toList (f ++ ⟨#[47]⟩ : ByteArray).data.toList) := by show _ = _; rw [hap]; rfl
  clear hap
  by_cases h1 : f.size = 0
  · have g1 : f.toList.isEmpty = true := by rw [ef]; simpa using h1
    have hf0 : f = ByteArray.empty := PathS.ba_ext (by rw [List.eq_nil_of_length_eq_zero (l := f.data.toList) (by rw [← Lib.size_eq]; exact h1)]; rfl)
    by_cases h2 : p.size = 0
    · have g2 : p.toList.isEmpty = true := by rw [ep]; simpa using h2
      have hp0 : p = ByteArray.empty := PathS.ba_ext (by rw [List.eq_nil_of_length_eq_zero (l := p.data.toList) (by rw [← Lib.size_eq]; exact h2)]; rfl)
      have HF : Hid (PathS.under p f = false) := by show _ = _; rw [HU.out, if_pos h1, h2]; rfl
      clear h1 h2 ef ep HU
      go_enter Tryz.func29, Tryz.ntmps29
      go_wp2_with (go_at_call 55; refine (Tryz.strings_HasPrefix _ _ _).mono ?_; rintro e w1 ⟨rfl, rfl⟩)
      all_goals go_ret
      all_goals exact ⟨ret_bool HF.out, rfl⟩
    · have g2 : p.toList.isEmpty = false := by rw [ep]; simpa using h2
      have HF : Hid (PathS.under p f = true) := by show _ = _; rw [HU.out, if_pos h1]; simpa using h2
      clear h1 h2 ef ep HU hf0
      go_enter Tryz.func29, Tryz.ntmps29
      go_wp2_with fail
      go_ret
      exact ⟨ret_bool HF.out, rfl⟩
  · have g1 : f.toList.isEmpty = false := by rw [ef]; simpa using h1
    have HF : Hid (PathS.under p f = Lib.hasPrefix p.data.toList (f ++ ⟨#[47]⟩ : ByteArray).data.toList) := by show _ = _; rw [HU.out, if_neg h1]
    clear h1 ef ep HU
    go_enter Tryz.func29, Tryz.ntmps29
    go_wp2_with fail
    refine (Tryz.strings_HasPrefix _ _ _).mono ?_
    rintro e w1 ⟨rfl, rfl⟩
    cases hx : Lib.hasPrefix p.data.toList (f ++ ⟨#[47]⟩ : ByteArray).data.toList
    all_goals
      have HX := Lib.hid hx
      clear hx
      go_wp2_with fail
      go_ret
      exact ⟨ret_bool (by rw [HF.out, HX.out]), rfl⟩
end Go.Proofs.YtpcipdkoncmdcaaGreatDoor
