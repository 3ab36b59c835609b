/- Texts of mine, joined: Walks: the program's outcomes as the document's; the document's outcomes held against one another. | The loops of some code. Of every program. -/
import Derived.Test.YtpcipdkoncmdcaaGreatDoorYJoinMerges25
namespace Go.Proofs.YtpcipdkoncmdcaaGreatDoor
open Go Go.RowKit
/-- An outcome of the document as cells. -/
def doC (o : Ou) : List Value := .string o.path :: .int .i64 o.kind :: (nb o.id ++ (.float .f64 o.stamp :: .string o.text :: .bool o.has.a :: .bool o.has.b :: .bool o.has.c :: (nb o.ids.a ++ (nb o.ids.b ++ nb o.ids.c))))
def doR (l : List Ou) : List Value := l.flatMap doC
structure DR (w : World) (v : Value) (l : List Ou) : Prop where
  sl : ∃ a c, v = .slice a l.length c ∧ Sl w a (doR l)
  ok : ∀ x ∈ l, OkOu x
theorem doC_len {o : Ou} (h : OkOu o) : (doC o).length = 135 := by simp [doC, nb_len, h.id.1, h.ia.1, h.ib.1, h.ic.1]
theorem doR_len : ∀ {l : List Ou}, (∀ b ∈ l, OkOu b) → (doR l).length = l.length * 135
  | [], _ => rfl
  | b :: l, h => by
    show (doC b ++ doR l).length = _
    rw [List.length_append, doC_len (h b (by simp)), doR_len (fun x hx => h x (by simp [hx])), List.length_cons]; omega
theorem doR_get : ∀ {l : List Ou}, (∀ b ∈ l, OkOu b) → ∀ (k : Nat) (hk : k < l.length) (j : Nat), j < 135 → (doR l)[k * 135 + j]? = (doC l[k])[j]?
  | b :: l, h, 0, _, j, hj => by
    show (doC b ++ doR l)[0 * 135 + j]? = _
    rw [Nat.zero_mul, Nat.zero_add, List.getElem?_append_left (by rw [doC_len (h b (by simp))]; exact hj)]; rfl
  | b :: l, h, k + 1, hk, j, hj => by
    show (doC b ++ doR l)[(k + 1) * 135 + j]? = _
    have hl := doC_len (h b (by simp))
    rw [List.getElem?_append_right (by rw [hl]; omega), hl, show (k + 1) * 135 + j - 135 = k * 135 + j by omega]
    exact doR_get (fun x hx => h x (by simp [hx])) k (by simpa using hk) j hj
section
variable {w w' : World} {v : Value} {l : List Ou}
theorem DR.below (h : DR w v l) (hb : Below w.heap.size w w') : DR w' v l := by
  obtain ⟨a, c, h1, h2⟩ := h.sl
  exact ⟨⟨a, c, h1, h2.below hb⟩, h.ok⟩
theorem DR.lit (h : DR w v l) : ∃ a c, v = .slice a l.length c := by obtain ⟨a, c, e, _⟩ := h.sl; exact ⟨a, c, e⟩
theorem DR.at (h : DR w v l) {k : Nat} (hk : k < l.length) : ∃ b o c, v = .slice (some ⟨b, o, none⟩) l.length c ∧ b < w.heap.size ∧ w.rangeAt b (o + k * 135) (doC l[k]) := by
  obtain ⟨a, c, rfl, hs⟩ := h.sl
  rcases hs with e | ⟨b, o, rfl, hl, hc⟩
  · have := doR_len h.ok; rw [e] at this; simp at this; omega
  · refine ⟨b, o, c, rfl, hl, fun i u hu => ?_⟩
    have hi : i < 135 := by have := (List.getElem?_eq_some_iff.1 hu).1; rw [doC_len (h.ok _ (List.getElem_mem hk))] at this; exact this
    rw [Nat.add_assoc]
    exact hc _ _ (by rw [doR_get h.ok k hk i hi]; exact hu)
end
theorem dout_info : (Tryz.prog.info? 48).map (·.size) = some 135 := by kernel_rfl
theorem dout_zero : ((Tryz.prog.info? 48).bind (·.zero)).isSome = true := by kernel_rfl
theorem doutElem : Elem Tryz.prog 35 48 (.agg Tryz.zeroCells48) 135 184 := ⟨by kernel_rfl, by kernel_rfl⟩
theorem ld_b3 {W : World} {b o : Nat} {x y z : Bool} (h : W.rangeAt b o [.bool x, .bool y, .bool z]) : (Instr.loadAt 45 (.pointer (some ⟨b, o, none⟩))).run Tryz.prog W = .ok (.agg #[.bool x, .bool y, .bool z]) W := by
  have := run_loadAt_mid (P := Tryz.prog) W b o 45 [.bool x, .bool y, .bool z] _ h b3_under rfl (by kernel_rfl)
  rw [this]
theorem nb_app (x y : List Nat) : nb (x ++ y) = nb x ++ nb y := by simp [nb]
theorem ld_ids {W : World} {b o : Nat} {t : T3 (List Nat)} (ha : OkId t.a) (hb : OkId t.b) (hc : OkId t.c) (h : W.rangeAt b o (nb t.a ++ (nb t.b ++ nb t.c))) : (Instr.loadAt 46 (.pointer (some ⟨b, o, none⟩))).run Tryz.prog W = .ok (.agg (nums .u8 (t.a ++ (t.b ++ t.c)))) W := by
  rw [← nb_app, ← nb_app] at h
  have := run_loadAt_mid (P := Tryz.prog) W b o 46 (nb (t.a ++ (t.b ++ t.c))) _ h ids3_under rfl (by rw [nb_len, List.length_append, List.length_append, ha.1, hb.1, hc.1]; kernel_rfl)
  rw [this]; rfl
set_option maxRecDepth 100000 in
set_option maxHeartbeats 4000000 in
theorem built_dout {l m : List Nat} (h : l.length = 32) (hm : m.length = 96) (p : ByteArray) (k : Int) (s : Nat) (t : ByteArray) (x y z : Bool) : (Tryz.prog).built 48 [(0, .string p), (1, .int .i64 k), (2, .agg (nums .u8 l)), (3, .float .f64 s), (4, .string t), (5, .agg #[.bool x, .bool y, .bool z]), (6, .agg (nums .u8 m))] =
    some (.string p :: .int .i64 k :: (nb l ++ (.float .f64 s :: .string t :: .bool x :: .bool y :: .bool z :: nb m))).toArray := by
  iterate 32 (rcases l with _ | ⟨a, l⟩; · exact absurd h (by simp))
  rcases l with _ | ⟨a, l⟩
  · clear h
    iterate 96 (rcases m with _ | ⟨a, m⟩; · exact absurd hm (by simp))
    rcases m with _ | ⟨a, m⟩
    · clear hm
      show (_ : Option (Array Value)) = _
      kernel_rfl
    · exact absurd hm (by simp)
  · exact absurd h (by simp)
theorem rb_dout {o : Ou} (h : OkOu o) (w : World) : (Instr.build 48 #[(0, .string o.path), (1, .int .i64 o.kind), (2, .agg (nums .u8 o.id)), (3, .float .f64 o.stamp), (4, .string o.text), (5, .agg #[.bool o.has.a, .bool o.has.b, .bool o.has.c]), (6, .agg (nums .u8 (o.ids.a ++ (o.ids.b ++ o.ids.c))))]).run Tryz.prog w = .ok (.agg (doC o).toArray) w := by
  have hb := built_dout (l := o.id) (m := o.ids.a ++ (o.ids.b ++ o.ids.c)) h.id.1 (by rw [List.length_append, List.length_append, h.ia.1, h.ib.1, h.ic.1]) o.path o.kind o.stamp o.text o.has.a o.has.b o.has.c
  rw [nb_app, nb_app] at hb
  exact run_build w _ _ _ hb
theorem doC_one' {o : Ou} : ∀ u ∈ doC o, u.oneCell' = true := by
  intro u hu
  simp only [doC, List.mem_cons, List.mem_append] at hu
  have hn : ∀ {l : List Nat}, u ∈ nb l → u.oneCell' = true := fun h => by obtain ⟨y, -, rfl⟩ := List.mem_map.1 h; rfl
  rcases hu with rfl | rfl | hu | rfl | rfl | rfl | rfl | rfl | hu | hu | hu
  · rfl
  · rfl
  · exact hn hu
  · rfl
  · rfl
  · rfl
  · rfl
  · rfl
  · exact hn hu
  · exact hn hu
  · exact hn hu
theorem doR_step {V : List Ov} {k : Nat} (hk : k < V.length) : doR ((V.take (k + 1)).map (·.o)) = doR ((V.take k).map (·.o)) ++ doC V[k].o := by
  rw [List.take_add_one, List.getElem?_eq_getElem hk]
  show (((V.take k) ++ [V[k]]).map (·.o)).flatMap doC = _
  rw [List.map_append, List.flatMap_append]
  show _ ++ (doC V[k].o ++ []) = _
  rw [List.append_nil]; rfl
theorem tx_tr {w : World} {v : Value} {t : ByteArray} (h : Tx w v t) : Tr w v t := by obtain ⟨a, c, e, _, _, _, hs⟩ := h; exact ⟨a, c, e, hs⟩
/-- The fields of an outcome that lies at an address. -/
theorem ou_fld {W : World} {b o : Nat} {x : Ou} {v : Value} (hx : OkOu x) (h : W.rangeAt b o (.string x.path :: .int .i64 x.kind :: (nb x.id ++ (.float .f64 x.stamp :: v :: .bool x.has.a :: .bool x.has.b :: .bool x.has.c :: (nb x.ids.a ++ (nb x.ids.b ++ nb x.ids.c)))))) :
    W.cell? ⟨b, o, none⟩ = some (.string x.path) ∧ W.cell? ⟨b, o + 1, none⟩ = some (.int .i64 x.kind) ∧ W.rangeAt b (o + 2) (nb x.id) ∧ W.cell? ⟨b, o + 34, none⟩ = some (.float .f64 x.stamp) ∧ W.cell? ⟨b, o + 35, none⟩ = some v ∧ W.rangeAt b (o + 36) [.bool x.has.a, .bool x.has.b, .bool x.has.c] ∧ W.rangeAt b (o + 39) (nb x.ids.a ++ (nb x.ids.b ++ nb x.ids.c)) := by
  have hl := nb_len x.id
  rw [hx.id.1] at hl
  refine ⟨h 0 _ rfl, h 1 _ rfl, fun j u hu => ?_, h 34 _ ?_, h 35 _ ?_, fun j u hu => ?_, fun j u hu => ?_⟩
  · rw [Nat.add_assoc]
    refine h (2 + j) u ?_
    rw [show 2 + j = j + 1 + 1 by omega, List.getElem?_cons_succ, List.getElem?_cons_succ, List.getElem?_append_left (List.getElem?_eq_some_iff.1 hu).1]; exact hu
  · rw [show (34 : Nat) = 32 + 1 + 1 from rfl, List.getElem?_cons_succ, List.getElem?_cons_succ, List.getElem?_append_right (by omega), hl]; rfl
  · rw [show (35 : Nat) = 33 + 1 + 1 from rfl, List.getElem?_cons_succ, List.getElem?_cons_succ, List.getElem?_append_right (by omega), hl]; rfl
  · rw [Nat.add_assoc]
    refine h (36 + j) u ?_
    rw [show 36 + j = (34 + j) + 1 + 1 by omega, List.getElem?_cons_succ, List.getElem?_cons_succ, List.getElem?_append_right (by omega), hl, show 34 + j - 32 = j + 1 + 1 by omega, List.getElem?_cons_succ, List.getElem?_cons_succ]
    have hj := (List.getElem?_eq_some_iff.1 hu).1
    rcases j with _ | _ | _ | j
    · exact hu
    · exact hu
    · exact hu
    · simp at hj; omega
  · rw [Nat.add_assoc]
    refine h (39 + j) u ?_
    rw [show 39 + j = (37 + j) + 1 + 1 by omega, List.getElem?_cons_succ, List.getElem?_cons_succ, List.getElem?_append_right (by omega), hl, show 37 + j - 32 = j + 1 + 1 + 1 + 1 + 1 by omega, List.getElem?_cons_succ, List.getElem?_cons_succ, List.getElem?_cons_succ, List.getElem?_cons_succ, List.getElem?_cons_succ]; exact hu

set_option maxRecDepth 100000 in
set_option maxHeartbeats 8000000 in
theorem outcomes_c {w : World} {v : Value} {V : List Ov} (h : OR w v V) (htx : ∀ x ∈ V, Tx w x.tv x.o.text) (hn : V.length ≤ 100000) : Calls Tryz.prog 17 #[v] w fun e w' => ∃ v', e = .returned v' ∧ DR w' v' (V.map (·.o)) ∧ Below w.heap.size w w' := by
  have HRB := Lib.hid h
  have HTXS := Lib.hid htx
  obtain ⟨a, c, rfl⟩ := h.lit
  clear h htx
  go_enter Tryz.func17, Tryz.ntmps17
  go_upto_region 3 with fail
  go_loopw [3, 8] (fun fv kv wx => ∃ k : Nat, k ≤ V.length ∧ kv = .int .i64 k ∧ Hid (OwnG wx 48 135 fv k (doR ((V.take k).map (·.o)))) ∧ Hid (∀ b, fv.ownBlock = some b → w.heap.size ≤ b) ∧ Hid (Below w.heap.size w wx)) (fun _ kv _ => (V.length - intOf kv).toNat)
  case atStart => exact ⟨0, Nat.zero_le _, rfl, OwnG.nil _ _ _, fun b hb => (by cases hb), Below.refl _ _⟩
  case round =>
    obtain ⟨k, hk, rfl, HOW, HOB, HBW⟩ := hrel
    by_cases hkl : k < V.length
    · have k1 : decide ((k : Int) < (V.length : Int)) = true := decide_eq_true (by omega)
      have k2 : decide (k < V.length) = true := decide_eq_true hkl
      have k3 : (0 : Int) ≤ (k : Int) := by omega
      have k4 : (k : Int) < (V.length : Int) := by omega
      have kw : IntKind.i64.wrap ((k : Int) + 1) = ((k + 1 : Nat) : Int) := IntWalk.i64_in _ (by omega)
      obtain ⟨b, o, c', e, hbl, hr⟩ := (HRB.out.below HBW.out).at hkl
      injection e with e1 _ e2
      subst e1 e2
      have HR : Hid (wr.rangeAt b (o + k * 135) (ouC V[k])) := hr k hkl
      have HXO : Hid (OkOu V[k].o) := HRB.out.ok _ (List.getElem_mem hkl)
      have HTX : Hid (Tr wr V[k].tv V[k].o.text) := (tx_tr (HTXS.out _ (List.getElem_mem hkl))).below HBW.out
      have HCL : Hid ((ouC V[k]).length = 135) := ouC_len HXO.out
      have HOE : Hid ((ouC V[k]).toArray.all (·.oneCell') = true) := by show _ = _; rw [List.all_toArray, List.all_eq_true]; exact ouC_one (tr_one HTX.out)
      have HST : Hid (doR ((V.take (k + 1)).map (·.o)) = doR ((V.take k).map (·.o)) ++ doC V[k].o) := doR_step hkl
      clear hr hbl
      generalize V[k] = x at *
      go_upto_region 5 with (first
        | (refine wpList_load_mid rfl 54 _ rfl b (o + k * 135) rfl (ouC x) _ HR.out Tryz.underlying54 rfl (by rw [HCL.out]; exact out_info) ?_)
        | (refine wp_storeB rfl 54 _ _ rfl wr.heap.size (ouC x).toArray rfl rfl Array.getElem?_push_size (out_zsz HCL.out) (out_isz HCL.out) HOE.out ?_; intro W8 hb8 hg8))
      have hB8 : Below wr.heap.size wr W8 := ((Below.refl wr.heap.size wr).alloc (Nat.le_refl _) _).grown hg8 (by simp) (fun k hk => by cases hk; exact Nat.le_refl _)
      have HOW8 := Lib.hid (HOW.out.below hB8)
      have HB8 := Lib.hid (HBW.out.trans (hB8.mono HBW.out.size))
      have hcc : W8.rangeAt wr.heap.size 0 (ouC x) := fun j u hu => by rw [Nat.zero_add]; simp only [World.cell?, hb8]; simpa using hu
      have hfl := ou_fld HXO.out hcc
      have hfl2 : W8.cell? ⟨wr.heap.size, 0, none⟩ = some (.string x.o.path) ∧ W8.cell? ⟨wr.heap.size, 1, none⟩ = some (.int .i64 x.o.kind) ∧ W8.rangeAt wr.heap.size 2 (nb x.o.id) ∧ W8.cell? ⟨wr.heap.size, 34, none⟩ = some (.float .f64 x.o.stamp) ∧ W8.cell? ⟨wr.heap.size, 35, none⟩ = some x.tv ∧ W8.rangeAt wr.heap.size 36 [.bool x.o.has.a, .bool x.o.has.b, .bool x.o.has.c] ∧ W8.rangeAt wr.heap.size 39 (nb x.o.ids.a ++ (nb x.o.ids.b ++ nb x.o.ids.c)) := by simpa only [Nat.zero_add] using hfl
      have HFL := Lib.hid hfl2
      have HCV := Lib.hid (tr_str (HTX.out.below hB8))
      clear hb8 hg8 hB8 HBW HOW HR HCL hcc HTX hfl hfl2 HOE
      generalize wr.heap.size = p7 at *
      have HCF : Hid ((doC x.o).length = 135) := doC_len HXO.out
      have HBA : Hid (Below W8.heap.size W8 (W8.alloc (.cells (doC x.o).toArray 48))) := (Below.refl _ W8).alloc (Nat.le_refl _) _
      have HSRC : Hid (Src Tryz.prog 135 35 (.slice (some ⟨W8.heap.size, 0, none⟩) 1 1) 1 (doC x.o) (W8.alloc (.cells (doC x.o).toArray 48))) := Src.ofNew Tryz.underlying35 HCF.out doC_one'
      have HOW9 := Lib.hid (HOW8.out.below HBA.out)
      go_upto_region 5 with fail
      refine goP_start ?_
      refine goP_mv rfl 12 rfl _ rfl u3 rfl ?_; simp only [zT, zA, zB]
      refine goP_tk rfl 13 rfl (.pointer (some ⟨p7, 0, none⟩)) (rfl) ?_; simp only [zT, zA, zB]
      refine goP_ld rfl 14 rfl 9 _ rfl ⟨p7, 0, none⟩ (.string x.o.path) rfl (ld_string _ _ _ HFL.out.1) ?_; simp only [zT, zA, zB]
      refine goP_tk rfl 15 rfl (.pointer (some ⟨p7, 1, none⟩)) (rfl) ?_; simp only [zT, zA, zB]
      refine goP_ld rfl 16 rfl 3 _ rfl ⟨p7, 1, none⟩ (.int .i64 x.o.kind) rfl (ld_int _ _ _ HFL.out.2.1) ?_; simp only [zT, zA, zB]
      refine goP_tk rfl 17 rfl (.pointer (some ⟨p7, 2, none⟩)) (rfl) ?_; simp only [zT, zA, zB]
      refine goP_ld rfl 18 rfl 43 _ rfl ⟨p7, 2, none⟩ (.agg (nums .u8 x.o.id)) rfl (ld_id HXO.out.id HFL.out.2.2.1) ?_; simp only [zT, zA, zB]
      refine goP_tk rfl 19 rfl (.pointer (some ⟨p7, 34, none⟩)) (rfl) ?_; simp only [zT, zA, zB]
      refine goP_ld rfl 20 rfl 44 _ rfl ⟨p7, 34, none⟩ (.float .f64 x.o.stamp) rfl (ld_float _ _ _ HFL.out.2.2.2.1) ?_; simp only [zT, zA, zB]
      refine goP_tk rfl 21 rfl (.pointer (some ⟨p7, 35, none⟩)) (rfl) ?_; simp only [zT, zA, zB]
      refine goP_ld rfl 22 rfl 52 _ rfl ⟨p7, 35, none⟩ x.tv rfl (ld_u8s _ _ _ HFL.out.2.2.2.2.1) ?_; simp only [zT, zA, zB]
      refine goP_tk rfl 23 rfl (.string x.o.text) (exec_conv _ rfl rfl HCV.out) ?_; simp only [zT, zA, zB]
      refine goP_tk rfl 24 rfl (.pointer (some ⟨p7, 36, none⟩)) (rfl) ?_; simp only [zT, zA, zB]
      refine goP_ld rfl 25 rfl 45 _ rfl ⟨p7, 36, none⟩ (.agg #[.bool x.o.has.a, .bool x.o.has.b, .bool x.o.has.c]) rfl (ld_b3 HFL.out.2.2.2.2.2.1) ?_; simp only [zT, zA, zB]
      refine goP_tk rfl 26 rfl (.pointer (some ⟨p7, 39, none⟩)) (rfl) ?_; simp only [zT, zA, zB]
      refine goP_ld rfl 27 rfl 46 _ rfl ⟨p7, 39, none⟩ (.agg (nums .u8 (x.o.ids.a ++ (x.o.ids.b ++ x.o.ids.c)))) rfl (ld_ids HXO.out.ia HXO.out.ib HXO.out.ic HFL.out.2.2.2.2.2.2) ?_; simp only [zT, zA, zB]
      refine goP_tk rfl 28 rfl (.agg (doC x.o).toArray) (exec_build _ rfl (by simp [Act.eval]) (rb_dout HXO.out) _) ?_; simp only [zT, zA, zB]
      refine goP_out ?_
      go_upto_region 6 with (first
        | (refine wpList_build1 (cs := (doC x.o).toArray) (n := 135) rfl _ rfl (by simp only [Act.put, List.setIfInBounds_toArray]; simp [Act.eval]) Tryz.underlying35 dout_info dout_zero (by decide) (by decide) (by rw [List.size_toArray]; exact HCF.out) ?_)
        | (refine wp_appG rfl _ _ _ _ rfl doutElem (by kernel_rfl) (v := u3) (xv := .slice (some ⟨W8.heap.size, 0, none⟩) 1 1) (n := k) (m := 1) rfl HOW9.out rfl HSRC.out (by simp only [maxLen]; omega) (by omega) ?_; intro v10 W10 ho10 hg10 hv10))
      have HOW10 : Hid (Hid (OwnG W10 48 135 v10 (k + 1) (doR ((V.take (k + 1)).map (·.o))))) := by show OwnG _ _ _ _ _ _; rw [HST.out]; exact ho10
      have HOB10 : Hid (Hid (∀ b, v10.ownBlock = some b → w.heap.size ≤ b)) := fun b hb => (hv10 b hb).elim (HOB.out b) (fun h => by have h1 := HBA.out.size; have h2 := HB8.out.size; omega)
      have HB10 : Hid (Hid (Below w.heap.size w W10)) := (HB8.out.trans (HBA.out.mono HB8.out.size)).grown hg10 (Nat.le_trans HB8.out.size HBA.out.size) (fun b hb => HOB.out b hb)
      clear ho10 hg10 hv10 HOW9 HSRC HBA HCF HFL HCV HOW8 HB8 HOB
      go_wp2_with fail
      go_roundw
      case rel => exact ⟨k + 1, hkl, by go_num, HOW10.out, HOB10.out, HB10.out⟩
      case measure => simp [intOf]; omega
    · have hkn : k = V.length := by omega
      subst hkn
      have k1 : decide ((V.length : Int) < (V.length : Int)) = false := decide_eq_false (by omega)
      have hbs : DR wr u3 (V.map (·.o)) := by
        have h1 := HOW.out
        rw [List.take_length] at h1
        obtain ⟨a', c', e, _, _, hs⟩ := h1.form
        refine ⟨⟨a', c', by rw [List.length_map]; exact e, hs⟩, fun b hb => ?_⟩
        obtain ⟨x, hx, rfl⟩ := List.mem_map.1 hb
        exact HRB.out.ok x hx
      have HBS := Lib.hid hbs
      clear hbs HOW HOB
      go_wp2_with fail
      go_ret
      exact ⟨_, rfl, HBS.out, HBW.out⟩

set_option maxRecDepth 100000 in
theorem dalike_c (x : Nat) (w : World) : Calls Tryz.prog 35 #[.float .f64 x, .float .f64 x] w fun e w' => e = .returned (.bool true) ∧ w' = w := by
  have h1 := refbits_c x
  go_enter Tryz.func35, Tryz.ntmps35
  go_wp2_with (go_at_call 20; refine (h1 _).mono ?_; rintro _ _ ⟨rfl, rfl⟩)
  go_ret
  exact ⟨rfl, rfl⟩
/-- An outcome that lies at an address. -/
def Fl (W : World) (b o : Nat) (x : Ou) (v : Value) : Prop := W.cell? ⟨b, o, none⟩ = some (.string x.path) ∧ W.cell? ⟨b, o + 1, none⟩ = some (.int .i64 x.kind) ∧ W.rangeAt b (o + 2) (nb x.id) ∧ W.cell? ⟨b, o + 34, none⟩ = some (.float .f64 x.stamp) ∧ W.cell? ⟨b, o + 35, none⟩ = some v ∧ W.rangeAt b (o + 36) [.bool x.has.a, .bool x.has.b, .bool x.has.c] ∧ W.rangeAt b (o + 39) (nb x.ids.a ++ (nb x.ids.b ++ nb x.ids.c))
set_option maxRecDepth 100000 in
set_option maxHeartbeats 8000000 in
theorem dsame_c {w : World} {va vb : Value} {l : List Ou} (ha : DR w va l) (hb : DR w vb l) (hn : l.length ≤ 100000) : Calls Tryz.prog 16 #[va, vb] w fun e w' => e = .returned (.bool true) ∧ Below w.heap.size w w' := by
  have HA := Lib.hid ha
  have HB := Lib.hid hb
  obtain ⟨aa, ca, rfl⟩ := ha.lit
  obtain ⟨ab, cb, rfl⟩ := hb.lit
  have e0 : ((l.length : Int) == (l.length : Int)) = true := beq_self_eq_true _
  clear ha hb
  go_enter Tryz.func16, Tryz.ntmps16
  go_upto_region 4 with fail
  go_loopw [5] (fun kv wx => ∃ k : Nat, k ≤ l.length ∧ kv = .int .i64 k ∧ Hid (Below w.heap.size w wx)) (fun kv _ => (l.length - intOf kv).toNat)
  case atStart => exact ⟨0, Nat.zero_le _, rfl, Below.refl _ _⟩
  case round =>
    obtain ⟨k, hk, rfl, HBW⟩ := hrel
    by_cases hkl : k < l.length
    · have k1 : decide ((k : Int) < (l.length : Int)) = true := decide_eq_true (by omega)
      have k2 : decide (k < l.length) = true := decide_eq_true hkl
      have k3 : (0 : Int) ≤ (k : Int) := by omega
      have k4 : (k : Int) < (l.length : Int) := by omega
      have kw : IntKind.i64.wrap ((k : Int) + 1) = ((k + 1 : Nat) : Int) := IntWalk.i64_in _ (by omega)
      obtain ⟨ba, oa, c1, e, hla, hra⟩ := (HA.out.below HBW.out).at hkl
      injection e with e1 _ e2
      subst e1 e2
      obtain ⟨bb, ob, c2, e, hlb, hrb⟩ := (HB.out.below HBW.out).at hkl
      injection e with e1 _ e2
      subst e1 e2
      have HXO : Hid (OkOu l[k]) := HA.out.ok _ (List.getElem_mem hkl)
      have HFA : Hid (Fl wr ba (oa + k * 135) l[k] (.string l[k].text)) := ou_fld HXO.out hra
      have HFB : Hid (Fl wr bb (ob + k * 135) l[k] (.string l[k].text)) := ou_fld HXO.out hrb
      clear hla hra hlb hrb
      generalize l[k] = x at *
      go_upto_region 6 with fail
      have hs0 : Fl (wr.drewN 1) ba (oa + k * 135) x (.string x.text) ∧ Fl (wr.drewN 1) bb (ob + k * 135) x (.string x.text) := ⟨HFA.out, HFB.out⟩
      refine wp_region_hz (fun W => Fl W ba (oa + k * 135) x (.string x.text) ∧ Fl W bb (ob + k * 135) x (.string x.text)) (.tk 0 (.tk 1 (.tk 2 (.tk 3 (.tk 4 (.tk 5 (.tk 6 (.tk 7 (.tk 8 (.tk 9 (.tk 10 (.tk 11 (.tk 12 (.tk 13 (.tk 14 (.tk 15 (.tk 16 (.tk 17 (.tk 18 (.tk 19 (.tk 20 (.tk 21 (.tk 22 (.tk 23 (.tk 24 (.tk 25 (.tk 26 (.tk 27 (.tk 28 (.tk 29 (.tk 30 (.tk 31 (.tk 32 (.tk 33 (.tk 34 (.tk 35 (.tk 36 (.tk 37 (.tk 38 (.tk 39 (.tk 40 (.tk 41 (.tk 42 (.tk 43 (.tk 44 (.tk 45 (.tk 46 (.tk 47 (.fc 48 (.tk 49 (.tk 50 (.tk 51 (.tk 52 (.tk 53 (.tk 54 (.tk 55 (.tk 56 (.tk 57 (.tk 58 (.tk 59 (.tk 60 (.tk 61 (.tk 62 (.tk 63 (.tk 64 (.tk 65 (.tk 66 (.tk 67 (.tk 68 (.tk 69 (.tk 70 (.tk 71 (.tk 72 (.tk 73 (.tk 74 (.tk 75 (.tk 76 (.tk 77 (.tk 78 (.tk 79 (.tk 80 (.tk 81 (.tk 82 (.tk 83 (.tk 84 (.tk 85 (.tk 86 (.tk 87 (.tk 88 (.tk 89 (.nil))))))))))))))))))))))))))))))))))))))))))))))))))))))))))))))))))))))))))))))))))))))))))) (by kernel_rfl) (by kernel_rfl) (fun _ _ _ _ _ h => h) ?_
      refine goZ_tk rfl rfl 17 rfl (.slice (some ⟨ba, oa, none⟩) l.length ca) (fun _ => rfl) ?_; simp only [zT, zA, zB]
      refine goZ_tk rfl rfl 18 rfl (.int .i64 k) (fun _ => rfl) ?_; simp only [zT, zA, zB]
      refine goZ_tk rfl rfl 19 rfl (.pointer (some ⟨ba, oa + k * 135, none⟩)) (fun _ => by go_simp) ?_; simp only [zT, zA, zB]
      refine goZ_tk rfl rfl 20 rfl (.pointer (some ⟨ba, oa + k * 135, none⟩)) (fun _ => rfl) ?_; simp only [zT, zA, zB]
      refine goZ_ld rfl rfl 21 rfl 9 _ rfl ⟨ba, oa + k * 135, none⟩ (.string x.path) rfl (fun W hS => ld_string _ _ W hS.1.1) (hs0) ?_; simp only [zT, zA, zB]
      refine goZ_tk rfl rfl 22 rfl (.slice (some ⟨bb, ob, none⟩) l.length cb) (fun _ => rfl) ?_; simp only [zT, zA, zB]
      refine goZ_tk rfl rfl 23 rfl (.int .i64 k) (fun _ => rfl) ?_; simp only [zT, zA, zB]
      refine goZ_tk rfl rfl 24 rfl (.pointer (some ⟨bb, ob + k * 135, none⟩)) (fun _ => by go_simp) ?_; simp only [zT, zA, zB]
      refine goZ_tk rfl rfl 25 rfl (.pointer (some ⟨bb, ob + k * 135, none⟩)) (fun _ => rfl) ?_; simp only [zT, zA, zB]
      refine goZ_ld rfl rfl 26 rfl 9 _ rfl ⟨bb, ob + k * 135, none⟩ (.string x.path) rfl (fun W hS => ld_string _ _ W hS.2.1) (hs0) ?_; simp only [zT, zA, zB]
      refine goZ_tk rfl rfl 27 rfl (.bool false) (fun _ => by go_simp) ?_; simp only [zT, zA, zB]
      refine goZ_tk rfl rfl 28 rfl (.bool false) (fun _ => rfl) ?_; simp only [zT, zA, zB]
      refine goZ_tk rfl rfl 29 rfl (.slice (some ⟨ba, oa, none⟩) l.length ca) (fun _ => rfl) ?_; simp only [zT, zA, zB]
      refine goZ_tk rfl rfl 30 rfl (.int .i64 k) (fun _ => rfl) ?_; simp only [zT, zA, zB]
      refine goZ_tk rfl rfl 31 rfl (.pointer (some ⟨ba, oa + k * 135, none⟩)) (fun _ => by go_simp) ?_; simp only [zT, zA, zB]
      refine goZ_tk rfl rfl 32 rfl (.pointer (some ⟨ba, oa + k * 135 + 1, none⟩)) (fun _ => rfl) ?_; simp only [zT, zA, zB]
      refine goZ_ld rfl rfl 33 rfl 3 _ rfl ⟨ba, oa + k * 135 + 1, none⟩ (.int .i64 x.kind) rfl (fun W hS => ld_int _ _ W hS.1.2.1) (hs0) ?_; simp only [zT, zA, zB]
      refine goZ_tk rfl rfl 34 rfl (.slice (some ⟨bb, ob, none⟩) l.length cb) (fun _ => rfl) ?_; simp only [zT, zA, zB]
      refine goZ_tk rfl rfl 35 rfl (.int .i64 k) (fun _ => rfl) ?_; simp only [zT, zA, zB]
      refine goZ_tk rfl rfl 36 rfl (.pointer (some ⟨bb, ob + k * 135, none⟩)) (fun _ => by go_simp) ?_; simp only [zT, zA, zB]
      refine goZ_tk rfl rfl 37 rfl (.pointer (some ⟨bb, ob + k * 135 + 1, none⟩)) (fun _ => rfl) ?_; simp only [zT, zA, zB]
      refine goZ_ld rfl rfl 38 rfl 3 _ rfl ⟨bb, ob + k * 135 + 1, none⟩ (.int .i64 x.kind) rfl (fun W hS => ld_int _ _ W hS.2.2.1) (hs0) ?_; simp only [zT, zA, zB]
      refine goZ_tk rfl rfl 39 rfl (.bool false) (fun _ => by go_simp) ?_; simp only [zT, zA, zB]
      refine goZ_tk rfl rfl 40 rfl (.bool false) (fun _ => rfl) ?_; simp only [zT, zA, zB]
      refine goZ_tk rfl rfl 41 rfl (.bool false) (fun _ => rfl) ?_; simp only [zT, zA, zB]
      refine goZ_tk rfl rfl 42 rfl (.slice (some ⟨ba, oa, none⟩) l.length ca) (fun _ => rfl) ?_; simp only [zT, zA, zB]
      refine goZ_tk rfl rfl 43 rfl (.int .i64 k) (fun _ => rfl) ?_; simp only [zT, zA, zB]
      refine goZ_tk rfl rfl 44 rfl (.pointer (some ⟨ba, oa + k * 135, none⟩)) (fun _ => by go_simp) ?_; simp only [zT, zA, zB]
      refine goZ_tk rfl rfl 45 rfl (.pointer (some ⟨ba, oa + k * 135 + 2, none⟩)) (fun _ => rfl) ?_; simp only [zT, zA, zB]
      refine goZ_ld rfl rfl 46 rfl 43 _ rfl ⟨ba, oa + k * 135 + 2, none⟩ (.agg (nums .u8 x.id)) rfl (fun W hS => ld_id HXO.out.id hS.1.2.2.1) (hs0) ?_; simp only [zT, zA, zB]
      refine goZ_tk rfl rfl 47 rfl (.slice (some ⟨bb, ob, none⟩) l.length cb) (fun _ => rfl) ?_; simp only [zT, zA, zB]
      refine goZ_tk rfl rfl 48 rfl (.int .i64 k) (fun _ => rfl) ?_; simp only [zT, zA, zB]
      refine goZ_tk rfl rfl 49 rfl (.pointer (some ⟨bb, ob + k * 135, none⟩)) (fun _ => by go_simp) ?_; simp only [zT, zA, zB]
      refine goZ_tk rfl rfl 50 rfl (.pointer (some ⟨bb, ob + k * 135 + 2, none⟩)) (fun _ => rfl) ?_; simp only [zT, zA, zB]
      refine goZ_ld rfl rfl 51 rfl 43 _ rfl ⟨bb, ob + k * 135 + 2, none⟩ (.agg (nums .u8 x.id)) rfl (fun W hS => ld_id HXO.out.id hS.2.2.2.1) (hs0) ?_; simp only [zT, zA, zB]
      refine goZ_tk rfl rfl 52 rfl (.bool false) (exec_bin _ _ rfl rfl rfl (fun _ => by first | rfl | go_simp) (id_same HXO.out.id)) ?_; simp only [zT, zA, zB]
      refine goZ_tk rfl rfl 53 rfl (.bool false) (fun _ => rfl) ?_; simp only [zT, zA, zB]
      refine goZ_tk rfl rfl 54 rfl (.bool false) (fun _ => rfl) ?_; simp only [zT, zA, zB]
      refine goZ_tk rfl rfl 55 rfl (.slice (some ⟨ba, oa, none⟩) l.length ca) (fun _ => rfl) ?_; simp only [zT, zA, zB]
      refine goZ_tk rfl rfl 56 rfl (.int .i64 k) (fun _ => rfl) ?_; simp only [zT, zA, zB]
      refine goZ_tk rfl rfl 57 rfl (.pointer (some ⟨ba, oa + k * 135, none⟩)) (fun _ => by go_simp) ?_; simp only [zT, zA, zB]
      refine goZ_tk rfl rfl 58 rfl (.pointer (some ⟨ba, oa + k * 135 + 34, none⟩)) (fun _ => rfl) ?_; simp only [zT, zA, zB]
      refine goZ_ld rfl rfl 59 rfl 44 _ rfl ⟨ba, oa + k * 135 + 34, none⟩ (.float .f64 x.stamp) rfl (fun W hS => ld_float _ _ W hS.1.2.2.2.1) (hs0) ?_; simp only [zT, zA, zB]
      refine goZ_tk rfl rfl 60 rfl (.slice (some ⟨bb, ob, none⟩) l.length cb) (fun _ => rfl) ?_; simp only [zT, zA, zB]
      refine goZ_tk rfl rfl 61 rfl (.int .i64 k) (fun _ => rfl) ?_; simp only [zT, zA, zB]
      refine goZ_tk rfl rfl 62 rfl (.pointer (some ⟨bb, ob + k * 135, none⟩)) (fun _ => by go_simp) ?_; simp only [zT, zA, zB]
      refine goZ_tk rfl rfl 63 rfl (.pointer (some ⟨bb, ob + k * 135 + 34, none⟩)) (fun _ => rfl) ?_; simp only [zT, zA, zB]
      refine goZ_ld rfl rfl 64 rfl 44 _ rfl ⟨bb, ob + k * 135 + 34, none⟩ (.float .f64 x.stamp) rfl (fun W hS => ld_float _ _ W hS.2.2.2.2.1) (hs0) ?_; simp only [zT, zA, zB]
      refine goZ_call (ds' := [34, 29, 21, 16, 9, 4]) rfl rfl (by kernel_rfl) 65 rfl 35 _ rfl [(.float .f64 x.stamp), (.float .f64 x.stamp)] rfl (enters_of Tryz.func35 (by kernel_rfl) rfl) ((dalike_c x.stamp _).mono ?_)
      rintro _ _ ⟨rfl, rfl⟩
      refine ⟨(.bool true), rfl, fun _ => hs0, ?_⟩; simp only [zT, zA, zB]
      refine goZ_tk rfl rfl 66 rfl (.bool false) (fun _ => by first | rfl | go_simp) ?_; simp only [zT, zA, zB]
      refine goZ_tk rfl rfl 67 rfl (.bool false) (fun _ => rfl) ?_; simp only [zT, zA, zB]
      refine goZ_tk rfl rfl 68 rfl (.bool false) (fun _ => rfl) ?_; simp only [zT, zA, zB]
      refine goZ_tk rfl rfl 69 rfl (.slice (some ⟨ba, oa, none⟩) l.length ca) (fun _ => rfl) ?_; simp only [zT, zA, zB]
      refine goZ_tk rfl rfl 70 rfl (.int .i64 k) (fun _ => rfl) ?_; simp only [zT, zA, zB]
      refine goZ_tk rfl rfl 71 rfl (.pointer (some ⟨ba, oa + k * 135, none⟩)) (fun _ => by go_simp) ?_; simp only [zT, zA, zB]
      refine goZ_tk rfl rfl 72 rfl (.pointer (some ⟨ba, oa + k * 135 + 35, none⟩)) (fun _ => rfl) ?_; simp only [zT, zA, zB]
      refine goZ_ld rfl rfl 73 rfl 9 _ rfl ⟨ba, oa + k * 135 + 35, none⟩ (.string x.text) rfl (fun W hS => ld_string _ _ W hS.1.2.2.2.2.1) (hs0) ?_; simp only [zT, zA, zB]
      refine goZ_tk rfl rfl 74 rfl (.slice (some ⟨bb, ob, none⟩) l.length cb) (fun _ => rfl) ?_; simp only [zT, zA, zB]
      refine goZ_tk rfl rfl 75 rfl (.int .i64 k) (fun _ => rfl) ?_; simp only [zT, zA, zB]
      refine goZ_tk rfl rfl 76 rfl (.pointer (some ⟨bb, ob + k * 135, none⟩)) (fun _ => by go_simp) ?_; simp only [zT, zA, zB]
      refine goZ_tk rfl rfl 77 rfl (.pointer (some ⟨bb, ob + k * 135 + 35, none⟩)) (fun _ => rfl) ?_; simp only [zT, zA, zB]
      refine goZ_ld rfl rfl 78 rfl 9 _ rfl ⟨bb, ob + k * 135 + 35, none⟩ (.string x.text) rfl (fun W hS => ld_string _ _ W hS.2.2.2.2.2.1) (hs0) ?_; simp only [zT, zA, zB]
      refine goZ_tk rfl rfl 79 rfl (.bool false) (fun _ => by go_simp) ?_; simp only [zT, zA, zB]
      refine goZ_tk rfl rfl 80 rfl (.bool false) (fun _ => rfl) ?_; simp only [zT, zA, zB]
      refine goZ_tk rfl rfl 81 rfl (.bool false) (fun _ => rfl) ?_; simp only [zT, zA, zB]
      refine goZ_tk rfl rfl 82 rfl (.slice (some ⟨ba, oa, none⟩) l.length ca) (fun _ => rfl) ?_; simp only [zT, zA, zB]
      refine goZ_tk rfl rfl 83 rfl (.int .i64 k) (fun _ => rfl) ?_; simp only [zT, zA, zB]
      refine goZ_tk rfl rfl 84 rfl (.pointer (some ⟨ba, oa + k * 135, none⟩)) (fun _ => by go_simp) ?_; simp only [zT, zA, zB]
      refine goZ_tk rfl rfl 85 rfl (.pointer (some ⟨ba, oa + k * 135 + 36, none⟩)) (fun _ => rfl) ?_; simp only [zT, zA, zB]
      refine goZ_ld rfl rfl 86 rfl 45 _ rfl ⟨ba, oa + k * 135 + 36, none⟩ (.agg #[.bool x.has.a, .bool x.has.b, .bool x.has.c]) rfl (fun W hS => ld_b3 hS.1.2.2.2.2.2.1) (hs0) ?_; simp only [zT, zA, zB]
      refine goZ_tk rfl rfl 87 rfl (.slice (some ⟨bb, ob, none⟩) l.length cb) (fun _ => rfl) ?_; simp only [zT, zA, zB]
      refine goZ_tk rfl rfl 88 rfl (.int .i64 k) (fun _ => rfl) ?_; simp only [zT, zA, zB]
      refine goZ_tk rfl rfl 89 rfl (.pointer (some ⟨bb, ob + k * 135, none⟩)) (fun _ => by go_simp) ?_; simp only [zT, zA, zB]
      refine goZ_tk rfl rfl 90 rfl (.pointer (some ⟨bb, ob + k * 135 + 36, none⟩)) (fun _ => rfl) ?_; simp only [zT, zA, zB]
      refine goZ_ld rfl rfl 91 rfl 45 _ rfl ⟨bb, ob + k * 135 + 36, none⟩ (.agg #[.bool x.has.a, .bool x.has.b, .bool x.has.c]) rfl (fun W hS => ld_b3 hS.2.2.2.2.2.2.1) (hs0) ?_; simp only [zT, zA, zB]
      refine goZ_tk rfl rfl 92 rfl (.bool false) (exec_bin _ _ rfl rfl rfl (fun _ => by first | rfl | go_simp) (b3_same _ _ _)) ?_; simp only [zT, zA, zB]
      refine goZ_tk rfl rfl 93 rfl (.bool false) (fun _ => rfl) ?_; simp only [zT, zA, zB]
      refine goZ_tk rfl rfl 94 rfl (.bool false) (fun _ => rfl) ?_; simp only [zT, zA, zB]
      refine goZ_tk rfl rfl 95 rfl (.slice (some ⟨ba, oa, none⟩) l.length ca) (fun _ => rfl) ?_; simp only [zT, zA, zB]
      refine goZ_tk rfl rfl 96 rfl (.int .i64 k) (fun _ => rfl) ?_; simp only [zT, zA, zB]
      refine goZ_tk rfl rfl 97 rfl (.pointer (some ⟨ba, oa + k * 135, none⟩)) (fun _ => by go_simp) ?_; simp only [zT, zA, zB]
      refine goZ_tk rfl rfl 98 rfl (.pointer (some ⟨ba, oa + k * 135 + 39, none⟩)) (fun _ => rfl) ?_; simp only [zT, zA, zB]
      refine goZ_ld rfl rfl 99 rfl 46 _ rfl ⟨ba, oa + k * 135 + 39, none⟩ (.agg (nums .u8 (x.ids.a ++ (x.ids.b ++ x.ids.c)))) rfl (fun W hS => ld_ids HXO.out.ia HXO.out.ib HXO.out.ic hS.1.2.2.2.2.2.2) (hs0) ?_; simp only [zT, zA, zB]
      refine goZ_tk rfl rfl 100 rfl (.slice (some ⟨bb, ob, none⟩) l.length cb) (fun _ => rfl) ?_; simp only [zT, zA, zB]
      refine goZ_tk rfl rfl 101 rfl (.int .i64 k) (fun _ => rfl) ?_; simp only [zT, zA, zB]
      refine goZ_tk rfl rfl 102 rfl (.pointer (some ⟨bb, ob + k * 135, none⟩)) (fun _ => by go_simp) ?_; simp only [zT, zA, zB]
      refine goZ_tk rfl rfl 103 rfl (.pointer (some ⟨bb, ob + k * 135 + 39, none⟩)) (fun _ => rfl) ?_; simp only [zT, zA, zB]
      refine goZ_ld rfl rfl 104 rfl 46 _ rfl ⟨bb, ob + k * 135 + 39, none⟩ (.agg (nums .u8 (x.ids.a ++ (x.ids.b ++ x.ids.c)))) rfl (fun W hS => ld_ids HXO.out.ia HXO.out.ib HXO.out.ic hS.2.2.2.2.2.2.2) (hs0) ?_; simp only [zT, zA, zB]
      refine goZ_tk rfl rfl 105 rfl (.bool false) (exec_bin _ _ rfl rfl rfl (fun _ => by first | rfl | go_simp) (ids3_same HXO.out.ia HXO.out.ib HXO.out.ic)) ?_; simp only [zT, zA, zB]
      refine goZ_tk rfl rfl 106 rfl (.bool false) (fun _ => rfl) ?_; simp only [zT, zA, zB]
      refine goZ_end ?_
      have HB6 : Hid (Hid (Below w.heap.size w (wr.drewN 1))) := below_dN HBW.out 1
      clear hs0 HFA HFB HXO HBW
      generalize wr.drewN 1 = W6 at *
      go_wp2_with fail
      go_roundw
      case rel => exact ⟨k + 1, hkl, by go_num, HB6.out⟩
      case measure => simp [intOf]; omega
    · have hkn : k = l.length := by omega
      subst hkn
      have k1 : decide ((l.length : Int) < (l.length : Int)) = false := decide_eq_false (by omega)
      clear HA HB
      go_wp2_with fail
      go_ret
      exact ⟨rfl, HBW.out⟩
end Go.Proofs.YtpcipdkoncmdcaaGreatDoor
namespace Go.Proofs.YtpcipdkoncmdcaaGreatDoor
open Go Go.RowKit
/-- The loops of some code that lie in no other one, in the order of the text. -/
def loopsOf : Code → List Code
  | .loop c => [c]
  | .seq a b => loopsOf a ++ loopsOf b
  | .block _ c => loopsOf c
  | .scope c => loopsOf c
  | .cond _ a b => loopsOf a ++ loopsOf b
  | _ => []
end Go.Proofs.YtpcipdkoncmdcaaGreatDoor
