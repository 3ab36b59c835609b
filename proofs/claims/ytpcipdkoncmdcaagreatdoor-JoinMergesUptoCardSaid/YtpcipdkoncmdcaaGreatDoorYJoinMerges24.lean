/- Texts of mine, joined: Walk: raw blobs as the document's. | Walks: the program's files as the document's; the place of a path. | Walk: is a merging small enough, with blobs; raw blobs that came in. | What each outcome keeps: plain. -/
import Derived.Test.YtpcipdkoncmdcaaGreatDoorYJoinMerges23
namespace Go.Proofs.YtpcipdkoncmdcaaGreatDoor
open Go Go.RowKit
/-- A text that came in: whatever its capacity. -/
def Tr (w : World) (v : Value) (t : ByteArray) : Prop := ∃ a c, v = .slice a t.size c ∧ Sl w a (bts t)
theorem Tr.below {w w' : World} {v : Value} {t : ByteArray} (h : Tr w v t) (hb : Below w.heap.size w w') : Tr w' v t := by
  obtain ⟨a, c, e, hs⟩ := h
  exact ⟨a, c, e, hs.below hb⟩
theorem tr_str {w : World} {v : Value} {t : ByteArray} (h : Tr w v t) : (convert 52 9 v).run Tryz.prog w = .ok (.string t) w := by
  obtain ⟨a, c, rfl, hs⟩ := h
  exact run_str_of (P := Tryz.prog) Tryz.underlying52 Tryz.underlying5 Tryz.underlying9 hs c
theorem tr_one {w : World} {v : Value} {t : ByteArray} (h : Tr w v t) : v.oneCell' = true := by obtain ⟨a, c, rfl, _⟩ := h; rfl
/-- A raw blob. -/
structure LB where
  id : List Nat
  tv : Value
  text : ByteArray
  bad : Int
def lbC (b : LB) : List Value := nb b.id ++ [b.tv, .int .i64 b.bad]
def lbR (l : List LB) : List Value := l.flatMap lbC
def toBl (b : LB) : Bl := ⟨b.id, b.text, b.bad⟩
structure RB (w : World) (v : Value) (l : List LB) : Prop where
  sl : ∃ a c, v = .slice a l.length c ∧ Sl w a (lbR l)
  ok : ∀ b ∈ l, OkBl (toBl b)
  tx : ∀ b ∈ l, Tr w b.tv b.text
  n : l.length ≤ 1048576
theorem RB.below {w w' : World} {v : Value} {l : List LB} (h : RB w v l) (hb : Below w.heap.size w w') : RB w' v l := by
  obtain ⟨a, c, h1, h2⟩ := h.sl
  exact ⟨⟨a, c, h1, h2.below hb⟩, h.ok, fun b hm => (h.tx b hm).below hb, h.n⟩
theorem RB.lit {w : World} {v : Value} {l : List LB} (h : RB w v l) : ∃ a c, v = .slice a l.length c := by obtain ⟨a, c, e, _⟩ := h.sl; exact ⟨a, c, e⟩
theorem lbC_len {b : LB} (h : OkBl (toBl b)) : (lbC b).length = 34 := by
  have : b.id.length = 32 := h.id.1
  simp [lbC, nb_len, this]
theorem lbR_len : ∀ {l : List LB}, (∀ b ∈ l, OkBl (toBl b)) → (lbR l).length = l.length * 34
  | [], _ => rfl
  | b :: l, h => by
    show (lbC b ++ lbR l).length = _
    rw [List.length_append, lbC_len (h b (by simp)), lbR_len (fun x hx => h x (by simp [hx])), List.length_cons]; omega
theorem lbR_get : ∀ {l : List LB}, (∀ b ∈ l, OkBl (toBl b)) → ∀ (k : Nat) (hk : k < l.length) (j : Nat), j < 34 → (lbR l)[k * 34 + j]? = (lbC l[k])[j]?
  | b :: l, h, 0, _, j, hj => by
    show (lbC b ++ lbR l)[0 * 34 + j]? = _
    rw [Nat.zero_mul, Nat.zero_add, List.getElem?_append_left (by rw [lbC_len (h b (by simp))]; exact hj)]; rfl
  | b :: l, h, k + 1, hk, j, hj => by
    show (lbC b ++ lbR l)[(k + 1) * 34 + j]? = _
    have hl := lbC_len (h b (by simp))
    rw [List.getElem?_append_right (by rw [hl]; omega), hl, show (k + 1) * 34 + j - 34 = k * 34 + j by omega]
    exact lbR_get (fun x hx => h x (by simp [hx])) k (by simpa using hk) j hj
theorem RB.at {w : World} {v : Value} {l : List LB} (h : RB w v l) {k : Nat} (hk : k < l.length) : ∃ b o c, v = .slice (some ⟨b, o, none⟩) l.length c ∧ b < w.heap.size ∧ ∀ j (hj : j < l.length), w.rangeAt b (o + j * 34) (lbC l[j]) := by
  obtain ⟨a, c, rfl, hs⟩ := h.sl
  rcases hs with e | ⟨b, o, rfl, hl, hc⟩
  · have := lbR_len h.ok; rw [e] at this; simp at this; omega
  · refine ⟨b, o, c, rfl, hl, fun j hj i u hu => ?_⟩
    have hi : i < 34 := by have := (List.getElem?_eq_some_iff.1 hu).1; rw [lbC_len (h.ok _ (List.getElem_mem hj))] at this; exact this
    rw [Nat.add_assoc]
    exact hc _ _ (by rw [lbR_get h.ok j hj i hi]; exact hu)
theorem lbC_one {w : World} {b : LB} (h : Tr w b.tv b.text) : (lbC b).toArray.all (·.oneCell') = true := by
  have h1 := tr_one h
  rw [List.all_toArray, List.all_eq_true]
  intro u hu
  unfold lbC at hu
  rcases List.mem_append.1 hu with hu | hu
  · obtain ⟨x, -, rfl⟩ := List.mem_map.1 hu; rfl
  · simp at hu
    rcases hu with rfl | rfl
    · exact h1
    · rfl
theorem blob_info : (Tryz.prog.info? 68).map (·.size) = some 34 := by kernel_rfl
theorem rblob_info : (Tryz.prog.info? 78).map (·.size) = some 34 := by kernel_rfl
theorem rblob_zero : ((Tryz.prog.info? 78).bind (·.zero)).isSome = true := by kernel_rfl
theorem blob_sz {b : LB} (h : (lbC b).length = 34) : (lbC b).toArray.size = 34 := by rw [List.size_toArray, h]
theorem blob_isz {b : LB} (h : (lbC b).length = 34) : (Tryz.prog.info? 68).map (·.size) = some (lbC b).toArray.size := by
  have e2 : (lbC b).toArray.size = 34 := by rw [List.size_toArray, h]
  rw [e2]; exact blob_info
theorem built_blob {l : List Nat} (h : OkId l) (p : ByteArray) (x : Int) : (Tryz.prog).built 78 [(0, .agg (nums .u8 l)), (1, .string p), (2, .int .i64 x)] = some (blC ⟨l, p, x⟩).toArray := by
  replace h := h.1
  iterate 32 (rcases l with _ | ⟨a, l⟩; · exact absurd h (by simp))
  rcases l with _ | ⟨a, l⟩
  · clear h
    show (_ : Option (Array Value)) = _
    kernel_rfl
  · exact absurd h (by simp)
theorem rb_blob {l : List Nat} (h : OkId l) (p : ByteArray) (x : Int) (w : World) : (Instr.build 78 #[(0, .agg (nums .u8 l)), (1, .string p), (2, .int .i64 x)]).run Tryz.prog w = .ok (.agg (blC ⟨l, p, x⟩).toArray) w := run_build w _ _ _ (built_blob h p x)
theorem blobElem : Elem Tryz.prog 27 78 (.agg (blC ⟨List.replicate 32 0, ByteArray.empty, 0⟩).toArray) 34 56 := ⟨by kernel_rfl, by kernel_rfl⟩
theorem blC_one' {b : Bl} : ∀ u ∈ blC b, u.oneCell' = true := by
  intro u hu
  unfold blC at hu
  rcases List.mem_append.1 hu with hu | hu
  · obtain ⟨x, -, rfl⟩ := List.mem_map.1 hu; rfl
  · simp at hu
    rcases hu with rfl | rfl <;> rfl
theorem blR_step {l : List LB} {k : Nat} (hk : k < l.length) : blR ((l.take (k + 1)).map toBl) = blR ((l.take k).map toBl) ++ blC (toBl l[k]) := by
  rw [List.take_add_one, List.getElem?_eq_getElem hk]
  show (((l.take k) ++ [l[k]]).map toBl).flatMap blC = _
  rw [List.map_append, List.flatMap_append]
  show _ ++ (blC (toBl l[k]) ++ []) = _
  rw [List.append_nil]; rfl

set_option maxRecDepth 100000 in
set_option maxHeartbeats 8000000 in
theorem laid_c {w : World} {v : Value} {l : List LB} (h : RB w v l) : Calls Tryz.prog 12 #[v] w fun e w' => ∃ v', e = .returned v' ∧ BS w' v' (l.map toBl) ∧ Below w.heap.size w w' := by
  have HRB := Lib.hid h
  have hn := h.n
  obtain ⟨a, c, rfl⟩ := h.lit
  clear h
  go_enter Tryz.func12, Tryz.ntmps12
  go_upto_region 3 with fail
  go_loopw [3, 8] (fun fv kv wx => ∃ k : Nat, k ≤ l.length ∧ kv = .int .i64 k ∧ Hid (OwnG wx 78 34 fv k (blR ((l.take k).map toBl))) ∧ Hid (∀ b, fv.ownBlock = some b → w.heap.size ≤ b) ∧ Hid (Below w.heap.size w wx)) (fun _ kv _ => (l.length - intOf kv).toNat)
  case atStart => exact ⟨0, Nat.zero_le _, rfl, OwnG.nil _ _ _, fun b hb => (by cases hb), Below.refl _ _⟩
  case round =>
    obtain ⟨k, hk, rfl, HOW, HOB, HBW⟩ := hrel
    by_cases hkl : k < l.length
    · have k1 : decide ((k : Int) < (l.length : Int)) = true := decide_eq_true (by omega)
      have k2 : decide (k < l.length) = true := decide_eq_true hkl
      have k3 : (0 : Int) ≤ (k : Int) := by omega
      have k4 : (k : Int) < (l.length : Int) := by omega
      have kw : IntKind.i64.wrap ((k : Int) + 1) = ((k + 1 : Nat) : Int) := IntWalk.i64_in _ (by omega)
      obtain ⟨b, o, c', e, hbl, hr⟩ := (HRB.out.below HBW.out).at hkl
      injection e with e1 _ e2
      subst e1 e2
      have HR : Hid (wr.rangeAt b (o + k * 34) (lbC l[k])) := hr k hkl
      have HXO : Hid (OkBl (toBl l[k])) := HRB.out.ok _ (List.getElem_mem hkl)
      have HTX : Hid (Tr wr l[k].tv l[k].text) := (HRB.out.tx _ (List.getElem_mem hkl)).below HBW.out
      have HCL : Hid ((lbC l[k]).length = 34) := lbC_len HXO.out
      have HST : Hid (blR ((l.take (k + 1)).map toBl) = blR ((l.take k).map toBl) ++ blC (toBl l[k])) := blR_step hkl
      clear hr hbl
      generalize l[k] = x at *
      go_upto_region 5 with (first
        | (refine wpList_load_mid rfl 68 _ rfl b (o + k * 34) rfl (lbC x) _ HR.out Tryz.underlying68 rfl (by rw [HCL.out]; exact blob_info) ?_)
        | (refine wp_storeB rfl 68 _ _ rfl wr.heap.size (lbC x).toArray rfl rfl Array.getElem?_push_size (by rw [blob_sz HCL.out]; first | done | kernel_rfl) (blob_isz HCL.out) (lbC_one HTX.out) ?_; intro W8 hb8 hg8))
      have hB8 : Below wr.heap.size wr W8 := ((Below.refl wr.heap.size wr).alloc (Nat.le_refl _) _).grown hg8 (by simp) (fun k hk => by cases hk; exact Nat.le_refl _)
      have HOW8 := Lib.hid (HOW.out.below hB8)
      have HB8 := Lib.hid (HBW.out.trans (hB8.mono HBW.out.size))
      have hcc : ∀ j u, (lbC x)[j]? = some u → W8.cell? ⟨wr.heap.size, j, none⟩ = some u := fun j u hu => by simp only [World.cell?, hb8]; simpa using hu
      have hxl : x.id.length = 32 := HXO.out.id.1
      have HC0 : Hid (W8.rangeAt wr.heap.size 0 (nb x.id)) := fun j u hu => by rw [Nat.zero_add]; exact hcc j u (by unfold lbC; rw [List.getElem?_append_left (List.getElem?_eq_some_iff.1 hu).1]; exact hu)
      have hc32 : W8.cell? ⟨wr.heap.size, 32, none⟩ = some x.tv := hcc 32 _ (by unfold lbC; rw [List.getElem?_append_right (by rw [nb_len, hxl]; exact Nat.le_refl _), nb_len, hxl]; rfl)
      have hc33 : W8.cell? ⟨wr.heap.size, 33, none⟩ = some (.int .i64 x.bad) := hcc 33 _ (by unfold lbC; rw [List.getElem?_append_right (by rw [nb_len, hxl]; decide), nb_len, hxl]; rfl)
      have hcv := tr_str (HTX.out.below hB8)
      have HXL := Lib.hid hxl
      clear hb8 hg8 hB8 HBW HOW HR HCL hcc hxl HTX
      generalize wr.heap.size = p7 at *
      have HRBb : Hid (∀ w, (Instr.build 78 #[(0, .agg (nums .u8 x.id)), (1, .string x.text), (2, .int .i64 x.bad)]).run Tryz.prog w = .ok (.agg (blC (toBl x)).toArray) w) := fun w => rb_blob HXO.out.id x.text x.bad w
      have HCF : Hid ((blC (toBl x)).length = 34) := blC_len HXO.out
      have HBA : Hid (Below W8.heap.size W8 (W8.alloc (.cells (blC (toBl x)).toArray 78))) := (Below.refl _ W8).alloc (Nat.le_refl _) _
      have HSRC : Hid (Src Tryz.prog 34 27 (.slice (some ⟨W8.heap.size, 0, none⟩) 1 1) 1 (blC (toBl x)) (W8.alloc (.cells (blC (toBl x)).toArray 78))) := Src.ofNew Tryz.underlying27 HCF.out blC_one'
      have HOW9 := Lib.hid (HOW8.out.below HBA.out)
      obtain ⟨tv, htv⟩ : ∃ tv, x.tv = tv := ⟨_, rfl⟩
      rw [htv] at hc32 hcv
      clear htv
      go_upto_region 6 with (first
        | (refine wpList_load_mid rfl 43 _ rfl p7 0 rfl (nb x.id) _ HC0.out id_under rfl (by rw [nb_len, HXL.out]; kernel_rfl) ?_)
        | (refine wpList_bld rfl _ rfl (by simp only [Act.put, List.setIfInBounds_toArray]; simp [Act.eval]; rfl) HRBb.out ?_)
        | (refine wpList_build1 (cs := (blC (toBl x)).toArray) (n := 34) rfl _ rfl (by simp only [Act.put, List.setIfInBounds_toArray]; simp [Act.eval]) Tryz.underlying27 rblob_info rblob_zero (by decide) (by decide) (by rw [List.size_toArray]; exact HCF.out) ?_)
        | (refine wp_appG rfl _ _ _ _ rfl blobElem (by kernel_rfl) (v := u3) (xv := .slice (some ⟨W8.heap.size, 0, none⟩) 1 1) (n := k) (m := 1) rfl HOW9.out rfl HSRC.out (by simp only [maxLen]; omega) (by omega) ?_; intro v10 W10 ho10 hg10 hv10))
      have HOW10 : Hid (Hid (OwnG W10 78 34 v10 (k + 1) (blR ((l.take (k + 1)).map toBl)))) := by show OwnG _ _ _ _ _ _; rw [HST.out]; exact ho10
      have HOB10 : Hid (Hid (∀ b, v10.ownBlock = some b → w.heap.size ≤ b)) := fun b hb => (hv10 b hb).elim (HOB.out b) (fun h => by have h1 := HBA.out.size; have h2 := HB8.out.size; omega)
      have HB10 : Hid (Hid (Below w.heap.size w W10)) := (HB8.out.trans (HBA.out.mono HB8.out.size)).grown hg10 (Nat.le_trans HB8.out.size HBA.out.size) (fun b hb => HOB.out b hb)
      clear ho10 hg10 hv10 HOW9 HSRC HBA HCF HRBb HC0 hc32 hc33 hcv HOW8 HB8 HOB
      go_wp2_with fail
      go_roundw
      case rel => exact ⟨k + 1, hkl, by go_num, HOW10.out, HOB10.out, HB10.out⟩
      case measure => simp [intOf]; omega
    · have hkn : k = l.length := by omega
      subst hkn
      have k1 : decide ((l.length : Int) < (l.length : Int)) = false := decide_eq_false (by omega)
      have hbs : BS wr u3 (l.map toBl) := by
        have h1 := HOW.out
        rw [List.take_length] at h1
        obtain ⟨a', c', e, _, _, hs⟩ := h1.form
        refine ⟨⟨a', c', by rw [List.length_map]; exact e, hs⟩, fun b hb => ?_, by rw [List.length_map]; omega⟩
        obtain ⟨x, hx, rfl⟩ := List.mem_map.1 hb
        exact HRB.out.ok x hx
      have HBS := Lib.hid hbs
      clear hbs HOW HOB
      go_wp2_with fail
      go_ret
      exact ⟨_, rfl, HBS.out, HBW.out⟩
end Go.Proofs.YtpcipdkoncmdcaaGreatDoor
namespace Go.Proofs.YtpcipdkoncmdcaaGreatDoor
open Go Go.RowKit
theorem built_rfile {l : List Nat} (h : OkId l) (p : ByteArray) (x : Nat) : (Tryz.prog).built 93 [(0, .string p), (1, .agg (nums .u8 l)), (2, .float .f64 x)] = some (fiC ⟨p, l, x⟩).toArray := by
  replace h := h.1
  iterate 32 (rcases l with _ | ⟨a, l⟩; · exact absurd h (by simp))
  rcases l with _ | ⟨a, l⟩
  · clear h
    show (_ : Option (Array Value)) = _
    kernel_rfl
  · exact absurd h (by simp)
theorem rb_rfile {l : List Nat} (h : OkId l) (p : ByteArray) (x : Nat) (w : World) : (Instr.build 93 #[(0, .string p), (1, .agg (nums .u8 l)), (2, .float .f64 x)]).run Tryz.prog w = .ok (.agg (fiC ⟨p, l, x⟩).toArray) w := run_build w _ _ _ (built_rfile h p x)
theorem rfile_info : (Tryz.prog.info? 93).map (·.size) = some 34 := by kernel_rfl
theorem rfile_zero : ((Tryz.prog.info? 93).bind (·.zero)).isSome = true := by kernel_rfl
theorem rfileElem : Elem Tryz.prog 38 93 (.agg (fiC ⟨ByteArray.empty, List.replicate 32 0, 0⟩).toArray) 34 56 := ⟨by kernel_rfl, by kernel_rfl⟩
theorem fi_sz {f : Fi} (h : (fiC f).length = 34) : (fiC f).toArray.size = 34 := by rw [List.size_toArray, h]
theorem fi_isz {f : Fi} (h : (fiC f).length = 34) : (Tryz.prog.info? 56).map (·.size) = some (fiC f).toArray.size := by
  rw [fi_sz h]; exact file_info

set_option maxRecDepth 100000 in
set_option maxHeartbeats 8000000 in
theorem plain_c {w : World} {v : Value} {l : List Fi} (h : FS w v l) : Calls Tryz.prog 15 #[v] w fun e w' => ∃ v', e = .returned v' ∧ FS w' v' l ∧ Below w.heap.size w w' := by
  have HRB := Lib.hid h
  have hn := h.n
  obtain ⟨a, c, rfl⟩ := h.lit
  clear h
  go_enter Tryz.func15, Tryz.ntmps15
  go_upto_region 3 with fail
  go_loopw [3, 8] (fun fv kv wx => ∃ k : Nat, k ≤ l.length ∧ kv = .int .i64 k ∧ Hid (OwnG wx 93 34 fv k (fiR (l.take k))) ∧ Hid (∀ b, fv.ownBlock = some b → w.heap.size ≤ b) ∧ Hid (Below w.heap.size w wx)) (fun _ kv _ => (l.length - intOf kv).toNat)
  case atStart => exact ⟨0, Nat.zero_le _, rfl, OwnG.nil _ _ _, fun b hb => (by cases hb), Below.refl _ _⟩
  case round =>
    obtain ⟨k, hk, rfl, HOW, HOB, HBW⟩ := hrel
    by_cases hkl : k < l.length
    · have k1 : decide ((k : Int) < (l.length : Int)) = true := decide_eq_true (by omega)
      have k2 : decide (k < l.length) = true := decide_eq_true hkl
      have k3 : (0 : Int) ≤ (k : Int) := by omega
      have k4 : (k : Int) < (l.length : Int) := by omega
      have kw : IntKind.i64.wrap ((k : Int) + 1) = ((k + 1 : Nat) : Int) := IntWalk.i64_in _ (by omega)
      obtain ⟨b, o, c', e, hbl, hr⟩ := (HRB.out.below HBW.out).at hkl
      injection e with e1 _ e2
      subst e1 e2
      have HR : Hid (wr.rangeAt b (o + k * 34) (fiC l[k])) := hr k hkl
      have HXO : Hid (OkFi l[k]) := HRB.out.ok _ (List.getElem_mem hkl)
      have HCL : Hid ((fiC l[k]).length = 34) := fiC_len HXO.out
      have HST : Hid (fiR (l.take (k + 1)) = fiR (l.take k) ++ fiC l[k]) := fiR_step hkl
      clear hr hbl
      generalize l[k] = x at *
      go_upto_region 5 with (first
        | (refine wpList_load_mid rfl 56 _ rfl b (o + k * 34) rfl (fiC x) _ HR.out Tryz.underlying56 rfl (by rw [HCL.out]; exact file_info) ?_)
        | (refine wp_storeB rfl 56 _ _ rfl wr.heap.size (fiC x).toArray rfl rfl Array.getElem?_push_size (by rw [fi_sz HCL.out]; first | done | kernel_rfl) (fi_isz HCL.out) fiC_one ?_; intro W8 hb8 hg8))
      have hB8 : Below wr.heap.size wr W8 := ((Below.refl wr.heap.size wr).alloc (Nat.le_refl _) _).grown hg8 (by simp) (fun k hk => by cases hk; exact Nat.le_refl _)
      have HOW8 := Lib.hid (HOW.out.below hB8)
      have HB8 := Lib.hid (HBW.out.trans (hB8.mono HBW.out.size))
      have hcc : ∀ j u, (fiC x)[j]? = some u → W8.cell? ⟨wr.heap.size, j, none⟩ = some u := fun j u hu => by simp only [World.cell?, hb8]; simpa using hu
      have hxl : x.id.length = 32 := HXO.out.id.1
      have hc0 : W8.cell? ⟨wr.heap.size, 0, none⟩ = some (.string x.path) := hcc 0 _ rfl
      have HC1 : Hid (W8.rangeAt wr.heap.size 1 (nb x.id)) := fun j u hu => hcc (1 + j) u (by unfold fiC; rw [show 1 + j = j + 1 by omega, List.getElem?_cons_succ, List.getElem?_append_left (List.getElem?_eq_some_iff.1 hu).1]; exact hu)
      have hc33 : W8.cell? ⟨wr.heap.size, 33, none⟩ = some (.float .f64 x.stamp) := hcc 33 _ (by unfold fiC; rw [show (33 : Nat) = 32 + 1 from rfl, List.getElem?_cons_succ, List.getElem?_append_right (by rw [nb_len, hxl]; exact Nat.le_refl _), nb_len, hxl]; rfl)
      have HXL := Lib.hid hxl
      clear hb8 hg8 hB8 HBW HOW HR HCL hcc hxl
      generalize wr.heap.size = p7 at *
      have HRBb : Hid (∀ w, (Instr.build 93 #[(0, .string x.path), (1, .agg (nums .u8 x.id)), (2, .float .f64 x.stamp)]).run Tryz.prog w = .ok (.agg (fiC x).toArray) w) := fun w => rb_rfile HXO.out.id x.path x.stamp w
      have HCF : Hid ((fiC x).length = 34) := fiC_len HXO.out
      have HBA : Hid (Below W8.heap.size W8 (W8.alloc (.cells (fiC x).toArray 93))) := (Below.refl _ W8).alloc (Nat.le_refl _) _
      have HSRC : Hid (Src Tryz.prog 34 38 (.slice (some ⟨W8.heap.size, 0, none⟩) 1 1) 1 (fiC x) (W8.alloc (.cells (fiC x).toArray 93))) := Src.ofNew Tryz.underlying38 HCF.out fiC_one'
      have HOW9 := Lib.hid (HOW8.out.below HBA.out)
      go_upto_region 6 with (first
        | (refine wpList_load_mid rfl 43 _ rfl p7 1 rfl (nb x.id) _ HC1.out id_under rfl (by rw [nb_len, HXL.out]; kernel_rfl) ?_)
        | (refine wpList_bld rfl _ rfl (by simp only [Act.put, List.setIfInBounds_toArray]; simp [Act.eval]; rfl) HRBb.out ?_)
        | (refine wpList_build1 (cs := (fiC x).toArray) (n := 34) rfl _ rfl (by simp only [Act.put, List.setIfInBounds_toArray]; simp [Act.eval]) Tryz.underlying38 rfile_info rfile_zero (by decide) (by decide) (by rw [List.size_toArray]; exact HCF.out) ?_)
        | (refine wp_appG rfl _ _ _ _ rfl rfileElem (by kernel_rfl) (v := u3) (xv := .slice (some ⟨W8.heap.size, 0, none⟩) 1 1) (n := k) (m := 1) rfl HOW9.out rfl HSRC.out (by simp only [maxLen]; omega) (by omega) ?_; intro v10 W10 ho10 hg10 hv10))
      have HOW10 : Hid (Hid (OwnG W10 93 34 v10 (k + 1) (fiR (l.take (k + 1))))) := by show OwnG _ _ _ _ _ _; rw [HST.out]; exact ho10
      have HOB10 : Hid (Hid (∀ b, v10.ownBlock = some b → w.heap.size ≤ b)) := fun b hb => (hv10 b hb).elim (HOB.out b) (fun h => by have h1 := HBA.out.size; have h2 := HB8.out.size; omega)
      have HB10 : Hid (Hid (Below w.heap.size w W10)) := (HB8.out.trans (HBA.out.mono HB8.out.size)).grown hg10 (Nat.le_trans HB8.out.size HBA.out.size) (fun b hb => HOB.out b hb)
      clear ho10 hg10 hv10 HOW9 HSRC HBA HCF HRBb HC1 hc0 hc33 HOW8 HB8 HOB
      go_wp2_with fail
      go_roundw
      case rel => exact ⟨k + 1, hkl, by go_num, HOW10.out, HOB10.out, HB10.out⟩
      case measure => simp [intOf]; omega
    · have hkn : k = l.length := by omega
      subst hkn
      have k1 : decide ((l.length : Int) < (l.length : Int)) = false := decide_eq_false (by omega)
      have hbs : FS wr u3 l := by
        have h1 := HOW.out
        rw [List.take_length] at h1
        obtain ⟨a', c', e, _, _, hs⟩ := h1.form
        exact ⟨⟨a', c', e, hs⟩, HRB.out.ok, hn⟩
      have HBS := Lib.hid hbs
      clear hbs HOW HOB
      go_wp2_with fail
      go_ret
      exact ⟨_, rfl, HBS.out, HBW.out⟩

/-- The place of a path, or -1. -/
def findP (p : ByteArray) : List Fi → Nat → Int
  | [], _ => -1
  | f :: l, k => if f.path = p then (k : Int) else findP p l (k + 1)
theorem findP_none {p : ByteArray} : ∀ {l : List Fi} {k : Nat}, fiAt l p = none → findP p l k = -1
  | [], _, _ => rfl
  | f :: l, k, h => by
    unfold fiAt at h
    rw [List.find?_cons] at h
    by_cases e : f.path = p
    · simp [e] at h
    · rw [decide_eq_false e] at h
      show (if f.path = p then _ else _) = _
      rw [if_neg e]; exact findP_none h
theorem findP_some {p : ByteArray} {f : Fi} : ∀ {l : List Fi} {k : Nat}, fiAt l p = some f → ∃ i : Nat, findP p l k = ((k + i : Nat) : Int) ∧ l[i]? = some f
  | [], _, h => by cases h
  | g :: l, k, h => by
    unfold fiAt at h
    rw [List.find?_cons] at h
    by_cases e : g.path = p
    · rw [decide_eq_true e] at h
      have h : some g = some f := h
      injection h with h
      exact ⟨0, by show (if g.path = p then _ else _) = _; rw [if_pos e]; rfl, by rw [h]; rfl⟩
    · rw [decide_eq_false e] at h
      obtain ⟨i, h1, h2⟩ := findP_some (l := l) (k := k + 1) h
      refine ⟨i + 1, ?_, h2⟩
      show (if g.path = p then _ else _) = _
      rw [if_neg e, h1]; congr 1; omega
set_option maxRecDepth 100000 in
set_option maxHeartbeats 4000000 in
theorem find_c {w : World} {v : Value} {l : List Fi} {p : ByteArray} (h : FS w v l) (hp : p.size ≤ 100000000) : Calls Tryz.prog 21 #[v, .string p] w fun e w' => e = .returned (.int .i64 (findP p l 0)) ∧ Below w.heap.size w w' := by
  have HRB := Lib.hid h
  have hn := h.n
  obtain ⟨a, c, rfl⟩ := h.lit
  have HF0 : Hid (findP p l 0 = findP p (l.drop 0) 0) := rfl
  clear h
  go_enter Tryz.func21, Tryz.ntmps21
  go_upto_region 2 with fail
  go_loopw [5] (fun kv wx => ∃ k : Nat, k ≤ l.length ∧ kv = .int .i64 k ∧ Hid (findP p l 0 = findP p (l.drop k) k) ∧ Hid (Below w.heap.size w wx)) (fun kv _ => (l.length - intOf kv).toNat)
  case atStart => exact ⟨0, Nat.zero_le _, rfl, HF0, Below.refl _ _⟩
  case round =>
    clear HF0
    obtain ⟨k, hk, rfl, HFD, HBW⟩ := hrel
    by_cases hkl : k < l.length
    · have k1 : decide ((k : Int) < (l.length : Int)) = true := decide_eq_true (by omega)
      have k2 : decide (k < l.length) = true := decide_eq_true hkl
      have k3 : (0 : Int) ≤ (k : Int) := by omega
      have k4 : (k : Int) < (l.length : Int) := by omega
      have kw : IntKind.i64.wrap ((k : Int) + 1) = ((k + 1 : Nat) : Int) := IntWalk.i64_in _ (by omega)
      obtain ⟨b, o, c', e, hbl, hr⟩ := (HRB.out.below HBW.out).at hkl
      injection e with e1 _ e2
      subst e1 e2
      have hc0 : wr.cell? ⟨b, o + k * 34, none⟩ = some (.string l[k].path) := hr k hkl 0 _ rfl
      have hdr : l.drop k = l[k] :: l.drop (k + 1) := List.drop_eq_getElem_cons hkl
      have hfd := HFD.out
      rw [hdr] at hfd
      have hfd : findP p l 0 = if l[k].path = p then (k : Int) else findP p (l.drop (k + 1)) (k + 1) := hfd
      have HFS := Lib.hid hfd
      clear hr hbl hdr hfd
      generalize l[k].path = q at *
      by_cases e : q = p
      · subst e
        have hd : (q.toList == q.toList) = true := beq_self_eq_true _
        have HR : Hid (findP q l 0 = (k : Int)) := by show _ = _; rw [HFS.out, if_pos rfl]
        go_wp2_with fail
        go_ret
        exact ⟨by first | (rw [HR.out]; rfl) | (rw [← HFD.out, HR.out]; rfl), HBW.out⟩
      · have hd : (q.toList == p.toList) = false := by rw [beq_eq_false_iff_ne, Lib.toList_data, Lib.toList_data]; intro h; exact e (PathS.ba_ext h)
        have HR : Hid (findP p l 0 = findP p (l.drop (k + 1)) (k + 1)) := by show _ = _; rw [HFS.out, if_neg e]
        have HQ : Hid (Hid (Below w.heap.size w wr)) := HBW
        clear HBW HFS
        go_wp2_with fail
        go_roundw
        case rel => exact ⟨k + 1, hkl, by go_num, HR, HQ.out⟩
        case measure => simp [intOf]; omega
    · have hkn : k = l.length := by omega
      subst hkn
      have k1 : decide ((l.length : Int) < (l.length : Int)) = false := decide_eq_false (by omega)
      have HR : Hid (findP p l 0 = -1) := by show _ = _; rw [HFD.out, List.drop_length]; rfl
      go_wp2_with fail
      go_ret
      exact ⟨by first | (rw [HR.out]; rfl) | (rw [← HFD.out, HR.out]; rfl), HBW.out⟩
end Go.Proofs.YtpcipdkoncmdcaaGreatDoor
namespace Go.Proofs.YtpcipdkoncmdcaaGreatDoor
open Go Go.ChangeShapes Go.WideShapes Go.ChangeAt Go.RowKit
/-- All texts' bytes. -/
def sumB (l : List LB) : Nat := (l.map fun b => b.text.size).sum
theorem sumB_step {l : List LB} {k : Nat} (hk : k < l.length) : sumB (l.take (k + 1)) = sumB (l.take k) + l[k].text.size := by
  unfold sumB
  rw [List.take_add_one, List.getElem?_eq_getElem hk]
  show ((l.take k ++ [l[k]]).map fun b => b.text.size).sum = _
  rw [List.map_append, List.sum_append]; rfl
theorem sumB_le (l : List LB) (k : Nat) : sumB (l.take k) ≤ sumB l := by
  have h : sumB l = sumB (l.take k) + sumB (l.drop k) := by
    have := congrArg sumB (List.take_append_drop k l)
    unfold sumB at this ⊢
    rw [List.map_append, List.sum_append] at this
    exact this.symm
  omega
set_option maxRecDepth 100000 in
set_option maxHeartbeats 8000000 in
theorem small_c {w : World} {va vb vc v : Value} {T : T3 (List Fi)} {l : List LB} (ha : FS w va T.a) (hb : FS w vb T.b) (hc : FS w vc T.c) (h : RB w v l) (hs : sumB l ≤ 1048576) :
    Calls Tryz.prog 11 #[.agg #[va, vb, vc], v] w fun e w' => e = .returned (.bool (decide (sumB l ≤ 600) && decide (T.a.length + T.b.length + T.c.length ≤ 90))) ∧ Below w.heap.size w w' := by
  have HRB := Lib.hid h
  have hn := h.n
  obtain ⟨a, c, rfl⟩ := h.lit
  obtain ⟨aa, ca, rfl⟩ := ha.lit
  obtain ⟨ab, cb, rfl⟩ := hb.lit
  obtain ⟨ac, cc, rfl⟩ := hc.lit
  have na := ha.n
  have nb' := hb.n
  have nc := hc.n
  obtain ⟨W1, hW1⟩ : ∃ W1, w.alloc (.cells #[.slice aa T.a.length ca, .slice ab T.b.length cb, .slice ac T.c.length cc] 23 (0, 0)) = W1 := ⟨_, rfl⟩
  have HB1 : Hid (Below w.heap.size w W1) := by show Below _ _ _; rw [← hW1]; exact (Below.refl _ w).alloc (Nat.le_refl _) _
  have hblk : W1.heap[w.heap.size]? = some (.cells #[.slice aa T.a.length ca, .slice ab T.b.length cb, .slice ac T.c.length cc] 23 (0, 0)) := by rw [← hW1]; exact Array.getElem?_push_size
  have HBLK1 := Lib.hid hblk
  have HLT1 : Hid (w.heap.size < W1.heap.size) := (Array.getElem?_eq_some_iff.1 hblk).1
  have HW1 := Lib.hid hW1
  have k1' : IntKind.i64.wrap ((T.a.length : Int) + (T.b.length : Int)) = ((T.a.length + T.b.length : Nat) : Int) := by rw [IntWalk.i64_in _ (by omega)]; omega
  have k2' : IntKind.i64.wrap (((T.a.length + T.b.length : Nat) : Int) + (T.c.length : Int)) = ((T.a.length + T.b.length + T.c.length : Nat) : Int) := by rw [IntWalk.i64_in _ (by omega)]; omega
  clear h ha hb hc hW1 hblk na nb' nc
  obtain ⟨N, hN⟩ : ∃ N, T.a.length + T.b.length + T.c.length = N := ⟨_, rfl⟩
  rw [hN] at k2'
  obtain ⟨M, hM⟩ : ∃ M, T.a.length + T.b.length = M := ⟨_, rfl⟩
  rw [hM] at k1' k2'
  have HN := Lib.hid hN
  have HS := Lib.hid hs
  clear hN hM hs
  go_enter Tryz.func11, Tryz.ntmps11
  go_upto_region 1 with fail
  rw [HW1.out]
  clear HW1
  go_upto_region 3 with fail
  go_loopw [5, 10] (fun nv kv wx => ∃ k : Nat, k ≤ l.length ∧ kv = .int .i64 k ∧ ∃ n : Nat, nv = .int .i64 n ∧ Hid (n = sumB (l.take k)) ∧ Hid (Below w.heap.size w wx) ∧ Hid (wx.heap[w.heap.size]? = some (.cells #[.slice aa T.a.length ca, .slice ab T.b.length cb, .slice ac T.c.length cc] 23 (0, 0))) ∧ Hid (w.heap.size < wx.heap.size)) (fun _ kv _ => (l.length - intOf kv).toNat)
  case atStart => exact ⟨0, Nat.zero_le _, rfl, 0, rfl, rfl, HB1, HBLK1, HLT1⟩
  case round =>
    clear HB1 HBLK1 HLT1
    obtain ⟨k, hk, rfl, n, rfl, HSU, HBW, HBLK, HLT⟩ := hrel
    by_cases hkl : k < l.length
    · have k1 : decide ((k : Int) < (l.length : Int)) = true := decide_eq_true (by omega)
      have k2 : decide (k < l.length) = true := decide_eq_true hkl
      have k3 : (0 : Int) ≤ (k : Int) := by omega
      have k4 : (k : Int) < (l.length : Int) := by omega
      have kw : IntKind.i64.wrap ((k : Int) + 1) = ((k + 1 : Nat) : Int) := IntWalk.i64_in _ (by omega)
      obtain ⟨b, o, c', e, hbl, hr⟩ := (HRB.out.below HBW.out).at hkl
      injection e with e1 _ e2
      subst e1 e2
      have HR : Hid (wr.rangeAt b (o + k * 34) (lbC l[k])) := hr k hkl
      have HXO : Hid (OkBl (toBl l[k])) := HRB.out.ok _ (List.getElem_mem hkl)
      have HTX : Hid (Tr wr l[k].tv l[k].text) := (HRB.out.tx _ (List.getElem_mem hkl)).below HBW.out
      have HCL : Hid ((lbC l[k]).length = 34) := lbC_len HXO.out
      have hst := sumB_step hkl
      have hle := sumB_le l (k + 1)
      obtain ⟨n', hn'⟩ : ∃ n', n + l[k].text.size = n' := ⟨_, rfl⟩
      have HST : Hid (n' = sumB (l.take (k + 1))) := by show n' = _; rw [hst, ← hn', HSU.out]
      have nw : IntKind.i64.wrap ((n : Int) + (l[k].text.size : Int)) = (n' : Int) := by
        have h1 := HST.out
        have h2 := HS.out
        rw [IntWalk.i64_in _ (by omega)]; omega
      obtain ⟨ta, tc, htv, -⟩ := HTX.out
      clear hr hbl hst hle hn' HSU
      generalize l[k] = x at *
      go_upto_region 5 with (first
        | (refine wpList_load_mid rfl 68 _ rfl b (o + k * 34) rfl (lbC x) _ HR.out Tryz.underlying68 rfl (by rw [HCL.out]; exact blob_info) ?_)
        | (refine wp_storeB rfl 68 _ _ rfl wr.heap.size (lbC x).toArray rfl rfl Array.getElem?_push_size (by rw [blob_sz HCL.out]; first | done | kernel_rfl) (blob_isz HCL.out) (lbC_one HTX.out) ?_; intro W8 hb8 hg8))
      have hB8 : Below wr.heap.size wr W8 := ((Below.refl wr.heap.size wr).alloc (Nat.le_refl _) _).grown hg8 (by simp) (fun k hk => by cases hk; exact Nat.le_refl _)
      have hc32 : W8.cell? ⟨wr.heap.size, 32, none⟩ = some (.slice ta x.text.size tc) := by
        have h1 : (lbC x)[32]? = some x.tv := by
          have hxl : x.id.length = 32 := HXO.out.id.1
          unfold lbC; rw [List.getElem?_append_right (by rw [nb_len, hxl]; exact Nat.le_refl _), nb_len, hxl]; rfl
        rw [htv] at h1
        simp only [World.cell?, hb8]; simpa using h1
      have HB8 : Hid (Hid (Below w.heap.size w W8)) := HBW.out.trans (hB8.mono HBW.out.size)
      have HBLK8 : Hid (Hid (W8.heap[w.heap.size]? = _)) := (hB8.block _ HLT.out).trans HBLK.out
      have HLT8 : Hid (Hid (w.heap.size < W8.heap.size)) := Nat.lt_of_lt_of_le HLT.out hB8.size
      clear hb8 hg8 hB8 HBW HBLK HLT HR HCL htv HTX
      generalize wr.heap.size = p7 at *
      go_wp2_with fail
      go_roundw
      case rel => exact ⟨k + 1, hkl, by go_num, n', by go_num, HST, HB8.out, HBLK8.out, HLT8.out⟩
      case measure => simp [intOf]; omega
    · have hkn : k = l.length := by omega
      subst hkn
      have k1 : decide ((l.length : Int) < (l.length : Int)) = false := decide_eq_false (by omega)
      have hsu := HSU.out
      rw [List.take_length] at hsu
      have HSE := Lib.hid hsu
      have c0 : wr.cell? ⟨w.heap.size, 0, none⟩ = some (.slice aa T.a.length ca) := by simp only [World.cell?, HBLK.out]; rfl
      have c1 : wr.cell? ⟨w.heap.size, 1, none⟩ = some (.slice ab T.b.length cb) := by simp only [World.cell?, HBLK.out]; rfl
      have c2 : wr.cell? ⟨w.heap.size, 2, none⟩ = some (.slice ac T.c.length cc) := by simp only [World.cell?, HBLK.out]; rfl
      clear hsu HSU HBLK
      by_cases h6 : n ≤ 600
      · have e6 : decide ((n : Int) ≤ 600) = true := decide_eq_true (by omega)
        have HD6 : Hid (decide (sumB l ≤ 600) = true) := decide_eq_true (by rw [← HSE.out]; exact h6)
        by_cases h : N ≤ 90
        · have d1 : decide ((N : Int) ≤ 90) = true := decide_eq_true (by omega)
          have HD : Hid (decide (T.a.length + T.b.length + T.c.length ≤ 90) = true) := decide_eq_true (by rw [HN.out]; exact h)
          go_wp2_with fail
          go_ret
          exact ⟨by rw [HD6.out, HD.out]; rfl, HBW.out⟩
        · have d1 : decide ((N : Int) ≤ 90) = false := decide_eq_false (by omega)
          have HD : Hid (decide (T.a.length + T.b.length + T.c.length ≤ 90) = false) := decide_eq_false (by rw [HN.out]; exact h)
          go_wp2_with fail
          go_ret
          exact ⟨by rw [HD6.out, HD.out]; rfl, HBW.out⟩
      · have e6 : decide ((n : Int) ≤ 600) = false := decide_eq_false (by omega)
        have HD6 : Hid (decide (sumB l ≤ 600) = false) := decide_eq_false (by rw [← HSE.out]; exact h6)
        go_wp2_with fail
        go_ret
        exact ⟨by rw [HD6.out]; rfl, HBW.out⟩

section
variable {H : Type} {enc : TypeId × Value → H} {W : World}
/-- A raw blob, opened. -/
structure LQ where
  id : List Nat
  a : Option Addr
  c : Nat
  text : ByteArray
  bad : Int
instance : Inhabited LQ := ⟨⟨[], none, 0, ByteArray.empty, 0⟩⟩
def lqC (q : LQ) : List Value := nb q.id ++ [.slice q.a q.text.size q.c, .int .i64 q.bad]
def LQ.lb (q : LQ) : LB := ⟨q.id, .slice q.a q.text.size q.c, q.text, q.bad⟩
set_option maxRecDepth 100000 in
theorem opn_blob : Opn enc Tryz.prog W 68 LQ lqC (fun q b => OkId q.id ∧ Sl W q.a (byteCells q.text) ∧ q.text.size < b ∧ -9223372036854775808 ≤ q.bad ∧ q.bad ≤ 9223372036854775807) := by
  intro n cs x h
  obtain ⟨xs, m, -, hx, hl, hxl, hf⟩ := DataW.trod_struct Tryz.underlying68 h
  have hxl : xs.length = 3 := hxl
  rcases xs with _ | ⟨x0, _ | ⟨x1, _ | ⟨x2, _ | ⟨x3, l⟩⟩⟩⟩
  · simp at hxl
  · simp at hxl
  · simp at hxl
  · obtain ⟨i, e0, b0⟩ := opn_id (W := W) m _ x0 (hf 0 _ rfl)
    obtain ⟨⟨a, c, t⟩, e1, b1, b1'⟩ := opn_bytes (W := W) Tryz.underlying52 (by kernel_rfl) Tryz.underlying5 m _ x1 (hf 1 _ rfl)
    obtain ⟨z, e2, b2⟩ := opn_i64 (W := W) Tryz.underlying3 m _ x2 (hf 2 _ rfl)
    have hcl : cs.length = 34 := hl.trans (by kernel_rfl)
    have k0 : (Tryz.prog).cellsOf 43 = 32 := by kernel_rfl
    have k1 : (Tryz.prog).cellsOf 52 = 1 := by kernel_rfl
    have k2 : (Tryz.prog).cellsOf 3 = 1 := by kernel_rfl
    have e0 : (cs.drop 0).take 32 = nb i := by rw [← k0]; exact e0
    have e1 : (cs.drop 32).take 1 = [.slice a t.size c] := by rw [← k1]; exact e1
    have e2 : (cs.drop 33).take 1 = [.int .i64 z] := by rw [← k2]; exact e2
    have hcs : cs = lqC ⟨i, a, c, t, z⟩ := by
      have a1 : cs = (cs.drop 0).take 32 ++ ((cs.drop 32).take 1 ++ (cs.drop 33).take 1) := by
        rw [List.take_of_length_le (l := cs.drop 33) (by rw [List.length_drop]; omega), show cs.drop 33 = (cs.drop 32).drop 1 by rw [List.drop_drop], List.take_append_drop, List.drop_zero, List.take_append_drop]
      rw [a1, e0, e1, e2]; rfl
    have hb : Rows.uptoBulk x.1 = Rows.uptoBulk x0.1 + (Rows.uptoBulk x1.1 + (Rows.uptoBulk x2.1 + 0)) + 1 := by
      rw [hx]; simp only [Rows.uptoBulk, Rows.uptoBulkAll, List.map_cons, List.map_nil]
    have b1' : t.size < Rows.uptoBulk x1.1 := b1'
    exact ⟨⟨i, a, c, t, z⟩, hcs, b0, b1, by show t.size < _; omega, b2.2⟩
  · simp at hxl
theorem lq_mono : ∀ (q : LQ) (a b : Nat), a ≤ b → (OkId q.id ∧ Sl W q.a (byteCells q.text) ∧ q.text.size < a ∧ -9223372036854775808 ≤ q.bad ∧ q.bad ≤ 9223372036854775807) → OkId q.id ∧ Sl W q.a (byteCells q.text) ∧ q.text.size < b ∧ -9223372036854775808 ≤ q.bad ∧ q.bad ≤ 9223372036854775807 := fun _ _ _ hab h => ⟨h.1, h.2.1, Nat.lt_of_lt_of_le h.2.2.1 hab, h.2.2.2⟩
theorem lq_flat : ∀ l : List LQ, l.flatMap lqC = lbR (l.map LQ.lb)
  | [] => rfl
  | q :: l => by rw [List.flatMap_cons, lq_flat l]; rfl
set_option maxRecDepth 100000 in
/-- Raw blobs. -/
theorem open_blobs {base : Nat} {v : Value} {d : DataW H} {p : List MemPlace} (hv : Value.okWide Tryz.prog W .any base 24 v) (h : DataW.Trod enc Tryz.prog W 0 (fun _ => true) true 24 v d p) (hk : Rows.uptoBulk d ≤ 1048576) : ∃ l, RB W v l ∧ sumB l ≤ 1048576 := by
  obtain ⟨a0, len, cap, rfl⟩ := okWide_slice Tryz.underlying24 hv
  obtain ⟨⟨a, c, l⟩, e, h1, -, h3, h4, h5⟩ := (opn_slice (enc := enc) (W := W) Tryz.underlying24 (k := 34) (by kernel_rfl) (by decide) lq_mono (fun q => q.text.size) (fun _ _ h => Nat.le_of_lt h.2.2.1) opn_blob).arg h
  have e := (List.cons.inj e).1
  rw [e]
  have h3 : l.length < Rows.uptoBulk d := h3
  have h4 : (l.map fun q => q.text.size).sum < Rows.uptoBulk d := h4
  have h1 : Sl W a (l.flatMap lqC) := h1
  refine ⟨l.map LQ.lb, ⟨⟨a, c, by rw [List.length_map], by rw [← lq_flat]; exact h1⟩, fun b hb => ?_, fun b hb => ?_, by rw [List.length_map]; omega⟩, ?_⟩
  · obtain ⟨q, hq, rfl⟩ := List.mem_map.1 hb
    exact ⟨(h5 q hq).1, (h5 q hq).2.2.2⟩
  · obtain ⟨q, hq, rfl⟩ := List.mem_map.1 hb
    exact ⟨q.a, q.c, rfl, (h5 q hq).2.1⟩
  · unfold sumB
    rw [List.map_map]
    show (l.map fun q => q.text.size).sum ≤ _
    omega
end
end Go.Proofs.YtpcipdkoncmdcaaGreatDoor
namespace Go.Proofs.YtpcipdkoncmdcaaGreatDoor
open Go Go.RowKit
section
variable {src : List Nat → ByteArray × Int} {T : T3 (List Fi)}
theorem decGo_nil (L : List Th) : ∀ (l : List ByteArray) (acc : List Ou), (decGo src L acc l).1 ≠ 0 → (decGo src L acc l).2 = []
  | [], acc, h => absurd rfl h
  | p :: l, acc, h => by
    rw [decGo_step (d := decS src (thOf L p).has (thOf L p).ids (thOf L p).id) rfl rfl] at h ⊢
    by_cases he : (decS src (thOf L p).has (thOf L p).ids (thOf L p).id).err ≠ 0
    · rw [if_pos he]
    · rw [if_neg he] at h ⊢
      exact decGo_nil L l _ h
/-- With an error there is nothing. -/
theorem merge_nil (h : (mergeS src (upT T 3) (chkA T 3)).1 ≠ 0) : (mergeS src (upT T 3) (chkA T 3)).2 = [] := by
  unfold mergeS at h ⊢
  by_cases hc : chkA T 3 ≠ 0
  · rw [if_pos hc]
  · rw [if_neg hc] at h ⊢
    show clashed _ = []
    rw [decGo_nil _ _ _ h]; rfl
end
end Go.Proofs.YtpcipdkoncmdcaaGreatDoor
