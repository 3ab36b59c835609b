/- Texts of mine, joined: The document's merging is the merging: plain, no program in sight. | Walks of the document's lines: is it a text, the same lines; which kind of part. -/
import Derived.Test.YtpcipdkoncmdcaaGreatDoorYJoinMerges26
namespace Go.Proofs.YtpcipdkoncmdcaaGreatDoor
open Go Go.RowKit
/-- Is the path of a file of the i-th snapshot a new one? -/
def keepP (T : T3 (List Fi)) (i : Nat) (p : ByteArray) : Bool := ((fiAt T.a p).isNone && (fiAt T.b p).isNone) || decide (i = 0) || (decide (i = 1) && (fiAt T.a p).isNone)
def colD (T : T3 (List Fi)) (i : Nat) : List ByteArray := ((T.get i).map (·.path)).filter (keepP T i)
def accD (T : T3 (List Fi)) : Nat → List ByteArray
  | 0 => []
  | i + 1 => accD T i ++ colD T i
theorem findP_lt {p : ByteArray} {l : List Fi} : decide (findP p l 0 < 0) = (fiAt l p).isNone := by
  cases h : fiAt l p with
  | none => rw [findP_none h]; rfl
  | some f =>
    obtain ⟨i, h1, -⟩ := findP_some (k := 0) h
    rw [h1]
    exact decide_eq_false (by omega)
theorem thAt_cons (t : Th) (l : List Th) (p : ByteArray) : thAt (t :: l) p = if t.path = p then some t else thAt l p := by
  unfold thAt
  rw [List.find?_cons]
  by_cases e : t.path = p
  · rw [decide_eq_true e, if_pos e]
  · rw [decide_eq_false e, if_neg e]
theorem taken_paths (i : Nat) (f : Fi) : ∀ l : List Th, (taken i f l).map (·.path) = if (thAt l f.path).isNone then l.map (·.path) ++ [f.path] else l.map (·.path)
  | [] => rfl
  | t :: l => by
    rw [show taken i f (t :: l) = if t.path = f.path then t.add i f :: l else t :: taken i f l from rfl, thAt_cons]
    by_cases e : t.path = f.path
    · rw [if_pos e, if_pos e]; rfl
    · rw [if_neg e, if_neg e, List.map_cons, taken_paths i f l]
      cases (thAt l f.path).isNone <;> rfl
theorem takenAll_paths (i : Nat) : ∀ (fs : List Fi) (l : List Th), (fs.map (·.path)).Nodup → (takenAll i l fs).map (·.path) = l.map (·.path) ++ (fs.map (·.path)).filter (fun p => (thAt l p).isNone)
  | [], l, _ => by simp [takenAll]
  | f :: fs, l, h => by
    rw [List.map_cons, List.nodup_cons] at h
    show (takenAll i (taken i f l) fs).map (·.path) = _
    rw [takenAll_paths i fs _ h.2, List.map_cons, List.filter_cons]
    have e : (fs.map (·.path)).filter (fun p => (thAt (taken i f l) p).isNone) = (fs.map (·.path)).filter (fun p => (thAt l p).isNone) := by
      apply List.filter_congr
      intro p hp
      have hne : p ≠ f.path := fun e2 => h.1 (e2 ▸ hp)
      rw [thAt_taken, if_neg hne]
    rw [e, taken_paths]
    cases hn : (thAt l f.path).isNone with
    | true => rw [if_pos rfl, if_pos rfl, List.append_assoc]; rfl
    | false => rw [if_neg (by decide), if_neg (by decide)]
theorem accD_upT {T : T3 (List Fi)} (h : okT3 T) : accD T 3 = (upT T 3).map (·.path) := by
  show ([] ++ colD T 0 ++ colD T 1) ++ colD T 2 = (takenAll 2 (takenAll 1 (takenAll 0 [] T.a) T.b) T.c).map (·.path)
  rw [takenAll_paths 2 _ _ h.2.2, takenAll_paths 1 _ _ h.2.1, takenAll_paths 0 _ _ h.1]
  have e0 : colD T 0 = T.a.map (·.path) := by
    unfold colD
    exact List.filter_eq_self.2 (fun p _ => by simp [keepP])
  have e00 : (T.a.map (·.path)).filter (fun p => (thAt [] p).isNone) = T.a.map (·.path) := List.filter_eq_self.2 (fun p _ => rfl)
  rw [e00, e0, List.map_nil, List.nil_append]
  have t1 : ∀ p, (thAt (takenAll 0 [] T.a) p).isNone = (fiAt T.a p).isNone := by
    intro p
    rw [thAt_takenAll 0 p _ _ h.1]
    cases fiAt T.a p <;> rfl
  have t2 : ∀ p, (thAt (takenAll 1 (takenAll 0 [] T.a) T.b) p).isNone = ((fiAt T.a p).isNone && (fiAt T.b p).isNone) := by
    intro p
    rw [thAt_takenAll 1 p _ _ h.2.1]
    cases h2 : fiAt T.b p with
    | none => rw [← t1 p]; simp
    | some f => simp
  have e1 : colD T 1 = (T.b.map (·.path)).filter (fun p => (thAt (takenAll 0 [] T.a) p).isNone) := by
    unfold colD
    apply List.filter_congr
    intro p hp
    rw [t1]
    have hb : (fiAt T.b p).isNone = false := by
      cases h2 : fiAt T.b p with
      | none => exact absurd hp (fiAt_none.1 h2)
      | some f => rfl
    unfold keepP
    rw [hb]; simp
  have e2 : colD T 2 = (T.c.map (·.path)).filter (fun p => (thAt (takenAll 1 (takenAll 0 [] T.a) T.b) p).isNone) := by
    unfold colD
    apply List.filter_congr
    intro p _
    rw [t2]
    unfold keepP; simp
  rw [e1, e2]

/-- The document's outcome of a path and its times, the first i snapshots looked through. -/
def fillO (T : T3 (List Fi)) (p : ByteArray) : Nat → Ou × T3 Nat
  | 0 => (⟨p, 0, zId, 0, ByteArray.empty, ⟨false, false, false⟩, ⟨zId, zId, zId⟩⟩, ⟨0, 0, 0⟩)
  | i + 1 => match fiAt (T.get i) p with
    | none => fillO T p i
    | some f => ({ (fillO T p i).1 with has := (fillO T p i).1.has.set i true, ids := (fillO T p i).1.ids.set i f.id }, (fillO T p i).2.set i f.stamp)
theorem fillO_none {T : T3 (List Fi)} {p : ByteArray} {i : Nat} (h : fiAt (T.get i) p = none) : fillO T p (i + 1) = fillO T p i := by
  rw [fillO, h]
theorem fillO_some {T : T3 (List Fi)} {p : ByteArray} {i : Nat} {f : Fi} (h : fiAt (T.get i) p = some f) : fillO T p (i + 1) = ({ (fillO T p i).1 with has := (fillO T p i).1.has.set i true, ids := (fillO T p i).1.ids.set i f.id }, (fillO T p i).2.set i f.stamp) := by
  rw [fillO, h]
theorem fillO_all (T : T3 (List Fi)) (p : ByteArray) : fillO T p 3 = (⟨p, 0, zId, 0, ByteArray.empty, hasT T p, idsT T p⟩, stsT T p) := by
  unfold hasT idsT stsT
  simp only [fillO, T3.get]
  cases fiAt T.a p <;> cases fiAt T.b p <;> cases fiAt T.c p <;> rfl

/-- Clashes of those from the i-th on. -/
def clD (l : List Ou) (i : Nat) : List Ou := l.mapIdx fun j o => if i ≤ j then clash1 l j o else o
theorem clD_len (l : List Ou) (i : Nat) : (clD l i).length = l.length := by simp [clD]
theorem clD_all (l : List Ou) : clD l l.length = l := by
  apply List.ext_getElem?
  intro j
  simp only [clD, List.getElem?_mapIdx]
  by_cases h : j < l.length
  · rw [List.getElem?_eq_getElem h, Option.map_some, if_neg (by omega)]
  · rw [List.getElem?_eq_none (by omega)]; rfl
theorem clD_zero (l : List Ou) : clD l 0 = clashed l := by
  apply List.ext_getElem?
  intro j
  simp [clD, clashed]
theorem clD_step {l : List Ou} {i : Nat} (hi : i < l.length) : (clD l (i + 1)).set i (kk l[i] ((l.take i).any fun x => PathS.under l[i].path x.path)) = clD l i := by
  apply List.ext_getElem?
  intro j
  rw [List.getElem?_set]
  simp only [clD, List.getElem?_mapIdx, List.length_mapIdx]
  by_cases h : i = j
  · subst h
    rw [if_pos rfl, if_pos hi, List.getElem?_eq_getElem hi, Option.map_some, if_pos (Nat.le_refl _)]; rfl
  · rw [if_neg h]
    cases e : l[j]? with
    | none => rfl
    | some x =>
      simp only [Option.map_some]
      by_cases h2 : i ≤ j
      · rw [if_pos h2, if_pos (by omega)]
      · rw [if_neg h2, if_neg (by omega)]
theorem clD_start {l : List Ou} {i : Nat} (hi : i < l.length) : clD l (i + 1) = (clD l (i + 1)).set i (kk l[i] false) := by
  apply List.ext_getElem?
  intro j
  rw [List.getElem?_set]
  by_cases h : i = j
  · subst h
    rw [if_pos rfl, if_pos (by rw [clD_len]; exact hi)]
    simp only [clD, List.getElem?_mapIdx, List.getElem?_eq_getElem hi, Option.map_some]
    rw [if_neg (by omega)]; rfl
  · rw [if_neg h]
theorem clD_path (l : List Ou) (i j : Nat) (o : Ou) (h : ∀ h : j < l.length, o.path = l[j].path) : ((clD l i).set j o).map (·.path) = l.map (·.path) := by
  apply List.ext_getElem?
  intro k
  rw [List.getElem?_map, List.getElem?_map, List.getElem?_set]
  by_cases e : j = k
  · subst e
    rw [if_pos rfl, clD_len]
    by_cases hj : j < l.length
    · rw [if_pos hj, List.getElem?_eq_getElem hj, Option.map_some, Option.map_some, h hj]
    · rw [if_neg hj, List.getElem?_eq_none (by omega)]
  · rw [if_neg e]
    simp only [clD, List.getElem?_mapIdx]
    cases e : l[k]? with
    | none => rfl
    | some x =>
      simp only [Option.map_some]
      split
      · unfold clash1; split <;> rfl
      · rfl
end Go.Proofs.YtpcipdkoncmdcaaGreatDoor
namespace Go.Proofs.YtpcipdkoncmdcaaGreatDoor
open Go Go.RowKit
theorem ld_str9 (ad : Addr) (v : Value) (W : World) (h : W.cell? ad = some v) : (Instr.loadAt 9 (.pointer (some ad))).run Tryz.prog W = .ok v W := by go_simp
set_option maxRecDepth 100000 in
set_option maxHeartbeats 2000000 in
theorem ristext_c (s : ByteArray) (w : World) (hs : s.size ≤ 1000000000) : Calls Tryz.prog 60 #[.string s] w fun e w' => e = .returned (.bool (JoinS.isText s)) ∧ w' = w := by
  have H0 : Hid (JoinS.isText s = (s.data.toList.drop 0).all fun c => decide (c ≠ 0)) := rfl
  go_enter Tryz.func60, Tryz.ntmps60
  go_upto_region 2 with fail
  go_loopw [3] (fun iv wx => ∃ k : Nat, k ≤ s.size ∧ iv = .int .i64 k ∧ Hid (JoinS.isText s = (s.data.toList.drop k).all fun c => decide (c ≠ 0)) ∧ wx = w) (fun iv _ => (s.size - intOf iv).toNat)
  case atStart => exact ⟨0, Nat.zero_le _, rfl, H0, rfl⟩
  case round =>
    clear H0
    obtain ⟨k, hk, rfl, HT, rfl⟩ := hrel
    by_cases hlt : k < s.size
    · have d1 : decide ((k : Int) < (s.size : Int)) = true := decide_eq_true (by omega)
      have hd : s.data.toList.drop k = s[k] :: s.data.toList.drop (k + 1) := by
        have hl : k < s.data.toList.length := by rw [← Lib.size_eq]; exact hlt
        rw [List.drop_eq_getElem_cons hl]; rfl
      have ht := HT.out
      rw [hd, List.all_cons] at ht
      by_cases h7 : s[k] = 0
      · have h8 : ((s[k].toNat : Int) == 0) = true := by rw [h7]; rfl
        have HR : Hid (JoinS.isText s = false) := by show _ = _; rw [ht, h7]; rfl
        clear ht hd HT h7
        go_wp2_with fail
        go_ret
        exact ⟨ret_bool HR.out, rfl⟩
      · have h8 : ((s[k].toNat : Int) == 0) = false := by
          rw [beq_eq_false_iff_ne]; intro h; exact h7 (UInt8.toNat_inj.1 (by simpa using Int.ofNat.inj h))
        have HR : Hid (Hid (JoinS.isText s = (s.data.toList.drop (k + 1)).all fun c => decide (c ≠ 0))) := by show _ = _; rw [ht, decide_eq_true h7, Bool.true_and]
        clear ht hd HT h7
        go_wp2_with fail
        go_roundw
        case rel => exact ⟨k + 1, hlt, by go_num, HR.out, trivial⟩
        case measure => simp [intOf]; omega
    · have hke : k = s.size := by omega
      subst hke
      have d1 : decide ((s.size : Int) < (s.size : Int)) = false := decide_eq_false (by omega)
      have HR : Hid (JoinS.isText s = true) := by
        have h := HT.out
        rw [List.drop_of_length_le (by rw [← Lib.size_eq]; exact Nat.le_refl _)] at h
        exact h
      clear HT
      go_wp2_with fail
      go_ret
      exact ⟨ret_bool HR.out, rfl⟩

theorem drop_eq2 {a b : List ByteArray} (hl : a.length = b.length) {k : Nat} (hk : k < a.length) : decide (a.drop k = b.drop k) = (decide (a[k] = b[k]) && decide (a.drop (k + 1) = b.drop (k + 1))) := by
  rw [Bool.eq_iff_iff, Bool.and_eq_true, decide_eq_true_eq, decide_eq_true_eq, decide_eq_true_eq, List.drop_eq_getElem_cons hk, List.drop_eq_getElem_cons (show k < b.length by omega), List.cons.injEq]
set_option maxRecDepth 100000 in
set_option maxHeartbeats 2000000 in
theorem rsame_c {w : World} {va vb : Value} {a b : List ByteArray} (ha : Tl w va a) (hb : Tl w vb b) (hla : a.length ≤ 100000000) (hlb : b.length ≤ 100000000) : Calls Tryz.prog 116 #[va, vb] w fun e w' => e = .returned (.bool (decide (a = b))) ∧ DN w w' := by
  have HA := Lib.hid ha
  have HB := Lib.hid hb
  obtain ⟨aa, ca, rfl, -⟩ := ha
  obtain ⟨ab, cb, rfl, -⟩ := hb
  by_cases hl : a.length = b.length
  · have e1 : ((a.length : Int) == (b.length : Int)) = true := beq_iff_eq.2 (by omega)
    have e2 : ((a.length : Int) != (b.length : Int)) = false := by unfold bne; rw [e1]; rfl
    have H0 : Hid (decide (a = b) = decide (a.drop 0 = b.drop 0)) := rfl
    have HL := Lib.hid hl
    clear hl
    go_enter Tryz.func116, Tryz.ntmps116
    go_upto_region 4 with fail
    go_loopw [5] (fun kv wx => ∃ k : Nat, k ≤ a.length ∧ kv = .int .i64 k ∧ Hid (decide (a = b) = decide (a.drop k = b.drop k)) ∧ Hid (DN w wx)) (fun kv _ => (a.length - intOf kv).toNat)
    case atStart => exact ⟨0, Nat.zero_le _, rfl, H0, DN.refl w⟩
    case round =>
      clear H0
      obtain ⟨k, hk, rfl, HT, HD⟩ := hrel
      by_cases hlt : k < a.length
      · have d1 : decide ((k : Int) < (a.length : Int)) = true := decide_eq_true (by omega)
        have d3 : (0 : Int) ≤ (k : Int) := by omega
        have d4 : (k : Int) < (a.length : Int) := by omega
        have d5 : (k : Int) < (b.length : Int) := by have := HL.out; omega
        have kw : IntKind.i64.wrap ((k : Int) + 1) = ((k + 1 : Nat) : Int) := IntWalk.i64_in _ (by omega)
        have hkb : k < b.length := by have := HL.out; omega
        obtain ⟨q, rfl⟩ := HD.out
        obtain ⟨ba, oa, c1, e, -, -, -, ga⟩ := (HA.out.drewN q).some_ (List.ne_nil_of_length_pos (by omega))
        injection e with e _ _
        subst e
        obtain ⟨bb, ob, c2, e, -, -, -, gb⟩ := (HB.out.drewN q).some_ (List.ne_nil_of_length_pos (by omega))
        injection e with e _ _
        subst e
        have HGA := Lib.hid (ga k hlt)
        have HGB := Lib.hid (gb k hkb)
        have ht := HT.out
        rw [drop_eq2 HL.out hlt] at ht
        have HT2 := Lib.hid ht
        clear ht ga gb HT
        have HDq : Hid (Hid (DN w ((w.drewN q).drewN 1))) := ⟨q + 1, by rw [World.drewN_drewN]⟩
        go_upto_region 6 with fail
        generalize a[k] = x at *
        generalize b[k] = y at *
        have hs0 : ((w.drewN q).drewN 1).cell? ⟨ba, oa + k, none⟩ = some (.string x) ∧ ((w.drewN q).drewN 1).cell? ⟨bb, ob + k, none⟩ = some (.string y) := ⟨HGA.out, HGB.out⟩
        by_cases h7 : x = y
        · subst h7
          have HR : Hid (Hid (decide (a = b) = decide (a.drop (k + 1) = b.drop (k + 1)))) := by show _ = _; rw [HT2.out, decide_eq_true rfl, Bool.true_and]
          clear HT2 HGA HGB
          refine wp_region_hz (fun W => W.cell? ⟨ba, oa + k, none⟩ = some (.string x) ∧ W.cell? ⟨bb, ob + k, none⟩ = some (.string x)) (.tk 0 (.tk 1 (.tk 2 (.tk 3 (.tk 4 (.tk 5 (.tk 6 (.tk 7 (.tk 8 (.nil)))))))))) (by kernel_rfl) (by kernel_rfl) (fun _ _ _ _ _ h => h) ?_
          refine goZ_tk rfl rfl 17 rfl (.slice (some ⟨ba, oa, none⟩) a.length ca) (fun _ => rfl) ?_; simp only [zT, zA, zB]
          refine goZ_tk rfl rfl 18 rfl (.int .i64 k) (fun _ => rfl) ?_; simp only [zT, zA, zB]
          refine goZ_tk rfl rfl 19 rfl (.pointer (some ⟨ba, oa + k, none⟩)) (fun _ => by go_simp) ?_; simp only [zT, zA, zB]
          refine goZ_ld rfl rfl 20 rfl 9 _ rfl ⟨ba, oa + k, none⟩ (.string x) rfl (fun W hS => ld_str9 _ _ W hS.1) (hs0) ?_; simp only [zT, zA, zB]
          refine goZ_tk rfl rfl 21 rfl (.slice (some ⟨bb, ob, none⟩) b.length cb) (fun _ => rfl) ?_; simp only [zT, zA, zB]
          refine goZ_tk rfl rfl 22 rfl (.int .i64 k) (fun _ => rfl) ?_; simp only [zT, zA, zB]
          refine goZ_tk rfl rfl 23 rfl (.pointer (some ⟨bb, ob + k, none⟩)) (fun _ => by go_simp) ?_; simp only [zT, zA, zB]
          refine goZ_ld rfl rfl 24 rfl 9 _ rfl ⟨bb, ob + k, none⟩ (.string x) rfl (fun W hS => ld_str9 _ _ W hS.2) (hs0) ?_; simp only [zT, zA, zB]
          refine goZ_tk rfl rfl 25 rfl (.bool false) (fun _ => by go_simp) ?_; simp only [zT, zA, zB]
          refine goZ_end ?_
          clear hs0
          generalize (w.drewN q).drewN 1 = W6 at *
          go_wp2_with fail
          go_roundw
          case rel => exact ⟨k + 1, hlt, by go_num, HR.out, HDq.out⟩
          case measure => simp [intOf]; omega
        · have hd : (x.toList == y.toList) = false := by rw [beq_eq_false_iff_ne, Lib.toList_data, Lib.toList_data]; intro h; exact h7 (PathS.ba_ext h)
          have HR : Hid (decide (a = b) = false) := by show _ = _; rw [HT2.out, decide_eq_false h7]; rfl
          clear HT2 HGA HGB h7
          refine wp_region_hz (fun W => W.cell? ⟨ba, oa + k, none⟩ = some (.string x) ∧ W.cell? ⟨bb, ob + k, none⟩ = some (.string y)) (.tk 0 (.tk 1 (.tk 2 (.tk 3 (.tk 4 (.tk 5 (.tk 6 (.tk 7 (.tk 8 (.nil)))))))))) (by kernel_rfl) (by kernel_rfl) (fun _ _ _ _ _ h => h) ?_
          refine goZ_tk rfl rfl 17 rfl (.slice (some ⟨ba, oa, none⟩) a.length ca) (fun _ => rfl) ?_; simp only [zT, zA, zB]
          refine goZ_tk rfl rfl 18 rfl (.int .i64 k) (fun _ => rfl) ?_; simp only [zT, zA, zB]
          refine goZ_tk rfl rfl 19 rfl (.pointer (some ⟨ba, oa + k, none⟩)) (fun _ => by go_simp) ?_; simp only [zT, zA, zB]
          refine goZ_ld rfl rfl 20 rfl 9 _ rfl ⟨ba, oa + k, none⟩ (.string x) rfl (fun W hS => ld_str9 _ _ W hS.1) (hs0) ?_; simp only [zT, zA, zB]
          refine goZ_tk rfl rfl 21 rfl (.slice (some ⟨bb, ob, none⟩) b.length cb) (fun _ => rfl) ?_; simp only [zT, zA, zB]
          refine goZ_tk rfl rfl 22 rfl (.int .i64 k) (fun _ => rfl) ?_; simp only [zT, zA, zB]
          refine goZ_tk rfl rfl 23 rfl (.pointer (some ⟨bb, ob + k, none⟩)) (fun _ => by go_simp) ?_; simp only [zT, zA, zB]
          refine goZ_ld rfl rfl 24 rfl 9 _ rfl ⟨bb, ob + k, none⟩ (.string y) rfl (fun W hS => ld_str9 _ _ W hS.2) (hs0) ?_; simp only [zT, zA, zB]
          refine goZ_tk rfl rfl 25 rfl (.bool true) (fun _ => by go_simp) ?_; simp only [zT, zA, zB]
          refine goZ_end ?_
          clear hs0
          generalize (w.drewN q).drewN 1 = W6 at *
          go_wp2_with fail
          go_ret
          exact ⟨ret_bool HR.out, HDq.out⟩
      · have hke : k = a.length := by omega
        subst hke
        have d1 : decide ((a.length : Int) < (a.length : Int)) = false := decide_eq_false (by omega)
        have HR : Hid (decide (a = b) = true) := by
          show _ = _
          rw [HT.out, List.drop_length, List.drop_of_length_le (by have := HL.out; omega)]; rfl
        have HDq : Hid (Hid (DN w wr)) := HD
        clear HT HD HA HB
        go_wp2_with fail
        go_ret
        exact ⟨ret_bool HR.out, HDq.out⟩
  · have e1 : ((a.length : Int) == (b.length : Int)) = false := beq_eq_false_iff_ne.2 (by omega)
    have e2 : ((a.length : Int) != (b.length : Int)) = true := by unfold bne; rw [e1]; rfl
    have HR : Hid (decide (a = b) = false) := decide_eq_false (fun e => hl (by rw [e]))
    clear hl HA HB
    go_enter Tryz.func116, Tryz.ntmps116
    go_wp2_with fail
    go_ret
    exact ⟨ret_bool HR.out, DN.refl w⟩
set_option maxRecDepth 100000 in
set_option maxHeartbeats 2000000 in
theorem rkind_c {w : World} {vb vo vt : Value} {p : JoinS.Pt ByteArray} (hb : Tl w vb p.b) (ho : Tl w vo p.o) (ht : Tl w vt p.t) (lb : p.b.length ≤ 100000000) (lo : p.o.length ≤ 100000000) (lt : p.t.length ≤ 100000000) :
    Calls Tryz.prog 96 #[vb, vo, vt] w fun e w' => e = .returned (.int .i64 (JoinS.kindOf p)) ∧ DN w w' := by
  have hall : ∀ (v1 v2 : Value) (l1 l2 : List ByteArray) (W : World), Tl w v1 l1 → Tl w v2 l2 → l1.length ≤ 100000000 → l2.length ≤ 100000000 → DN w W → Calls Tryz.prog 116 #[v1, v2] W fun e W' => e = .returned (.bool (decide (l1 = l2))) ∧ DN w W' := by
    rintro v1 v2 l1 l2 W g1 g2 k1 k2 ⟨q, rfl⟩
    refine (rsame_c (g1.drewN q) (g2.drewN q) k1 k2).mono ?_
    rintro e W' ⟨he, q2, rfl⟩
    exact ⟨he, q + q2, by rw [World.drewN_drewN]⟩
  have H1 := Lib.hid (fun W => hall vb vo p.b p.o W hb ho lb lo)
  have H2 := Lib.hid (fun W => hall vb vt p.b p.t W hb ht lb lt)
  have H3 := Lib.hid (fun W => hall vo vt p.o p.t W ho ht lo lt)
  clear hall
  have hd := DN.refl w
  have HK : Hid (∀ a b c : Bool, decide (p.b = p.o) = a → decide (p.b = p.t) = b → decide (p.o = p.t) = c → JoinS.kindOf p = if a && b then 0 else if b then 1 else if a then 2 else if c then 3 else 4) := by
    intro a b c e1 e2 e3
    rw [show decide (p.b = p.o) = decide (p.o = p.b) from decide_eq_decide.2 ⟨Eq.symm, Eq.symm⟩] at e1
    rw [show decide (p.b = p.t) = decide (p.t = p.b) from decide_eq_decide.2 ⟨Eq.symm, Eq.symm⟩] at e2
    unfold JoinS.kindOf
    rw [← e1, ← e2, ← e3]
    by_cases g1 : p.o = p.b <;> by_cases g2 : p.t = p.b <;> by_cases g3 : p.o = p.t <;> simp [g1, g2, g3]
  clear hb ho ht lb lo lt
  obtain ⟨a, ea⟩ : ∃ a, decide (p.b = p.o) = a := ⟨_, rfl⟩
  obtain ⟨b, eb⟩ : ∃ a, decide (p.b = p.t) = a := ⟨_, rfl⟩
  obtain ⟨c, ec⟩ : ∃ a, decide (p.o = p.t) = a := ⟨_, rfl⟩
  have HK2 := Lib.hid (HK.out a b c ea eb ec)
  rw [ea] at H1
  rw [eb] at H2
  rw [ec] at H3
  clear ea eb ec HK
  go_enter Tryz.func96, Tryz.ntmps96
  cases a with
  | true =>
    cases b with
    | true =>
      go_upto_region 1 with fail
      refine goP_start ?_
      refine goP_mv rfl 7 rfl _ rfl vb rfl ?_; simp only [zT, zA, zB]
      refine goP_mv rfl 8 rfl _ rfl vo rfl ?_; simp only [zT, zA, zB]
      refine goP_call rfl 9 rfl 116 _ rfl [vb, vo] rfl (enters_of Tryz.func116 (by kernel_rfl) rfl) ((H1.out _ hd).mono ?_)
      rintro e w1 ⟨rfl, hd⟩
      refine ⟨(.bool true), rfl, ?_⟩; simp only [zT, zA, zB]
      refine goP_mv rfl 10 rfl _ rfl (.bool true) rfl ?_; simp only [zT, zA, zB]
      refine goP_mv rfl 11 rfl _ rfl vb rfl ?_; simp only [zT, zA, zB]
      refine goP_mv rfl 12 rfl _ rfl vt rfl ?_; simp only [zT, zA, zB]
      refine goP_call rfl 13 rfl 116 _ rfl [vb, vt] rfl (enters_of Tryz.func116 (by kernel_rfl) rfl) ((H2.out _ hd).mono ?_)
      rintro e w1 ⟨rfl, hd⟩
      refine ⟨(.bool true), rfl, ?_⟩; simp only [zT, zA, zB]
      refine goP_pk rfl 14 rfl _ _ _ rfl true rfl (.bool true) rfl ?_; simp only [zT, zA, zB]
      refine goP_end ?_
      go_wp2_with fail
      go_ret
      exact ⟨ret_i64 (by rw [HK2.out]; rfl), hd⟩
    | false =>
      go_upto_region 1 with fail
      refine goP_start ?_
      refine goP_mv rfl 7 rfl _ rfl vb rfl ?_; simp only [zT, zA, zB]
      refine goP_mv rfl 8 rfl _ rfl vo rfl ?_; simp only [zT, zA, zB]
      refine goP_call rfl 9 rfl 116 _ rfl [vb, vo] rfl (enters_of Tryz.func116 (by kernel_rfl) rfl) ((H1.out _ hd).mono ?_)
      rintro e w1 ⟨rfl, hd⟩
      refine ⟨(.bool true), rfl, ?_⟩; simp only [zT, zA, zB]
      refine goP_mv rfl 10 rfl _ rfl (.bool true) rfl ?_; simp only [zT, zA, zB]
      refine goP_mv rfl 11 rfl _ rfl vb rfl ?_; simp only [zT, zA, zB]
      refine goP_mv rfl 12 rfl _ rfl vt rfl ?_; simp only [zT, zA, zB]
      refine goP_call rfl 13 rfl 116 _ rfl [vb, vt] rfl (enters_of Tryz.func116 (by kernel_rfl) rfl) ((H2.out _ hd).mono ?_)
      rintro e w1 ⟨rfl, hd⟩
      refine ⟨(.bool false), rfl, ?_⟩; simp only [zT, zA, zB]
      refine goP_pk rfl 14 rfl _ _ _ rfl true rfl (.bool false) rfl ?_; simp only [zT, zA, zB]
      refine goP_end ?_
      go_upto_region 3 with fail
      refine goP_start ?_
      refine goP_mv rfl 15 rfl _ rfl vb rfl ?_; simp only [zT, zA, zB]
      refine goP_mv rfl 16 rfl _ rfl vt rfl ?_; simp only [zT, zA, zB]
      refine goP_call rfl 17 rfl 116 _ rfl [vb, vt] rfl (enters_of Tryz.func116 (by kernel_rfl) rfl) ((H2.out _ hd).mono ?_)
      rintro e w1 ⟨rfl, hd⟩
      refine ⟨(.bool false), rfl, ?_⟩; simp only [zT, zA, zB]
      refine goP_end ?_
      go_upto_region 5 with fail
      refine goP_start ?_
      refine goP_mv rfl 18 rfl _ rfl vb rfl ?_; simp only [zT, zA, zB]
      refine goP_mv rfl 19 rfl _ rfl vo rfl ?_; simp only [zT, zA, zB]
      refine goP_call rfl 20 rfl 116 _ rfl [vb, vo] rfl (enters_of Tryz.func116 (by kernel_rfl) rfl) ((H1.out _ hd).mono ?_)
      rintro e w1 ⟨rfl, hd⟩
      refine ⟨(.bool true), rfl, ?_⟩; simp only [zT, zA, zB]
      refine goP_end ?_
      go_wp2_with fail
      go_ret
      exact ⟨ret_i64 (by rw [HK2.out]; rfl), hd⟩
  | false =>
    go_upto_region 1 with fail
    refine goP_start ?_
    refine goP_mv rfl 7 rfl _ rfl vb rfl ?_; simp only [zT, zA, zB]
    refine goP_mv rfl 8 rfl _ rfl vo rfl ?_; simp only [zT, zA, zB]
    refine goP_call rfl 9 rfl 116 _ rfl [vb, vo] rfl (enters_of Tryz.func116 (by kernel_rfl) rfl) ((H1.out _ hd).mono ?_)
    rintro e w1 ⟨rfl, hd⟩
    refine ⟨(.bool false), rfl, ?_⟩; simp only [zT, zA, zB]
    refine goP_mv rfl 10 rfl _ rfl (.bool false) rfl ?_; simp only [zT, zA, zB]
    refine goP_no rfl 11 rfl ?_; simp only [zT, zA, zB]
    refine goP_no rfl 12 rfl ?_; simp only [zT, zA, zB]
    refine goP_no rfl 13 rfl ?_; simp only [zT, zA, zB]
    refine goP_pk rfl 14 rfl _ _ _ rfl false rfl (.bool false) rfl ?_; simp only [zT, zA, zB]
    refine goP_end ?_
    go_upto_region 3 with fail
    cases b with
    | true =>
      refine goP_start ?_
      refine goP_mv rfl 15 rfl _ rfl vb rfl ?_; simp only [zT, zA, zB]
      refine goP_mv rfl 16 rfl _ rfl vt rfl ?_; simp only [zT, zA, zB]
      refine goP_call rfl 17 rfl 116 _ rfl [vb, vt] rfl (enters_of Tryz.func116 (by kernel_rfl) rfl) ((H2.out _ hd).mono ?_)
      rintro e w1 ⟨rfl, hd⟩
      refine ⟨(.bool true), rfl, ?_⟩; simp only [zT, zA, zB]
      refine goP_end ?_
      go_wp2_with fail
      go_ret
      exact ⟨ret_i64 (by rw [HK2.out]; rfl), hd⟩
    | false =>
      refine goP_start ?_
      refine goP_mv rfl 15 rfl _ rfl vb rfl ?_; simp only [zT, zA, zB]
      refine goP_mv rfl 16 rfl _ rfl vt rfl ?_; simp only [zT, zA, zB]
      refine goP_call rfl 17 rfl 116 _ rfl [vb, vt] rfl (enters_of Tryz.func116 (by kernel_rfl) rfl) ((H2.out _ hd).mono ?_)
      rintro e w1 ⟨rfl, hd⟩
      refine ⟨(.bool false), rfl, ?_⟩; simp only [zT, zA, zB]
      refine goP_end ?_
      go_upto_region 5 with fail
      refine goP_start ?_
      refine goP_mv rfl 18 rfl _ rfl vb rfl ?_; simp only [zT, zA, zB]
      refine goP_mv rfl 19 rfl _ rfl vo rfl ?_; simp only [zT, zA, zB]
      refine goP_call rfl 20 rfl 116 _ rfl [vb, vo] rfl (enters_of Tryz.func116 (by kernel_rfl) rfl) ((H1.out _ hd).mono ?_)
      rintro e w1 ⟨rfl, hd⟩
      refine ⟨(.bool false), rfl, ?_⟩; simp only [zT, zA, zB]
      refine goP_end ?_
      go_upto_region 7 with fail
      refine goP_start ?_
      refine goP_mv rfl 21 rfl _ rfl vo rfl ?_; simp only [zT, zA, zB]
      refine goP_mv rfl 22 rfl _ rfl vt rfl ?_; simp only [zT, zA, zB]
      refine goP_call rfl 23 rfl 116 _ rfl [vo, vt] rfl (enters_of Tryz.func116 (by kernel_rfl) rfl) ((H3.out _ hd).mono ?_)
      rintro e w1 ⟨rfl, hd⟩
      refine ⟨(.bool c), rfl, ?_⟩; simp only [zT, zA, zB]
      refine goP_end ?_
      cases c with
      | true =>
        go_wp2_with fail
        go_ret
        exact ⟨ret_i64 (by rw [HK2.out]; rfl), hd⟩
      | false =>
        go_wp2_with fail
        go_ret
        exact ⟨ret_i64 (by rw [HK2.out]; rfl), hd⟩
end Go.Proofs.YtpcipdkoncmdcaaGreatDoor
