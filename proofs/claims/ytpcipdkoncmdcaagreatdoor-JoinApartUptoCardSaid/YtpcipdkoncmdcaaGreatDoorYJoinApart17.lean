/- Texts of mine, joined: Walk: is a tree in order? (tree.Check) | Paths' threes by their names: the map of join.Merge, what its first loop turns. | The threes and their names as they lie while join.Merge takes the files in. -/
import Derived.Deep.QuietTactic
import Derived.Lib.Bytes
import Derived.Test.YtpcipdkoncmdcaaGreatDoorYJoinApart16
namespace Go.Proofs.YtpcipdkoncmdcaaGreatDoor
open Go Go.RowKit
/-- A file of a tree. -/
structure Fi where
  path : ByteArray
  id : List Nat
  stamp : Nat
def fiC (f : Fi) : List Value := .string f.path :: (nb f.id ++ [.float .f64 f.stamp])
def fiR (l : List Fi) : List Value := l.flatMap fiC
structure OkFi (f : Fi) : Prop where
  id : OkId f.id
  st : f.stamp < 2 ^ 64
  pz : f.path.size ≤ 2000000
theorem fiC_len {f : Fi} (h : OkFi f) : (fiC f).length = 34 := by simp [fiC, nb_len, h.id.1]
theorem fiC_one {f : Fi} : (fiC f).toArray.all (·.oneCell') = true := by
  rw [List.all_toArray, List.all_eq_true]
  intro u hu
  unfold fiC at hu
  rcases List.mem_cons.1 hu with rfl | hu
  · rfl
  · rcases List.mem_append.1 hu with hu | hu
    · obtain ⟨x, -, rfl⟩ := List.mem_map.1 hu; rfl
    · rcases List.mem_cons.1 hu with rfl | hu
      · rfl
      · cases hu
theorem fiR_len : ∀ {l : List Fi}, (∀ b ∈ l, OkFi b) → (fiR l).length = l.length * 34
  | [], _ => rfl
  | b :: l, h => by
    show (fiC b ++ fiR l).length = _
    rw [List.length_append, fiC_len (h b (by simp)), fiR_len (fun x hx => h x (by simp [hx])), List.length_cons]; omega
theorem fiR_get : ∀ {l : List Fi}, (∀ b ∈ l, OkFi b) → ∀ (k : Nat) (hk : k < l.length) (j : Nat), j < 34 → (fiR l)[k * 34 + j]? = (fiC l[k])[j]?
  | b :: l, h, 0, _, j, hj => by
    show (fiC b ++ fiR l)[0 * 34 + j]? = _
    rw [Nat.zero_mul, Nat.zero_add, List.getElem?_append_left (by rw [fiC_len (h b (by simp))]; exact hj)]; rfl
  | b :: l, h, k + 1, hk, j, hj => by
    show (fiC b ++ fiR l)[(k + 1) * 34 + j]? = _
    have hl := fiC_len (h b (by simp))
    rw [List.getElem?_append_right (by rw [hl]; omega), hl, show (k + 1) * 34 + j - 34 = k * 34 + j by omega]
    exact fiR_get (fun x hx => h x (by simp [hx])) k (by simpa using hk) j hj
/-- Files in memory. -/
structure FS (w : World) (v : Value) (l : List Fi) : Prop where
  sl : ∃ a c, v = .slice a l.length c ∧ Sl w a (fiR l)
  ok : ∀ f ∈ l, OkFi f
  n : l.length ≤ 10000000
theorem FS.below {w w' : World} {v : Value} {l : List Fi} (h : FS w v l) (hb : Below w.heap.size w w') : FS w' v l := by
  obtain ⟨a, c, h1, h2⟩ := h.sl
  exact ⟨⟨a, c, h1, h2.below hb⟩, h.ok, h.n⟩
theorem FS.at {w : World} {v : Value} {l : List Fi} (h : FS w v l) {k : Nat} (hk : k < l.length) : ∃ b o c, v = .slice (some ⟨b, o, none⟩) l.length c ∧ b < w.heap.size ∧ ∀ j (hj : j < l.length), w.rangeAt b (o + j * 34) (fiC l[j]) := by
  obtain ⟨a, c, rfl, hs⟩ := h.sl
  rcases hs with e | ⟨b, o, rfl, hl, hc⟩
  · have := fiR_len h.ok; rw [e] at this; simp at this; omega
  · refine ⟨b, o, c, rfl, hl, fun j hj i u hu => ?_⟩
    have hok := h.ok _ (List.getElem_mem hj)
    have hi := (List.getElem?_eq_some_iff.1 hu).1
    rw [fiC_len hok] at hi
    rw [Nat.add_assoc]
    refine hc _ _ ?_
    rw [fiR_get h.ok j hj i hi]; exact hu
theorem FS.lit {w : World} {v : Value} {l : List Fi} (h : FS w v l) : ∃ a c, v = .slice a l.length c := by obtain ⟨a, c, e, _⟩ := h.sl; exact ⟨a, c, e⟩

/-- What one file adds: the code, none if it is in order. -/
def chk1 (l : List Fi) (k : Nat) : Int :=
  match l[k]? with
  | none => 0
  | some f =>
    if PathS.check f.path ≠ 0 then PathS.check f.path else
    match k with
    | 0 => 0
    | j + 1 =>
      match l[j]? with
      | none => 0
      | some p => if 0 ≤ PathS.cmp p.path f.path then 92 else if PathS.under f.path p.path then 110 else 0
/-- From the k-th file on. -/
def chkF (l : List Fi) : Nat → Nat → Int
  | 0, _ => 0
  | n + 1, k => if chk1 l k ≠ 0 then chk1 l k else chkF l n (k + 1)
def chkS (l : List Fi) : Int := if 256 < l.length then 2 else chkF l l.length 0
theorem chkF_step {l : List Fi} {k : Nat} (hk : k < l.length) : chkF l (l.length - k) k = if chk1 l k ≠ 0 then chk1 l k else chkF l (l.length - (k + 1)) (k + 1) := by
  rw [show l.length - k = (l.length - (k + 1)) + 1 by omega]; rfl

theorem chk1_bad {l : List Fi} {k : Nat} (hk : k < l.length) (h : PathS.check l[k].path ≠ 0) : chk1 l k = PathS.check l[k].path := by
  unfold chk1; rw [List.getElem?_eq_getElem hk]; simp only; rw [if_pos h]
theorem chk1_zero {l : List Fi} (hk : 0 < l.length) (h : PathS.check l[0].path = 0) : chk1 l 0 = 0 := by
  unfold chk1; rw [List.getElem?_eq_getElem hk]; simp only; rw [if_neg (by simp [h])]
theorem chk1_succ {l : List Fi} {j : Nat} (hk : j + 1 < l.length) (h : PathS.check l[j + 1].path = 0) : chk1 l (j + 1) = if 0 ≤ PathS.cmp (l[j]'(by omega)).path l[j + 1].path then 92 else if PathS.under l[j + 1].path (l[j]'(by omega)).path then 110 else 0 := by
  unfold chk1; rw [List.getElem?_eq_getElem hk]; simp only; rw [if_neg (by simp [h]), List.getElem?_eq_getElem (by omega)]
theorem ld_string (ad : Addr) (v : Value) (W : World) (h : W.cell? ad = some v) : (Instr.loadAt 9 (.pointer (some ad))).run Tryz.prog W = .ok v W := by go_simp

set_option maxRecDepth 100000 in
set_option maxHeartbeats 8000000 in
theorem tcheck_c {w : World} {v : Value} {l : List Fi} (h : FS w v l) (hg : Gl w) : Calls Tryz.prog 19 #[v] w fun e w' => e = .returned (.int .i64 (chkS l)) ∧ Below w.heap.size w w' := by
  have hn := h.n
  have HS := Lib.hid h
  have HGL := Lib.hid hg
  obtain ⟨a, c, rfl⟩ := h.lit
  clear h hg
  go_enter Tryz.func19, Tryz.ntmps19
  by_cases hbig : 256 < l.length
  · have HC : Hid (chkS l = 2) := if_pos hbig
    have d1 : decide ((l.length : Int) > 256) = true := decide_eq_true (by omega)
    have d2 : decide ((256 : Int) < (l.length : Int)) = true := decide_eq_true (by omega)
    have d3 : decide (256 < l.length) = true := decide_eq_true hbig
    go_wp2_with fail
    go_ret
    exact ⟨by rw [HC.out]; rfl, Below.refl _ _⟩
  · have HC : Hid (chkS l = chkF l (l.length - 0) 0) := if_neg hbig
    have d1 : decide ((l.length : Int) > 256) = false := decide_eq_false (by omega)
    have d2 : decide ((256 : Int) < (l.length : Int)) = false := decide_eq_false (by omega)
    have d3 : decide (256 < l.length) = false := decide_eq_false hbig
    go_upto_region 4 with fail
    clear d1 d2 d3 hbig
    go_loopw [11] (fun iv wx => ∃ k : Nat, k ≤ l.length ∧ iv = .int .i64 k ∧ Hid (chkS l = chkF l (l.length - k) k) ∧ Hid (Below w.heap.size w wx)) (fun iv _ => (l.length - intOf iv).toNat)
    case atStart => exact ⟨0, Nat.zero_le _, rfl, HC, Below.refl _ _⟩
    case round =>
      obtain ⟨k, hk, rfl, HC, HB⟩ := hrel
      by_cases hlt : k < l.length
      · have d1 : decide ((k : Int) < (l.length : Int)) = true := decide_eq_true (by omega)
        have d2 : decide (k < l.length) = true := decide_eq_true hlt
        have d3 : (0 : Int) ≤ (k : Int) := by omega
        have d4 : (k : Int) < (l.length : Int) := by omega
        have dw : IntKind.i64.wrap ((k : Int) + 1) = ((k + 1 : Nat) : Int) := IntWalk.i64_in _ (by omega)
        obtain ⟨b, o, c', e, hbl, hr⟩ := (HS.out.below HB.out).at hlt
        injection e with e1 _ e2
        subst e1 e2
        have hst := chkF_step hlt
        rw [← HC.out] at hst
        have HST := Lib.hid hst
        have HR := Lib.hid hr
        have HOK : Hid (OkFi l[k]) := HS.out.ok _ (List.getElem_mem hlt)
        have HL34 : Hid ((fiC l[k]).toArray.size = 34) := by show (fiC l[k]).toArray.size = 34; rw [List.size_toArray, fiC_len HOK.out]
        clear hst hr HC
        go_upto_region 6 with (first
          | (refine wpList_load_mid rfl 56 _ rfl b (o + k * 34) rfl (fiC l[k]) _ (HR.out k hlt) Tryz.underlying56 rfl (by rw [fiC_len HOK.out]; kernel_rfl) ?_)
          | (refine wp_storeB rfl 56 _ _ rfl wr.heap.size (fiC l[k]).toArray rfl rfl Array.getElem?_push_size (by rw [HL34.out]; first | done | kernel_rfl) (by rw [HL34.out]; first | done | kernel_rfl) fiC_one ?_; intro W5 hb5 hg5))
        have HB5 : Hid (Below w.heap.size w W5) := HB.out.trans ((((Below.refl wr.heap.size wr).alloc (Nat.le_refl _) _).grown hg5 (by simp) (fun k hk => by cases hk; exact Nat.le_refl _)).mono HB.out.size)
        have hp5 : W5.cell? ⟨wr.heap.size, 0, none⟩ = some (.string l[k].path) := by simp only [World.cell?, hb5]; rfl
        have hlp : wr.heap.size < W5.heap.size := (Array.getElem?_eq_some_iff.1 hb5).1
        have hwp : w.heap.size ≤ wr.heap.size := HB.out.size
        have hbp : b < wr.heap.size := hbl
        have HPR : Hid (∀ j (hj : j < l.length), ∀ W, Below wr.heap.size wr W → W.cell? ⟨b, o + j * 34, none⟩ = some (.string l[j].path)) := fun j hj W hW => (hW.cell (p := ⟨b, o + j * 34, none⟩) hbl).trans (by have := HR.out j hj 0 (.string l[j].path) rfl; exact this)
        have HBR : Hid (Below wr.heap.size wr W5) := ((Below.refl wr.heap.size wr).alloc (Nat.le_refl _) _).grown hg5 (by simp) (fun k hk => by cases hk; exact Nat.le_refl _)
        clear hg5 hb5 HR HB HL34 hbl
        have hpz : l[k].path.size ≤ 2000000 := HOK.out.pz
        have HCK := Lib.hid (check_c l[k].path W5 (HGL.out.below HB5.out (Nat.le_refl _)) (by omega))
        obtain ⟨ck, hck⟩ : ∃ ck, PathS.check l[k].path = ck := ⟨_, rfl⟩
        rw [hck] at HCK
        by_cases hc0 : ck = 0
        · subst hc0
          generalize hpe : wr.heap.size = p at *
          have HPE := Lib.hid hpe
          clear hpe
          go_upto_region 9 with (go_at_call 38; refine HCK.out.mono ?_; rintro e W6 ⟨rfl, hb6⟩; have hp6 : W6.cell? ⟨p, 0, none⟩ = some (.string l[k].path) := (hb6.cell (p := ⟨p, 0, none⟩) hlp).trans hp5; have HB6 := Lib.hid (HB5.out.trans (hb6.mono HB5.out.size)); have HBR6 := Lib.hid (HBR.out.trans (hb6.mono (by omega))); have hlp6 : p < W6.heap.size := Nat.lt_of_lt_of_le hlp hb6.size; clear hb6)
          clear hp5 HB5 HBR HCK
          rcases Nat.eq_zero_or_pos k with hk0 | hk0
          · have HZ : Hid (chk1 l k = 0) := by show _ = _; subst hk0; exact chk1_zero hlt hck
            have d5 : decide ((k : Int) > 0) = false := decide_eq_false (by omega)
            have d6 : decide ((0 : Int) < (k : Int)) = false := decide_eq_false (by omega)
            have d7 : decide (0 < k) = false := decide_eq_false (by omega)
            clear hck hk0
            refine wp_region_hz (fun _ => True) (.tk 0 (.tk 1 (.tk 2 (.tk 3 (.tk 4 (.tk 5 (.tk 6 (.tk 7 (.tk 8 (.tk 9 (.tk 10 (.tk 11 (.tk 12 (.tk 13 (.nil))))))))))))))) (by kernel_rfl) (by kernel_rfl) (fun _ _ _ _ _ h => h) ?_
            refine goZ_tk rfl rfl 22 rfl (.int .i64 k) (fun _ => rfl) ?_; simp only [zT, zA, zB]
            refine goZ_tk rfl rfl 23 rfl (.bool false) (fun _ => by go_simp) ?_; simp only [zT, zA, zB]
            refine goZ_tk rfl rfl 24 rfl (.bool false) (fun _ => rfl) ?_; simp only [zT, zA, zB]
            refine goZ_no rfl rfl 25 rfl ?_; simp only [zT, zA, zB]
            refine goZ_no rfl rfl 26 rfl ?_; simp only [zT, zA, zB]
            refine goZ_no rfl rfl 27 rfl ?_; simp only [zT, zA, zB]
            refine goZ_no rfl rfl 28 rfl ?_; simp only [zT, zA, zB]
            refine goZ_no rfl rfl 29 rfl ?_; simp only [zT, zA, zB]
            refine goZ_no rfl rfl 30 rfl ?_; simp only [zT, zA, zB]
            refine goZ_no rfl rfl 31 rfl ?_; simp only [zT, zA, zB]
            refine goZ_no rfl rfl 32 rfl ?_; simp only [zT, zA, zB]
            refine goZ_no rfl rfl 33 rfl ?_; simp only [zT, zA, zB]
            refine goZ_no rfl rfl 34 rfl ?_; simp only [zT, zA, zB]
            refine goZ_tk rfl rfl 35 rfl (.bool false) (fun _ => rfl) ?_; simp only [zT, zA, zB]
            refine goZ_end ?_
            go_upto_region 11 with fail
            refine wp_region_hz (fun _ => True) (.tk 0 (.tk 1 (.tk 2 (.tk 3 (.tk 4 (.tk 5 (.tk 6 (.tk 7 (.tk 8 (.tk 9 (.tk 10 (.tk 11 (.tk 12 (.nil)))))))))))))) (by kernel_rfl) (by kernel_rfl) (fun _ _ _ _ _ h => h) ?_
            refine goZ_tk rfl rfl 36 rfl (.int .i64 k) (fun _ => rfl) ?_; simp only [zT, zA, zB]
            refine goZ_tk rfl rfl 37 rfl (.bool false) (fun _ => by go_simp) ?_; simp only [zT, zA, zB]
            refine goZ_tk rfl rfl 38 rfl (.bool false) (fun _ => rfl) ?_; simp only [zT, zA, zB]
            refine goZ_no rfl rfl 39 rfl ?_; simp only [zT, zA, zB]
            refine goZ_no rfl rfl 40 rfl ?_; simp only [zT, zA, zB]
            refine goZ_no rfl rfl 41 rfl ?_; simp only [zT, zA, zB]
            refine goZ_no rfl rfl 42 rfl ?_; simp only [zT, zA, zB]
            refine goZ_no rfl rfl 43 rfl ?_; simp only [zT, zA, zB]
            refine goZ_no rfl rfl 44 rfl ?_; simp only [zT, zA, zB]
            refine goZ_no rfl rfl 45 rfl ?_; simp only [zT, zA, zB]
            refine goZ_no rfl rfl 46 rfl ?_; simp only [zT, zA, zB]
            refine goZ_no rfl rfl 47 rfl ?_; simp only [zT, zA, zB]
            refine goZ_tk rfl rfl 48 rfl (.bool false) (fun _ => rfl) ?_; simp only [zT, zA, zB]
            refine goZ_end ?_
            rw [if_neg (by rw [HZ.out]; decide)] at HST
            go_wp2_with fail
            go_roundw
            case rel => exact ⟨k + 1, hlt, by go_num, HST, HB6.out.trans ((below_dN (below_dN (Below.refl _ W6) 1) 1).mono HB6.out.size)⟩
            case measure => simp [intOf]; omega
          · have hj : k - 1 < l.length := by omega
            have HZ : Hid (chk1 l k = if 0 ≤ PathS.cmp (l[k - 1]'hj).path l[k].path then 92 else if PathS.under l[k].path (l[k - 1]'hj).path then 110 else 0) := by
              show _ = _
              obtain ⟨j, rfl⟩ : ∃ j, k = j + 1 := ⟨k - 1, by omega⟩
              exact chk1_succ hlt hck
            have d5 : decide ((k : Int) > 0) = true := decide_eq_true (by omega)
            have d6 : decide ((0 : Int) < (k : Int)) = true := decide_eq_true (by omega)
            have d7 : decide (0 < k) = true := decide_eq_true (by omega)
            have dw2 : IntKind.i64.wrap ((k : Int) - 1) = ((k - 1 : Nat) : Int) := by rw [show (k : Int) - 1 = ((k - 1 : Nat) : Int) by omega]; exact IntWalk.i64_in _ (by omega)
            have d8 : (0 : Int) ≤ ((k - 1 : Nat) : Int) := by omega
            have d9 : ((k - 1 : Nat) : Int) < (l.length : Int) := by omega
            have hpv := HPR.out (k - 1) hj W6 HBR6.out
            have hpvz := (HS.out.ok _ (List.getElem_mem hj)).pz
            have hbp6 : b < W6.heap.size := Nat.lt_trans hbp hlp6
            clear hck HPR HOK
            generalize (l[k - 1]'hj).path = pv at *
            generalize l[k].path = cu at *
            have HB61 : Hid (Below w.heap.size w (W6.drewN 1)) := HB6.out.trans ((below_dN (Below.refl _ W6) 1).mono HB6.out.size)
            have HCM := Lib.hid (cmp_c pv cu (W6.drewN 1) (HGL.out.below HB61.out (Nat.le_refl _)) (by omega) (by omega))
            obtain ⟨z, hz⟩ : ∃ z, decide (0 ≤ PathS.cmp pv cu) = z := ⟨_, rfl⟩
            have hz2 : decide (PathS.cmp pv cu ≥ 0) = z := hz
            refine wp_region_hz (fun W => W.cell? ⟨b, o + (k - 1) * 34, none⟩ = some (.string pv) ∧ W.cell? ⟨p, 0, none⟩ = some (.string cu)) (.tk 0 (.tk 1 (.tk 2 (.tk 3 (.tk 4 (.tk 5 (.tk 6 (.tk 7 (.tk 8 (.tk 9 (.tk 10 (.fc 11 (.tk 12 (.tk 13 (.nil))))))))))))))) (by kernel_rfl) (by kernel_rfl) (fun _ _ _ _ _ h => h) ?_
            have hs0 : (fun W => W.cell? ⟨b, o + (k - 1) * 34, none⟩ = some (.string pv) ∧ W.cell? ⟨p, 0, none⟩ = some (.string cu)) (W6.drewN 1) := ⟨hpv, hp6⟩
            refine goZ_tk rfl rfl 22 rfl (.int .i64 k) (fun _ => rfl) ?_; simp only [zT, zA, zB]
            refine goZ_tk rfl rfl 23 rfl (.bool true) (fun _ => by go_simp) ?_; simp only [zT, zA, zB]
            refine goZ_tk rfl rfl 24 rfl (.bool true) (fun _ => rfl) ?_; simp only [zT, zA, zB]
            refine goZ_tk rfl rfl 25 rfl (.slice (some ⟨b, o, none⟩) l.length c) (fun _ => rfl) ?_; simp only [zT, zA, zB]
            refine goZ_tk rfl rfl 26 rfl (.int .i64 k) (fun _ => rfl) ?_; simp only [zT, zA, zB]
            refine goZ_tk rfl rfl 27 rfl (.int .i64 ((k - 1 : Nat) : Int)) (fun _ => by go_simp) ?_; simp only [zT, zA, zB]
            refine goZ_tk rfl rfl 28 rfl (.pointer (some ⟨b, o + (k - 1) * 34, none⟩)) (fun _ => by go_simp) ?_; simp only [zT, zA, zB]
            refine goZ_tk rfl rfl 29 rfl (.pointer (some ⟨b, o + (k - 1) * 34, none⟩)) (fun _ => rfl) ?_; simp only [zT, zA, zB]
            refine goZ_ld rfl rfl 30 rfl 9 _ rfl ⟨b, o + (k - 1) * 34, none⟩ (.string pv) rfl (fun W hS => ld_string _ _ W hS.1) (hs0) ?_; simp only [zT, zA, zB]
            refine goZ_tk rfl rfl 31 rfl (.pointer (some ⟨p, 0, none⟩)) (fun _ => rfl) ?_; simp only [zT, zA, zB]
            refine goZ_ld rfl rfl 32 rfl 9 _ rfl ⟨p, 0, none⟩ (.string cu) rfl (fun W hS => ld_string _ _ W hS.2) (hs0) ?_; simp only [zT, zA, zB]
            refine goZ_call (ds' := []) rfl rfl (by kernel_rfl) 33 rfl 27 _ rfl [.string pv, .string cu] rfl (enters_of Tryz.func27 (by kernel_rfl) rfl) ((HCM.out).mono ?_)
            rintro e W7 ⟨rfl, hb7⟩
            have HB7 := Lib.hid hb7
            clear hb7 hs0
            refine ⟨.int .i64 (PathS.cmp pv cu), rfl, fun h => absurd rfl h, ?_⟩; simp only [zT, zA, zB]
            refine goZ_tk rfl rfl 34 rfl (.bool z) (fun _ => by go_simp) ?_; simp only [zT, zA, zB]
            refine goZ_tk rfl rfl 35 rfl (.bool z) (fun _ => rfl) ?_; simp only [zT, zA, zB]
            refine goZ_end ?_
            have HB7w : Hid (Below w.heap.size w W7) := HB61.out.trans (HB7.out.mono HB61.out.size)
            have hpv7 : W7.cell? ⟨b, o + (k - 1) * 34, none⟩ = some (.string pv) := (HB7.out.cell (p := ⟨b, o + (k - 1) * 34, none⟩) hbp6).trans hpv
            have hp7 : W7.cell? ⟨p, 0, none⟩ = some (.string cu) := (HB7.out.cell (p := ⟨p, 0, none⟩) hlp6).trans hp6
            clear hpv hp6 HB7 HCM HB61
            cases z with
            | true =>
              have HF : Hid (chkS l = 92) := by show _ = _; rw [HST.out, HZ.out, if_pos (of_decide_eq_true hz)]; rfl
              clear hz hz2
              go_wp2_with fail
              go_ret
              exact ⟨by rw [HF.out]; rfl, HB7w.out⟩
            | false =>
              rw [if_neg (of_decide_eq_false hz)] at HZ
              clear hz hz2
              obtain ⟨y, hy⟩ : ∃ y, PathS.under cu pv = y := ⟨_, rfl⟩
              have HUN : Hid (∀ W, Calls Tryz.prog 29 #[.string cu, .string pv] W fun e w' => e = .returned (.bool y) ∧ W = w') := fun W => by have := under_c cu pv W (by omega); rw [hy] at this; exact this
              rw [hy] at HZ
              clear hy
              go_upto_region 11 with fail
              refine wp_region_hz (fun W => W.cell? ⟨b, o + (k - 1) * 34, none⟩ = some (.string pv) ∧ W.cell? ⟨p, 0, none⟩ = some (.string cu)) (.tk 0 (.tk 1 (.tk 2 (.tk 3 (.tk 4 (.tk 5 (.tk 6 (.tk 7 (.tk 8 (.tk 9 (.tk 10 (.fc 11 (.tk 12 (.nil)))))))))))))) (by kernel_rfl) (by kernel_rfl) (fun _ _ _ _ _ h => h) ?_
              have hs0 : (fun W => W.cell? ⟨b, o + (k - 1) * 34, none⟩ = some (.string pv) ∧ W.cell? ⟨p, 0, none⟩ = some (.string cu)) (W7.drewN 1) := ⟨hpv7, hp7⟩
              refine goZ_tk rfl rfl 36 rfl (.int .i64 k) (fun _ => rfl) ?_; simp only [zT, zA, zB]
              refine goZ_tk rfl rfl 37 rfl (.bool true) (fun _ => by go_simp) ?_; simp only [zT, zA, zB]
              refine goZ_tk rfl rfl 38 rfl (.bool true) (fun _ => rfl) ?_; simp only [zT, zA, zB]
              refine goZ_tk rfl rfl 39 rfl (.pointer (some ⟨p, 0, none⟩)) (fun _ => rfl) ?_; simp only [zT, zA, zB]
              refine goZ_ld rfl rfl 40 rfl 9 _ rfl ⟨p, 0, none⟩ (.string cu) rfl (fun W hS => ld_string _ _ W hS.2) (hs0) ?_; simp only [zT, zA, zB]
              refine goZ_tk rfl rfl 41 rfl (.slice (some ⟨b, o, none⟩) l.length c) (fun _ => rfl) ?_; simp only [zT, zA, zB]
              refine goZ_tk rfl rfl 42 rfl (.int .i64 k) (fun _ => rfl) ?_; simp only [zT, zA, zB]
              refine goZ_tk rfl rfl 43 rfl (.int .i64 ((k - 1 : Nat) : Int)) (fun _ => by go_simp) ?_; simp only [zT, zA, zB]
              refine goZ_tk rfl rfl 44 rfl (.pointer (some ⟨b, o + (k - 1) * 34, none⟩)) (fun _ => by go_simp) ?_; simp only [zT, zA, zB]
              refine goZ_tk rfl rfl 45 rfl (.pointer (some ⟨b, o + (k - 1) * 34, none⟩)) (fun _ => rfl) ?_; simp only [zT, zA, zB]
              refine goZ_ld rfl rfl 46 rfl 9 _ rfl ⟨b, o + (k - 1) * 34, none⟩ (.string pv) rfl (fun W hS => ld_string _ _ W hS.1) (hs0) ?_; simp only [zT, zA, zB]
              refine goZ_call (ds' := []) rfl rfl (by kernel_rfl) 47 rfl 29 _ rfl [.string cu, .string pv] rfl (enters_of Tryz.func29 (by kernel_rfl) rfl) ((HUN.out _).mono ?_)
              rintro e W8 ⟨rfl, hw8⟩
              have hw8 := hw8.symm
              subst hw8
              clear hs0
              refine ⟨.bool y, rfl, fun h => absurd rfl h, ?_⟩; simp only [zT, zA, zB]
              refine goZ_tk rfl rfl 48 rfl (.bool y) (fun _ => rfl) ?_; simp only [zT, zA, zB]
              refine goZ_end ?_
              have HB8 : Hid (Below w.heap.size w (W7.drewN 1)) := HB7w.out.trans ((below_dN (Below.refl _ W7) 1).mono HB7w.out.size)
              cases y with
              | true =>
                have HF : Hid (chkS l = 110) := by show _ = _; rw [HST.out, HZ.out]; rfl
                go_wp2_with fail
                go_ret
                exact ⟨by rw [HF.out]; rfl, HB8.out⟩
              | false =>
                rw [HZ.out] at HST
                have HST2 : Hid (chkS l = chkF l (l.length - (k + 1)) (k + 1)) := HST.out
                clear HST
                go_wp2_with fail
                go_roundw
                case rel => exact ⟨k + 1, hlt, by go_num, HST2, HB8.out⟩
                case measure => simp [intOf]; omega
        · have e0 : (ck == 0) = false := beq_eq_false_iff_ne.2 hc0
          have HF : Hid (chkS l = ck) := by show _ = _; rw [HST.out, chk1_bad hlt (by rw [hck]; exact hc0), hck, if_pos hc0]
          go_wp2_with (go_at_call 38; refine HCK.out.mono ?_; rintro e W6 ⟨rfl, hb6⟩; have HB6 := Lib.hid (HB5.out.trans (hb6.mono HB5.out.size)); clear hb6)
          go_ret
          exact ⟨by rw [HF.out]; rfl, HB6.out⟩
      · have hkl : k = l.length := by omega
        have HF : Hid (chkS l = 0) := by show _ = _; rw [HC.out, hkl, Nat.sub_self]; rfl
        have d1 : decide ((k : Int) < (l.length : Int)) = false := decide_eq_false (by omega)
        have d2 : decide (k < l.length) = false := decide_eq_false hlt
        clear hkl HC
        go_wp2_with fail
        go_ret
        exact ⟨by rw [HF.out]; rfl, HB.out⟩
end Go.Proofs.YtpcipdkoncmdcaaGreatDoor
namespace Go.Proofs.YtpcipdkoncmdcaaGreatDoor
open Go Go.RowKit Go.Maps
def ptrV (o : Option Nat) : Value := .pointer (o.map fun b => ⟨b, 0, none⟩)
def ptrD (o : Option Nat) : DataW Unit := match o with | none => .nil | some b => .lit (.int .i64 b)
def ptrR (v : Value) : Option (DataW Unit × List MemPlace) := match v with
  | .pointer none => some (.nil, [])
  | .pointer (some ⟨b, 0, none⟩) => some (.lit (.int .i64 b), [])
  | _ => none
theorem ptrR_mk (o : Option Nat) : ptrR (ptrV o) = some (ptrD o, []) := by cases o <;> rfl
theorem ptrR_inv {v : Value} {y : DataW Unit × List MemPlace} (h : ptrR v = some y) : ∃ o, v = ptrV o ∧ y = (ptrD o, []) := by
  unfold ptrR at h
  split at h
  · injection h with h; exact ⟨none, rfl, h.symm⟩
  · rename_i b; injection h with h; exact ⟨some b, rfl, h.symm⟩
  · cases h
theorem ptrD_inj {a b : Option Nat} (h : ptrD a = ptrD b) : a = b := by
  cases a <;> cases b <;> simp [ptrD] at h
  · rfl
  · rw [show _ = _ from Int.ofNat_inj.1 h]
theorem str_lit_inj {x y : ByteArray} (h : Lit.string x.data.toList = .string y.data.toList) : x = y := by
  injection h with h
  exact PathS.ba_ext h

/-- Maps from paths to threes. -/
def QC : MC Tryz.prog 81 9 83 ByteArray (Option Nat) where
  mkK := Value.string
  lit s := .string s.data.toList
  okK s := s.size ≤ maxLen
  mkE := ptrV
  dt := ptrD
  ok _ := True
  z0 := none
  R := ptrR
  keyed := string_keyed Tryz.underlying9
  under := Tryz.underlying81
  key x hx := WideMaps.keyOf_string_mk Tryz.underlying9 hx
  keyInv v l h := by
    obtain ⟨s, h1, h2, h3⟩ := WideMaps.string_of_keyOf Tryz.underlying9 h
    exact ⟨s, h1, h2, h3⟩
  litInj _ _ _ _ h := str_lit_inj h
  el a _ := ptrR_mk a
  elInv v y h := by obtain ⟨o, h1, h2⟩ := ptrR_inv h; exact ⟨o, h1, h2, trivial⟩
  dtInj _ _ _ _ h := ptrD_inj h
  zero w := Tryz.zeroValue83 w
  okz := trivial

section
variable {w w' : World} {q : Nat} {t : Th}
theorem OkTh.set_id (h : OkTh t) {i : Nat} {x : List Nat} (hx : OkId x) : OkTh { t with ids := t.ids.set i x } := by
  rcases i with _ | _ | i
  · exact ⟨h.id, hx, h.ib, h.ic, h.sa, h.sb, h.sc, h.tv⟩
  · exact ⟨h.id, h.ia, hx, h.ic, h.sa, h.sb, h.sc, h.tv⟩
  · exact ⟨h.id, h.ia, h.ib, hx, h.sa, h.sb, h.sc, h.tv⟩
theorem OkTh.set_st (h : OkTh t) {i : Nat} {x : Nat} (hx : x < 2 ^ 64) : OkTh { t with sts := t.sts.set i x } := by
  rcases i with _ | _ | i
  · exact ⟨h.id, h.ia, h.ib, h.ic, hx, h.sb, h.sc, h.tv⟩
  · exact ⟨h.id, h.ia, h.ib, h.ic, h.sa, hx, h.sc, h.tv⟩
  · exact ⟨h.id, h.ia, h.ib, h.ic, h.sa, h.sb, hx, h.tv⟩
/-- The path is set. -/
theorem TR.pathput (h : TR w q t) (p : ByteArray) : TR (w.setCell ⟨q, 0, none⟩ (.string p)) q { t with path := p } ∧ w.grownBy (w.setCell ⟨q, 0, none⟩ (.string p)) (some q) := by
  obtain ⟨h1, h2⟩ := h.blk.put1 0 (.string p)
  exact ⟨⟨h1, ⟨h.ok.id, h.ok.ia, h.ok.ib, h.ok.ic, h.ok.sa, h.ok.sb, h.ok.sc, h.ok.tv⟩⟩, h2⟩
/-- It is there. -/
theorem TR.hasput (h : TR w q t) {i : Nat} (hi : i < 3) (b : Bool) : TR (w.setCell ⟨q, 36 + i, none⟩ (.bool b)) q { t with has := t.has.set i b } ∧ w.grownBy (w.setCell ⟨q, 36 + i, none⟩ (.bool b)) (some q) := by
  obtain ⟨h1, h2⟩ := h.blk.put1 (36 + i) (.bool b)
  refine ⟨⟨?_, ⟨h.ok.id, h.ok.ia, h.ok.ib, h.ok.ic, h.ok.sa, h.ok.sb, h.ok.sc, h.ok.tv⟩⟩, h2⟩
  have e : (tcs t).set (36 + i) (.bool b) = tcs { t with has := t.has.set i b } := by
    unfold tcs
    rw [show 36 + i = (35 + i) + 1 by omega, List.set_cons_succ, show 35 + i = (34 + i) + 1 by omega, List.set_cons_succ, show 34 + i = 32 + (2 + i) by omega, set_app (by rw [nb_len, h.ok.id.1])]
    rcases i with _ | _ | _ | i
    · rfl
    · rfl
    · rfl
    · omega
  rw [e] at h1; exact h1
/-- Its id. -/
theorem TR.idsput (h : TR w q t) {i : Nat} (hi : i < 3) {x : List Nat} (hx : OkId x) : TR (w.setCells q (39 + i * 32) (nb x)) q { t with ids := t.ids.set i x } ∧ w.grownBy (w.setCells q (39 + i * 32) (nb x)) (some q) := by
  have l0 := nb_len t.id
  have la := nb_len t.ids.a
  have lb := nb_len t.ids.b
  have lc := nb_len t.ids.c
  have lx := nb_len x
  rw [h.ok.id.1] at l0
  rw [h.ok.ia.1] at la
  rw [h.ok.ib.1] at lb
  rw [h.ok.ic.1] at lc
  rw [hx.1] at lx
  rcases i with _ | _ | _ | i
  · obtain ⟨h1, h2⟩ := h.blk.put (A := .string t.path :: .int .i64 t.kind :: (nb t.id ++ [.float .f64 t.stamp, t.tv, .bool t.has.a, .bool t.has.b, .bool t.has.c])) (B := nb t.ids.a) (C := nb t.ids.b ++ (nb t.ids.c ++ [.float .f64 t.sts.a, .float .f64 t.sts.b, .float .f64 t.sts.c])) (n := 39) (by simp [tcs]) (by simp [l0]) (B' := nb x) (by omega)
    exact ⟨⟨by have e : tcs { t with ids := t.ids.set 0 x } = _ := rfl; rw [e]; simpa [tcs, T3.set] using h1, h.ok.set_id hx⟩, h2⟩
  · obtain ⟨h1, h2⟩ := h.blk.put (A := .string t.path :: .int .i64 t.kind :: (nb t.id ++ (.float .f64 t.stamp :: t.tv :: .bool t.has.a :: .bool t.has.b :: .bool t.has.c :: nb t.ids.a))) (B := nb t.ids.b) (C := nb t.ids.c ++ [.float .f64 t.sts.a, .float .f64 t.sts.b, .float .f64 t.sts.c]) (n := 71) (by simp [tcs]) (by simp [l0, la]) (B' := nb x) (by omega)
    exact ⟨⟨by simpa [tcs, T3.set] using h1, h.ok.set_id (i := 1) hx⟩, h2⟩
  · obtain ⟨h1, h2⟩ := h.blk.put (A := .string t.path :: .int .i64 t.kind :: (nb t.id ++ (.float .f64 t.stamp :: t.tv :: .bool t.has.a :: .bool t.has.b :: .bool t.has.c :: (nb t.ids.a ++ nb t.ids.b)))) (B := nb t.ids.c) (C := [.float .f64 t.sts.a, .float .f64 t.sts.b, .float .f64 t.sts.c]) (n := 103) (by simp [tcs]) (by simp [l0, la, lb]) (B' := nb x) (by omega)
    exact ⟨⟨by simpa [tcs, T3.set] using h1, h.ok.set_id (i := 2) hx⟩, h2⟩
  · omega
/-- Its time. -/
theorem TR.stput (h : TR w q t) {i : Nat} (hi : i < 3) {x : Nat} (hx : x < 2 ^ 64) : TR (w.setCell ⟨q, 135 + i, none⟩ (.float .f64 x)) q { t with sts := t.sts.set i x } ∧ w.grownBy (w.setCell ⟨q, 135 + i, none⟩ (.float .f64 x)) (some q) := by
  obtain ⟨h1, h2⟩ := h.blk.put1 (135 + i) (.float .f64 x)
  refine ⟨⟨?_, h.ok.set_st hx⟩, h2⟩
  have e : (tcs t).set (135 + i) (.float .f64 x) = tcs { t with sts := t.sts.set i x } := by
    unfold tcs
    rw [show 135 + i = (133 + i) + 1 + 1 by omega, List.set_cons_succ, List.set_cons_succ, show 133 + i = 32 + ((96 + i) + 1 + 1 + 1 + 1 + 1) by omega, set_app (by rw [nb_len, h.ok.id.1])]
    simp only [List.set_cons_succ]
    rw [show 96 + i = 32 + (32 + (32 + i)) by omega, set_app (by rw [nb_len, h.ok.ia.1]), set_app (by rw [nb_len, h.ok.ib.1]), set_app (by rw [nb_len, h.ok.ic.1])]
    rcases i with _ | _ | _ | i
    · rfl
    · rfl
    · rfl
    · omega
  rw [e] at h1; exact h1
end
/-- A new three. -/
def zId : List Nat := List.replicate 32 0
def zTh : Th := { path := ByteArray.empty, kind := 0, id := zId, stamp := 0, tv := .slice none 0 0, has := ⟨false, false, false⟩, ids := ⟨zId, zId, zId⟩, sts := ⟨0, 0, 0⟩ }
theorem zId_ok : OkId zId := ⟨by simp [zId], by intro x hx; rw [List.eq_of_mem_replicate hx]; decide⟩
theorem zTh_ok : OkTh zTh := ⟨zId_ok, zId_ok, zId_ok, zId_ok, by decide, by decide, by decide, rfl⟩
/-- What a file of the i-th snapshot adds to its path's three. -/
def Th.add (t : Th) (i : Nat) (f : Fi) : Th := { t with has := t.has.set i true, ids := t.ids.set i f.id, sts := t.sts.set i f.stamp }
/-- The threes in the order of their coming, a file taken in. -/
def taken (i : Nat) (f : Fi) : List Th → List Th
  | [] => [({ zTh with path := f.path } : Th).add i f]
  | t :: l => if t.path = f.path then t.add i f :: l else t :: taken i f l
def takenAll (i : Nat) (l : List Th) (fs : List Fi) : List Th := fs.foldl (fun l f => taken i f l) l
/-- The threes of three snapshots. -/
def threes (A B C : List Fi) : List Th := takenAll 2 (takenAll 1 (takenAll 0 [] A) B) C
end Go.Proofs.YtpcipdkoncmdcaaGreatDoor
namespace Go.Proofs.YtpcipdkoncmdcaaGreatDoor
open Go Go.RowKit Go.Maps
/-- Where a path's three lies. -/
def lookF : List (Th × Nat) → ByteArray → Option (Option Nat)
  | [], _ => none
  | x :: l, p => if x.1.path = p then some (some x.2) else lookF l p
theorem lookF_app : ∀ (l m : List (Th × Nat)) (p : ByteArray), lookF (l ++ m) p = match lookF l p with | some a => some a | none => lookF m p
  | [], m, p => rfl
  | x :: l, m, p => by
    show (if x.1.path = p then some (some x.2) else lookF (l ++ m) p) = match (if x.1.path = p then some (some x.2) else lookF l p) with | some a => some a | none => lookF m p
    by_cases h : x.1.path = p
    · rw [if_pos h, if_pos h]
    · rw [if_neg h, if_neg h]; exact lookF_app l m p
/-- The three of a path is found, or there is none. -/
theorem lookF_cases : ∀ (l : List (Th × Nat)) (p : ByteArray), (lookF l p = none ∧ ∀ x ∈ l, x.1.path ≠ p) ∨ ∃ pre t q post, l = pre ++ (t, q) :: post ∧ t.path = p ∧ lookF l p = some (some q) ∧ ∀ x ∈ pre, x.1.path ≠ p
  | [], p => .inl ⟨rfl, fun x hx => nomatch hx⟩
  | (t, q) :: l, p => by
    by_cases h : t.path = p
    · exact .inr ⟨[], t, q, l, rfl, h, if_pos h, fun x hx => nomatch hx⟩
    · rcases lookF_cases l p with ⟨h1, h2⟩ | ⟨pre, t', q', post, h1, h2, h3, h4⟩
      · refine .inl ⟨(if_neg h).trans h1, fun x hx => ?_⟩
        rcases List.mem_cons.1 hx with rfl | hx
        · exact h
        · exact h2 x hx
      · refine .inr ⟨(t, q) :: pre, t', q', post, by rw [h1]; rfl, h2, (if_neg h).trans h3, fun x hx => ?_⟩
        rcases List.mem_cons.1 hx with rfl | hx
        · exact h
        · exact h4 x hx
theorem lookF_path : ∀ {l m : List (Th × Nat)}, l.map (fun x => (x.1.path, x.2)) = m.map (fun x => (x.1.path, x.2)) → ∀ p, lookF l p = lookF m p
  | [], [], _, _ => rfl
  | [], y :: m, h, _ => by simp at h
  | x :: l, [], h, _ => by simp at h
  | x :: l, y :: m, h, p => by
    simp only [List.map_cons, List.cons.injEq, Prod.mk.injEq] at h
    show (if x.1.path = p then some (some x.2) else lookF l p) = (if y.1.path = p then some (some y.2) else lookF m p)
    rw [h.1.1, h.1.2, lookF_path h.2 p]
theorem taken_new {i : Nat} {f : Fi} : ∀ {l : List Th}, (∀ t ∈ l, t.path ≠ f.path) → taken i f l = l ++ [({ zTh with path := f.path } : Th).add i f]
  | [], _ => rfl
  | t :: l, h => by
    show (if t.path = f.path then t.add i f :: l else t :: taken i f l) = _
    rw [if_neg (h t (by simp)), taken_new fun t ht => h t (by simp [ht])]; rfl
theorem taken_old {i : Nat} {f : Fi} {t : Th} {post : List Th} (ht : t.path = f.path) : ∀ {pre : List Th}, (∀ t ∈ pre, t.path ≠ f.path) → taken i f (pre ++ t :: post) = pre ++ t.add i f :: post
  | [], _ => if_pos ht
  | s :: pre, h => by
    show (if s.path = f.path then _ else s :: taken i f (pre ++ t :: post)) = _
    rw [if_neg (h s (by simp)), taken_old ht fun t ht => h t (by simp [ht])]; rfl

/-- The map mb, the names pv, the threes X: all made since w0. -/
structure MT (w0 w : World) (mb : Nat) (pv : Value) (X : List (Th × Nat)) : Prop where
  map : MapG QC w mb X.length (lookF X)
  tr : ∀ x ∈ X, TR w x.2 x.1 ∧ x.1.tv = .slice none 0 0
  nd : (X.map (·.2)).Nodup
  at_ : ∀ x ∈ X, x.2 ≠ mb ∧ w0.heap.size ≤ x.2
  row : OwnG w 9 1 pv X.length (lrow (X.map (·.1.path)))
  own : ∀ k, pv.ownBlock = some k → k ≠ mb ∧ w0.heap.size ≤ k ∧ ∀ x ∈ X, x.2 ≠ k
  mb0 : w0.heap.size ≤ mb
  below : Below w0.heap.size w0 w
section
variable {w0 w w' : World} {mb : Nat} {pv : Value} {X : List (Th × Nat)}
theorem MT.step (h : MT w0 w mb pv X) (hb : Below w.heap.size w w') : MT w0 w' mb pv X :=
  ⟨h.map.below hb, fun x hx => ⟨(h.tr x hx).1.below hb, (h.tr x hx).2⟩, h.nd, h.at_, h.row.below hb, h.own, h.mb0, h.below.trans (hb.mono h.below.size)⟩
/-- One three is turned. -/
theorem MT.turn {pre post : List (Th × Nat)} {t t' : Th} {q : Nat} (h : MT w0 w mb pv (pre ++ (t, q) :: post)) (hg : w.grownBy w' (some q)) (ht : TR w' q t') (hp : t'.path = t.path) (hv : t'.tv = .slice none 0 0) : MT w0 w' mb pv (pre ++ (t', q) :: post) := by
  have hmem : (t, q) ∈ pre ++ (t, q) :: post := by simp
  have hq := h.at_ _ hmem
  have hln : (pre ++ (t', q) :: post).length = (pre ++ (t, q) :: post).length := by simp
  have hpm : (pre ++ (t', q) :: post).map (fun x => (x.1.path, x.2)) = (pre ++ (t, q) :: post).map (fun x => (x.1.path, x.2)) := by simp [hp]
  have hnd := h.nd
  have hrp : (pre ++ (t', q) :: post).map (·.1.path) = (pre ++ (t, q) :: post).map (·.1.path) := by simp [hp]
  have hne : ∀ x, x ∈ pre ∨ x ∈ post → x.2 ≠ q := by
    intro x hx
    rw [List.map_append, List.map_cons, List.nodup_append] at hnd
    rcases hx with hx | hx
    · exact fun e => hnd.2.2 _ (List.mem_map_of_mem hx) q (by simp) e
    · exact fun e => (List.nodup_cons.1 hnd.2.1).1 (List.mem_map.2 ⟨x, hx, e⟩)
  refine ⟨?_, fun x hx => ?_, ?_, fun x hx => ?_, ?_, fun k hk => ⟨(h.own k hk).1, (h.own k hk).2.1, fun x hx => ?_⟩, h.mb0, h.below.grown hg h.below.size (fun k hk => by cases hk; exact hq.2)⟩
  · rw [hln]
    exact (h.map.kept hg (by simp; exact fun e => hq.1 e.symm)).congr (fun p => lookF_path hpm.symm p)
  · rcases List.mem_append.1 hx with h1 | h1
    · have := h.tr x (by simp [h1])
      exact ⟨this.1.kept hg (by simp; exact hne x (.inl h1)), this.2⟩
    · rcases List.mem_cons.1 h1 with rfl | h1
      · exact ⟨ht, hv⟩
      · have := h.tr x (by simp [h1])
        exact ⟨this.1.kept hg (by simp; exact hne x (.inr h1)), this.2⟩
  · rw [show (pre ++ (t', q) :: post).map (·.2) = (pre ++ (t, q) :: post).map (·.2) by simp]; exact hnd
  · rcases List.mem_append.1 hx with h1 | h1
    · exact h.at_ x (by simp [h1])
    · rcases List.mem_cons.1 h1 with rfl | h1
      · exact hq
      · exact h.at_ x (by simp [h1])
  · rw [hln, hrp]
    refine h.row.kept hg ?_
    cases e : pv.ownBlock with
    | none => exact .inl rfl
    | some k => exact .inr (by simp; exact fun e2 => (h.own k e).2.2 _ hmem e2.symm)
  · rcases List.mem_append.1 hx with h1 | h1
    · exact (h.own k hk).2.2 x (by simp [h1])
    · rcases List.mem_cons.1 h1 with rfl | h1
      · exact (h.own k hk).2.2 (t, q) hmem
      · exact (h.own k hk).2.2 x (by simp [h1])
/-- A new three comes in. -/
theorem MT.new {w1 w2 : World} {t : Th} {q : Nat} {pv' : Value} (h : MT w0 w mb pv X) (ht : TR w q t) (hv : t.tv = .slice none 0 0) (hq : q ≠ mb ∧ w0.heap.size ≤ q ∧ (∀ x ∈ X, x.2 ≠ q) ∧ pv.ownBlock ≠ some q) (hX : lookF X t.path = none)
    (hm : MapG QC w1 mb (X.length + 1) (fun z => if z = t.path then some (some q) else lookF X z)) (hg1 : w.grownBy w1 (some mb)) (hr : OwnG w2 9 1 pv' (X.length + 1) (lrow (X.map (·.1.path)) ++ [.string t.path])) (hg2 : w1.grownBy w2 pv.ownBlock) (ho : ∀ k, pv'.ownBlock = some k → pv.ownBlock = some k ∨ w1.heap.size ≤ k) :
    MT w0 w2 mb pv' (X ++ [(t, q)]) := by
  have hq1 : q < w1.heap.size := Nat.lt_of_lt_of_le ht.blk.lt hg1.size
  have hmb1 := hm.lt
  have hown : ∀ k, pv.ownBlock = some k → k ≠ mb ∧ w0.heap.size ≤ k := fun k hk => ⟨(h.own k hk).1, (h.own k hk).2.1⟩
  refine ⟨?_, fun x hx => ?_, ?_, fun x hx => ?_, ?_, fun k hk => ?_, h.mb0, ?_⟩
  · rw [List.length_append]
    refine (hm.kept hg2 (by intro e; exact (h.own mb e.symm).1 rfl)).congr fun p => ?_
    rw [lookF_app]
    by_cases hp : p = t.path
    · subst hp; rw [if_pos rfl, hX]; exact (if_pos rfl).symm
    · rw [if_neg hp]
      cases lookF X p with
      | some a => rfl
      | none => exact (if_neg (fun e => hp e.symm)).symm
  · rcases List.mem_append.1 hx with h1 | h1
    · refine ⟨((h.tr x h1).1.kept hg1 (by simp; exact (h.at_ x h1).1)).kept hg2 ?_, (h.tr x h1).2⟩
      intro e; exact (h.own x.2 e.symm).2.2 x h1 rfl
    · rw [List.mem_singleton] at h1
      subst h1
      exact ⟨(ht.kept hg1 (by simp; exact hq.1)).kept hg2 (fun e => hq.2.2.2 e.symm), hv⟩
  · rw [List.map_append, List.nodup_append]
    refine ⟨h.nd, by simp, fun a ha b hb => ?_⟩
    simp at hb
    subst hb
    obtain ⟨x, hx, rfl⟩ := List.mem_map.1 ha
    exact hq.2.2.1 x hx
  · rcases List.mem_append.1 hx with h1 | h1
    · exact h.at_ x h1
    · rw [List.mem_singleton] at h1; subst h1; exact ⟨hq.1, hq.2.1⟩
  · rw [List.length_append, List.map_append, lrow_app]; exact hr
  · have hx1 : ∀ x ∈ X, x.2 < w1.heap.size := fun x hx => Nat.lt_of_lt_of_le (h.tr x hx).1.blk.lt hg1.size
    rcases ho k hk with h1 | h1
    · refine ⟨(hown k h1).1, (hown k h1).2, fun x hx => ?_⟩
      rcases List.mem_append.1 hx with h2 | h2
      · exact (h.own k h1).2.2 x h2
      · rw [List.mem_singleton] at h2; subst h2; exact fun e => hq.2.2.2 (by rw [h1, ← e])
    · have h0 : w0.heap.size ≤ w1.heap.size := Nat.le_trans h.below.size hg1.size
      refine ⟨by omega, by omega, fun x hx => ?_⟩
      rcases List.mem_append.1 hx with h2 | h2
      · have := hx1 x h2; omega
      · rw [List.mem_singleton] at h2; subst h2; show q ≠ k; omega
  · refine (h.below.grown hg1 h.below.size (fun k hk => by cases hk; exact h.mb0)).grown hg2 (Nat.le_trans h.below.size hg1.size) (fun k hk => (hown k hk).2)
end
end Go.Proofs.YtpcipdkoncmdcaaGreatDoor
