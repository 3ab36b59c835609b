/- Texts of mine, joined: Walk of the document's lines: a text cut into lines. | Walk: the document's woven text. | What the document's merging holds in memory. -/
import Derived.Test.YtpcipdkoncmdcaaGreatDoorYJoinMerges32
namespace Go.Proofs.YtpcipdkoncmdcaaGreatDoor
open Go Go.RowKit
/-- The bytes from f on, below k. -/
def seg (s : ByteArray) (f k : Nat) : List UInt8 := (s.data.toList.drop f).take (k - f)
theorem seg_step {s : ByteArray} {f k : Nat} (hf : f ≤ k) (hk : k < s.size) : seg s f (k + 1) = seg s f k ++ [s[k]] := by
  have hl : k < s.data.toList.length := by rw [← Lib.size_eq]; exact hk
  unfold seg
  rw [show k + 1 - f = (k - f) + 1 by omega, List.take_add_one, List.getElem?_drop, show f + (k - f) = k by omega, List.getElem?_eq_getElem hl]
  rfl
theorem seg_extract {s : ByteArray} {f k : Nat} : s.extract f k = ⟨(seg s f k).toArray⟩ := by
  apply ByteArray.ext; apply Array.toList_inj.1
  rw [Lib.extract_data]; rfl
theorem seg_self (s : ByteArray) (f : Nat) : seg s f f = [] := by unfold seg; rw [Nat.sub_self, List.take_zero]
theorem ln_step {s : ByteArray} {f k : Nat} (hf : f ≤ k) (hk : k < s.size) : JoinS.lnA (seg s f k) (s.data.toList.drop k) = if s[k] = 10 then s.extract f (k + 1) :: JoinS.lnA [] (s.data.toList.drop (k + 1)) else JoinS.lnA (seg s f (k + 1)) (s.data.toList.drop (k + 1)) := by
  have hl : k < s.data.toList.length := by rw [← Lib.size_eq]; exact hk
  rw [List.drop_eq_getElem_cons hl, JoinS.lnA_cons, seg_extract, seg_step hf hk]
  rfl
theorem ln_last {s : ByteArray} {f k : Nat} (hf : f ≤ k) (hk : k + 1 = s.size) : JoinS.lnA (seg s f (k + 1)) (s.data.toList.drop (k + 1)) = s.extract f (k + 1) :: JoinS.lnA [] (s.data.toList.drop (k + 1)) := by
  have hd : s.data.toList.drop (k + 1) = [] := List.drop_of_length_le (by rw [← Lib.size_eq]; omega)
  rw [hd]
  have hne : (seg s f (k + 1)).isEmpty = false := by rw [seg_step hf (by omega)]; simp
  show (if (seg s f (k + 1)).isEmpty = true then _ else _) = _
  rw [hne, seg_extract]; rfl

set_option maxRecDepth 100000 in
set_option maxHeartbeats 4000000 in
theorem rsplit_c (s : ByteArray) (w : World) (hs : s.size ≤ 10000000) :
    Calls Tryz.prog 61 #[.string s] w fun e w' => ∃ v, e = .returned v ∧ Below w.heap.size w w' ∧ w'.ownsRow w.heap.size 9 1 v (JoinS.lns s).length ((JoinS.lns s).map Value.string) := by
  have H0 : Hid (JoinS.lns s = [] ++ JoinS.lnA (seg s 0 0) (s.data.toList.drop 0)) := by show _ = _; rw [seg_self]; rfl
  have HN := Lib.hid (JoinS.lns_len s)
  go_enter Tryz.func61, Tryz.ntmps61
  go_upto_region 4 with fail
  go_loopw [3, 4, 5] (fun out fr i wr => ∃ k f : Nat, ∃ L : List ByteArray, k ≤ s.size ∧ f ≤ k ∧ (k = s.size → f = k) ∧ i = .int .i64 k ∧ fr = .int .i64 f ∧ Hid (JoinS.lns s = L ++ JoinS.lnA (seg s f k) (s.data.toList.drop k)) ∧ wr.ownsRow w.heap.size 9 1 out L.length (L.map Value.string) ∧ Below w.heap.size w wr) (fun _ _ i _ => s.size - (intOf i).toNat)
  case atStart => exact ⟨0, 0, [], Nat.zero_le _, Nat.le_refl _, fun _ => rfl, rfl, rfl, H0, World.ownsRow_nil _ _ _ _, Below.refl _ _⟩
  case round =>
    clear H0
    obtain ⟨k, f, L, hk, hf, hfe, rfl, rfl, HL, hown, hb⟩ := hrel
    have hll : L.length ≤ s.size := by
      have h1 := congrArg List.length HL.out
      rw [List.length_append] at h1
      have := HN.out; omega
    by_cases hlt : k < s.size
    · have d1 : decide ((k : Int) < (s.size : Int)) = true := decide_eq_true (by omega)
      have k1 : f ≤ k + 1 := by omega
      have k2 : k + 1 ≤ s.size := hlt
      have w1 : IntKind.i64.wrap ((s.size : Int) - 1) = (s.size : Int) - 1 := IntWalk.i64_in _ (by omega)
      have w2 : IntKind.i64.wrap ((k : Int) + 1) = ((k + 1 : Nat) : Int) := IntWalk.i64_in _ (by omega)
      have hst := HL.out
      rw [ln_step hf hlt] at hst
      clear HL hfe
      by_cases h7 : s[k] = 10
      · have h8 : ((s[k].toNat : Int) == 10) = true := by rw [h7]; rfl
        rw [if_pos h7] at hst
        have HR : Hid (JoinS.lns s = (L ++ [s.extract f (k + 1)]) ++ JoinS.lnA (seg s (k + 1) (k + 1)) (s.data.toList.drop (k + 1))) := by show _ = _; rw [seg_self, List.append_assoc]; exact hst
        clear h7 hst
        go_wp2_with (at_builtin; refine wp_app1 rfl _ _ _ rfl ES rfl rfl hown rfl rfl (by omega) (by simp [maxLen]; omega) hb.size ?_)
        intro v' w' hown' _ hb'
        have hbb := hb.trans hb'
        clear hown hb hb'
        go_wp2_with fail
        go_roundw
        case rel => exact ⟨k + 1, k + 1, L ++ [s.extract f (k + 1)], k2, Nat.le_refl _, fun _ => rfl, by go_num, by go_num, HR, by simpa using hown', hbb⟩
        case measure => simp [intOf]; omega
      · have h8 : ((s[k].toNat : Int) == 10) = false := by
          rw [beq_eq_false_iff_ne]; intro h; exact h7 (UInt8.toNat_inj.1 (by simpa using Int.ofNat.inj h))
        rw [if_neg h7] at hst
        by_cases h9 : k + 1 = s.size
        · have h10 : ((k : Int) == (s.size : Int) - 1) = true := beq_iff_eq.2 (by omega)
          rw [ln_last hf h9] at hst
          have HR : Hid (JoinS.lns s = (L ++ [s.extract f (k + 1)]) ++ JoinS.lnA (seg s (k + 1) (k + 1)) (s.data.toList.drop (k + 1))) := by show _ = _; rw [seg_self, List.append_assoc]; exact hst
          have HK9 := Lib.hid h9
          clear h7 hst h9
          go_wp2_with (at_builtin; refine wp_app1 rfl _ _ _ rfl ES rfl rfl hown rfl rfl (by omega) (by simp [maxLen]; omega) hb.size ?_)
          intro v' w' hown' _ hb'
          have hbb := hb.trans hb'
          clear hown hb hb'
          go_wp2_with fail
          go_roundw
          case rel => exact ⟨k + 1, k + 1, L ++ [s.extract f (k + 1)], k2, Nat.le_refl _, fun _ => rfl, by go_num, by go_num, HR, by simpa using hown', hbb⟩
          case measure => simp [intOf]; omega
        · have h10 : ((k : Int) == (s.size : Int) - 1) = false := beq_eq_false_iff_ne.2 (by omega)
          have HR := Lib.hid hst
          have HK9 := Lib.hid h9
          clear h7 hst h9
          go_wp2_with fail
          go_roundw
          case rel => exact ⟨k + 1, f, L, k2, by omega, fun h => absurd h HK9.out, by go_num, rfl, HR, hown, hb⟩
          case measure => simp [intOf]; omega
    · have hke : k = s.size := by omega
      have hfk := hfe hke
      subst hke
      subst hfk
      have d1 : decide ((s.size : Int) < (s.size : Int)) = false := decide_eq_false (by omega)
      have HR : Hid (JoinS.lns s = L) := by
        have h := HL.out
        rw [seg_self, List.drop_of_length_le (by rw [← Lib.size_eq]; exact Nat.le_refl _)] at h
        show _ = _
        rw [h]; exact List.append_nil L
      clear HL hfe hll
      go_wp2_with fail
      go_ret
      exact ⟨_, rfl, hb, by rw [HR.out]; exact hown⟩
end Go.Proofs.YtpcipdkoncmdcaaGreatDoor
namespace Go.Proofs.YtpcipdkoncmdcaaGreatDoor
open Go Go.RowKit
open JoinS (isText lns clean joinAll parts tellAll cat)
theorem cat_step {l : List ByteArray} {k : Nat} (hk : k < l.length) : cat (l.take (k + 1)) = cat (l.take k) ++ l[k] := by
  rw [List.take_add_one, List.getElem?_eq_getElem hk]
  unfold cat
  rw [List.flatMap_append]
  apply ByteArray.ext
  apply Array.toList_inj.1
  simp
theorem cat_sum (m : List ByteArray) : (cat m).size = (m.map (·.size)).sum := by
  induction m with
  | nil => rfl
  | cons b m ih =>
    have e : (cat (b :: m)).size = b.size + (cat m).size := by
      unfold cat
      rw [Lib.size_eq, Lib.size_eq, Lib.size_eq, List.flatMap_cons]
      simp
    rw [e, ih]; rfl
theorem cat_take (l : List ByteArray) (k : Nat) : (cat (l.take k)).size ≤ (cat l).size := by
  have h : l.take k ++ l.drop k = l := List.take_append_drop k l
  have h2 := congrArg (fun m => (m.map (·.size)).sum) h
  simp only [List.map_append, List.sum_append] at h2
  rw [cat_sum, cat_sum]
  omega

set_option maxRecDepth 100000 in
set_option maxHeartbeats 8000000 in
theorem rwoven_c {w : World} {o : Ou} {sv : Value} {bl : List Bl} (ho : OkOu o) (h : BS w sv bl) (hz : ∀ id, (textS bl id).1.size ≤ 1000) :
    Calls Tryz.prog 33 #[.agg (doC o).toArray, sv] w fun e w' => e = .returned (.tuple #[.string (weaveS (textS bl) o.has o.ids).2.2, .int .i64 (weaveS (textS bl) o.has o.ids).2.1, .int .i64 (weaveS (textS bl) o.has o.ids).1]) ∧ Below w.heap.size w w' := by
  obtain ⟨W1, hW1⟩ : ∃ W1, w.alloc (.cells (doC o).toArray 48 (0, 0)) = W1 := ⟨_, rfl⟩
  have hB1 : Below w.heap.size w W1 := by rw [← hW1]; exact (Below.refl _ w).alloc (Nat.le_refl _) _
  have hD : DO W1 w.heap.size o := ⟨by show W1.heap[_]? = _; rw [← hW1]; exact Array.getElem?_push_size, ho⟩
  have HB1 := Lib.hid hB1
  have HD := Lib.hid hD
  have HBS := Lib.hid h
  have HW1 := Lib.hid hW1
  have HOK := Lib.hid ho
  obtain ⟨aa, cc, rfl⟩ := h.lit
  have h1 : W1.cell? ⟨w.heap.size, 37, none⟩ = some (.bool o.has.b) := hD.hg (i := 1) (by decide)
  have h2 : W1.cell? ⟨w.heap.size, 38, none⟩ = some (.bool o.has.c) := hD.hg (i := 2) (by decide)
  clear hW1 hB1 hD h ho
  go_enter Tryz.func33, Tryz.ntmps33
  go_upto_region 1 with fail
  rw [HW1.out]
  clear HW1
  by_cases hbc : o.has.b = false ∨ o.has.c = false
  · have HW : Hid (weaveS (textS bl) o.has o.ids = (0, 3, ByteArray.empty)) := by show _ = _; unfold weaveS; rw [if_pos hbc]
    rcases Bool.eq_false_or_eq_true o.has.b with eb | eb
    · rcases Bool.eq_false_or_eq_true o.has.c with ec | ec
      · exfalso; rw [eb, ec] at hbc; simp at hbc
      · clear hbc
        rw [eb] at h1; rw [ec] at h2
        clear eb ec
        go_wp2_with fail
        go_ret3
        exact ⟨by rw [HW.out]; rfl, HB1.out⟩
    · clear hbc
      rw [eb] at h1
      clear eb
      go_wp2_with fail
      go_ret3
      exact ⟨by rw [HW.out]; rfl, HB1.out⟩
  · have eb : o.has.b = true := by cases e : o.has.b with | true => rfl | false => exact absurd (.inl e) hbc
    have ec : o.has.c = true := by cases e : o.has.c with | true => rfl | false => exact absurd (.inr e) hbc
    have HW : Hid (weaveS (textS bl) o.has o.ids = match gathF (textS bl) o.has o.ids 3 ⟨[], [], []⟩ with
      | .err e => (e, 3, ByteArray.empty)
      | .stop => (0, 3, ByteArray.empty)
      | .go l => (0, if clean (joinAll [] (parts l.a l.b l.c)) then 2 else 3, cat (tellAll oursB theirsB (joinAll [] (parts l.a l.b l.c))))) := by show _ = _; unfold weaveS; rw [if_neg hbc]; cases gathF (textS bl) o.has o.ids 3 ⟨[], [], []⟩ <;> rfl
    clear hbc
    rw [eb] at h1
    rw [ec] at h2
    clear eb ec
    go_upto_region 4 with fail
    have hbp : (W1.alloc (.cells #[.slice none 0 0, .slice none 0 0, .slice none 0 0] 120 (0, 0))).heap[W1.heap.size]? = some (.cells #[.slice none 0 0, .slice none 0 0, .slice none 0 0] 120 (0, 0)) := Array.getElem?_push_size
    have hB2 : Below W1.heap.size W1 (W1.alloc (.cells #[.slice none 0 0, .slice none 0 0, .slice none 0 0] 120 (0, 0))) := (Below.refl _ W1).alloc (Nat.le_refl _) _
    have hp3 : w.heap.size ≤ W1.heap.size := HB1.out.size
    have hqp : w.heap.size < W1.heap.size := HD.out.lt
    generalize hW2 : W1.alloc (.cells #[.slice none 0 0, .slice none 0 0, .slice none 0 0] 120 (0, 0)) = W2 at *
    clear hW2
    have HD2 := Lib.hid (HD.out.below hB2)
    have HB2 := Lib.hid (HB1.out.trans (hB2.mono HB1.out.size))
    have HL2 : Hid (L3 W2 W1.heap.size ⟨[], [], []⟩) := ⟨_, _, _, hbp, ⟨none, 0, rfl, Nat.le_refl _, Nat.zero_le _, fun _ => rfl, .inl rfl⟩, ⟨none, 0, rfl, Nat.le_refl _, Nat.zero_le _, fun _ => rfl, .inl rfl⟩, ⟨none, 0, rfl, Nat.le_refl _, Nat.zero_le _, fun _ => rfl, .inl rfl⟩⟩
    clear h1 h2 HB1 HD hB2 hbp
    generalize hp3e : W1.heap.size = p3 at *
    clear hp3e
    go_upto_region 5 with fail
    go_loopw [8] (fun iv wx => ∃ i : Nat, i ≤ 3 ∧ iv = .int .i64 i ∧ ∃ L, Hid (gathF (textS bl) o.has o.ids 3 ⟨[], [], []⟩ = gathF (textS bl) o.has o.ids (3 - i) L) ∧ Hid (L3 wx p3 L) ∧ Hid (Smal L) ∧ Hid (DO wx w.heap.size o) ∧ Hid (Below w.heap.size w wx) ∧ p3 < wx.heap.size) (fun iv _ => (3 - intOf iv).toNat)
    case atStart => exact ⟨0, by decide, rfl, _, rfl, HL2.out, fun j hj => by rcases j with _ | _ | _ | j <;> first | exact ⟨Nat.zero_le _, fun s hs => nomatch hs⟩ | omega, HD2, HB2, HL2.out.lt⟩
    case round =>
      clear HL2 HD2 HB2
      obtain ⟨i, hi, rfl, L, HGA, HL, HSM, HD, HB, hpw⟩ := hrel
      by_cases hlt : i < 3
      · -- @dev{ L1
        have d1 : decide ((i : Int) < 3) = true := decide_eq_true (by omega)
        have d2 : decide (i < 3) = true := decide_eq_true hlt
        have d3 : (0 : Int) ≤ (i : Int) := by omega
        have d4 : (i : Int) < 3 := by omega
        have dw : IntKind.i64.wrap ((i : Int) + 1) = ((i + 1 : Nat) : Int) := IntWalk.i64_in _ (by omega)
        have hhi : wr.cell? ⟨w.heap.size, 36 + i, none⟩ = some (.bool (o.has.get i)) := HD.out.hg hlt
        have hst := gath_step (textS bl) o.has o.ids hlt L
        rw [← HGA.out] at hst
        cases hz0 : o.has.get i with
        | false =>
          rw [hz0] at hhi hst
          rw [if_pos rfl] at hst
          have HST := Lib.hid hst
          clear hst hz0
          go_wp2_with fail
          go_roundw
          case rel => exact ⟨i + 1, by omega, by go_num, L, HST, HL, HSM, HD, HB, hpw⟩
          case measure => simp [intOf]; omega
        | true =>
          rw [hz0] at hhi hst
          rw [if_neg (by decide)] at hst
          have HST := Lib.hid hst
          clear hst hz0
          have HOKI : Hid (OkId (o.ids.get i)) := HOK.out.ig hlt
          have HIG : Hid (wr.rangeAt w.heap.size (39 + i * 32) (nb (o.ids.get i))) := HD.out.ig hlt
          have HISZ : Hid ((Tryz.prog.info? 43).map (·.size) = some (nb (o.ids.get i)).length) := by show _ = _; rw [nb_len, HOKI.out.1]; kernel_rfl
          have hzi := hz (o.ids.get i)
          have HTX := Lib.hid (rtext_c (HBS.out.below HB.out) HOKI.out)
          generalize textS bl (o.ids.get i) = xe at *
          obtain ⟨tx, er⟩ := xe
          simp only at hzi HTX HST
          go_upto_region 9 with (first
            | (refine wpList_load_mid rfl 43 _ rfl w.heap.size (39 + i * 32) rfl (nb (o.ids.get i)) _ HIG.out id_under rfl HISZ.out ?_)
            | (go_at_call 59; refine HTX.out.mono ?_; rintro e W5 ⟨rfl, hb5⟩))
          have HD5 := Lib.hid (HD.out.below hb5)
          have HL5 := Lib.hid (HL.out.below hb5)
          have HB5 := Lib.hid (HB.out.trans (hb5.mono HB.out.size))
          have hpw5 : p3 < W5.heap.size := Nat.lt_of_lt_of_le hpw hb5.size
          clear hb5 HD HL HB hpw HIG HISZ HTX hhi
          by_cases her : er = 0
          · subst her
            rw [if_neg (by simp)] at HST
            cases hit : isText tx with
            | false =>
              rw [hit, if_pos rfl] at HST
              have HIT := Lib.hid (fun W => ristext_c tx W (by omega))
              rw [hit] at HIT
              clear hit
              have hfin : weaveS (textS bl) o.has o.ids = (0, 3, ByteArray.empty) := by rw [HW.out, HST.out]
              have HF := Lib.hid hfin
              clear hfin
              go_wp2_with (first | (go_at_call 60; refine (HIT.out _).mono ?_; rintro e w2 ⟨rfl, hw⟩; have hw := hw.symm; subst hw))
              go_ret3
              exact ⟨by rw [HF.out]; rfl, HB5.out⟩
            | true =>
              rw [hit, if_neg (by decide)] at HST
              have HIT := Lib.hid (fun W => ristext_c tx W (by omega))
              rw [hit] at HIT
              clear hit
              have HSP := Lib.hid (rsplit_c tx W5 (by omega))
              have hl1 := JoinS.lns_len tx
              have HSI := Lib.hid (JoinS.lns_size tx)
              generalize lns tx = lt at *
              go_wp2_with (first
                | (go_at_call 60; refine (HIT.out _).mono ?_; rintro e w2 ⟨rfl, hw⟩; have hw := hw.symm; subst hw)
                | (go_at_call 61; refine HSP.out.mono ?_; rintro e w2 ⟨v2, rfl, hb2, ho2⟩
                   obtain ⟨a2, c2, rfl, -⟩ := Tl.of_own ho2
                   have HO2 := Lib.hid ho2; have HB2 := Lib.hid hb2; clear ho2 hb2
                   have HL6 := Lib.hid (HL5.out.below HB2.out)
                   obtain ⟨vc, hvc, -⟩ := HL6.out.cell hlt
                   have hvf := HL6.out.fz i))
              go_roundw
              case rel =>
                have hgs := grown_set w2 p3 i (.slice a2 lt.length c2)
                have hne : some w.heap.size ≠ some p3 := by simp; omega
                have hb6 := HB5.out.trans (HB2.out.mono HB5.out.size)
                refine ⟨i + 1, by omega, by go_num, L.set i lt, HST, ?_, HSM.out.put hlt (by omega) (fun s hs => by have := HSI.out s hs; omega), (HD5.out.below HB2.out).kept hgs hne, hb6.grown hgs hb6.size (fun k hk => by cases hk; omega), Nat.lt_of_lt_of_le (Nat.lt_of_lt_of_le hpw5 HB2.out.size) hgs.size⟩
                exact HL6.out.put hlt (Tn.of_own (OwnG.of_own HO2.out) fun b hb => by have := own_new HO2.out hb; omega)
              case measure => simp [intOf]; omega
          · rw [if_pos her] at HST
            have e0 : (er == 0) = false := beq_eq_false_iff_ne.2 her
            have hfin : weaveS (textS bl) o.has o.ids = (er, 3, ByteArray.empty) := by rw [HW.out, HST.out]
            have HF := Lib.hid hfin
            clear hfin
            go_wp2_with fail
            go_ret3
            exact ⟨by rw [HF.out]; rfl, HB5.out⟩
      · -- @dev{ L2
        have hi3 : i = 3 := by omega
        have HGo : Hid (gathF (textS bl) o.has o.ids 3 ⟨[], [], []⟩ = .go L) := by show _ = _; rw [HGA.out, hi3]; rfl
        clear HGA
        have d1 : decide ((i : Int) < 3) = false := decide_eq_false (by omega)
        have d2 : decide (i < 3) = false := decide_eq_false hlt
        obtain ⟨va, hva, tla⟩ := HL.out.cell (i := 0) (by decide)
        obtain ⟨vb, hvb, tlb⟩ := HL.out.cell (i := 1) (by decide)
        obtain ⟨vc, hvc, tlc⟩ := HL.out.cell (i := 2) (by decide)
        simp only [T3.get] at tla tlb tlc
        have hsa := (HSM.out 0 (by decide)).1
        have hsb := (HSM.out 1 (by decide)).1
        have hsc := (HSM.out 2 (by decide)).1
        simp only [T3.get] at hsa hsb hsc
        have HWV := Lib.hid (rmerge_c tla tlb tlc hsa hsb hsc)
        have HBD := Lib.hid (woven_small HSM.out (ps := joinAll [] (parts L.a L.b L.c)) rfl oursB theirsB (by decide) (by decide))
        obtain ⟨cl, hcl⟩ : ∃ cl, clean (joinAll [] (parts L.a L.b L.c)) = cl := ⟨_, rfl⟩
        have hfin : weaveS (textS bl) o.has o.ids = (0, if cl then 2 else 3, cat (tellAll oursB theirsB (joinAll [] (parts L.a L.b L.c)))) := by rw [HW.out, HGo.out, ← hcl]
        have HF := Lib.hid hfin
        have HCL := Lib.hid hcl
        clear hfin hcl hsa hsb hsc tla tlb tlc hi3 HGo
        generalize joinAll [] (parts L.a L.b L.c) = ps at *
        clear hi
        go_upto_region 18 with (first
          | (go_at_call 63
             have hmem : ∀ x ∈ xs, x.p ∈ ps := fun x hx => by rw [← HXS.out]; exact List.mem_map_of_mem hx
             refine (rtell_c HPR.out oursB theirsB (by decide) (by decide) (by rw [HXS.out]; exact fun k => Nat.le_trans (HBD.out.1 k) (by decide)) (fun x hx => by have := HBD.out.2.1 _ (hmem x hx); omega) (fun x hx => by
               have h := HBD.out.2.2.1 _ (hmem x hx)
               exact ⟨fun s hs => Nat.le_trans (h.1 s hs) (by decide), fun s hs => Nat.le_trans (h.2.1 s hs) (by decide), fun s hs => Nat.le_trans (h.2.2 s hs) (by decide)⟩)).mono ?_
             rw [HXS.out]
             rintro e W7 ⟨tv7, rfl, htl7, hb7⟩
             have HTL7 := Lib.hid htl7; have HB7 := Lib.hid hb7; clear htl7 hb7 hmem
             rw [HCL.out])
          | (go_at_call 62; refine HWV.out.mono ?_; rintro e W6 ⟨pv, xs, rfl, hpr, hxs, hb6⟩
             have HPR := Lib.hid hpr; have HXS := Lib.hid hxs; have HB6 := Lib.hid hb6; clear hpr hxs hb6))
        have HB9 : Hid (Below w.heap.size w W7) := (HB.out.trans (HB6.out.mono HB.out.size)).trans (HB7.out.mono (Nat.le_trans HB.out.size HB6.out.size))
        clear HB6 HB7 HB HL hva hvb hvc HPR HXS HWV HCL hpw HD HSM d1 d2
        have hN := HBD.out.2.2.2.1
        have hZ := HBD.out.2.2.2.2
        clear HBD
        generalize tellAll oursB theirsB ps = l at *
        obtain ⟨a7, c7, rfl, -⟩ := id HTL7.out
        go_upto_region 20 with fail
        go_loopw [15, 16] (fun tv kv wx => ∃ k : Nat, k ≤ l.length ∧ kv = .int .i64 k ∧ (∃ s, tv = .string s ∧ Hid (s = cat (l.take k)) ∧ s.size ≤ 1000000000) ∧ wx = W7) (fun _ kv _ => (l.length - intOf kv).toNat)
        case atStart => exact ⟨0, Nat.zero_le _, rfl, ⟨_, rfl, rfl, by decide⟩, rfl⟩
        case round =>
          obtain ⟨k, hk, rfl, ⟨s, rfl, HSK, hsz⟩, rfl⟩ := hrel
          by_cases hkl : k < l.length
          · have k1 : decide ((k : Int) < (l.length : Int)) = true := decide_eq_true (by omega)
            have k2 : decide (k < l.length) = true := decide_eq_true hkl
            have k3 : (0 : Int) ≤ (k : Int) := by omega
            have k4 : (k : Int) < (l.length : Int) := by omega
            have kw : IntKind.i64.wrap ((k : Int) + 1) = ((k + 1 : Nat) : Int) := IntWalk.i64_in _ (by omega)
            obtain ⟨b, ob, c', e, -, -, -, hcell⟩ := HTL7.out.some_ (fun e => by rw [e] at hkl; simp at hkl)
            injection e with e1 _ e2
            subst e1 e2
            have hc := hcell k hkl
            have hcs := cat_step hkl
            have hct := cat_take l (k + 1)
            rw [hcs] at hct
            rw [← HSK.out] at hcs hct
            have hcsz : s.size + l[k].size ≤ 1000000000 := by rw [ByteArray.size_append] at hct; omega
            have HCS : Hid (s ++ l[k] = cat (l.take (k + 1))) := hcs.symm
            clear hcell hcs hct
            generalize l[k] = y at *
            go_wp2_with fail
            go_roundw
            case rel => exact ⟨k + 1, hkl, by go_num, ⟨_, rfl, HCS.out, by rw [ByteArray.size_append]; omega⟩, trivial⟩
            case measure => simp [intOf]; omega
          · have hke : k = l.length := by omega
            have HSE : Hid (s = cat l) := by show _ = _; rw [HSK.out, hke, List.take_length]
            have k1 : decide ((k : Int) < (l.length : Int)) = false := decide_eq_false (by omega)
            have k2 : decide (k < l.length) = false := decide_eq_false hkl
            clear hke HSK
            cases cl with
            | false =>
              go_wp2_with fail
              go_ret3
              exact ⟨by rw [HF.out, ← HSE.out]; rfl, HB9.out⟩
            | true =>
              go_wp2_with fail
              go_ret3
              exact ⟨by rw [HF.out, ← HSE.out]; rfl, HB9.out⟩
end Go.Proofs.YtpcipdkoncmdcaaGreatDoor
namespace Go.Proofs.YtpcipdkoncmdcaaGreatDoor
open Go Go.RowKit
/-- The document's outcomes so far, in a row made since w0. -/
structure DQ (w0 w : World) (ov : Value) (l : List Ou) : Prop where
  row : OwnG w 48 135 ov l.length (doR l)
  own : ∀ g, ov.ownBlock = some g → w0.heap.size ≤ g
  ok : ∀ x ∈ l, OkOu x
  below : Below w0.heap.size w0 w
theorem DQ.nil (w0 : World) : DQ w0 w0 (.slice none 0 0) [] := ⟨OwnG.nil _ _ _, (fun g hg => by cases hg), (fun x hx => nomatch hx), Below.refl _ _⟩
theorem DQ.step {w0 w w' : World} {ov : Value} {l : List Ou} (h : DQ w0 w ov l) (hb : Below w.heap.size w w') : DQ w0 w' ov l := ⟨h.row.below hb, h.own, h.ok, h.below.trans (hb.mono h.below.size)⟩
theorem DQ.app {w0 w w' : World} {ov v' : Value} {l : List Ou} {x : Ou} (h : DQ w0 w ov l) (hg : w.grownBy w' ov.ownBlock) (ho : OwnG w' 48 135 v' (l.length + 1) (doR l ++ doC x)) (hv : ∀ g, v'.ownBlock = some g → ov.ownBlock = some g ∨ w.heap.size ≤ g) (hx : OkOu x) : DQ w0 w' v' (l ++ [x]) := by
  refine ⟨?_, fun g hg' => (hv g hg').elim (h.own g) (fun hl => Nat.le_trans h.below.size hl), fun y hy => ?_, h.below.grown hg h.below.size (fun g hg' => h.own g hg')⟩
  · have e : doR (l ++ [x]) = doR l ++ doC x := by unfold doR; rw [List.flatMap_append]; simp
    rw [e, List.length_append]; exact ho
  · rcases List.mem_append.1 hy with hy | hy
    · exact h.ok y hy
    · rw [List.mem_singleton.1 hy]; exact hx
/-- Three times in a block. -/
def SB (w : World) (p : Nat) (s : T3 Nat) : Prop := w.heap[p]? = some (.cells #[.float .f64 s.a, .float .f64 s.b, .float .f64 s.c] 64 (0, 0))
theorem SB.lt {w : World} {p : Nat} {s : T3 Nat} (h : SB w p s) : p < w.heap.size := (Array.getElem?_eq_some_iff.1 h).1
theorem SB.below {w w' : World} {p : Nat} {s : T3 Nat} (h : SB w p s) (hb : Below w.heap.size w w') : SB w' p s := (hb.block p h.lt).trans h
theorem SB.kept {w w' : World} {p : Nat} {s : T3 Nat} {r : Option Nat} (h : SB w p s) (hg : w.grownBy w' r) (hne : some p ≠ r) : SB w' p s := (hg.block p h.lt hne).trans h
theorem SB.cell {w : World} {p : Nat} {s : T3 Nat} (h : SB w p s) {i : Nat} (hi : i < 3) : w.cell? ⟨p, i, none⟩ = some (.float .f64 (s.get i)) := by
  have h : w.heap[p]? = _ := h
  simp only [World.cell?, h]
  rcases i with _ | _ | _ | i
  · rfl
  · rfl
  · rfl
  · omega
theorem SB.fz {w : World} {p : Nat} {s : T3 Nat} (h : SB w p s) (i : Nat) : w.frozen? ⟨p, i, none⟩ = false := by
  have h : w.heap[p]? = _ := h
  simp [World.frozen?, h]
theorem SB.put {w : World} {p : Nat} {s : T3 Nat} (h : SB w p s) {i : Nat} (hi : i < 3) (x : Nat) : SB (w.setCell ⟨p, i, none⟩ (.float .f64 x)) p (s.set i x) := by
  obtain ⟨h1, -⟩ := set_blk h i (.float .f64 x)
  rcases i with _ | _ | _ | i
  · exact h1
  · exact h1
  · exact h1
  · omega
theorem fi_fld {W : World} {b o : Nat} {f : Fi} (hf : OkFi f) (h : W.rangeAt b o (fiC f)) : W.rangeAt b (o + 1) (nb f.id) ∧ W.cell? ⟨b, o + 33, none⟩ = some (.float .f64 f.stamp) := by
  have hl := nb_len f.id
  rw [hf.id.1] at hl
  refine ⟨fun j u hu => ?_, h 33 _ ?_⟩
  · rw [Nat.add_assoc]
    refine h (1 + j) u ?_
    unfold fiC
    rw [show 1 + j = j + 1 by omega, List.getElem?_cons_succ, List.getElem?_append_left (List.getElem?_eq_some_iff.1 hu).1]; exact hu
  · unfold fiC
    rw [show (33 : Nat) = 32 + 1 from rfl, List.getElem?_cons_succ, List.getElem?_append_right (by omega), hl]; rfl
theorem ld_dfiles (ad : Addr) (v : Value) (W : World) (h : W.cell? ad = some v) : (Instr.loadAt 38 (.pointer (some ad))).run Tryz.prog W = .ok v W := by go_simp
set_option maxRecDepth 100000 in
theorem bool_neq (x y : Bool) (w : World) : (binOp .neq 4 (.bool x) (.bool y)).run Tryz.prog w = .ok (.bool (x != y)) w := by
  cases x <;> cases y <;> rfl
set_option maxRecDepth 100000 in
theorem bool_eql (x y : Bool) (w : World) : (binOp .eql 4 (.bool x) (.bool y)).run Tryz.prog w = .ok (.bool (x == y)) w := by
  cases x <;> cases y <;> rfl
theorem eqS_ne {a b : Bool} {x y : List Nat} (h : (b != a) = true) : (!eqS a b x y) = true := by
  cases a <;> cases b <;> first | rfl | cases h
theorem eqS_sm {a b : Bool} {x y : List Nat} (h : (b != a) = false) : (!eqS a b x y) = !decide (y = x) := by
  have e : a = b := by cases a <;> cases b <;> first | rfl | cases h
  subst e
  simp [eqS, eq_comm]
theorem eqS_eq {a b : Bool} {x y : List Nat} (h : (a == b) = true) : eqS a b x y = decide (x = y) := by
  have e : a = b := by cases a <;> cases b <;> first | rfl | cases h
  subst e
  simp [eqS]
theorem eqS_diff {a b : Bool} {x y : List Nat} (h : (a == b) = false) : eqS a b x y = false := by
  cases a <;> cases b <;> first | rfl | cases h
theorem DO.sc {w : World} {q : Nat} {o : Ou} (h : DO w q o) : w.cell? ⟨q, 34, none⟩ = some (.float .f64 o.stamp) := h.blk.cell (by simp [doC, nb_len, h.ok.id.1])
theorem DO.tc {w : World} {q : Nat} {o : Ou} (h : DO w q o) : w.cell? ⟨q, 35, none⟩ = some (.string o.text) := h.blk.cell (by simp [doC, List.getElem?_append, nb_len, h.ok.id.1])
theorem DO.kc {w : World} {q : Nat} {o : Ou} (h : DO w q o) : w.cell? ⟨q, 1, none⟩ = some (.int .i64 o.kind) := h.blk.cell rfl
theorem DO.range {w : World} {q : Nat} {o : Ou} (h : DO w q o) : w.there q 2 32 := h.blk.there 2 32 (by rw [doC_len h.ok]; decide)
set_option maxRecDepth 100000 in
theorem dout_zcells : Tryz.zeroCells48.size = 135 := by kernel_rfl
set_option maxRecDepth 100000 in
theorem rb_out0 (p : ByteArray) (w : World) : (Instr.build 48 #[(0, .string p)]).run Tryz.prog w = .ok (.agg (doC ⟨p, 0, zId, 0, ByteArray.empty, ⟨false, false, false⟩, ⟨zId, zId, zId⟩⟩).toArray) w := by kernel_rfl
theorem okOu0 {p : ByteArray} (hp : p.size ≤ 2000000) : OkOu ⟨p, 0, zId, 0, ByteArray.empty, ⟨false, false, false⟩, ⟨zId, zId, zId⟩⟩ := ⟨zId_ok, zId_ok, zId_ok, zId_ok, by simp, by simp, by show p.size ≤ 10000000; omega⟩
theorem doC_all {o : Ou} : (doC o).toArray.all (·.oneCell') = true := by
  rw [List.all_toArray, List.all_eq_true]
  exact doC_one'
theorem stF_lt {l : List Fi} (h : ∀ f ∈ l, OkFi f) (p : ByteArray) : stF (fiAt l p) < 2 ^ 64 := by
  cases e : fiAt l p with
  | none => exact Nat.two_pow_pos _
  | some f => exact (h f (fiAt_some e).1).st
end Go.Proofs.YtpcipdkoncmdcaaGreatDoor
