/- Texts of mine, joined: Walks: a pack is opened. -/
import Derived.Test.YtfoamcobpfflbaaDoorZ31
namespace Go.Proofs.YtfoamcobpfflbaaDoor
open Go Go.RowKit Go.Maps
open VfsS (St)

theorem PackS.frames_ge : ∀ L : List (List Nat), 12 * L.length ≤ (PackS.frames L).length
  | [] => Nat.zero_le _
  | d :: L => by
    have := PackS.frames_ge L
    have e : PackS.frames (d :: L) = PackS.frame d ++ PackS.frames L := rfl
    rw [e, List.length_append, PackS.frame_len, List.length_cons]
    omega
theorem PackS.scan_len {b : List Nat} (hb : ∀ x ∈ b, x < 256) : 12 * (PackS.scan b).1.length ≤ b.length := by
  obtain ⟨s1, s2, s3, s4, s5⟩ := PackS.scan_frames b.length b (Nat.le_refl _) hb
  have := PackS.frames_ge (PackS.scan b).1
  omega

section
variable {E : Nat → Prop} {w0 w : World} {p q N M : Nat} {S : St} {P : PackS.Pk}

/-- The records noted one behind the other. -/
structure OpU (E E3 : Nat → Prop) (w0 w4 wx : World) (p q : Nat) (S : St) (nm : ByteArray) (L : List (List Nat)) (M i : Nat) : Prop where
  pw : PW E3 w0 wx p q S ((L.take i).foldl PackS.note (PackS.new nm)) i M
  same : ∀ k, E3 k → wx.heap[k]? = w4.heap[k]?

/-- What Open tells. -/
def OpenP (E : Nat → Prop) (w0 w : World) (p : Nat) (S : St) (s : ByteArray) (M : Nat) (e : Ending) (w' : World) : Prop :=
  (∀ k, E k → w'.heap[k]? = w.heap[k]?) ∧
      (((PackS.opened S s).2.1 = none ∧ e = .returned (.tuple #[.pointer none, .int .i64 (PackS.opened S s).2.2]) ∧ VE E w0 w' p (PackS.opened S s).1 (M + 2)) ∨
       (∃ P q, (PackS.opened S s).2.1 = some P ∧ (PackS.opened S s).2.2 = 0 ∧ e = .returned (.tuple #[.pointer (some ⟨q, 0, none⟩), .int .i64 0]) ∧ PW E w0 w' p q (PackS.opened S s).1 P 400000 (M + 2)))

set_option maxRecDepth 100000 in
set_option maxHeartbeats 1000000 in
theorem popen_p (h : VE E w0 w p S M) (s : ByteArray) (hs : s.size ≤ 1000000) (hM : M + 2 ≤ 100000000) :
    Calls Tryd.prog 30 #[.pointer (some ⟨p, 0, none⟩), .string s] w (OpenP E w0 w p S s M) := by
  obtain ⟨K, hK, hrest⟩ := id h
  have hwf := hK.wf
  have hrd := read_c hK s (by omega)
  obtain ⟨cd, hcd⟩ : ∃ cd : Int, (if (VfsS.readS S s).isSome then 0 else 4) = cd := ⟨_, rfl⟩
  rw [hcd] at hrd
  have HRD := Lib.hid hrd
  have HCD := Lib.hid hcd
  have HV := Lib.hid h
  have HWF := Lib.hid hwf
  clear hrd hcd hK hrest h hwf
  have hmm := fun (t : TypeId) (w : World) => run_makeMap (P := Tryd.prog) t w
  go_enter Tryd.func30, Tryd.ntmps30
  go_upto_region 2 with (go_at_call 34; refine HRD.out.mono ?_; rintro e w1 ⟨v, rfl, ho, hn, hb⟩)
  obtain ⟨a8, c8, rfl, hle8, hmx8, hsl8⟩ := ho.form
  have ha8 : a8 = none → c8 = 0 := fun h0 => by
    rcases ho.2 with ⟨e, _⟩ | ⟨g, o, cap, cur, e, _⟩
    · injection e
    · injection e with e1 _ _
      rw [h0] at e1
      cases e1
  have HB := Lib.hid hb
  have HN := Lib.hid hn
  have HO := Lib.hid ho
  clear HRD hb hn ho
  cases hr : VfsS.readS S s with
  | none =>
    obtain rfl : (4 : Int) = cd := by rw [← HCD.out, hr]; rfl
    have ho : PackS.opened S s = (S, none, 4) := by unfold PackS.opened; rw [hr]
    go_wp2_with fail
    go_ret2
    unfold OpenP
    rw [ho]
    exact ⟨fun k hk => HB.out.block k (HV.out.lt hk), .inl ⟨rfl, rfl, ((HV.out.reads HB.out).1).mono (by omega) hM⟩⟩
  | some t =>
    obtain rfl : (0 : Int) = cd := by rw [← HCD.out, hr]; rfl
    have htz : (bl t).length ≤ 4194304 := by rw [bl_len]; exact read_size HWF.out hr
    have ho' := HO.out
    simp only [hr, Option.getD_some] at hle8 hsl8 ho' ⊢
    rw [nb_ba] at hsl8
    have hop : PackS.opened S s = if (PackS.scan (bl t)).2 < (bl t).length then
      (if (VfsS.cutS S s (PackS.scan (bl t)).2).2 ≠ 0 then ((VfsS.cutS S s (PackS.scan (bl t)).2).1, none, (VfsS.cutS S s (PackS.scan (bl t)).2).2)
       else ((VfsS.cutS S s (PackS.scan (bl t)).2).1, some ((PackS.scan (bl t)).1.foldl PackS.note (PackS.new s)), 0))
    else (S, some ((PackS.scan (bl t)).1.foldl PackS.note (PackS.new s)), 0) := by unfold PackS.opened; rw [hr, bl_len]
    rw [← bl_len] at hle8
    rw [← bl_len t]
    have hbt := bl_lt t
    generalize bl t = B at *
    have hsc := PackS.scan_frames B.length B (Nat.le_refl _) hbt
    have hsl := PackS.scan_len hbt
    have hsc8 := scan_c (c := c8) ((hsl8.below (below_made w1 (.map #[] 0) (.cells #[.pointer (some ⟨p, 0, none⟩), .string s, .map (some w1.heap.size), .slice none 0 0, .int .i64 0] 115)))) hbt (by omega) hle8 hmx8 ha8
    have H1 : Hid (PW (Kx E w.heap.size w1.heap.size) w0 ((w1.alloc (.map #[] 0)).alloc (.cells #[.pointer (some ⟨p, 0, none⟩), .string s, .map (some w1.heap.size), .slice none 0 0, .int .i64 0] 115)) p (w1.heap.size + 1) S (PackS.new s) 0 M) := PW.made (HV.out.below HB.out) s hs
    have HSC := Lib.hid hsc8
    have HOP := Lib.hid hop
    have HSL := Lib.hid hsl
    have HSF := Lib.hid hsc
    clear hsc8 hop hsl hsc HO ho' hsl8
    go_upto_region 6 with (go_at_call 38; refine HSC.out.mono ?_; rintro e w3 ⟨v3, ps, rfl, hP3, hps⟩)
    have H3 := H1.out.below hP3.b
    have HE : Hid (∀ k, E k → w3.heap[k]? = w.heap[k]?) := fun k hk => by
      have h1 := HV.out.lt hk
      have h2 := HB.out.size
      have h3 := below_made w1 (.map #[] 0) (.cells #[.pointer (some ⟨p, 0, none⟩), .string s, .map (some w1.heap.size), .slice none 0 0, .int .i64 0] 115)
      rw [hP3.b.block k (by have := h3.size; omega), h3.block k (by omega), HB.out.block k h1]
    have hnew : ((w1.alloc (.map #[] 0)).alloc (.cells #[.pointer (some ⟨p, 0, none⟩), .string s, .map (some w1.heap.size), .slice none 0 0, .int .i64 0] 115)).heap.size ≤ w3.heap.size := hP3.b.size
    generalize ((w1.alloc (.map #[] 0)).alloc (.cells #[.pointer (some ⟨p, 0, none⟩), .string s, .map (some w1.heap.size), .slice none 0 0, .int .i64 0] 115)) = w2 at *
    generalize w1.heap.size + 1 = q at *
    obtain ⟨E3, hE3⟩ : ∃ E3, Kx (Kx E w.heap.size w1.heap.size) w2.heap.size w3.heap.size = E3 := ⟨_, rfl⟩
    have HE1 : Hid (∀ k, E k → E3 k) := fun k hk => by rw [← hE3]; exact .inl (.inl hk)
    have HE2 : Hid (∀ k, w2.heap.size ≤ k → k < w3.heap.size → E3 k) := fun k h1 h2 => by rw [← hE3]; exact .inr ⟨h1, h2⟩
    rw [hE3] at H3
    have H3 := Lib.hid H3
    have HP3 := Lib.hid hP3
    have HPS := Lib.hid hps
    obtain ⟨n3, hn3⟩ : ∃ n3, (PackS.scan B).2 = n3 := ⟨_, rfl⟩
    have HOP' := HOP.out
    have HSF' := HSF.out
    have HSL' := HSL.out
    rw [hn3] at HOP' HSF' ⊢
    rw [← hps] at HOP' HSF' HSL'
    have HOP := Lib.hid HOP'
    have HSF := Lib.hid HSF'
    have HSL := Lib.hid HSL'
    clear HOP' HSF' HSL' hP3 hps hn3 hE3 HSC H1
    go_upto_if 36 with fail
    go_cut [] from 14 (fun wx => ∃ S', PackS.opened S s = (S', some ((ps.map fun q => q.2.2).foldl PackS.note (PackS.new s)), 0) ∧ PW E3 w0 wx p q S' (PackS.new s) 0 (M + 2) ∧ ∀ k, E3 k → wx.heap[k]? = w3.heap[k]?)
    case first =>
      by_cases hlt : n3 < B.length
      · have hd : decide ((n3 : Int) < (B.length : Int)) = true := decide_eq_true (by omega)
        have ho := HOP.out
        rw [if_pos hlt] at ho
        obtain ⟨⟨K, hk, hv, hdj⟩, hbd⟩ := H3.out
        have hc := cut_e hv s n3 (by omega) hM
        obtain ⟨S4, ce, hce⟩ : ∃ S4 ce, VfsS.cutS S s n3 = (S4, ce) := ⟨_, _, rfl⟩
        rw [hce] at hc ho
        have HC := Lib.hid hc
        have HO := Lib.hid ho
        have HPF := fun w4 (hv4 : VE (fun k => K k ∨ E3 k) w0 w4 p S4 (M + 2)) hs4 => PW.fs (w := w3) hk hdj hbd hv4 hs4
        have HPF := Lib.hid HPF
        clear hk hv hdj hbd hc hce ho
        go_upto_region 8 with (go_at_call 49; refine HC.out.mono ?_; rintro e w4 ⟨rfl, hv4, hs4⟩)
        obtain ⟨r1, r2⟩ := HPF.out w4 hv4 hs4
        by_cases hcd : ce = 0
        · subst hcd
          go_wp2_with fail
          go_meet
          case rel =>
            have ho := HO.out
            rw [if_neg (by simp)] at ho
            exact ⟨S4, ho, r1, r2⟩
        · have hne : (ce == 0) = false := by simpa using hcd
          have hdd : decide (ce = 0) = false := decide_eq_false hcd
          go_wp2_with fail
          go_ret2
          have ho := HO.out
          rw [if_pos hcd] at ho
          unfold OpenP
          rw [ho]
          exact ⟨fun k hk => (r2 k (HE1.out k hk)).trans (HE.out k hk), .inl ⟨rfl, rfl, r1.ve.sub HE1.out⟩⟩
      · have hd : decide ((n3 : Int) < (B.length : Int)) = false := decide_eq_false (by omega)
        go_wp2_with fail
        go_meet
        case rel =>
          have ho := HOP.out
          rw [if_neg hlt] at ho
          exact ⟨S, ho, H3.out.mono (Nat.le_refl _) (by omega) (by omega) hM, fun k _ => rfl⟩
    case rest =>
      obtain ⟨S', ho, hpw, hsm⟩ := hcut
      obtain ⟨a3, c3, rfl, -, -, hsl3⟩ := HP3.out.r.form
      have HPW := Lib.hid hpw
      have HSM := Lib.hid hsm
      have HO := Lib.hid ho
      have HS3 := Lib.hid hsl3
      have hpl : ps.length ≤ 400000 := by have := HSL.out; rw [List.length_map] at this; omega
      clear hpw hsm ho hsl3 HOP
      rename World => w4
      go_wp2_with fail
      go_loopw [46] (fun iv wx => ∃ i : Nat, i ≤ ps.length ∧ iv = .int .i64 i ∧ PW E3 w0 wx p q S' (((ps.map fun q => q.2.2).take i).foldl PackS.note (PackS.new s)) i (M + 2) ∧ ∀ k, E3 k → wx.heap[k]? = w3.heap[k]?) (fun iv _ => (ps.length - intOf iv).toNat)
      case atStart => exact ⟨0, Nat.zero_le _, rfl, by rw [List.take_zero]; exact HPW.out, HSM.out⟩
      case round =>
        obtain ⟨i, hi, rfl, hpw, hsm⟩ := hrel
        by_cases hil : i < ps.length
        · have hd : decide ((i : Int) < (ps.length : Int)) = true := decide_eq_true (by omega)
          obtain ⟨x, o, rfl, hx, hc⟩ := HS3.out.at (k := i) (by rw [prow_len]; exact hil)
          have hxE : E3 x := HE2.out x (HP3.out.new x rfl) hx
          have hci := hc i (by rw [prow_len]; exact hil)
          have hpe : (prow ps)[i]'(by rw [prow_len]; exact hil) = .slice ps[i].1 ps[i].2.2.length ps[i].2.1 := by unfold prow; rw [List.getElem_map]
          rw [hpe] at hci
          have hcw : wr.cell? ⟨x, o + i, none⟩ = some (.slice ps[i].1 ps[i].2.2.length ps[i].2.1) := by
            rw [World.cell?_of_block (a := ⟨x, o + i, none⟩) (hsm x hxE)]; exact hci
          have hq := HP3.out.q ps[i] (List.getElem_mem hil)
          have hqn := HP3.out.qn ps[i] (List.getElem_mem hil)
          have hqr : PrtOk wr ps[i] := ⟨hq.1.block fun k hk => hsm k (HE2.out k (hqn k hk) (hq.1.lt hk)), hq.2⟩
          have hlen : ps[i].2.2.length ≤ 524288 := (HSF.out.2.2.2.1 ps[i].2.2 (List.mem_map.2 ⟨_, List.getElem_mem hil, rfl⟩)).1
          obtain ⟨⟨K, hk, hv, hdj⟩, hbd⟩ := hpw
          have hnt := note_c (c := ps[i].2.1) hk hqr.sl hqr.2 (by omega) (by omega)
          have hst : ((ps.map fun q => q.2.2).take (i + 1)).foldl PackS.note (PackS.new s) = PackS.note (((ps.map fun q => q.2.2).take i).foldl PackS.note (PackS.new s)) ps[i].2.2 := by
            rw [List.take_add_one, List.foldl_append, List.getElem?_map, List.getElem?_eq_getElem hil]; rfl
          have HNT := Lib.hid hnt
          have HST := Lib.hid hst
          have HV := Lib.hid hv
          have HDJ := Lib.hid hdj
          have HBD := Lib.hid hbd
          have HSM := Lib.hid hsm
          generalize ps[i] = part at *
          obtain ⟨pa, pc, pl⟩ := part
          simp only at hcw hlen HNT HST
          clear hpe hq hqn hqr hc hci hst hnt hv hdj hbd hk hsm
          have hw1 : IntKind.i64.wrap ((i : Int) + 1) = ((i + 1 : Nat) : Int) := IntWalk.i64_in _ (by omega)
          have b0 : (0 : Int) ≤ (i : Int) := by omega
          have b1 : (i : Int) < (ps.length : Int) := by omega
          go_wp2_with (go_at_call 66; refine HNT.out.mono ?_; rintro e w5 ⟨rfl, hk5, ho5⟩)
          obtain ⟨r1, r2⟩ := PW.own HV.out HDJ.out (HBD.out.note pl) hk5 ho5
          go_roundw
          case rel => exact ⟨i + 1, by omega, by first | rfl | go_num, by rw [HST.out]; exact r1, fun k hk => (r2 k hk).trans (HSM.out k hk)⟩
          case measure => simp [intOf]; omega
        · obtain rfl : i = ps.length := by omega
          have hd : decide ((ps.length : Int) < (ps.length : Int)) = false := decide_eq_false (by omega)
          go_wp2_with fail
          go_ret2
          unfold OpenP
          rw [HO.out]
          refine ⟨fun k hk => (hsm k (HE1.out k hk)).trans (HE.out k hk), .inr ⟨_, q, rfl, rfl, rfl, ?_⟩⟩
          rw [List.take_of_length_le (by rw [List.length_map]; omega)] at hpw
          exact (hpw.mono hpl (by omega) (Nat.le_refl _) hM).sub HE1.out
end
end Go.Proofs.YtfoamcobpfflbaaDoor
