/- The law PackOrder answers true for all arguments of bulk at most 1048576: the row's statement and its card. Conditions: the row's own (laid tables as the card ties them; bulk). -/
import Derived.Deep.CutRange
import Derived.Handy
import Derived.Test.YtfoamcobpfflbaaDoorZ36
namespace Go.Proofs.YtfoamcobpfflbaaDoor
open Go Go.RowKit Go.Maps
open VfsS (St)

set_option maxRecDepth 100000 in
theorem bytes_to {w : World} {a : Option Addr} {c n m : Nat} (hm : m ≤ c) : (Instr.slice 43 (.slice a n c) none (some (.int .i64 (m : Int))) none).run Tryd.prog w = .ok (.slice a m c) w := by
  have ht : Tryd.prog.underlying 43 = some (.slice (Tryd.prog.elem 43)) := Tryd.underlying43
  have hsz : ∀ W, (sizeOf (Tryd.prog.elem 43)).run Tryd.prog W = .ok 1 W := fun W => by simp [go_sem]
  have h0 : (0 : Int) ≤ (m : Int) := by omega
  have h1 : (m : Int) ≤ (c : Int) := by omega
  rw [run_slice_h w _ _ _ _ ht _ _ h0 h1, hsz]
  cases a <;> simp [Result.andThen, sliced, Addr.add]

set_option maxRecDepth 100000 in
set_option maxHeartbeats 1000000 in
theorem lawScans_c (a : Option Addr) (c : Nat) (b : ByteArray) (w : World) (hg : Gl w) (sl : Sl w a (byteCells b)) (hl : b.size ≤ 1048576) (hc : CapOk a b.size c) :
    Calls Tryd.prog 4 #[.slice a b.size c] w fun e w' => e = .returned (.bool true) ∧ Below w.heap.size w w' := by
  rw [nb_ba] at sl
  have hbt := bl_lt b
  rw [← bl_len] at hl hc ⊢
  generalize bl b = L at *
  obtain ⟨hc1, hc2, hc3⟩ := hc
  go_enter Tryd.func4, Tryd.ntmps4
  go_upto_region 3 with (go_at_call 13; refine (awake15_c _ hg).mono ?_; rintro e w0 ⟨rfl, hb0⟩)
  have HB0 := Lib.hid hb0
  have hs0 := sl.below hb0
  clear hb0 sl
  go_upto_if 12 with fail
  go_cut [0] from 8 (fun v0 wx => ∃ B : List Nat, v0 = .slice a B.length c ∧ Sl w0 a (nb B) ∧ (∀ x ∈ B, x < 256) ∧ B.length ≤ 1500 ∧ B.length ≤ c ∧ wx = w0)
  case first =>
    by_cases hbig : 1500 < L.length
    · have hd : decide ((L.length : Int) > 1500) = true := decide_eq_true (by omega)
      have hd' : decide ((1500 : Int) < (L.length : Int)) = true := decide_eq_true (by omega)
      have hto : ∀ W, (Instr.slice 43 (.slice a L.length c) none (some (.int .i64 1500)) none).run Tryd.prog W = .ok (.slice a 1500 c) W := fun W => bytes_to (m := 1500) (by omega)
      go_wp2_with fail
      go_meet
      case rel =>
        have hl15 : (L.take 1500).length = 1500 := by rw [List.length_take]; omega
        refine ⟨L.take 1500, by rw [hl15], ?_, fun x hx => hbt x (List.mem_of_mem_take hx), by omega, by omega, rfl⟩
        have := hs0.take 1500
        rwa [show (nb L).take 1500 = nb (L.take 1500) by unfold nb; rw [List.map_take]] at this
    · have hd : decide ((L.length : Int) > 1500) = false := decide_eq_false (by omega)
      have hd' : decide ((1500 : Int) < (L.length : Int)) = false := decide_eq_false (by omega)
      go_wp2_with fail
      go_meet
      case rel => exact ⟨L, rfl, hs0, hbt, by omega, hc1, rfl⟩
  case rest =>
    obtain ⟨B, rfl, hsB, hBb, hBl, hBc, rfl⟩ := hcut
    have HSC := Lib.hid (scan_c (c := c) hsB hBb (by omega) hBc hc2 hc3)
    have HSB := Lib.hid hsB
    have HBB := Lib.hid hBb
    clear hsB hBb hs0 hbt hc1 hl
    go_upto_region 6 with (go_at_call 38; refine HSC.out.mono ?_; rintro e w3 ⟨v3, ps, rfl, hP3, hps⟩)
    have hc9 := run_str_of (P := Tryd.prog) Tryd.underlying43 Tryd.underlying5 Tryd.underlying9 (b := ofL B) (by rw [byteCells_ofL HBB.out]; exact HSB.out.below hP3.b) c
    rw [ofL_size] at hc9
    have hrs := rscan_c (w := w3) (ofL B) (by rw [ofL_size]; omega)
    rw [bl_ofL HBB.out] at hrs
    have HRS := Lib.hid hrs
    clear hrs
    go_upto_region 7 with (go_at_call 39; refine HRS.out.mono ?_; rintro e w4 ⟨v4, rfl, hR4⟩)
    obtain ⟨a3, c3, rfl, -, -, hs3⟩ := hP3.r.form
    obtain ⟨a4, c4, rfl, -, -, hs4⟩ := hR4.r.form
    have hs3 := hs3.below hR4.b
    have hq4 : ∀ q ∈ ps, PrtOk w4 q := fun q hq => (hP3.q q hq).below hR4.b
    have hbo : Hid (Below w.heap.size w w4) := (HB0.out.trans (hP3.b.mono HB0.out.size)).trans (hR4.b.mono (HB0.out.trans (hP3.b.mono HB0.out.size)).size)
    have hpl : ps.length ≤ 1500 := by have := PackS.scan_len HBB.out; rw [← hps, List.length_map] at this; omega
    rw [← hps] at hs4 ⊢
    rw [← hps] at hR4
    have hlen : (ps.map fun q => q.2.2).length = ps.length := List.length_map _
    have HLN := Lib.hid hlen
    rw [hlen]
    clear hP3 hR4 HSC HRS hc9 hlen hps
    go_wp2_with fail
    go_loopw [38] (fun iv wx => ∃ i : Nat, i ≤ ps.length ∧ iv = .int .i64 i ∧ Below w4.heap.size w4 wx) (fun iv _ => (ps.length - intOf iv).toNat)
    case atStart => exact ⟨0, Nat.zero_le _, rfl, Below.refl _ _⟩
    case round =>
      obtain ⟨i, hi, rfl, hbr⟩ := hrel
      by_cases hil : i < ps.length
      · have hd : decide ((i : Int) < (ps.length : Int)) = true := decide_eq_true (by omega)
        obtain ⟨x, o, rfl, hx, hcx⟩ := hs3.at (k := i) (by rw [prow_len]; exact hil)
        obtain ⟨y, o2, rfl, hy, hcy⟩ := hs4.at (k := i) (by unfold srow; rw [List.length_map, List.length_map]; exact hil)
        have hci := hcx i (by rw [prow_len]; exact hil)
        have hpe : (prow ps)[i]'(by rw [prow_len]; exact hil) = .slice ps[i].1 ps[i].2.2.length ps[i].2.1 := by unfold prow; rw [List.getElem_map]
        rw [hpe] at hci
        have hcj := hcy i (by unfold srow; rw [List.length_map, List.length_map]; exact hil)
        have hpj : (srow (ps.map fun q => q.2.2))[i]'(by unfold srow; rw [List.length_map, List.length_map]; exact hil) = .string (ofL ps[i].2.2) := by unfold srow; rw [List.getElem_map, List.getElem_map]
        rw [hpj] at hcj
        have hq := hq4 ps[i] (List.getElem_mem hil)
        have HQ := Lib.hid hq
        generalize ps[i] = part at *
        obtain ⟨pa, pc, pl⟩ := part
        simp only at hci hcj
        have HS12 : Hid (∀ W, Below w4.heap.size w4 W → W.cell? ⟨x, o + i, none⟩ = some (.slice pa pl.length pc) ∧ W.cell? ⟨y, o2 + i, none⟩ = some (.string (ofL pl)) ∧ (convert 43 9 (.slice pa pl.length pc)).run Tryd.prog W = .ok (.string (ofL pl)) W) := fun W hb => by
          refine ⟨(hb.cell (p := ⟨x, o + i, none⟩) hx).trans hci, (hb.cell (p := ⟨y, o2 + i, none⟩) hy).trans hcj, ?_⟩
          have := run_str_of (P := Tryd.prog) Tryd.underlying43 Tryd.underlying5 Tryd.underlying9 (b := ofL pl) (w := W) (by rw [byteCells_ofL HQ.out.2]; exact (HQ.out.below hb).sl) pc
          rwa [ofL_size] at this
        have hcmp : ((ofL pl).toList == (ofL pl).toList) = true := beq_self_eq_true _
        have HBD : Hid (Below w4.heap.size w4 wr.drew) := hbr.trans (below_dN ((Below.refl _ wr).mono hbr.size) 1)
        have hw1 : IntKind.i64.wrap ((i : Int) + 1) = ((i + 1 : Nat) : Int) := IntWalk.i64_in _ (by omega)
        have b0 : (0 : Int) ≤ (i : Int) := by omega
        have b1 : (i : Int) < (ps.length : Int) := by omega
        clear hq hci hcj hpe hpj hcx hcy hbr
        go_wp2_with fail
        go_region_held3 (fun W => W.cell? ⟨x, o + i, none⟩ = some (.slice pa pl.length pc) ∧ W.cell? ⟨y, o2 + i, none⟩ = some (.string (ofL pl)) ∧ (convert 43 9 (.slice pa pl.length pc)).run Tryd.prog W = .ok (.string (ofL pl)) W)
          (first | exact HS12.out _ HBD.out | go_keep) (first | fail)
        all_goals
          go_wp2_with fail
          go_roundw
          case rel => exact ⟨i + 1, by omega, by first | rfl | go_num, HBD.out⟩
          case measure => simp [intOf]; omega
      · have hd : decide ((i : Int) < (ps.length : Int)) = false := decide_eq_false (by omega)
        go_wp2_with fail
        go_ret
        exact ⟨rfl, hbo.out.trans (hbr.mono hbo.out.size)⟩
end Go.Proofs.YtfoamcobpfflbaaDoor
namespace Go.Proofs.YtfoamcobpfflbaaDoor
namespace PackS
open VfsS (St readS appendS cutS)

/-- No two unlike records have one sum. -/
def NoTwins (L0 : List (List Nat)) : Prop := ∀ x ∈ L0, ∀ y ∈ L0, Sha.sum x = Sha.sum y → x = y

theorem appendS_now (S : St) (nm b : ByteArray) : (appendS S nm b).1.now = S.now := by
  unfold appendS
  split
  · rfl
  · split
    · rfl
    · split
      · rfl
      · show (VfsS.stepS S).now = _
        rw [VfsS.stepS_now]

theorem used_one {S : St} {nm t : ByteArray} {i : Nat} (hn : S.now = [(nm, i)]) (ht : readS S nm = some t) : VfsS.used S = t.size := by
  unfold readS at ht
  rw [hn] at ht
  have hf : VfsS.find [(nm, i)] nm = some i := by rw [VfsS.find_cons, if_pos rfl]
  rw [hf] at ht
  injection ht with ht
  have ht : (VfsS.fl S i).text = t := ht
  unfold VfsS.used
  rw [hn]
  show (VfsS.fl S i).text.size + 0 = _
  rw [ht]; rfl

theorem frames_len_bl {t : ByteArray} {L : List (List Nat)} (h : bl t = frames L) : t.size = (frames L).length := by rw [← bl_len, h]

theorem rhas_mem {L : List (List Nat)} {d : List Nat} (h : d ∈ L) : (rhas L (Sha.sum d)).isSome = true := by
  unfold rhas
  rw [List.find?_isSome]
  exact ⟨d, h, by simp⟩

theorem Tied.used {S : St} {P : Pk} {nm : ByteArray} {L : List (List Nat)} {i : Nat} (h : Tied S P nm L) (hn : S.now = [(nm, i)]) : VfsS.used S = P.size := by
  obtain ⟨t, ht, hf⟩ := h.read
  rw [used_one hn ht, frames_len_bl hf, h.good.size]

theorem radd_now (S : St) (nm : ByteArray) (L : List (List Nat)) (d : List Nat) : (radd S nm L d).1.now = S.now := by
  unfold radd
  split
  · rfl
  · split
    · split <;> rfl
    · split
      · exact appendS_now _ _ _
      · exact appendS_now _ _ _

/-- What the law asks of one record. -/
theorem once {S : St} {P : Pk} {nm : ByteArray} {L L0 : List (List Nat)} {i : Nat} (h : Tied S P nm L) (hi : ∀ p ∈ S.now, p.2 < S.files.length) (hn : S.now = [(nm, i)]) (h0 : NoTwins L0) (hs : ∀ x ∈ L, x ∈ L0) {d : List Nat} (hd : ∀ x ∈ d, x < 256) (hm : d ∈ L0) :
    ((add P S d).2.2.2 ≠ 0 ∧ add P S d = (S, P, zid, (add P S d).2.2.2)) ∨
    ((add P S d).2.2.2 = 0 ∧ (add P S d).2.2.1 = Sha.sum d ∧ add (add P S d).2.1 (add P S d).1 d = ((add P S d).1, (add P S d).2.1, Sha.sum d, 0) ∧ get (add P S d).2.1 (add P S d).1 (Sha.sum d) = (d, 0) ∧
      VfsS.used (add P S d).1 = (add P S d).2.1.size ∧ (add P S d).1.now = [(nm, i)] ∧ ∃ L', Tied (add P S d).1 (add P S d).2.1 nm L' ∧ ∀ x ∈ L', x ∈ L0) := by
  obtain ⟨t, ht, hf⟩ := h.read
  -- behind a record that is there
  have again : ∀ {S1 : St} {P1 : Pk} {L1 : List (List Nat)}, Tied S1 P1 nm L1 → S1.now = [(nm, i)] → (∀ x ∈ L1, x ∈ L0) → ¬ 524288 < d.length → rhas L1 (Sha.sum d) = some d →
      add P1 S1 d = (S1, P1, Sha.sum d, 0) ∧ get P1 S1 (Sha.sum d) = (d, 0) := fun {S1 P1 L1} h1 _ _ hl hr => by
    obtain ⟨t1, ht1, hf1⟩ := h1.read
    have hg := h1.good.get ht1 hf1 (Sha.sum d)
    rw [hr] at hg
    refine ⟨?_, hg⟩
    unfold PackS.add
    rw [if_neg hl, h1.good.has_iff, hr, hg]
    simp
  by_cases h1 : 524288 < d.length
  · left
    unfold PackS.add
    rw [if_pos h1]
    exact ⟨by simp, rfl⟩
  · cases e : rhas L (Sha.sum d) with
    | some o =>
      right
      obtain ⟨e1, e2⟩ := rhas_sum e
      have ho : o = d := h0 o (hs o e2) d hm e1
      subst ho
      obtain ⟨a1, a2⟩ := again h hn hs h1 e
      rw [a1]
      exact ⟨rfl, rfl, a1, a2, h.used hn, hn, L, h, hs⟩
    | none =>
      have T := h.add hi hd
      have hno : ¬ PackS.has P (Sha.sum d) = true := by rw [h.good.has_iff, e]; simp
      rcases read_append (b := ofL (frame d)) ht hi with ⟨k1, k2⟩ | ⟨k1, k2⟩
      · left
        unfold PackS.add
        rw [if_neg h1, if_neg hno, h.good.name, if_pos k1, k2]
        exact ⟨k1, rfl⟩
      · right
        have hadd : PackS.add P S d = ((appendS S nm (ofL (frame d))).1, note P d, Sha.sum d, 0) := by
          unfold PackS.add
          rw [if_neg h1, if_neg hno, h.good.name, if_neg (by rw [k1]; simp)]
        have hradd : (radd S nm L d).2.1 = L ++ [d] := by
          unfold radd
          rw [if_neg h1, e]
          simp only
          rw [if_neg (by rw [k1]; simp)]
        have T1 := T.1
        rw [hradd] at T1
        rw [hadd] at T1 ⊢
        have hn1 : (appendS S nm (ofL (frame d))).1.now = [(nm, i)] := by rw [appendS_now]; exact hn
        have hs1 : ∀ x ∈ L ++ [d], x ∈ L0 := fun x hx => by
          rcases List.mem_append.1 hx with hx | hx
          · exact hs x hx
          · rw [List.mem_singleton] at hx; subst hx; exact hm
        have hr1 : rhas (L ++ [d]) (Sha.sum d) = some d := by rw [rhas_app, e]; simp
        obtain ⟨a1, a2⟩ := again T1 hn1 hs1 h1 hr1
        exact ⟨rfl, rfl, a1, a2, T1.used hn1, hn1, _, T1, hs1⟩

/-- The records behind one more. -/
def addL (L : List (List Nat)) (d : List Nat) : List (List Nat) := if (rhas L (Sha.sum d)).isSome then L else L ++ [d]
def recs (l : List (List Nat)) : List (List Nat) := l.foldl addL []
theorem recs_snoc (l : List (List Nat)) (d : List Nat) : recs (l ++ [d]) = addL (recs l) d := by unfold recs; rw [List.foldl_append]; rfl
theorem recs_sub : ∀ (l L : List (List Nat)), (l.foldl addL L).Sublist (L ++ l)
  | [], L => by rw [List.append_nil]; exact List.Sublist.refl _
  | d :: l, L => by
    rw [List.foldl_cons]
    refine (recs_sub l (addL L d)).trans ?_
    unfold addL
    split
    · exact List.Sublist.append (List.Sublist.refl _) (List.sublist_cons_self _ _)
    · rw [List.append_assoc]; exact List.Sublist.refl _
theorem recs_mem {l : List (List Nat)} {x : List Nat} (h : x ∈ recs l) : x ∈ l := by
  have := (recs_sub l []).subset h
  simpa using this
theorem recs_sublist (l : List (List Nat)) : (recs l).Sublist l := by
  have := recs_sub l []
  unfold recs
  simpa using this

/-- Each sum once: ids are the sums. -/
def IdsOk (L : List (List Nat)) : Prop := ids L = L.map Sha.sum ∧ ∀ i, i ∈ ids L ↔ (rhas L i).isSome = true
theorem IdsOk.add {L : List (List Nat)} (h : IdsOk L) (d : List Nat) : IdsOk (addL L d) := by
  obtain ⟨ih1, ih2⟩ := h
  unfold addL
  by_cases h : (rhas L (Sha.sum d)).isSome = true
  · rw [if_pos h]; exact ⟨ih1, ih2⟩
  · rw [if_neg h]
    have hid : ids (L ++ [d]) = ids L ++ [Sha.sum d] := by
      have : ids (L ++ [d]) = addId (ids L) d := by unfold ids; rw [List.foldl_append]; rfl
      rw [this, addId, if_neg (by rw [ih2]; exact h)]
    refine ⟨by rw [hid, List.map_append, ih1]; rfl, fun i => ?_⟩
    rw [hid, List.mem_append, ih2 i, rhas_app, List.mem_singleton]
    cases e2 : rhas L i with
    | some o => simp
    | none =>
      by_cases ei : Sha.sum d = i
      · simp only [if_pos ei]; simp [ei.symm]
      · simp only [if_neg ei]; simp; exact fun e => ei e.symm
theorem IdsOk.fold : ∀ (l : List (List Nat)) {L : List (List Nat)}, IdsOk L → IdsOk (l.foldl addL L)
  | [], _, h => h
  | d :: l, _, h => IdsOk.fold l (h.add d)
theorem ids_recs (l : List (List Nat)) : IdsOk (recs l) := IdsOk.fold l ⟨rfl, fun i => by simp [ids, rhas]⟩

/-- Room enough, no stop. -/
structure Roomy (S : St) (nm : ByteArray) (i : Nat) : Prop where
  now : S.now = [(nm, i)]
  room : S.room = 4194304
  lim : S.limit = -1

theorem roomy_append {S : St} {nm b : ByteArray} {i : Nat} (h : Roomy S nm i) (hu : VfsS.used S + b.size ≤ 4194304) : (appendS S nm b).2 = 0 ∧ Roomy (appendS S nm b).1 nm i := by
  unfold appendS
  have hf : VfsS.find S.now nm = some i := by rw [h.now, VfsS.find_cons, if_pos rfl]
  rw [hf]
  simp only
  rw [if_neg (by rw [h.room]; omega), if_neg (by rw [h.lim]; decide)]
  refine ⟨rfl, ⟨?_, ?_, ?_⟩⟩
  · show (VfsS.stepS S).now = _
    rw [VfsS.stepS_now]; exact h.now
  · show (VfsS.stepS S).room = _
    rw [VfsS.stepS_room]; exact h.room
  · show (VfsS.stepS S).limit = _
    unfold VfsS.stepS
    rw [if_neg (by rw [h.lim]; decide)]
    show (if 0 < S.limit then S.limit - 1 else S.limit) = -1
    rw [h.lim]; rfl

/-- One record more, in order. -/
theorem order_add {S : St} {P : Pk} {nm : ByteArray} {l L0 : List (List Nat)} {i : Nat} (h : Tied S P nm (recs l)) (hi : ∀ p ∈ S.now, p.2 < S.files.length) (hr : Roomy S nm i) (h0 : NoTwins L0) (hs : ∀ x ∈ l, x ∈ L0) (hu : VfsS.used S + 20012 ≤ 4194304) {d : List Nat} (hd : ∀ x ∈ d, x < 256) (hm : d ∈ L0) (hl : d.length ≤ 20000) :
    (add P S d).2.2.2 = 0 ∧ Tied (add P S d).1 (add P S d).2.1 nm (recs (l ++ [d])) ∧ Roomy (add P S d).1 nm i ∧ VfsS.used (add P S d).1 ≤ VfsS.used S + 20012 := by
  obtain ⟨t, ht, hf⟩ := h.read
  have T := h.add hi hd
  have hk : ¬ 524288 < d.length := by omega
  rw [recs_snoc]
  unfold addL
  cases e : rhas (recs l) (Sha.sum d) with
  | some o =>
    obtain ⟨e1, e2⟩ := rhas_sum e
    have ho : o = d := h0 o (hs o (recs_mem e2)) d hm e1
    subst ho
    have hg := h.good.get ht hf (Sha.sum o)
    rw [e] at hg
    have hadd : PackS.add P S o = (S, P, Sha.sum o, 0) := by
      unfold PackS.add
      rw [if_neg hk, h.good.has_iff, e, hg]
      simp
    rw [hadd]
    exact ⟨rfl, h, hr, by show VfsS.used S ≤ _; omega⟩
  | none =>
    have hno : ¬ PackS.has P (Sha.sum d) = true := by rw [h.good.has_iff, e]; simp
    have hfs : (ofL (frame d)).size = 12 + d.length := by rw [ofL_size, frame_len]
    obtain ⟨k1, k2⟩ := roomy_append (b := ofL (frame d)) hr (by rw [hfs]; omega)
    have hadd : PackS.add P S d = ((appendS S nm (ofL (frame d))).1, note P d, Sha.sum d, 0) := by
      unfold PackS.add
      rw [if_neg hk, if_neg hno, h.good.name, if_neg (by rw [k1]; simp)]
    have hradd : (radd S nm (recs l) d).2.1 = recs l ++ [d] := by
      unfold radd
      rw [if_neg hk, e]
      simp only
      rw [if_neg (by rw [k1]; simp)]
    have T1 := T.1
    rw [hradd] at T1
    rw [hadd] at T1 ⊢
    refine ⟨rfl, T1, k2, ?_⟩
    rw [T1.used k2.now, h.used hr.now]
    have hz : (note P d).size = P.size + (12 + d.length) := by
      unfold PackS.note
      rw [if_neg hno]
    show (note P d).size ≤ _
    rw [hz]
    omega

/-- Opened again: nothing turns. -/
theorem order_open {S : St} {P : Pk} {nm : ByteArray} {L : List (List Nat)} (h : Tied S P nm L) : opened S nm = (S, some (L.foldl note (new nm)), 0) ∧ Tied S (L.foldl note (new nm)) nm L := by
  obtain ⟨t, ht, hf⟩ := h.read
  have hs : scan (bl t) = (L, (frames L).length) := by rw [hf]; exact scan_of_frames L fun d hd => (h.len d hd).1
  have hg := Good.fold L (Good.new nm)
  rw [List.nil_append] at hg
  refine ⟨?_, ⟨hg, h.read, h.len⟩⟩
  unfold opened
  rw [ht]
  simp only [hs]
  rw [if_neg (by rw [← frames_len_bl hf]; omega)]

end PackS
end Go.Proofs.YtfoamcobpfflbaaDoor
namespace Go.Proofs.YtfoamcobpfflbaaDoor
open Go Go.RowKit Go.Maps

/-- Records that came in, row by row. -/
structure LsIn (W : World) (a : Option Addr) (c : Nat) (ps : List Prt) : Prop where
  row : Sl W a (prow ps)
  cap : ps.length ≤ c
  each : ∀ q ∈ ps, Sl W q.1 (nb q.2.2) ∧ (∀ x ∈ q.2.2, x < 256) ∧ q.2.2.length ≤ 1048576
  len : ps.length ≤ 1048576
theorem LsIn.below {W W' : World} {a : Option Addr} {c : Nat} {ps : List Prt} (h : LsIn W a c ps) (hb : Below W.heap.size W W') : LsIn W' a c ps :=
  ⟨h.row.below hb, h.cap, fun q hq => ⟨(h.each q hq).1.below hb, (h.each q hq).2⟩, h.len⟩
/-- A record's cell. -/
theorem LsIn.at {W : World} {a : Option Addr} {c : Nat} {ps : List Prt} (h : LsIn W a c ps) {i : Nat} (hi : i < ps.length) : ∃ b o, a = some ⟨b, o, none⟩ ∧ b < W.heap.size ∧ ∀ j (hj : j < ps.length), W.cell? ⟨b, o + j, none⟩ = some (.slice ps[j].1 ps[j].2.2.length ps[j].2.1) := by
  obtain ⟨b, o, e, hb, hc⟩ := h.row.at (k := i) (by rw [prow_len]; exact hi)
  refine ⟨b, o, e, hb, fun j hj => ?_⟩
  rw [hc j (by rw [prow_len]; exact hj)]
  unfold prow
  rw [List.getElem_map]

/-- A record's bytes lie behind its slice. -/
structure PrtIn (W : World) (a : Option Addr) (d : List Nat) : Prop where
  sl : Sl W a (nb d)

def recsIn (ps : List Prt) : List (List Nat) := ps.map fun q => q.2.2

theorem push_at {w : World} {o : Obj} {b : Nat} (h : w.heap.size = b) : (w.alloc o).heap[b]? = some o := by subst h; exact Array.getElem?_push_size
theorem at_push (w : World) (o : Obj) (b : Nat) (h : b = w.heap.size) : (w.alloc o).heap[b]? = some o := by subst h; exact Array.getElem?_push_size
/-- The sum of one record whose slice lies in a block. -/
theorem sum1_at {w : World} {b : Nat} {a : Option Addr} {c : Nat} {l : List Nat} {e : TypeId} {fr : Nat × Nat} (h : w.heap[b]? = some (.cells #[.slice a l.length c] e fr)) (hl : Sl w a (nb l)) (hb : ∀ x ∈ l, x < 256) (hn : l.length ≤ 100000000) :
    Calls Tryd.prog 43 #[.slice (some ⟨b, 0, none⟩) 1 1] w fun e w' => e = .returned (.agg (nums .u8 (Sha.sum l))) ∧ Below w.heap.size w w' := by
  have h := sum_c (w := w) (pa := some ⟨b, 0, none⟩) (pc := 1) [(a, c, l)] (.inr ⟨b, 0, rfl, (Array.getElem?_eq_some_iff.1 h).1, fun i u hu => by rw [Nat.zero_add]; simp only [World.cell?, h]; simpa using hu⟩) (fun q hq => by
    rw [List.mem_singleton] at hq; subst hq
    exact ⟨hl, hb⟩) (by simp) (by simpa using hn)
  refine h.mono ?_
  rintro e w' ⟨rfl, h2⟩
  exact ⟨by simp, h2⟩

theorem notwins_of {L : List (List Nat)} (h : ∀ i (hi : i < L.length) k (hk : k < i), Sha.sum L[i] = Sha.sum (L[k]'(by omega)) → L[i] = L[k]'(by omega)) : PackS.NoTwins L := by
  intro x hx y hy e
  obtain ⟨i, hi, rfl⟩ := List.mem_iff_getElem.1 hx
  obtain ⟨k, hk, rfl⟩ := List.mem_iff_getElem.1 hy
  rcases Nat.lt_trichotomy i k with h1 | h1 | h1
  · exact (h k hk i h1 e.symm).symm
  · subst h1; rfl
  · exact h i hi k h1 e

/-- No twins among the first pairs. -/
def NT (L : List (List Nat)) (i k : Nat) : Prop := ∀ i' (hi : i' < L.length) k' (hk : k' < i'), (i' < i ∨ i' = i ∧ k' < k) → Sha.sum L[i'] = Sha.sum (L[k']'(by omega)) → L[i'] = L[k']'(by omega)
theorem NT.zero (L : List (List Nat)) : NT L 0 0 := fun i' hi k' hk h => by omega
theorem NT.up {L : List (List Nat)} {i : Nat} (h : NT L i i) : NT L (i + 1) 0 := fun i' hi k' hk hh => h i' hi k' hk (by omega)
theorem NT.step {L : List (List Nat)} {i k : Nat} (h : NT L i k) (hi : i < L.length) (hk : k < i) (h1 : Sha.sum L[i] = Sha.sum (L[k]'(by omega)) → L[i] = L[k]'(by omega)) : NT L i (k + 1) := fun i' hi' k' hk' hh => by
  by_cases e : i' = i ∧ k' = k
  · obtain ⟨rfl, rfl⟩ := e; exact h1
  · exact h i' hi' k' hk' (by omega)
theorem NT.done {L : List (List Nat)} (h : NT L L.length 0) : PackS.NoTwins L := notwins_of fun i hi k hk => h i hi k hk (.inl hi)

set_option maxRecDepth 100000 in
set_option maxHeartbeats 2000000 in
theorem twins_c {w : World} {a : Option Addr} {c : Nat} {ps : List Prt} (h : LsIn w a c ps) :
    Calls Tryd.prog 40 #[.slice a ps.length c] w fun e w' => ∃ b, e = .returned (.bool b) ∧ (b = false → PackS.NoTwins (recsIn ps)) ∧ Below w.heap.size w w' := by
  have hl := h.len
  have hcap := h.cap
  have HH := Lib.hid h
  clear h
  go_enter Tryd.func40, Tryd.ntmps40
  go_wp2_with fail
  go_loopw [7] (fun iv wx => ∃ i : Nat, i ≤ ps.length ∧ iv = .int .i64 i ∧ Below w.heap.size w wx ∧ NT (recsIn ps) i 0) (fun iv _ => (ps.length - intOf iv).toNat)
  case atStart => exact ⟨0, Nat.zero_le _, rfl, Below.refl _ _, NT.zero _⟩
  case round =>
    obtain ⟨i, hi, rfl, hbr, hnt⟩ := hrel
    by_cases hil : i < ps.length
    · have hd : decide ((i : Int) < (ps.length : Int)) = true := decide_eq_true (by omega)
      go_wp2_with fail
      go_loopw [14] (fun kv wx => ∃ k : Nat, k ≤ i ∧ kv = .int .i64 k ∧ Below w.heap.size w wx ∧ NT (recsIn ps) i k) (fun kv _ => (i - intOf kv).toNat)
      case atStart => exact ⟨0, Nat.zero_le _, rfl, hbr, hnt⟩
      case round =>
        clear hbr hnt
        obtain ⟨k, hk, rfl, hbr, hnt⟩ := hrel
        by_cases hki : k < i
        · have hd2 : decide ((k : Int) < (i : Int)) = true := decide_eq_true (by omega)
          obtain ⟨b, o, rfl, hb, hc⟩ := HH.out.at hil
          have hci := (hbr.cell (p := ⟨b, o + i, none⟩) hb).trans (hc i hil)
          have hck := (hbr.cell (p := ⟨b, o + k, none⟩) hb).trans (hc k (by omega))
          have hei := HH.out.each ps[i] (List.getElem_mem hil)
          have hek := HH.out.each (ps[k]'(by omega)) (List.getElem_mem _)
          have hst := fun h1 => hnt.step (by unfold recsIn; rw [List.length_map]; exact hil) hki h1
          have hri : (recsIn ps)[i]'(by unfold recsIn; rw [List.length_map]; exact hil) = ps[i].2.2 := by unfold recsIn; rw [List.getElem_map]
          have hrk : (recsIn ps)[k]'(by unfold recsIn; rw [List.length_map]; omega) = (ps[k]'(by omega)).2.2 := by unfold recsIn; rw [List.getElem_map]
          rw [hri, hrk] at hst
          have HST := Lib.hid hst
          have HBR := Lib.hid hbr
          clear hst hri hrk hc
          generalize ps[i] = qi at *
          generalize ps[k]'(by omega) = qk at *
          obtain ⟨ai, ci, di⟩ := qi
          obtain ⟨ak, ck, dk⟩ := qk
          simp only at hci hck hei hek HST
          obtain ⟨hsi, hbi, hli⟩ := hei
          obtain ⟨hsk, hbk, hlk⟩ := hek
          have HCi : Hid (∀ W, Below wr.heap.size wr W → PrtIn W ai di) := fun W hW => ⟨(hsi.below hbr).below hW⟩
          have HCk : Hid (∀ W, Below wr.heap.size wr W → PrtIn W ak dk) := fun W hW => ⟨(hsk.below hbr).below hW⟩
          have HS : Hid (∀ W, Below wr.heap.size wr W → W.cell? ⟨b, o + i, none⟩ = some (.slice ai di.length ci) ∧ W.cell? ⟨b, o + k, none⟩ = some (.slice ak dk.length ck) ∧
              (convert 43 9 (.slice ai di.length ci)).run Tryd.prog W = .ok (.string (ofL di)) W ∧ (convert 43 9 (.slice ak dk.length ck)).run Tryd.prog W = .ok (.string (ofL dk)) W) := fun W hW => by
            have hbw : b < wr.heap.size := Nat.lt_of_lt_of_le hb hbr.size
            refine ⟨(hW.cell (p := ⟨b, o + i, none⟩) hbw).trans hci, (hW.cell (p := ⟨b, o + k, none⟩) hbw).trans hck, ?_, ?_⟩
            · have := run_str_of (P := Tryd.prog) Tryd.underlying43 Tryd.underlying5 Tryd.underlying9 (b := ofL di) (w := W) (by rw [byteCells_ofL hbi]; exact (HCi.out W hW).sl) ci
              rwa [ofL_size] at this
            · have := run_str_of (P := Tryd.prog) Tryd.underlying43 Tryd.underlying5 Tryd.underlying9 (b := ofL dk) (w := W) (by rw [byteCells_ofL hbk]; exact (HCk.out W hW).sl) ck
              rwa [ofL_size] at this
          have HSUMi : Hid (∀ W b, Below wr.heap.size wr W → W.heap[b]? = some (.cells #[.slice ai di.length ci] 43 (0, 0)) → Calls Tryd.prog 43 #[.slice (some ⟨b, 0, none⟩) 1 1] W fun e w' => e = .returned (.agg (nums .u8 (Sha.sum di))) ∧ Below W.heap.size W w') := fun W b hW hh => sum1_at hh (HCi.out W hW).sl hbi (by omega)
          have HSUMk : Hid (∀ W b, Below wr.heap.size wr W → W.heap[b]? = some (.cells #[.slice ak dk.length ck] 43 (0, 0)) → Calls Tryd.prog 43 #[.slice (some ⟨b, 0, none⟩) 1 1] W fun e w' => e = .returned (.agg (nums .u8 (Sha.sum dk))) ∧ Below W.heap.size W w') := fun W b hW hh => sum1_at hh (HCk.out W hW).sl hbk (by omega)
          have hz1 : ∀ o, (wr.drew.alloc o).heap.size = wr.heap.size + 1 := fun o => by simp
          have hz2 : ∀ o, wr.heap.size < (wr.drew.alloc o).heap.size := fun o => by simp
          have hz3 : ∀ o o', wr.heap.size < ((wr.drew.alloc o).alloc o').heap.size := fun o o' => by simp; omega
          have hz4 : ∀ o o', wr.heap.size + 1 < ((wr.drew.alloc o).alloc o').heap.size := fun o o' => by simp
          have HBD : Hid (Below wr.heap.size wr wr.drew) := below_dN (Below.refl _ wr) 1
          have hcmp : ((ofL di).toList == (ofL dk).toList) = decide (di = dk) := by rw [tl_eq, ofL_eq hbi hbk]
          have hw1 : IntKind.i64.wrap ((k : Int) + 1) = ((k + 1 : Nat) : Int) := IntWalk.i64_in _ (by omega)
          have b0 : (0 : Int) ≤ (k : Int) := by omega
          have b1 : (k : Int) < (ps.length : Int) := by omega
          have b2 : (0 : Int) ≤ (i : Int) := by omega
          have b3 : (i : Int) < (ps.length : Int) := by omega
          clear hci hck hsi hsk hbr hnt
          by_cases hdd : di = dk
          · rw [decide_eq_true hdd] at hcmp
            have HDD := Lib.hid hdd
            clear hdd
            have f0 := fun p => (HS.out _ (bw_below wr p)).1
            have f1 := fun p => (HS.out _ (bw_below wr p)).2.1
            have f2 := fun p => (HS.out _ (bw_below wr p)).2.2.1
            have f3 := fun p => (HS.out _ (bw_below wr p)).2.2.2
            go_wp2_with fail
            refine wp_region_bw (by kernel_rfl) (by kernel_rfl) ?_
            iterate 12 quiet_step (fail)
            iterate 13 go_big_quiet_skip
            quiet_step (fail)
            refine wpQuiet_nil ?_
            rintro Wn ⟨pn, hWn⟩
            have hbx : Below w.heap.size w Wn := HBR.out.trans ((show Below wr.heap.size wr Wn by rw [hWn]; exact bw_below _ _).mono HBR.out.size)
            clear hWn f0 f1 f2 f3
            go_wp2_with fail
            go_roundw
            case rel => exact ⟨k + 1, by omega, by first | rfl | go_num, hbx, HST.out fun _ => HDD.out⟩
            case measure => simp [intOf]; omega
          · rw [decide_eq_false hdd] at hcmp
            have heql : ∀ W, (binOp .eql 47 (.agg (nums .u8 (Sha.sum di))) (.agg (nums .u8 (Sha.sum dk)))).run Tryd.prog W = .ok (.bool (decide (Sha.sum di = Sha.sum dk))) W := fun W => id_eql (okId_sum di) (okId_sum dk) W
            obtain ⟨t, ht⟩ : ∃ t, decide (Sha.sum di = Sha.sum dk) = t := ⟨_, rfl⟩
            rw [ht] at heql
            have HT := Lib.hid ht
            have HDD := Lib.hid hdd
            clear ht hdd
            go_wp2_with fail
            go_cut [42] from 15 to 43 (fun v42 wx => v42 = .bool t ∧ Below w.heap.size w wx)
            case first =>
              go_region_held3 (fun W => W.cell? ⟨b, o + i, none⟩ = some (.slice ai di.length ci) ∧ W.cell? ⟨b, o + k, none⟩ = some (.slice ak dk.length ck) ∧
                (convert 43 9 (.slice ai di.length ci)).run Tryd.prog W = .ok (.string (ofL di)) W ∧ (convert 43 9 (.slice ak dk.length ck)).run Tryd.prog W = .ok (.string (ofL dk)) W)
                (first | exact HS.out _ (by first | exact HBD.out | exact HBD.out.alloc HBD.out.size _ | exact (HBD.out.alloc HBD.out.size _).alloc (HBD.out.alloc HBD.out.size _).size _ | exact hbz | exact hbz.alloc hbz.size _) | go_keep)
                (first
                  | (go_at_call 43; refine (HSUMi.out _ _ ?_ ?_).mono ?_; (first | exact HBD.out.alloc HBD.out.size _ | exact (HBD.out.alloc HBD.out.size _).alloc (HBD.out.alloc HBD.out.size _).size _ | exact hbz | exact hbz.alloc hbz.size _); (first | exact push_at rfl | exact push_at (hz1 _) | exact ((below_alloc _ _).block _ (hz2 _)).trans (push_at rfl) | exact (hkk _ (hz3 _ _)).trans (((below_alloc _ _).block _ (hz2 _)).trans (push_at rfl)) | exact (hkk _ (hz4 _ _)).trans (push_at (hz1 _)) | exact (hkk _ (hz3 _ _)).trans (push_at rfl)); rintro e w' ⟨rfl, hb'⟩; have hbz : Below wr.heap.size wr w' := (by first | exact (HBD.out.alloc HBD.out.size _).trans (hb'.mono (HBD.out.alloc HBD.out.size _).size) | exact ((HBD.out.alloc HBD.out.size _).alloc (HBD.out.alloc HBD.out.size _).size _).trans (hb'.mono ((HBD.out.alloc HBD.out.size _).alloc (HBD.out.alloc HBD.out.size _).size _).size) | exact hbz.trans (hb'.mono hbz.size) | exact (hbz.alloc hbz.size _).trans (hb'.mono (hbz.alloc hbz.size _).size)); have hkk := hb'.block)
                  | (go_at_call 43; refine (HSUMk.out _ _ ?_ ?_).mono ?_; (first | exact HBD.out.alloc HBD.out.size _ | exact (HBD.out.alloc HBD.out.size _).alloc (HBD.out.alloc HBD.out.size _).size _ | exact hbz | exact hbz.alloc hbz.size _); (first | exact push_at rfl | exact push_at (hz1 _) | exact ((below_alloc _ _).block _ (hz2 _)).trans (push_at rfl) | exact (hkk _ (hz3 _ _)).trans (((below_alloc _ _).block _ (hz2 _)).trans (push_at rfl)) | exact (hkk _ (hz4 _ _)).trans (push_at (hz1 _)) | exact (hkk _ (hz3 _ _)).trans (push_at rfl)); rintro e w' ⟨rfl, hb'⟩; have hbz : Below wr.heap.size wr w' := (by first | exact (HBD.out.alloc HBD.out.size _).trans (hb'.mono (HBD.out.alloc HBD.out.size _).size) | exact ((HBD.out.alloc HBD.out.size _).alloc (HBD.out.alloc HBD.out.size _).size _).trans (hb'.mono ((HBD.out.alloc HBD.out.size _).alloc (HBD.out.alloc HBD.out.size _).size _).size) | exact hbz.trans (hb'.mono hbz.size) | exact (hbz.alloc hbz.size _).trans (hb'.mono (hbz.alloc hbz.size _).size)); have hkk := hb'.block))
              all_goals
                go_wp2_with fail
                go_meet
                case rel => exact ⟨rfl, HBR.out.trans (hbz.mono HBR.out.size)⟩
            case rest =>
              obtain ⟨rfl, hbx⟩ := hcut
              cases t with
              | true =>
                go_wp2_with fail
                go_ret
                exact ⟨true, rfl, (fun h => by cases h), hbx⟩
              | false =>
                have hne : ¬ Sha.sum di = Sha.sum dk := of_decide_eq_false HT.out
                go_wp2_with fail
                go_roundw
                case rel => exact ⟨k + 1, by omega, by first | rfl | go_num, hbx, HST.out fun e => absurd e hne⟩
                case measure => simp [intOf]; omega
        · obtain rfl : k = i := by omega
          have hd2 : decide ((k : Int) < (k : Int)) = false := decide_eq_false (by omega)
          have hw1 : IntKind.i64.wrap ((k : Int) + 1) = ((k + 1 : Nat) : Int) := IntWalk.i64_in _ (by omega)
          go_wp2_with fail
          go_roundw
          case rel => exact ⟨k + 1, by omega, by first | rfl | go_num, hbr, hnt.up⟩
          case measure => simp [intOf]; omega
    · obtain rfl : i = ps.length := by omega
      have hd : decide ((ps.length : Int) < (ps.length : Int)) = false := decide_eq_false (by omega)
      go_wp2_with fail
      go_ret
      refine ⟨false, rfl, fun _ => ?_, hbr⟩
      refine NT.done ?_
      rw [show (recsIn ps).length = ps.length from List.length_map _]
      exact hnt
end Go.Proofs.YtfoamcobpfflbaaDoor
namespace Go.Proofs.YtfoamcobpfflbaaDoor
open Go Go.RowKit
open VfsS (File Chg Nm St find doL)

/-- A file system as the document holds it: four slices, three numbers. -/
def RVv (fa : Option Addr) (fn fc : Nat) (na : Option Addr) (nn nc : Nat) (sa : Option Addr) (sn sc : Nat) (aa : Option Addr) (an ac : Nat) (room steps limit : Int) : Value :=
  .agg #[.slice fa fn fc, .slice na nn nc, .slice sa sn sc, .slice aa an ac, .int .i64 room, .int .i64 steps, .int .i64 limit]

theorem rclamp_c (n : Int) (m : Nat) (w : World) : Calls Tryd.prog 69 #[.int .i64 n, .int .i64 (m : Int)] w fun e w' => e = .returned (.int .i64 (VfsS.clampN n m : Nat)) ∧ w' = w := by
  go_enter Tryd.func69, Tryd.ntmps69
  by_cases h0 : n < 0
  · have hd : decide (n < 0) = true := decide_eq_true h0
    have HC : Hid ((VfsS.clampN n m : Nat) = (0 : Int)) := by show _ = _; unfold VfsS.clampN; omega
    go_wp2_with fail
    go_ret
    exact ⟨ret_i64 HC.out, rfl⟩
  · have hd : decide (n < 0) = false := decide_eq_false h0
    by_cases h1 : n > m
    · have hd1 : decide (n > (m : Int)) = true := decide_eq_true h1
      have HC : Hid ((VfsS.clampN n m : Nat) = (m : Int)) := by show _ = _; unfold VfsS.clampN; omega
      go_wp2_with fail
      go_ret
      exact ⟨ret_i64 HC.out, rfl⟩
    · have hd1 : decide (n > (m : Int)) = false := decide_eq_false h1
      have HC : Hid ((VfsS.clampN n m : Nat) = (n : Int)) := by show _ = _; unfold VfsS.clampN; omega
      go_wp2_with fail
      go_ret
      exact ⟨ret_i64 HC.out, rfl⟩

theorem rwrong_c (n : Int) (w : World) : Calls Tryd.prog 15 #[.int .i64 n] w fun e w' => e = .returned (.int .i64 (if n < 0 ∨ 4194304 < n then 1 else 0)) ∧ w' = w := by
  go_enter Tryd.func15, Tryd.ntmps15
  by_cases h0 : n < 0
  · have hd : decide (n < 0) = true := decide_eq_true h0
    have HC : Hid ((if n < 0 ∨ 4194304 < n then (1 : Int) else 0) = 1) := if_pos (.inl h0)
    go_wp2_with fail
    go_ret
    exact ⟨by first | rfl | exact ret_i64 HC.out, rfl⟩
  · have hd : decide (n < 0) = false := decide_eq_false h0
    by_cases h1 : n > 4194304
    · have hd1 : decide (n > 4194304) = true := decide_eq_true h1
      have HC : Hid ((if n < 0 ∨ 4194304 < n then (1 : Int) else 0) = 1) := if_pos (.inr h1)
      go_wp2_with fail
      go_ret
      exact ⟨by first | rfl | exact ret_i64 HC.out, rfl⟩
    · have hd1 : decide (n > 4194304) = false := decide_eq_false h1
      have HC : Hid ((if n < 0 ∨ 4194304 < n then (1 : Int) else 0) = 0) := if_neg (fun e => e.elim h0 h1)
      go_wp2_with fail
      go_ret
      exact ⟨by first | rfl | exact ret_i64 HC.out, rfl⟩

set_option maxRecDepth 100000 in
theorem rnew_c (n : Int) (w : World) : Calls Tryd.prog 18 #[.int .i64 n] w fun e w' => e = .returned (RVv none 0 0 none 0 0 none 0 0 none 0 0 n 0 (-1)) ∧ Below w.heap.size w w' := by
  go_enter Tryd.func18, Tryd.ntmps18
  go_wp2_with fail
  go_returns
  exact ⟨rfl, (Below.refl _ w).alloc (Nat.le_refl _) _⟩

set_option maxRecDepth 100000 in
theorem rstep_c (fa : Option Addr) (fn fc : Nat) (na : Option Addr) (nn nc : Nat) (sa : Option Addr) (sn sc : Nat) (aa : Option Addr) (an ac : Nat) (room steps limit : Int) (hs : 0 ≤ steps ∧ steps ≤ 100000000) (hl : -1 ≤ limit ∧ limit ≤ 9223372036854775807) (w : World) :
    Calls Tryd.prog 60 #[RVv fa fn fc na nn nc sa sn sc aa an ac room steps limit] w fun e w' =>
      e = .returned (.tuple #[RVv fa fn fc na nn nc sa sn sc aa an ac room (if limit = 0 then steps else steps + 1) (if 0 < limit then limit - 1 else limit), .int .i64 (if limit = 0 then 190 else 0)]) ∧ Below w.heap.size w w' := by
  unfold RVv
  have hw1 : IntKind.i64.wrap (steps + 1) = steps + 1 := IntWalk.i64_in _ (by omega)
  have hw2 : IntKind.i64.wrap (limit - 1) = limit - 1 := IntWalk.i64_in _ (by omega)
  by_cases h0 : limit = 0
  · subst h0
    rw [if_pos rfl, if_pos rfl, if_neg (by decide)]
    go_enter Tryd.func60, Tryd.ntmps60
    go_wp2_with fail
    go_returns
    exact ⟨rfl, ((Below.refl _ w).alloc (Nat.le_refl _) _).alloc (by simp) _⟩
  · have hd : (limit == 0) = false := by rw [beq_eq_false_iff_ne]; exact h0
    rw [if_neg h0, if_neg h0]
    by_cases h1 : 0 < limit
    · rw [if_pos h1]
      have hd1 : decide (limit > 0) = true := decide_eq_true h1
      have hd2 : decide (0 < limit) = true := decide_eq_true h1
      clear h0
      go_enter Tryd.func60, Tryd.ntmps60
      go_wp2_with fail
      go_returns
      exact ⟨rfl, ((Below.refl _ w).alloc (Nat.le_refl _) _).alloc (by simp) _⟩
    · rw [if_neg h1]
      have hd1 : decide (limit > 0) = false := decide_eq_false h1
      have hd2 : decide (0 < limit) = false := decide_eq_false h1
      clear h0
      go_enter Tryd.func60, Tryd.ntmps60
      go_wp2_with fail
      go_returns
      exact ⟨rfl, ((Below.refl _ w).alloc (Nat.le_refl _) _).alloc (by simp) _⟩
end Go.Proofs.YtfoamcobpfflbaaDoor
namespace Go.Proofs.YtfoamcobpfflbaaDoor
open Go Go.RowKit Go.Maps
open VfsS (St)

namespace PackT
/-- Made, and the file created. -/
def C1 (r : Nat) : St := ⟨[⟨ByteArray.empty, 0⟩], [(nm, 0)], [], [⟨ByteArray.empty, nm, some 0⟩], r, 1, -1⟩
theorem t1r (r : Nat) : VfsS.createS (VfsS.newS r) nm = (C1 r, 0) := by
  rw [VfsS.createS, check_nm, if_neg (by decide)]; rfl
theorem tied1 (r : Nat) : PackS.Tied (C1 r) (PackS.new nm) nm [] :=
  ⟨PackS.Good.new nm, ⟨ByteArray.empty, rfl, rfl⟩, fun d h => by cases h⟩
end PackT

theorem slE_old {E : Nat → Prop} {w0 w : World} {a : Option Addr} {xs : List Value} (h : Sl w0 a xs) (hb : Below w0.heap.size w0 w) : SlE E w0 w a xs := by
  rcases h with h | ⟨b, o, h1, h2, h3⟩
  · exact .inl h
  · exact .inr ⟨b, o, h1, .inl h2, fun i u hu => (hb.cell (p := ⟨b, o + i, none⟩) h2).trans (h3 i u hu)⟩
theorem PW.idx {E : Nat → Prop} {w0 w : World} {p q N M : Nat} {S : St} {P : PackS.Pk} (h : PW E w0 w p q S P N M) : ∀ x ∈ S.now, x.2 < S.files.length := fun x hx => h.wf.idx x.2 (.inl ⟨x.1, hx⟩)

/-- What the loop knows. -/
structure OnU (w0 wx : World) (p q i : Nat) (L0 : List (List Nat)) : Prop where
  ex : ∃ S P L, PW (fun _ => False) w0 wx p q S P (2 * i) (3 + 4 * i) ∧ PackS.Tied S P PackT.nm L ∧ S.now = [(PackT.nm, 0)] ∧ ∀ x ∈ L, x ∈ L0

set_option maxRecDepth 100000 in
set_option maxHeartbeats 4000000 in
theorem lawOnce_c (a : Option Addr) (c : Nat) (ps : List Prt) (room : Int) (w : World) (hg : Gl w) (hin : LsIn w a c ps) :
    Calls Tryd.prog 5 #[.slice a ps.length c, .int .i64 room] w fun e w' => e = .returned (.bool true) ∧ Below w.heap.size w w' := by
  have HIN := Lib.hid hin
  have hlen := hin.len
  clear hin
  go_enter Tryd.func5, Tryd.ntmps5
  go_upto_region 3 with (go_at_call 13; refine (awake15_c _ hg).mono ?_; rintro e w0 ⟨rfl, hb0⟩)
  have hg0 := hg.below hb0 (Nat.le_refl _)
  go_wp2_with fail
  refine (new_a room w0 hg0).mono ?_
  rintro e w1 (⟨hr, rfl, rfl⟩ | ⟨hr, p, rfl, H1⟩)
  · go_wp2_with fail
    refine (rwrong_c room _).mono ?_
    rw [if_pos hr]
    rintro e w2 ⟨rfl, rfl⟩
    go_wp2_with fail
    go_ret
    exact ⟨rfl, hb0⟩
  obtain ⟨r, rfl⟩ : ∃ r : Nat, room = (r : Int) := ⟨room.toNat, by omega⟩
  rw [Int.toNat_natCast] at H1
  have HI0 := Lib.hid (HIN.out.below hb0)
  go_wp2_with fail
  refine (pcreate_p H1.toE PackT.nm (by decide) (by omega)).mono ?_
  rw [PackT.t1r]
  rintro e w2 ⟨-, h | ⟨-, q, rfl, H2⟩⟩
  · exact absurd rfl h.1
  clear H1
  have H2 : PW (fun _ => False) w0 w2 p q (PackT.C1 r) (PackS.new PackT.nm) 0 3 := H2
  have HB0 := Lib.hid hb0
  have HFIN : Hid (∀ W, Below w0.heap.size w0 W → Below w.heap.size w W) := fun W hW => HB0.out.trans (hW.mono HB0.out.size)
  clear hb0 hg0 hg
  by_cases h50 : 50 < ps.length
  · have hd : decide ((ps.length : Int) > 50) = true := decide_eq_true (by omega)
    have hd' : decide ((50 : Int) < (ps.length : Int)) = true := decide_eq_true (by omega)
    go_wp2_with fail
    go_ret
    exact ⟨rfl, HFIN.out _ H2.out⟩
  have hd : decide ((ps.length : Int) > 50) = false := decide_eq_false (by omega)
  have hd' : decide ((50 : Int) < (ps.length : Int)) = false := decide_eq_false (by omega)
  go_upto_if 46 with (go_at_call 40; refine (twins_c (HI0.out.below H2.out)).mono ?_; rintro e w3 ⟨tb, rfl, htb, hb3⟩)
  have H3 := (H2.reads hb3).1
  have HTB := Lib.hid htb
  clear H2 hb3 htb
  cases tb with
  | true =>
    go_wp2_with fail
    go_ret
    exact ⟨rfl, HFIN.out _ H3.out⟩
  | false =>
    have H0 := Lib.hid (HTB.out rfl)
    have hU : OnU w0 w3 p q 0 (recsIn ps) := ⟨_, _, _, H3, PackT.tied1 r, rfl, fun x h => by cases h⟩
    clear H3 HTB
    go_wp2_with fail
    go_loopw [51] (fun iv wx => ∃ i : Nat, i ≤ ps.length ∧ iv = .int .i64 i ∧ OnU w0 wx p q i (recsIn ps)) (fun iv _ => (ps.length - intOf iv).toNat)
    case atStart => exact ⟨0, Nat.zero_le _, rfl, hU⟩
    case round =>
      clear hU hd hd'
      obtain ⟨i, hi, rfl, S, P, L, H, T, hn, hs⟩ := hrel
      by_cases hil : i < ps.length
      · have hd : decide ((i : Int) < (ps.length : Int)) = true := decide_eq_true (by omega)
        obtain ⟨b, o, rfl, hb, hc⟩ := HI0.out.at hil
        have hci := (H.out.cell (p := ⟨b, o + i, none⟩) hb).trans (hc i hil)
        obtain ⟨hsl, hbb, hll⟩ := HI0.out.each ps[i] (List.getElem_mem hil)
        have hm : ps[i].2.2 ∈ recsIn ps := List.mem_map.2 ⟨_, List.getElem_mem hil, rfl⟩
        generalize ps[i] = part at *
        obtain ⟨da, dc, d⟩ := part
        simp only at hci hsl hbb hll hm
        have hon := PackS.once T H.idx hn H0.out hs hbb hm
        obtain ⟨S1, P1, id1, c1, hadd⟩ : ∃ S1 P1 id1 c1, PackS.add P S d = (S1, P1, id1, c1) := ⟨_, _, _, _, rfl⟩
        rw [hadd] at hon
        have HAD := Lib.hid hadd
        have HSL := Lib.hid hsl
        have HBB := Lib.hid hbb
        have HT := Lib.hid T
        have HN := Lib.hid hn
        have HS := Lib.hid hs
        have hw1 : IntKind.i64.wrap ((i : Int) + 1) = ((i + 1 : Nat) : Int) := IntWalk.i64_in _ (by omega)
        have b0 : (0 : Int) ≤ (i : Int) := by omega
        have b1 : (i : Int) < (ps.length : Int) := by omega
        clear hadd hsl hbb hc T hn hs hm
        rcases hon with ⟨hc1, he⟩ | ⟨hc1, hid1, hadd2, hget, hused, hn1, L', T', hs'⟩
        · injection he with e1 he
          injection he with e2 he
          injection he with e3 e4
          simp only at hc1 e4
          subst e1 e2 e3
          have hne : (c1 == 0) = false := by simpa using hc1
          have hdd : decide (c1 = 0) = false := decide_eq_false hc1
          have hz : ∀ W, (binOp .neq 47 (.agg (nums .u8 PackS.zid)) (.agg #[Value.int .u8 0, Value.int .u8 0, Value.int .u8 0, Value.int .u8 0, Value.int .u8 0, Value.int .u8 0, Value.int .u8 0, Value.int .u8 0, Value.int .u8 0, Value.int .u8 0, Value.int .u8 0, Value.int .u8 0, Value.int .u8 0, Value.int .u8 0, Value.int .u8 0, Value.int .u8 0, Value.int .u8 0, Value.int .u8 0, Value.int .u8 0, Value.int .u8 0, Value.int .u8 0, Value.int .u8 0, Value.int .u8 0, Value.int .u8 0, Value.int .u8 0, Value.int .u8 0, Value.int .u8 0, Value.int .u8 0, Value.int .u8 0, Value.int .u8 0, Value.int .u8 0, Value.int .u8 0])).run Tryd.prog W = .ok (.bool false) W := fun W => by
            have := id_neq okId_z okId_z W
            rw [decide_eq_true rfl] at this
            exact this
          clear e4
          go_upto_region 14 with (first
            | (go_at_call 41; refine (pids_p H).mono ?_; rintro e w4 ⟨ia, ic, rfl, -, H4, hb4⟩)
            | (go_at_call 36; refine (psize_p H4).mono ?_; rintro e w5 ⟨rfl, rfl⟩)
            | (go_at_call 21; refine (padd_p H4 (slE_old HSL.out H4.out) HBB.out (by omega) (by omega) (by omega)).mono ?_; unfold AddP; rw [HAD.out]; rintro e w6 ⟨rfl, H6, -⟩; have hI : (w6.alloc (.cells #[Value.int .u8 0, Value.int .u8 0, Value.int .u8 0, Value.int .u8 0, Value.int .u8 0, Value.int .u8 0, Value.int .u8 0, Value.int .u8 0, Value.int .u8 0, Value.int .u8 0, Value.int .u8 0, Value.int .u8 0, Value.int .u8 0, Value.int .u8 0, Value.int .u8 0, Value.int .u8 0, Value.int .u8 0, Value.int .u8 0, Value.int .u8 0, Value.int .u8 0, Value.int .u8 0, Value.int .u8 0, Value.int .u8 0, Value.int .u8 0, Value.int .u8 0, Value.int .u8 0, Value.int .u8 0, Value.int .u8 0, Value.int .u8 0, Value.int .u8 0, Value.int .u8 0, Value.int .u8 0] 47)).heap[w6.heap.size]? = some (.cells #[Value.int .u8 0, Value.int .u8 0, Value.int .u8 0, Value.int .u8 0, Value.int .u8 0, Value.int .u8 0, Value.int .u8 0, Value.int .u8 0, Value.int .u8 0, Value.int .u8 0, Value.int .u8 0, Value.int .u8 0, Value.int .u8 0, Value.int .u8 0, Value.int .u8 0, Value.int .u8 0, Value.int .u8 0, Value.int .u8 0, Value.int .u8 0, Value.int .u8 0, Value.int .u8 0, Value.int .u8 0, Value.int .u8 0, Value.int .u8 0, Value.int .u8 0, Value.int .u8 0, Value.int .u8 0, Value.int .u8 0, Value.int .u8 0, Value.int .u8 0, Value.int .u8 0, Value.int .u8 0] 47 (0, 0)) := Array.getElem?_push_size)
            | (refine wp_storeB rfl 47 _ _ rfl w6.heap.size (nums .u8 PackS.zid) rfl rfl hI (by rw [nums_size]; kernel_rfl) (by rw [nums_size]; kernel_rfl) (nums_one _ _) ?_; intro w7 h7 g7))
          have H7 := ((H6.below (below_alloc w6 (.cells #[Value.int .u8 0, Value.int .u8 0, Value.int .u8 0, Value.int .u8 0, Value.int .u8 0, Value.int .u8 0, Value.int .u8 0, Value.int .u8 0, Value.int .u8 0, Value.int .u8 0, Value.int .u8 0, Value.int .u8 0, Value.int .u8 0, Value.int .u8 0, Value.int .u8 0, Value.int .u8 0, Value.int .u8 0, Value.int .u8 0, Value.int .u8 0, Value.int .u8 0, Value.int .u8 0, Value.int .u8 0, Value.int .u8 0, Value.int .u8 0, Value.int .u8 0, Value.int .u8 0, Value.int .u8 0, Value.int .u8 0, Value.int .u8 0, Value.int .u8 0, Value.int .u8 0, Value.int .u8 0] 47))).grown g7 (.inr ⟨Nat.le_refl _, by simp⟩)).sub (E' := fun k => k = w6.heap.size) (fun k hk => .inr ⟨by omega, by simp; omega⟩)
          generalize w6.heap.size = b6 at *
          clear H4 H6 hI g7 H
          go_wp2_with (first
            | (go_at_call 41; refine (pids_p H7).mono ?_; rintro e w8 ⟨ja, jc, rfl, -, H8, hb8⟩; have h8 := (hb8.block b6 (H7.lt rfl)).trans h7)
            | (go_at_call 36; refine (psize_p H8).mono ?_; rintro e w9 ⟨rfl, rfl⟩)
            | (refine wp_loadBg rfl 47 _ rfl b6 rfl h8 _ id_under rfl (idSz _ okId_z) ?_))
          go_roundw
          case rel => exact ⟨i + 1, by omega, by first | rfl | go_num, _, _, _, (H8.sub fun _ h => h.elim).mono (by omega) (by omega) (by omega) (by omega), HT.out, HN.out, HS.out⟩
          case measure => simp [intOf]; omega
        · subst hc1 hid1
          have hx := okId_sum d
          simp only at hadd2 hget hused hn1 T'
          have HAD2 := Lib.hid hadd2
          have HGET := Lib.hid hget
          have HUS := Lib.hid hused
          have HN1 := Lib.hid hn1
          have HT1 := Lib.hid T'
          have HS1 := Lib.hid hs'
          clear hadd2 hget hused hn1 T' hs'
          generalize hxs : Sha.sum d = x at *
          clear hxs
          have hzx : ∀ W, (binOp .neq 47 (.agg (nums .u8 x)) (.agg (nums .u8 x))).run Tryd.prog W = .ok (.bool false) W := fun W => by
            have := id_neq hx hx W
            rw [decide_eq_true rfl] at this
            exact this
          go_upto_region 14 with (first
            | (go_at_call 41; refine (pids_p H).mono ?_; rintro e w4 ⟨ia, ic, rfl, -, H4, hb4⟩)
            | (go_at_call 36; refine (psize_p H4).mono ?_; rintro e w5 ⟨rfl, rfl⟩)
            | (go_at_call 21; refine (padd_p H4 (slE_old HSL.out H4.out) HBB.out (by omega) (by omega) (by omega)).mono ?_; unfold AddP; rw [HAD.out]; rintro e w6 ⟨rfl, H6, -⟩; have hI : (w6.alloc (.cells #[Value.int .u8 0, Value.int .u8 0, Value.int .u8 0, Value.int .u8 0, Value.int .u8 0, Value.int .u8 0, Value.int .u8 0, Value.int .u8 0, Value.int .u8 0, Value.int .u8 0, Value.int .u8 0, Value.int .u8 0, Value.int .u8 0, Value.int .u8 0, Value.int .u8 0, Value.int .u8 0, Value.int .u8 0, Value.int .u8 0, Value.int .u8 0, Value.int .u8 0, Value.int .u8 0, Value.int .u8 0, Value.int .u8 0, Value.int .u8 0, Value.int .u8 0, Value.int .u8 0, Value.int .u8 0, Value.int .u8 0, Value.int .u8 0, Value.int .u8 0, Value.int .u8 0, Value.int .u8 0] 47)).heap[w6.heap.size]? = some (.cells #[Value.int .u8 0, Value.int .u8 0, Value.int .u8 0, Value.int .u8 0, Value.int .u8 0, Value.int .u8 0, Value.int .u8 0, Value.int .u8 0, Value.int .u8 0, Value.int .u8 0, Value.int .u8 0, Value.int .u8 0, Value.int .u8 0, Value.int .u8 0, Value.int .u8 0, Value.int .u8 0, Value.int .u8 0, Value.int .u8 0, Value.int .u8 0, Value.int .u8 0, Value.int .u8 0, Value.int .u8 0, Value.int .u8 0, Value.int .u8 0, Value.int .u8 0, Value.int .u8 0, Value.int .u8 0, Value.int .u8 0, Value.int .u8 0, Value.int .u8 0, Value.int .u8 0, Value.int .u8 0] 47 (0, 0)) := Array.getElem?_push_size)
            | (refine wp_storeB rfl 47 _ _ rfl w6.heap.size (nums .u8 x) rfl rfl hI (by rw [nums_size, hx.1]; rfl) (by rw [nums_size, hx.1]; kernel_rfl) (nums_one _ _) ?_; intro w7 h7 g7))
          have H7 := ((H6.below (below_alloc w6 (.cells #[Value.int .u8 0, Value.int .u8 0, Value.int .u8 0, Value.int .u8 0, Value.int .u8 0, Value.int .u8 0, Value.int .u8 0, Value.int .u8 0, Value.int .u8 0, Value.int .u8 0, Value.int .u8 0, Value.int .u8 0, Value.int .u8 0, Value.int .u8 0, Value.int .u8 0, Value.int .u8 0, Value.int .u8 0, Value.int .u8 0, Value.int .u8 0, Value.int .u8 0, Value.int .u8 0, Value.int .u8 0, Value.int .u8 0, Value.int .u8 0, Value.int .u8 0, Value.int .u8 0, Value.int .u8 0, Value.int .u8 0, Value.int .u8 0, Value.int .u8 0, Value.int .u8 0, Value.int .u8 0] 47))).grown g7 (.inr ⟨Nat.le_refl _, by simp⟩)).sub (E' := fun k => k = w6.heap.size) (fun k hk => .inr ⟨by omega, by simp; omega⟩)
          generalize w6.heap.size = b6 at *
          clear H4 H6 hI g7 H
          go_upto_region 18 with (first
            | (go_at_call 41; refine (pids_p H7).mono ?_; rintro e w8 ⟨ja, jc, rfl, -, H8, hb8⟩; have h8 := (hb8.block b6 (H7.lt rfl)).trans h7)
            | (go_at_call 36; refine (psize_p H8).mono ?_; rintro e w9 ⟨rfl, rfl⟩))
          clear H7 hb8 h7
          go_upto_region 19 with (first
            | (go_at_call 21; refine (padd_p H8 (slE_old HSL.out H8.out) HBB.out (by omega) (by omega) (by omega)).mono ?_; unfold AddP; rw [HAD2.out]; rintro e w9 ⟨rfl, H9, hs9⟩; have hI : (w9.alloc (.cells #[Value.int .u8 0, Value.int .u8 0, Value.int .u8 0, Value.int .u8 0, Value.int .u8 0, Value.int .u8 0, Value.int .u8 0, Value.int .u8 0, Value.int .u8 0, Value.int .u8 0, Value.int .u8 0, Value.int .u8 0, Value.int .u8 0, Value.int .u8 0, Value.int .u8 0, Value.int .u8 0, Value.int .u8 0, Value.int .u8 0, Value.int .u8 0, Value.int .u8 0, Value.int .u8 0, Value.int .u8 0, Value.int .u8 0, Value.int .u8 0, Value.int .u8 0, Value.int .u8 0, Value.int .u8 0, Value.int .u8 0, Value.int .u8 0, Value.int .u8 0, Value.int .u8 0, Value.int .u8 0] 47)).heap[w9.heap.size]? = some (.cells #[Value.int .u8 0, Value.int .u8 0, Value.int .u8 0, Value.int .u8 0, Value.int .u8 0, Value.int .u8 0, Value.int .u8 0, Value.int .u8 0, Value.int .u8 0, Value.int .u8 0, Value.int .u8 0, Value.int .u8 0, Value.int .u8 0, Value.int .u8 0, Value.int .u8 0, Value.int .u8 0, Value.int .u8 0, Value.int .u8 0, Value.int .u8 0, Value.int .u8 0, Value.int .u8 0, Value.int .u8 0, Value.int .u8 0, Value.int .u8 0, Value.int .u8 0, Value.int .u8 0, Value.int .u8 0, Value.int .u8 0, Value.int .u8 0, Value.int .u8 0, Value.int .u8 0, Value.int .u8 0] 47 (0, 0)) := Array.getElem?_push_size)
            | (refine wp_storeB rfl 47 _ _ rfl w9.heap.size (nums .u8 x) rfl rfl hI (by rw [nums_size, hx.1]; rfl) (by rw [nums_size, hx.1]; kernel_rfl) (nums_one _ _) ?_; intro wA hA gA))
          have h69 := (hs9 b6 rfl).trans h8
          have hl69 := H9.lt (k := b6) rfl
          have h6A := (gA.block b6 (Nat.lt_of_lt_of_le hl69 (by simp)) (fun e => by injection e with e; omega)).trans (((below_alloc w9 (.cells #[Value.int .u8 0, Value.int .u8 0, Value.int .u8 0, Value.int .u8 0, Value.int .u8 0, Value.int .u8 0, Value.int .u8 0, Value.int .u8 0, Value.int .u8 0, Value.int .u8 0, Value.int .u8 0, Value.int .u8 0, Value.int .u8 0, Value.int .u8 0, Value.int .u8 0, Value.int .u8 0, Value.int .u8 0, Value.int .u8 0, Value.int .u8 0, Value.int .u8 0, Value.int .u8 0, Value.int .u8 0, Value.int .u8 0, Value.int .u8 0, Value.int .u8 0, Value.int .u8 0, Value.int .u8 0, Value.int .u8 0, Value.int .u8 0, Value.int .u8 0, Value.int .u8 0, Value.int .u8 0] 47)).block b6 hl69).trans h69)
          have HA := ((H9.below (below_alloc w9 (.cells #[Value.int .u8 0, Value.int .u8 0, Value.int .u8 0, Value.int .u8 0, Value.int .u8 0, Value.int .u8 0, Value.int .u8 0, Value.int .u8 0, Value.int .u8 0, Value.int .u8 0, Value.int .u8 0, Value.int .u8 0, Value.int .u8 0, Value.int .u8 0, Value.int .u8 0, Value.int .u8 0, Value.int .u8 0, Value.int .u8 0, Value.int .u8 0, Value.int .u8 0, Value.int .u8 0, Value.int .u8 0, Value.int .u8 0, Value.int .u8 0, Value.int .u8 0, Value.int .u8 0, Value.int .u8 0, Value.int .u8 0, Value.int .u8 0, Value.int .u8 0, Value.int .u8 0, Value.int .u8 0] 47))).grown gA (.inr ⟨Nat.le_refl _, by simp⟩)).sub (E' := fun k => k = b6 ∨ k = w9.heap.size) (fun k hk => hk.elim (fun h => .inl h) (fun h => .inr ⟨by omega, by simp; omega⟩))
          generalize w9.heap.size = b9 at *
          clear H8 H9 hI gA hs9 h8 h69 hl69
          go_upto_region 20 with (first
            | (refine wp_loadB rfl 47 _ rfl b6 rfl h6A _ id_under rfl (idSz _ hx) ?_)
            | (go_at_call 31; refine (pget_p HA hx).mono ?_; rw [HGET.out]; rintro e wB ⟨ga, gc, rfl, hnB, HB, hbB⟩))
          have h6B := (hbB.block b6 (HA.lt (.inl rfl))).trans h6A
          have h9B := (hbB.block b9 (HA.lt (.inr rfl))).trans hA
          obtain ⟨a5, c5, e5, -, -, hs5⟩ := hnB.r.form
          injection e5 with e5 _ e6
          subst e5 e6
          have hc1 := run_str_of (P := Tryd.prog) Tryd.underlying43 Tryd.underlying5 Tryd.underlying9 (b := ofL d) (by rw [byteCells_ofL HBB.out]; exact hs5) gc
          have hc2 := run_str_of (P := Tryd.prog) Tryd.underlying43 Tryd.underlying5 Tryd.underlying9 (b := ofL d) (by rw [byteCells_ofL HBB.out]; exact HSL.out.below HB.out) dc
          rw [ofL_size] at hc1 hc2
          have hcmp : ((ofL d).toList == (ofL d).toList) = true := beq_self_eq_true _
          clear HA hnB hs5 h6A hA hbB
          go_wp2_with (first
            | (refine wp_loadB rfl 47 _ rfl b9 rfl h9B _ id_under rfl (idSz _ hx) ?_)
            | (refine wp_loadB rfl 47 _ rfl b6 rfl h6B _ id_under rfl (idSz _ hx) ?_)
            | (go_at_call 41; refine (pids_p HB).mono ?_; rintro e wC ⟨ka, kc, rfl, -, HC, hbC⟩)
            | (go_at_call 36; refine (psize_p HC).mono ?_; rintro e wD ⟨rfl, rfl⟩)
            | (go_at_call 42; refine (pused_p HC).mono ?_; rw [HUS.out]; rintro e wE ⟨rfl, HE, -⟩))
          go_roundw
          case rel => exact ⟨i + 1, by omega, by first | rfl | go_num, _, _, _, (HE.sub fun _ h => h.elim).mono (by omega) (by omega) (by omega) (by omega), HT1.out, HN1.out, HS1.out⟩
          case measure => simp [intOf]; omega
      · obtain rfl : i = ps.length := by omega
        have hd : decide ((ps.length : Int) < (ps.length : Int)) = false := decide_eq_false (by omega)
        go_wp2_with fail
        go_ret
        exact ⟨rfl, HFIN.out _ H.out⟩
end Go.Proofs.YtfoamcobpfflbaaDoor
namespace Go.Proofs.YtfoamcobpfflbaaDoor
open Go Go.RowKit Go.Maps
open VfsS (St)

namespace PackS
/-- Where the next sum is looked for. -/
structure AtOk (R l : List (List Nat)) (i k : Nat) : Prop where
  sub : (R.drop i).Sublist (l.drop k)
  kl : k ≤ l.length
  last : i = 0 ∨ k < l.length
theorem AtOk.zero {R l : List (List Nat)} (h : R.Sublist l) : AtOk R l 0 0 := ⟨by simpa using h, Nat.zero_le _, .inl rfl⟩
theorem AtOk.lt {R l : List (List Nat)} {i k : Nat} (h : AtOk R l i k) (hi : i < R.length) : k < l.length := by
  have := h.sub.length_le
  rw [List.length_drop, List.length_drop] at this
  omega
theorem skip_sub {x y : List Nat} {A B : List (List Nat)} (h : (y :: A).Sublist (x :: B)) (hne : x ≠ y) : (y :: A).Sublist B := by
  cases h with
  | cons _ h => exact h
  | cons_cons _ h => exact absurd rfl hne
theorem AtOk.skip {R l : List (List Nat)} {i k : Nat} (h : AtOk R l i k) (hi : i < R.length) (hne : Sha.sum (l[k]'(h.lt hi)) ≠ Sha.sum R[i]) : AtOk R l i (k + 1) := by
  have hk := h.lt hi
  have hs := h.sub
  rw [List.drop_eq_getElem_cons hi, List.drop_eq_getElem_cons hk] at hs
  have h2 := skip_sub hs fun e => hne (by rw [e])
  have h3 := h2.length_le
  rw [List.length_cons, List.length_drop, List.length_drop] at h3
  refine ⟨?_, by omega, .inr (by omega)⟩
  rw [List.drop_eq_getElem_cons hi]; exact h2
theorem AtOk.next {R l : List (List Nat)} {i k : Nat} (h : AtOk R l i k) (hi : i < R.length) : AtOk R l (i + 1) k := by
  refine ⟨?_, h.kl, .inr (h.lt hi)⟩
  have hs := h.sub
  rw [List.drop_eq_getElem_cons hi] at hs
  exact (List.sublist_cons_self _ _).trans hs

theorem roomy1 : Roomy (PackT.C1 4194304) PackT.nm 0 := ⟨rfl, rfl, rfl⟩
theorem used1 : VfsS.used (PackT.C1 4194304) = 0 := rfl
end PackS

/-- The bytes of the file, the ids. -/
def FileOk (W : World) (R : List (List Nat)) (v : Value) : Prop := OwnG W 5 1 v (PackS.frames R).length (nb (PackS.frames R))
def IdOk (W : World) (R : List (List Nat)) (v : Value) : Prop := OwnG W 47 32 v R.length (irow (R.map Sha.sum))
theorem FileOk.below {W W' : World} {R : List (List Nat)} {v : Value} (h : FileOk W R v) (hb : Below W.heap.size W W') : FileOk W' R v := OwnG.below h hb
theorem IdOk.below {W W' : World} {R : List (List Nat)} {v : Value} (h : IdOk W R v) (hb : Below W.heap.size W W') : IdOk W' R v := OwnG.below h hb

/-- What lies behind k rounds. -/
structure ResU (W : World) (R : List (List Nat)) (b5 b6 k : Nat) (F0 F1 I0 I1 : Value) : Prop where
  h5 : W.heap[b5]? = some (.cells #[F0, F1] 80 (0, 0))
  h6 : W.heap[b6]? = some (.cells #[I0, I1] 81 (0, 0))
  f0 : 0 < k → FileOk W R F0
  f1 : 1 < k → FileOk W R F1
  i0 : 0 < k → IdOk W R I0
  i1 : 1 < k → IdOk W R I1
theorem ResU.below {W W' : World} {R : List (List Nat)} {b5 b6 k : Nat} {F0 F1 I0 I1 : Value} (h : ResU W R b5 b6 k F0 F1 I0 I1) (hb : Below W.heap.size W W') : ResU W' R b5 b6 k F0 F1 I0 I1 :=
  ⟨(hb.block b5 (Array.getElem?_eq_some_iff.1 h.h5).1).trans h.h5, (hb.block b6 (Array.getElem?_eq_some_iff.1 h.h6).1).trans h.h6, fun e => (h.f0 e).below hb, fun e => (h.f1 e).below hb, fun e => (h.i0 e).below hb, fun e => (h.i1 e).below hb⟩
theorem own_other {W W' : World} {e e' : TypeId} {size n b : Nat} {v : Value} {xs : List Value} {cs : Array Value} {fr : Nat × Nat} (h : OwnG W e size v n xs) (hb : W.heap[b]? = some (.cells cs e' fr)) (hne : e' ≠ e) (hg : W.grownBy W' (some b)) : OwnG W' e size v n xs :=
  h.kept hg (.inr fun he => by
    obtain ⟨cur, h2⟩ := h.tag he
    rw [hb] at h2
    injection h2 with h2
    injection h2 with _ h2 _
    exact hne h2)

section
variable {W W8 : World} {R : List (List Nat)} {b5 b6 k : Nat} {F0 F1 I0 I1 v v' : Value}
theorem ResU.other (h : ResU W R b5 b6 k F0 F1 I0 I1) (hne : b6 ≠ b5) : (W.setCell ⟨b5, k, none⟩ v).heap[b6]? = some (.cells #[I0, I1] 81 (0, 0)) := by
  obtain ⟨_, g⟩ := set_blk h.h5 k v
  exact (g.block b6 (Array.getElem?_eq_some_iff.1 h.h6).1 (fun e => by injection e with e; exact hne e)).trans h.h6
/-- Both results laid. -/
theorem ResU.step (h : ResU W R b5 b6 k F0 F1 I0 I1) (hne : b6 ≠ b5) (hk : k < 2) (hv : FileOk W R v) (hb : Below (W.setCell ⟨b5, k, none⟩ v).heap.size (W.setCell ⟨b5, k, none⟩ v) W8) (hv' : IdOk W8 R v') :
    ∃ F0' F1' I0' I1', ResU (W8.setCell ⟨b6, k, none⟩ v') R b5 b6 (k + 1) F0' F1' I0' I1' := by
  obtain ⟨s5, g5⟩ := set_blk h.h5 k v
  have h6 := (hb.block b6 (Array.getElem?_eq_some_iff.1 (h.other (v := v) hne)).1).trans (h.other (v := v) hne)
  have h5 := (hb.block b5 (Array.getElem?_eq_some_iff.1 s5).1).trans s5
  obtain ⟨s6, g6⟩ := set_blk h6 k v'
  have h59 := (g6.block b5 (Array.getElem?_eq_some_iff.1 h5).1 (fun e => by injection e with e; exact hne e.symm)).trans h5
  have fk : ∀ {u}, FileOk W R u → FileOk (W8.setCell ⟨b6, k, none⟩ v') R u := fun {u} hu => own_other ((own_other hu h.h5 (by decide) g5).below hb) h6 (by decide) g6
  have ik : ∀ {u}, IdOk W R u → IdOk (W8.setCell ⟨b6, k, none⟩ v') R u := fun {u} hu => own_other ((own_other hu h.h5 (by decide) g5).below hb) h6 (by decide) g6
  have iv : IdOk (W8.setCell ⟨b6, k, none⟩ v') R v' := own_other hv' h6 (by decide) g6
  rcases (by omega : k = 0 ∨ k = 1) with rfl | rfl
  · exact ⟨v, F1, v', I1, h59, s6, fun _ => fk hv, fun e => by omega, fun _ => iv, fun e => by omega⟩
  · exact ⟨F0, v, I0, v', h59, s6, fun _ => fk (h.f0 (by omega)), fun _ => fk hv, fun _ => ik (h.i0 (by omega)), fun _ => iv⟩
end
end Go.Proofs.YtfoamcobpfflbaaDoor
namespace Go.Proofs.YtfoamcobpfflbaaDoor
open Go Go.RowKit Go.Maps
open VfsS (St)

theorem add_id_ok (P : PackS.Pk) (S : St) (d : List Nat) : OkId (PackS.add P S d).2.2.1 := by
  unfold PackS.add
  split
  · exact okId_z
  · split
    · split
      · exact okId_z
      · split
        · exact okId_sum d
        · exact okId_z
    · split
      · exact okId_z
      · exact okId_sum d

section
variable {E : Nat → Prop} {w0 w : World} {p q N M : Nat} {S : St} {P : PackS.Pk}
theorem pread_p (h : PW E w0 w p q S P N M) (s : ByteArray) (hs : s.size ≤ 10000000) : Calls Tryd.prog 34 #[.pointer (some ⟨p, 0, none⟩), .string s] w fun e w' => ∃ a c, e = .returned (.tuple #[.slice a ((VfsS.readS S s).getD ByteArray.empty).size c, .int .i64 (if (VfsS.readS S s).isSome then 0 else 4)]) ∧
    OwnG w' 5 1 (.slice a ((VfsS.readS S s).getD ByteArray.empty).size c) ((VfsS.readS S s).getD ByteArray.empty).size (byteCells ((VfsS.readS S s).getD ByteArray.empty)) ∧ PW E w0 w' p q S P N M ∧ Below w.heap.size w w' := by
  obtain ⟨Kf, hv, -⟩ := h.ve
  refine (read_c hv s hs).mono ?_
  rintro e w' ⟨v, rfl, ho, -, hb⟩
  obtain ⟨a, c, rfl, -, -, -⟩ := ho.form
  exact ⟨a, c, rfl, ho, (h.reads hb).1, hb⟩
theorem PW.pk2 (h : PW E w0 w p q S P N M) : ∃ K, PK w q p P K N ∧ ∀ k, K k → w0.heap.size ≤ k ∧ k < w.heap.size := by
  obtain ⟨K, h1, h2, h3⟩ := h.ex
  obtain ⟨Kf, _, _, _, h4, _⟩ := h2
  exact ⟨K, h1, fun k hk => (h4 k (.inl hk)).2⟩
end

/-- A long array within a block loaded in a quiet walk. -/
theorem wpQuiet_loadM {P : Program} {ops : Array Oper} {C : World → Prop} {Q : Act → Prop} {a : Act} {o : Oper} {rest : List Oper} (hgd : o.guard = none) (ty : TypeId) (x : Operand) (ho : o.op = .load ty x) (b f : Nat) (hx : a.eval x = .pointer (some ⟨b, f, none⟩)) {cs : List Value}
    (hb : ∀ w, C w → w.rangeAt b f cs) (d : TypeDesc) (hu : P.underlying ty = some d) (hd : d.isRow = true) (hi : (P.info? ty).map (·.size) = some cs.length) (h : wpQuiet P ops C Q rest (a.put o.dst (.agg cs.toArray))) : wpQuiet P ops C Q (o :: rest) a := by
  unfold wpQuiet
  rw [if_pos (by simp [Region.wanted, hgd])]
  refine ⟨_, fun w hw => ?_, h⟩
  unfold Oper.quietAt
  have hl := run_loadVar_mid (P := P) w b f ty cs d (fun j v hj => hb w hw j v hj) hu hd hi
  have : (execOp a.eval o).run P w = .ok (.value (.agg cs.toArray)) w := by
    unfold execOp
    simp only [ho, hx, Instr.loadAt, Instr.sureAddr, Sem.run_bind, Sem.run_pure, Result.andThen_ok, hl]
  rw [this]
  exact ⟨rfl, rfl⟩

theorem irow_at (L : List (List Nat)) (hL : ∀ x ∈ L, x.length = 32) (i : Nat) (hi : i < L.length) (j : Nat) (hj : j < 32) : (irow L)[i * 32 + j]? = (nb L[i])[j]? :=
  flat_at nb 32 L (fun y hy => by rw [nb_len]; exact hL y hy) i hi j hj
theorem irow_len (L : List (List Nat)) (hL : ∀ x ∈ L, x.length = 32) : (irow L).length = L.length * 32 := flat_len nb 32 L (fun y hy => by rw [nb_len]; exact hL y hy)
theorem sums_len (R : List (List Nat)) : ∀ x ∈ R.map Sha.sum, x.length = 32 := fun x hx => by
  obtain ⟨d, -, rfl⟩ := List.mem_map.1 hx
  exact PackS.sum_len d
/-- An id's cells in a row of ids. -/
theorem ids_at {W : World} {a : Option Addr} {R : List (List Nat)} (h : Sl W a (irow (R.map Sha.sum))) {i : Nat} (hi : i < R.length) : ∃ b o, a = some ⟨b, o, none⟩ ∧ b < W.heap.size ∧ W.rangeAt b (o + i * 32) (nb (Sha.sum R[i])) := by
  have hlen := irow_len _ (sums_len R)
  rw [List.length_map] at hlen
  obtain ⟨b, o, e, hb, hc⟩ := h.at (k := i * 32) (by omega)
  refine ⟨b, o, e, hb, fun j u hu => ?_⟩
  have hj : j < 32 := by
    have := (List.getElem?_eq_some_iff.1 hu).1
    rw [nb_len, PackS.sum_len] at this
    exact this
  have h1 := irow_at (R.map Sha.sum) (sums_len R) i (by rw [List.length_map]; exact hi) j hj
  rw [List.getElem_map, hu] at h1
  obtain ⟨hlt, h2⟩ := List.getElem?_eq_some_iff.1 h1
  have := hc (i * 32 + j) hlt
  rw [h2] at this
  rw [Nat.add_assoc]
  exact this
theorem recsIn_get (ps : List Prt) (k : Nat) (h : k < (recsIn ps).length) : (recsIn ps)[k] = (ps[k]'(by unfold recsIn at h; rwa [List.length_map] at h)).2.2 := List.getElem_map _
theorem frames_lt {R : List (List Nat)} (h : ∀ d ∈ R, ∀ y ∈ d, y < 256) : ∀ x ∈ PackS.frames R, x < 256 := fun x hx => by
  obtain ⟨d, hd, hx⟩ := List.mem_flatMap.1 hx
  exact PackS.frame_lt (h d hd) x hx

/-- What the second loop knows. -/
structure OrU (w0 wx : World) (p q i : Nat) (l : List (List Nat)) (S : St) (P : PackS.Pk) : Prop where
  pw : PW (fun _ => False) w0 wx p q S P (400000 + i) (3 + 6 * i)
  t : PackS.Tied S P PackT.nm (PackS.recs (l.take i))
  r : PackS.Roomy S PackT.nm 0
  u : VfsS.used S ≤ i * 20012

set_option maxRecDepth 100000 in
set_option maxHeartbeats 4000000 in
theorem lawOrder_c (a : Option Addr) (c : Nat) (ps : List Prt) (oa : Option Addr) (oc : Nat) (os : List Bool) (w : World) (hg : Gl w) (hin : LsIn w a c ps) (hos : Sl w oa (os.map Value.bool)) (hol : os.length ≤ 1048576) :
    Calls Tryd.prog 6 #[.slice a ps.length c, .slice oa os.length oc] w fun e w' => e = .returned (.bool true) ∧ Below w.heap.size w w' := by
  have HIN := Lib.hid hin
  have HOS := Lib.hid hos
  have hlen := hin.len
  clear hin hos
  go_enter Tryd.func6, Tryd.ntmps6
  go_upto_region 3 with (go_at_call 13; refine (awake15_c _ hg).mono ?_; rintro e w0 ⟨rfl, hb0⟩)
  have hg0 := hg.below hb0 (Nat.le_refl _)
  have HG0 := Lib.hid hg0
  have HB0 := Lib.hid hb0
  clear hg hg0 hb0
  by_cases h40 : 40 < ps.length
  · have hd : decide ((ps.length : Int) > 40) = true := decide_eq_true (by omega)
    have hd' : decide ((40 : Int) < (ps.length : Int)) = true := decide_eq_true (by omega)
    go_wp2_with fail
    go_ret
    exact ⟨rfl, HB0.out⟩
  have hd : decide ((ps.length : Int) > 40) = false := decide_eq_false (by omega)
  have hd' : decide ((40 : Int) < (ps.length : Int)) = false := decide_eq_false (by omega)
  go_upto_if 26 with (go_at_call 40; refine (twins_c (HIN.out.below HB0.out)).mono ?_; rintro e w3 ⟨tb, rfl, htb, hb3⟩)
  have HTB := Lib.hid htb
  have HB3 : Hid (Below w.heap.size w w3) := HB0.out.trans (hb3.mono HB0.out.size)
  have HG3 : Hid (Gl w3) := HG0.out.below hb3 (Nat.le_refl _)
  clear hb3 htb hd hd'
  cases tb with
  | true =>
    go_wp2_with fail
    go_ret
    exact ⟨rfl, HB3.out⟩
  | false =>
    have H0 := Lib.hid (HTB.out rfl)
    have HI3 := Lib.hid (HIN.out.below HB3.out)
    have HO3 := Lib.hid (HOS.out.below HB3.out)
    clear HTB HIN HOS HG0 HB0
    have hU : ResU ((w3.alloc (.cells #[.slice none 0 0, .slice none 0 0] 80)).alloc (.cells #[.slice none 0 0, .slice none 0 0] 81)) (PackS.recs (recsIn ps)) w3.heap.size (w3.heap.size + 1) 0 (.slice none 0 0) (.slice none 0 0) (.slice none 0 0) (.slice none 0 0) :=
      ⟨((below_alloc (w3.alloc (.cells #[.slice none 0 0, .slice none 0 0] 80)) _).block _ (by simp)).trans Array.getElem?_push_size, push_at (by simp), (fun h => by omega), (fun h => by omega), (fun h => by omega), (fun h => by omega)⟩
    have hbU : Below w3.heap.size w3 ((w3.alloc (.cells #[.slice none 0 0, .slice none 0 0] 80)).alloc (.cells #[.slice none 0 0, .slice none 0 0] 81)) := below_made w3 _ _
    obtain ⟨R, hR⟩ : ∃ R, PackS.recs (recsIn ps) = R := ⟨_, rfl⟩
    rw [hR] at hU
    have HR := Lib.hid hR
    clear hR
    go_upto_region 8 with fail
    go_loopw [7] (fun kv wx => ∃ (k : Nat) (F0 F1 I0 I1 : Value), k ≤ 2 ∧ kv = .int .i64 k ∧ Below w3.heap.size w3 wx ∧ ResU wx R w3.heap.size (w3.heap.size + 1) k F0 F1 I0 I1) (fun kv _ => (2 - intOf kv).toNat)
    case atStart => exact ⟨0, _, _, _, _, by omega, rfl, hbU, hU⟩
    case round =>
      clear hbU hU
      obtain ⟨k, F0, F1, I0, I1, hk, rfl, hbk, hU⟩ := hrel
      rename World => wK
      have HBK := Lib.hid hbk
      have HU := Lib.hid hU
      have hgk := HG3.out.below hbk (Nat.le_refl _)
      clear hbk hU
      by_cases hk2 : k < 2
      · skip
        have hd : decide ((k : Int) < 2) = true := decide_eq_true (by omega)
        go_wp2_with fail
        refine (new_a 4194304 wK hgk).mono ?_
        rintro e w4 (⟨hr, -⟩ | ⟨-, p, rfl, H4⟩)
        · omega
        go_wp2_with fail
        refine (pcreate_p H4.toE PackT.nm (by decide) (by omega)).mono ?_
        rw [show ((4194304 : Int).toNat) = 4194304 from rfl, PackT.t1r]
        rintro e w5 ⟨-, h | ⟨-, q, rfl, H5⟩⟩
        · exact absurd rfl h.1
        have hV : OrU wK w5 p q 0 (recsIn ps) (PackT.C1 4194304) (PackS.new PackT.nm) := ⟨PW.mono H5 (by omega) (by omega) (by omega) (by omega), PackT.tied1 4194304, PackS.roomy1, Nat.le_refl _⟩
        clear H4 H5 hgk
        go_wp2_with fail
        go_loopw [46, 10] (fun iv qv wx => ∃ (i q : Nat) (S : St) (P : PackS.Pk), i ≤ ps.length ∧ iv = .int .i64 i ∧ qv = .pointer (some ⟨q, 0, none⟩) ∧ OrU wK wx p q i (recsIn ps) S P) (fun iv _ _ => (ps.length - intOf iv).toNat)
        case atStart => exact ⟨0, q, _, _, Nat.zero_le _, rfl, rfl, hV⟩
        case round =>
          clear hV
          obtain ⟨i, q, S, P, hi, rfl, rfl, hV⟩ := hrel
          by_cases hil : i < ps.length
          · have hd2 : decide ((i : Int) < (ps.length : Int)) = true := decide_eq_true (by omega)
            have hbw := hV.pw.out
            have HW : Hid (Below w3.heap.size w3 wr) := HBK.out.trans (hbw.mono HBK.out.size)
            obtain ⟨b, o, rfl, hb, hc⟩ := HI3.out.at hil
            have hci := (HW.out.cell (p := ⟨b, o + i, none⟩) hb).trans (hc i hil)
            obtain ⟨hsl, hbb, hll⟩ := HI3.out.each ps[i] (List.getElem_mem hil)
            have hm : ps[i].2.2 ∈ recsIn ps := List.mem_map.2 ⟨_, List.getElem_mem hil, rfl⟩
            have htk : (recsIn ps).take (i + 1) = (recsIn ps).take i ++ [ps[i].2.2] := by
              rw [List.take_add_one]; unfold recsIn; rw [List.getElem?_map, List.getElem?_eq_getElem hil]; rfl
            generalize ps[i] = part at *
            obtain ⟨da, dc, d⟩ := part
            simp only at hci hsl hbb hll hm htk
            by_cases hbig : 20000 < d.length
            · have hd3 : decide ((d.length : Int) > 20000) = true := decide_eq_true (by omega)
              have hd3' : decide ((20000 : Int) < (d.length : Int)) = true := decide_eq_true (by omega)
              clear hc
              go_wp2_with fail
              go_ret
              exact ⟨rfl, HB3.out.trans (HW.out.mono HB3.out.size)⟩
            have hd3 : decide ((d.length : Int) > 20000) = false := decide_eq_false (by omega)
            have hd3' : decide ((20000 : Int) < (d.length : Int)) = false := decide_eq_false (by omega)
            obtain ⟨k1, k2, k3, k4⟩ := PackS.order_add hV.t hV.pw.idx hV.r H0.out (fun x hx => List.mem_of_mem_take hx) (by have := hV.u; have : i * 20012 ≤ 40 * 20012 := Nat.mul_le_mul_right _ (by omega); omega) hbb hm (by omega)
            have hidk := add_id_ok P S d
            have hadp := padd_p (c := dc) hV.pw (slE_old (hsl.below HBK.out) hbw) hbb (by omega) (by omega) (by omega)
            unfold AddP at hadp
            obtain ⟨S1, P1, id1, c1, hadd⟩ : ∃ S1 P1 id1 c1, PackS.add P S d = (S1, P1, id1, c1) := ⟨_, _, _, _, rfl⟩
            rw [hadd] at k1 k2 k3 k4 hidk hadp
            simp only at k1 k2 k3 k4 hidk hadp
            subst k1
            rw [← htk] at k2
            have HAD := Lib.hid hadp
            have HK2 := Lib.hid k2
            have HK3 := Lib.hid k3
            have HK4 : Hid (VfsS.used S1 ≤ (i + 1) * 20012) := by
              have := hV.u
              show _ ≤ _
              rw [Nat.add_mul]; omega
            have hw1 : IntKind.i64.wrap ((i : Int) + 1) = ((i + 1 : Nat) : Int) := IntWalk.i64_in _ (by omega)
            have b0 : (0 : Int) ≤ (i : Int) := by omega
            have b1 : (i : Int) < (ps.length : Int) := by omega
            clear hadd hsl hbb hc hm htk k2 k3 k4 hbw hV
            go_upto_region 24 with (first
              | (go_at_call 21; refine HAD.out.mono ?_; rintro e w6 ⟨rfl, H6, -⟩; have hI : (w6.alloc (.cells #[Value.int .u8 0, Value.int .u8 0, Value.int .u8 0, Value.int .u8 0, Value.int .u8 0, Value.int .u8 0, Value.int .u8 0, Value.int .u8 0, Value.int .u8 0, Value.int .u8 0, Value.int .u8 0, Value.int .u8 0, Value.int .u8 0, Value.int .u8 0, Value.int .u8 0, Value.int .u8 0, Value.int .u8 0, Value.int .u8 0, Value.int .u8 0, Value.int .u8 0, Value.int .u8 0, Value.int .u8 0, Value.int .u8 0, Value.int .u8 0, Value.int .u8 0, Value.int .u8 0, Value.int .u8 0, Value.int .u8 0, Value.int .u8 0, Value.int .u8 0, Value.int .u8 0, Value.int .u8 0] 47)).heap[w6.heap.size]? = some (.cells #[Value.int .u8 0, Value.int .u8 0, Value.int .u8 0, Value.int .u8 0, Value.int .u8 0, Value.int .u8 0, Value.int .u8 0, Value.int .u8 0, Value.int .u8 0, Value.int .u8 0, Value.int .u8 0, Value.int .u8 0, Value.int .u8 0, Value.int .u8 0, Value.int .u8 0, Value.int .u8 0, Value.int .u8 0, Value.int .u8 0, Value.int .u8 0, Value.int .u8 0, Value.int .u8 0, Value.int .u8 0, Value.int .u8 0, Value.int .u8 0, Value.int .u8 0, Value.int .u8 0, Value.int .u8 0, Value.int .u8 0, Value.int .u8 0, Value.int .u8 0, Value.int .u8 0, Value.int .u8 0] 47 (0, 0)) := Array.getElem?_push_size)
              | (refine wp_storeB rfl 47 _ _ rfl w6.heap.size (nums .u8 id1) rfl rfl hI (by rw [nums_size, hidk.1]; rfl) (by rw [nums_size, hidk.1]; kernel_rfl) (nums_one _ _) ?_; intro w7 h7 g7))
            have H7 := ((H6.below (below_alloc w6 (.cells #[Value.int .u8 0, Value.int .u8 0, Value.int .u8 0, Value.int .u8 0, Value.int .u8 0, Value.int .u8 0, Value.int .u8 0, Value.int .u8 0, Value.int .u8 0, Value.int .u8 0, Value.int .u8 0, Value.int .u8 0, Value.int .u8 0, Value.int .u8 0, Value.int .u8 0, Value.int .u8 0, Value.int .u8 0, Value.int .u8 0, Value.int .u8 0, Value.int .u8 0, Value.int .u8 0, Value.int .u8 0, Value.int .u8 0, Value.int .u8 0, Value.int .u8 0, Value.int .u8 0, Value.int .u8 0, Value.int .u8 0, Value.int .u8 0, Value.int .u8 0, Value.int .u8 0, Value.int .u8 0] 47))).grown g7 (.inr ⟨Nat.le_refl _, by simp⟩)).sub (E' := fun _ => False) (fun k hk => hk.elim)
            clear H6 hI h7 g7
            have HV1 : OrU wK w7 p q (i + 1) (recsIn ps) S1 P1 := ⟨H7.mono (by omega) (by omega) (by omega) (by omega), HK2.out, HK3.out, HK4.out⟩
            have HP7 := Lib.hid H7
            clear H7
            by_cases hk1 : k = 1
            · have hdk : decide ((k : Int) = 1) = true := decide_eq_true (by omega)
              have hdk' : ((k : Int) == 1) = true := by rw [beq_iff_eq]; omega
              clear hk1
              by_cases hio : i < os.length
              · have hd4 : decide ((i : Int) < (os.length : Int)) = true := decide_eq_true (by omega)
                have b2 : (i : Int) < (os.length : Int) := by omega
                obtain ⟨ob, oo, rfl, hob, hoc⟩ := (HO3.out.below HBK.out).at (k := i) (by rw [List.length_map]; exact hio)
                have hbk7 := HV1.pw.out
                have hoi := (hbk7.cell (p := ⟨ob, oo + i, none⟩) hob).trans (hoc i (by rw [List.length_map]; exact hio))
                rw [List.getElem_map] at hoi
                generalize os[i] = ov at hoi
                clear hoc hbk7
                cases ov with
                | true =>
                  obtain ⟨ho1, ho2⟩ := PackS.order_open HV1.t
                  have hop := popen_p HP7.out.ve PackT.nm (by decide) (by omega)
                  unfold OpenP at hop
                  rw [ho1] at hop
                  have HOP := Lib.hid hop
                  have HO2 := Lib.hid ho2
                  clear hop ho1 ho2
                  go_wp2_with (go_at_call 30; refine HOP.out.mono ?_; rintro e w8 ⟨-, h | ⟨P8, q8, hP8, -, rfl, H8⟩⟩; (exact absurd h.1 (by simp)))
                  injection hP8 with hP8
                  go_roundw
                  case rel => exact ⟨i + 1, q8, S1, P8, by omega, by first | rfl | go_num, rfl, H8.mono (by omega) (by omega) (by omega) (by omega), hP8 ▸ HO2.out, HK3.out, HK4.out⟩
                  case measure => simp [intOf]; omega
                | false =>
                  go_wp2_with fail
                  go_roundw
                  case rel => exact ⟨i + 1, q, _, _, by omega, by first | rfl | go_num, rfl, HV1⟩
                  case measure => simp [intOf]; omega
              · have hd4 : decide ((i : Int) < (os.length : Int)) = false := decide_eq_false (by omega)
                go_wp2_with fail
                go_roundw
                case rel => exact ⟨i + 1, q, _, _, by omega, by first | rfl | go_num, rfl, HV1⟩
                case measure => simp [intOf]; omega
            · have hdk : decide ((k : Int) = 1) = false := decide_eq_false (by omega)
              have hdk' : ((k : Int) == 1) = false := by rw [beq_eq_false_iff_ne]; omega
              clear hk1
              go_wp2_with fail
              go_roundw
              case rel => exact ⟨i + 1, q, _, _, by omega, by first | rfl | go_num, rfl, HV1⟩
              case measure => simp [intOf]; omega
          · obtain rfl : i = ps.length := by omega
            have hd2 : decide ((ps.length : Int) < (ps.length : Int)) = false := decide_eq_false (by omega)
            have htk : (recsIn ps).take ps.length = recsIn ps := List.take_of_length_le (by unfold recsIn; rw [List.length_map]; omega)
            have hT := hV.t
            rw [htk, HR.out] at hT
            obtain ⟨t, ht, hft⟩ := hT.read
            have hord : P.order = R.map Sha.sum := by
              have h1 := hT.good.order
              rw [h1, ← HR.out]
              exact (PackS.ids_recs (recsIn ps)).1
            have hrd := pread_p hV.pw PackT.nm (by decide)
            rw [ht] at hrd
            simp only [Option.getD_some, Option.isSome_some, if_true] at hrd
            simp only [← bl_len t, hft, nb_ba] at hrd
            have HRD := Lib.hid hrd
            have HORD := Lib.hid hord
            have hbU := hV.pw.out
            have hU := HU.out.below hbU
            have HBU := Lib.hid hbU
            clear hrd hord ht hft hT htk hV hbU
            have hb50 : w3.heap.size < wK.heap.size := (Array.getElem?_eq_some_iff.1 HU.out.h5).1
            have hb60 : w3.heap.size + 1 < wK.heap.size := (Array.getElem?_eq_some_iff.1 HU.out.h6).1
            obtain ⟨Fk, hFk⟩ : ∃ Fk, (#[F0, F1] : Array Value)[k]? = some Fk := ⟨_, Array.getElem?_eq_getElem (by simpa using hk2)⟩
            obtain ⟨Ik, hIk⟩ : ∃ Ik, (#[I0, I1] : Array Value)[k]? = some Ik := ⟨_, Array.getElem?_eq_getElem (by simpa using hk2)⟩
            have hk0 : (0 : Int) ≤ (k : Int) := by omega
            have hk2' : (k : Int) < 2 := by omega
            go_upto_region 30 with (first
              | (go_at_call 34; refine HRD.out.mono ?_; rintro e w6 ⟨fa, fc, rfl, hfs, H6, hb6⟩; have hU6 := hU.below hb6; have c5 : w6.cell? ⟨w3.heap.size, k, none⟩ = some Fk := (by rw [cell_of hU6.h5]; exact hFk); have f5 : w6.frozen? ⟨w3.heap.size, k, none⟩ = false := (by simp [World.frozen?, hU6.h5])))
            have hfo : FileOk w6 R (.slice fa (PackS.frames R).length fc) := hfs
            obtain ⟨_, g5⟩ := set_blk hU6.h5 k (.slice fa (PackS.frames R).length fc)
            obtain ⟨K, hpk, hK⟩ := H6.pk2
            have hpk7 := hpk.block (w' := w6.setCell ⟨w3.heap.size, k, none⟩ (.slice fa (PackS.frames R).length fc)) fun k' hk' => g5.block k' (hK k' hk').2 (fun e => by injection e with e; have := (hK k' hk').1; omega)
            have hids := ids_c hpk7
            rw [HORD.out] at hids
            have HIDS := Lib.hid hids
            have HFO := Lib.hid hfo
            have HU6 := Lib.hid hU6
            have h76 := hU6.other (v := .slice fa (PackS.frames R).length fc) (by omega)
            have HB6 : Hid (Below w3.heap.size w3 w6) := (HBK.out.trans (HBU.out.mono HBK.out.size)).trans (hb6.mono (HBK.out.trans (HBU.out.mono HBK.out.size)).size)
            have HG5 := Lib.hid g5
            clear hids hpk7 hpk hK g5 hfo hfs hU6 c5 f5 HRD hU H6 hb6
            go_wp2_with (first
              | (go_at_call 41; refine HIDS.out.mono ?_; rintro e w8 ⟨ia, ic, rfl, hoi, hb8⟩; rw [List.length_map] at hoi ⊢; have h86 := (hb8.block _ (Array.getElem?_eq_some_iff.1 h76).1).trans h76; have c6 : w8.cell? ⟨w3.heap.size + 1, k, none⟩ = some Ik := (by rw [cell_of h86]; exact hIk); have f6 : w8.frozen? ⟨w3.heap.size + 1, k, none⟩ = false := (by simp [World.frozen?, h86])))
            have hg7 := HG5.out.size
            have hb9 : Below w3.heap.size w3 (w8.setCell ⟨w3.heap.size + 1, k, none⟩ (.slice ia R.length ic)) := by
              obtain ⟨_, g6⟩ := set_blk h86 k (.slice ia R.length ic)
              have h1 := HB6.out.grown HG5.out HB6.out.size (fun k e => by injection e with e; omega)
              have h2 := h1.trans (hb8.mono h1.size)
              exact h2.grown g6 h2.size (fun k e => by injection e with e; omega)
            obtain ⟨F0', F1', I0', I1', hU9⟩ := HU6.out.step (by omega) hk2 HFO.out hb8 hoi
            go_roundw
            case rel => exact ⟨k + 1, F0', F1', I0', I1', by omega, by first | rfl | go_num, hb9, hU9⟩
            case measure => simp [intOf]; omega
      · have hd : decide ((k : Int) < 2) = false := decide_eq_false (by omega)
        have hU := HU.out
        have hf0 := hU.f0 (by omega)
        have hf1 := hU.f1 (by omega)
        have hi0 := hU.i0 (by omega)
        have hi1 := hU.i1 (by omega)
        obtain ⟨fa0, fc0, rfl, -, -, hfs0⟩ := OwnG.form hf0
        obtain ⟨fa1, fc1, rfl, -, -, hfs1⟩ := OwnG.form hf1
        obtain ⟨ia0, ic0, rfl, -, -, his0⟩ := OwnG.form hi0
        obtain ⟨ia1, ic1, rfl, -, -, his1⟩ := OwnG.form hi1
        have c50 : wK.cell? ⟨w3.heap.size, 0, none⟩ = some (.slice fa0 (PackS.frames R).length fc0) := by rw [cell_of hU.h5]; rfl
        have c51 : wK.cell? ⟨w3.heap.size, 1, none⟩ = some (.slice fa1 (PackS.frames R).length fc1) := by rw [cell_of hU.h5]; rfl
        have c60 : wK.cell? ⟨w3.heap.size + 1, 0, none⟩ = some (.slice ia0 R.length ic0) := by rw [cell_of hU.h6]; rfl
        have c61 : wK.cell? ⟨w3.heap.size + 1, 1, none⟩ = some (.slice ia1 R.length ic1) := by rw [cell_of hU.h6]; rfl
        have hfb : ∀ x ∈ PackS.frames R, x < 256 := frames_lt fun d hd => by
          rw [← HR.out] at hd
          obtain ⟨q, hq, rfl⟩ := List.mem_map.1 (PackS.recs_mem hd)
          exact (HI3.out.each q hq).2.1
        have hAt : PackS.AtOk R (recsIn ps) 0 0 := PackS.AtOk.zero (by rw [← HR.out]; exact PackS.recs_sublist _)
        have hRl : R.length ≤ ps.length := by
          have := (PackS.recs_sublist (recsIn ps)).length_le
          rw [HR.out] at this
          unfold recsIn at this
          rwa [List.length_map] at this
        have hc0 := run_str_of (P := Tryd.prog) Tryd.underlying43 Tryd.underlying5 Tryd.underlying9 (b := ofL (PackS.frames R)) (by rw [byteCells_ofL hfb]; exact hfs0) fc0
        have hc1 := run_str_of (P := Tryd.prog) Tryd.underlying43 Tryd.underlying5 Tryd.underlying9 (b := ofL (PackS.frames R)) (by rw [byteCells_ofL hfb]; exact hfs1) fc1
        rw [ofL_size] at hc0 hc1
        have hcmp : ((ofL (PackS.frames R)).toList == (ofL (PackS.frames R)).toList) = true := beq_self_eq_true _
        have hb60 : w3.heap.size + 1 < wK.heap.size := (Array.getElem?_eq_some_iff.1 hU.h6).1
        clear hf0 hf1 hi0 hi1 hfs0 hfs1 hU HU hfb hgk
        have HC60 : Hid (∀ W, Below wK.heap.size wK W → W.cell? ⟨w3.heap.size + 1, 0, none⟩ = some (.slice ia0 R.length ic0)) := fun W hW => (hW.cell (p := ⟨w3.heap.size + 1, 0, none⟩) hb60).trans c60
        have HC61 : Hid (∀ W, Below wK.heap.size wK W → W.cell? ⟨w3.heap.size + 1, 1, none⟩ = some (.slice ia1 R.length ic1)) := fun W hW => (hW.cell (p := ⟨w3.heap.size + 1, 1, none⟩) hb60).trans c61
        have hu47 := id_under
        have hi47 : ∀ x : List Nat, (Tryd.prog.info? 47).map (·.size) = some (nb (Sha.sum x)).length := fun x => by rw [nb_len, PackS.sum_len]; kernel_rfl
        have HFIN : Hid (∀ W, Below wK.heap.size wK W → Below w.heap.size w W) := fun W hW => HB3.out.trans ((HBK.out.trans (hW.mono HBK.out.size)).mono HB3.out.size)
        go_wp2_with fail
        go_loopw [114, 16] (fun iv av wx => ∃ i k : Nat, i ≤ R.length ∧ iv = .int .i64 i ∧ av = .int .i64 k ∧ PackS.AtOk R (recsIn ps) i k ∧ Below wK.heap.size wK wx) (fun iv _ _ => (R.length - intOf iv).toNat)
        case atStart => exact ⟨0, 0, Nat.zero_le _, rfl, rfl, hAt, Below.refl _ _⟩
        case round =>
          clear hAt
          obtain ⟨i, k, hi, rfl, rfl, hAt, hbr⟩ := hrel
          rename World => wr3
          by_cases hil : i < R.length
          · have hd2 : decide ((i : Int) < (R.length : Int)) = true := decide_eq_true (by omega)
            obtain ⟨x0, o0, rfl, hx0, hr0⟩ := ids_at his0 hil
            obtain ⟨x1, o1, rfl, hx1, hr1⟩ := ids_at his1 hil
            have hi47x := hi47 R[i]
            have HS37 : Hid (∀ W, Below wK.heap.size wK W → W.cell? ⟨w3.heap.size + 1, 0, none⟩ = some (.slice (some ⟨x0, o0, none⟩) R.length ic0) ∧ W.cell? ⟨w3.heap.size + 1, 1, none⟩ = some (.slice (some ⟨x1, o1, none⟩) R.length ic1) ∧ W.rangeAt x0 (o0 + i * 32) (nb (Sha.sum R[i])) ∧ W.rangeAt x1 (o1 + i * 32) (nb (Sha.sum R[i]))) := fun W hW =>
              ⟨HC60.out W hW, HC61.out W hW, fun j u hu => (hW.cell (p := ⟨x0, o0 + i * 32 + j, none⟩) hx0).trans (hr0 j u hu), fun j u hu => (hW.cell (p := ⟨x1, o1 + i * 32 + j, none⟩) hx1).trans (hr1 j u hu)⟩
            have hzx : ∀ W, (binOp .neq 47 (.agg (nb (Sha.sum R[i])).toArray) (.agg (nb (Sha.sum R[i])).toArray)).run Tryd.prog W = .ok (.bool false) W := fun W => by
              have := id_neq (okId_sum R[i]) (okId_sum R[i]) W
              rw [decide_eq_true rfl] at this
              exact this
            have hrs : ∃ x, Sha.sum R[i] = x := ⟨_, rfl⟩
            obtain ⟨x, hx⟩ := hrs
            have hox := okId_sum R[i]
            rw [hx] at HS37 hzx hi47x hox
            have HX := Lib.hid hx
            have b0 : (0 : Int) ≤ (i : Int) := by omega
            have b1 : (i : Int) < (R.length : Int) := by omega
            have hbd3 : Below wK.heap.size wK wr3.drew := hbr.trans (below_dN ((Below.refl _ wr3).mono hbr.size) 1)
            have HBD3 := Lib.hid hbd3
            clear hx hr0 hr1 his0 his1 hbd3
            go_wp2_with fail
            go_cut [127] from 117 to 127 (fun v127 wx => v127 = .bool false ∧ Below wK.heap.size wK wx)
            case first =>
              have f0 := fun p => (HS37.out _ (hbr.trans ((bw_below wr3 p).mono hbr.size))).1
              have f1 := fun p => (HS37.out _ (hbr.trans ((bw_below wr3 p).mono hbr.size))).2.1
              refine wp_region_bw (by kernel_rfl) (by kernel_rfl) ?_
              iterate 4 quiet_step (fail)
              refine wpQuiet_loadM rfl 47 _ rfl x0 (o0 + i * 32) rfl (fun W hW => by obtain ⟨p, rfl⟩ := hW; exact (HS37.out _ (hbr.trans ((bw_below wr3 p).mono hbr.size))).2.2.1) _ id_under rfl hi47x ?_
              iterate 4 quiet_step (fail)
              refine wpQuiet_loadM rfl 47 _ rfl x1 (o1 + i * 32) rfl (fun W hW => by obtain ⟨p, rfl⟩ := hW; exact (HS37.out _ (hbr.trans ((bw_below wr3 p).mono hbr.size))).2.2.2) _ id_under rfl hi47x ?_
              quiet_step (fail)
              refine wpQuiet_nil ?_
              rintro Wn ⟨pn, hWn⟩
              have hbx : Below wK.heap.size wK Wn := hbr.trans ((show Below wr3.heap.size wr3 Wn by rw [hWn]; exact bw_below _ _).mono hbr.size)
              clear hWn f0 f1
              go_wp2_with fail
              go_meet
              case rel => exact ⟨rfl, hbx⟩
            case rest =>
              obtain ⟨rfl, hbx⟩ := hcut
              rename World => w37
              go_wp2_with fail
              go_loopw [16] (fun av wx => ∃ k : Nat, av = .int .i64 k ∧ PackS.AtOk R (recsIn ps) i k ∧ Below wK.heap.size wK wx) (fun av _ => (ps.length - intOf av).toNat)
              case atStart => exact ⟨k, rfl, hAt, hbx⟩
              case round =>
                clear hAt hbx
                obtain ⟨k, rfl, hAt, hb4⟩ := hrel
                have hkl : k < (recsIn ps).length := hAt.lt hil
                have hkp : k < ps.length := by unfold recsIn at hkl; rwa [List.length_map] at hkl
                have hd3 : decide ((k : Int) < (ps.length : Int)) = true := decide_eq_true (by omega)
                have hb3 : Below w3.heap.size w3 wr := HBK.out.trans (hb4.mono HBK.out.size)
                obtain ⟨b, o, rfl, hb, hc⟩ := HI3.out.at hkp
                have hck := (hb3.cell (p := ⟨b, o + k, none⟩) hb).trans (hc k hkp)
                obtain ⟨hsl, hbb, hll⟩ := HI3.out.each ps[k] (List.getElem_mem hkp)
                have hsl := hsl.below hb3
                have hrk : (recsIn ps)[k]'hkl = ps[k].2.2 := recsIn_get ps k hkl
                have HSK : Hid (Sha.sum ps[k].2.2 ≠ x → PackS.AtOk R (recsIn ps) i (k + 1)) := fun hne => hAt.skip hil (by rw [hrk, HX.out]; exact hne)
                have HNX : Hid (PackS.AtOk R (recsIn ps) (i + 1) k) := hAt.next hil
                generalize ps[k] = part at *
                obtain ⟨da, dc, d⟩ := part
                simp only at hck hsl hbb hll HSK
                have hbw : b < wr.heap.size := Nat.lt_of_lt_of_le hb hb3.size
                have HS : Hid (∀ W, Below wr.heap.size wr W → W.cell? ⟨b, o + k, none⟩ = some (.slice da d.length dc) ∧ W.cell? ⟨w3.heap.size + 1, 0, none⟩ = some (.slice (some ⟨x0, o0, none⟩) R.length ic0) ∧ W.rangeAt x0 (o0 + i * 32) (nb x)) := fun W hW =>
                  ⟨(hW.cell (p := ⟨b, o + k, none⟩) hbw).trans hck, (HS37.out _ (hb4.trans (hW.mono hb4.size))).1, (HS37.out _ (hb4.trans (hW.mono hb4.size))).2.2.1⟩
                have HSUM : Hid (∀ W b, Below wr.heap.size wr W → W.heap[b]? = some (.cells #[.slice da d.length dc] 43 (0, 0)) → Calls Tryd.prog 43 #[.slice (some ⟨b, 0, none⟩) 1 1] W fun e w' => e = .returned (.agg (nums .u8 (Sha.sum d))) ∧ Below W.heap.size W w') := fun W b hW hh => sum1_at hh (hsl.below hW) hbb (by omega)
                have HBD : Hid (Below wr.heap.size wr wr.drew) := below_dN (Below.refl _ wr) 1
                have hneq : ∀ W, (binOp .neq 47 (.agg (nums .u8 (Sha.sum d))) (.agg (nb x).toArray)).run Tryd.prog W = .ok (.bool (!decide (Sha.sum d = x))) W := fun W => id_neq (okId_sum d) hox W
                obtain ⟨t, ht⟩ : ∃ t, (!decide (Sha.sum d = x)) = t := ⟨_, rfl⟩
                rw [ht] at hneq
                have HT := Lib.hid ht
                have HB4 := Lib.hid hb4
                have b2 : (0 : Int) ≤ (k : Int) := by omega
                have b3 : (k : Int) < (ps.length : Int) := by omega
                have hw1 : IntKind.i64.wrap ((k : Int) + 1) = ((k + 1 : Nat) : Int) := IntWalk.i64_in _ (by omega)
                have hw2 : IntKind.i64.wrap ((i : Int) + 1) = ((i + 1 : Nat) : Int) := IntWalk.i64_in _ (by omega)
                clear ht hb4 hb3 hc hck hsl hrk hAt hkl
                go_wp2_with fail
                go_cut [145] from 128 to 145 (fun v145 wx => v145 = .bool t ∧ Below wK.heap.size wK wx)
                case first =>
                  go_region_held3 (fun W => W.cell? ⟨b, o + k, none⟩ = some (.slice da d.length dc) ∧ W.cell? ⟨w3.heap.size + 1, 0, none⟩ = some (.slice (some ⟨x0, o0, none⟩) R.length ic0) ∧ W.rangeAt x0 (o0 + i * 32) (nb x))
                    (first | exact HS.out _ HBD.out | exact HS.out _ (HBD.out.alloc HBD.out.size _) | exact HS.out _ hbz | go_keep)
                    (first
                      | (go_at_call 43; refine (HSUM.out _ _ ?_ ?_).mono ?_; (first | exact HBD.out.alloc HBD.out.size _); (first | exact push_at rfl); rintro e w' ⟨rfl, hb'⟩; have hbz : Below wr.heap.size wr w' := (HBD.out.alloc HBD.out.size _).trans (hb'.mono (HBD.out.alloc HBD.out.size _).size)))
                  all_goals
                    go_wp2_with fail
                    go_meet
                    case rel => exact ⟨rfl, HB4.out.trans (hbz.mono HB4.out.size)⟩
                case rest =>
                  obtain ⟨rfl, hbx⟩ := hcut
                  cases t with
                  | true =>
                    have hne : Sha.sum d ≠ x := by have := HT.out; simpa using this
                    go_wp2_with fail
                    go_roundw
                    case rel => exact ⟨k + 1, by first | rfl | go_num, HSK.out hne, hbx⟩
                    case measure => simp [intOf]; omega
                  | false =>
                    go_wp2_with fail
                    go_roundw
                    case rel => exact ⟨i + 1, k, by omega, by first | rfl | go_num, rfl, HNX.out, hbx⟩
                    case measure => simp [intOf]; omega
          · obtain rfl : i = R.length := by omega
            have hd2 : decide ((R.length : Int) < (R.length : Int)) = false := decide_eq_false (by omega)
            have hlast := hAt.last
            rw [show (recsIn ps).length = ps.length from List.length_map _] at hlast
            have c60' := HC60.out _ hbr
            clear his0 his1
            by_cases hkp : k < ps.length
            · have hd3 : decide ((k : Int) < (ps.length : Int)) = true := decide_eq_true (by omega)
              go_wp2_with fail
              go_ret
              exact ⟨rfl, HFIN.out _ hbr⟩
            · have hd3 : decide ((k : Int) < (ps.length : Int)) = false := decide_eq_false (by omega)
              have hR0 : R.length = 0 := by omega
              have hd4 : decide ((R.length : Int) = 0) = true := decide_eq_true (by omega)
              have hd4' : ((R.length : Int) == 0) = true := by rw [beq_iff_eq]; omega
              clear hR0 hlast
              go_wp2_with fail
              go_ret
              exact ⟨rfl, HFIN.out _ hbr⟩
end Go.Proofs.YtfoamcobpfflbaaDoor
namespace Go.Proofs.YtfoamcobpfflbaaDoor
open Go Go.ChangeShapes Go.WideShapes Go.ChangeAt Go.RowKit

set_option maxRecDepth 100000 in
theorem open_ls {H : Type} {enc : TypeId × Value → H} {W : World} {base : Nat} {v : Value} {d : DataW H} {p : List MemPlace} (hv : Value.okWide Tryd.prog W .any base 69 v) (h : DataW.Trod enc Tryd.prog W 0 (fun _ => true) true 69 v d p) (hk : Rows.uptoBulk d ≤ 1048576) :
    ∃ (a : Option Addr) (c : Nat) (ps : List Prt), v = .slice a ps.length c ∧ LsIn W a c ps := by
  obtain ⟨a0, len, cap, rfl⟩ := okWide_slice Tryd.underlying69 hv
  obtain ⟨⟨a, c, l⟩, h1, h2, h3, h4, h5, h6, h7⟩ := (opn_slice2 (P := Tryd.prog) (W := W) (enc := enc) (k := 1) Tryd.underlying69 (by kernel_rfl) (by omega) (fun y a b hab h => ⟨h.1, by have := h.2.1; omega, h.2.2⟩) (fun _ => 0) (fun _ _ _ => Nat.zero_le _)
    (opn_bytes2 (P := Tryd.prog) (W := W) (enc := enc) Tryd.underlying43 (by kernel_rfl) Tryd.underlying5)).arg h
  simp [Value.cells] at h1
  obtain ⟨rfl, rfl, rfl⟩ := h1
  refine ⟨a0, cap, l.map fun z => (z.1, z.2.1, bl z.2.2), by rw [List.length_map], ?_, by rw [List.length_map]; exact h7.1, fun q hq => ?_, by rw [List.length_map]; simp only at h4; omega⟩
  · have : prow (l.map fun z => (z.1, z.2.1, bl z.2.2)) = l.flatMap fun y => [Value.slice y.1 y.2.2.size y.2.1] := by
      unfold prow
      rw [List.map_map, List.map_eq_flatMap]
      congr 1
      funext y
      simp [bl_len]
    rw [this]; exact h2
  · obtain ⟨z, hz, rfl⟩ := List.mem_map.1 hq
    obtain ⟨k1, k2, k3⟩ := h6 z hz
    exact ⟨by rw [← nb_ba]; exact k1, bl_lt _, by rw [bl_len]; omega⟩
end Go.Proofs.YtfoamcobpfflbaaDoor
namespace Go.Proofs.YtfoamcobpfflbaaDoor.packOrder
open Go.ChangeShapes Go.WideShapes Go.ChangeAt Go.RowKit
open Go.WideMaps Go.WideElems
open Go.ChangeMaps (open_string shut_string)

theorem reads (os : Os) {H : Type} (enc : TypeId × Value → H) : ∃ places, DataW.whole enc Tryd.prog ((laidWorld os).forCall (fun _ _ => 0) ⟨#[], #[Value.slice none 0 0, .slice none 0 0], []⟩).memory Tryd.f6.params.toList Rows.packOrderSpec.vars false (#[Value.slice none 0 0, .slice none 0 0] : Array Value).toList 8 = some ([.nil, .nil], [], places) :=
  ⟨[], by kernel_rfl⟩

set_option maxRecDepth 100000 in
theorem contract (H : Type) (enc : TypeId × Value → H) (W : World) (base : Nat) (args : Array Value) (ds : List (DataW H)) (p : List MemPlace)
    (hval : ∀ (j : Nat) t v, Tryd.f6.params[j]? = some t → args[j]? = some v → Value.okWide Tryd.prog W .any base t v)
    (hA : DataW.TrodAll enc Tryd.prog W 0 (fun _ => true) true Tryd.f6.params.toList args.toList ds p) (hk : Rows.uptoSmall H ds = true) (_hL : laidMetH Tryd.prog Rows.packOrderUptoRow.laid W) (hshape : W.ShapedOpen Tryd.prog) :
    Calls Tryd.prog 6 args W fun e W' => e = .returned (.bool true) ∧ Below W.heap.size W W' := by
  rw [Tryd.params6] at hA hval
  obtain ⟨v0, vs0, d0, ds0, p0, q0, hargs0, rfl, rfl, h0, r0⟩ := trodAll_cons hA
  obtain ⟨v1, vs1, d1, ds1, p1, q1, hargs1, rfl, rfl, h1, r1⟩ := trodAll_cons r0
  obtain ⟨rfl, rfl, rfl⟩ := trodAll_nil r1
  rw [hargs1] at hargs0
  obtain rfl : args = #[v0, v1] := by cases args; simp_all
  have k0 := bulk_mem hk (d := d0) (by simp)
  obtain ⟨a0, c0, x0, rfl, l0⟩ := open_ls (hval 0 69 v0 rfl rfl) h0 k0
  have k1 := bulk_mem hk (d := d1) (by simp)
  obtain ⟨a1, c1, x1, rfl, l1, w1, sl1⟩ := open_row Tryd.prog Tryd.underlying79 (by kernel_rfl) Value.bool (fun _ => True) (fun n u y h => by obtain ⟨b, e, _⟩ := DataW.trod_bool Tryd.underlying4 h; exact ⟨b, (List.cons.inj e).1, trivial⟩) (hval 1 79 v1 rfl rfl) h1 k1
  exact lawOrder_c a0 c0 x0 a1 c1 x1 W (gl_of_shaped hshape) l0 sl1 l1

set_option maxRecDepth 100000 in
theorem lifted (os : Os) (started : os.Started) (H : Type) (enc : TypeId × Value → H) (F : Stop.Interp) :
    ReturnsInHanded {} Tryd.checked os 6 .any ((Rows.OpenSpec.upto Rows.packOrderSpec).preRow enc Tryd.prog Tryd.f6 Rows.packOrderUptoRow.domain false Rows.packOrderUptoRow.laid) (((Rows.OpenSpec.upto Rows.packOrderSpec).at F).post enc Tryd.prog Tryd.f6 false true false false) := by
  obtain ⟨places, hx⟩ := reads os enc
  refine law_lifted (laid := Rows.packOrderUptoRow.laid) started Tryd.func6 (by kernel_rfl) rfl rfl ?_ (by kernel_rfl) ?_ ?_ ?_
  · intro ds h
    match ds, h with
    | [_, _], _ => rfl
  · rw [Tryd.params6]
    intro t ht
    have ht : t ∈ [69, 79] := ht
    simp only [List.mem_cons, List.mem_nil_iff, or_false] at ht
    rcases ht with rfl | rfl <;> exact ⟨by kernel_rfl, of_decide_eq_true (by kernel_rfl)⟩
  · exact witness_row_at (enc := enc) (C := Tryd.checked) false (laidWorld os) #[Value.slice none 0 0, .slice none 0 0] rfl (by kernel_rfl) (by kernel_rfl) (by kernel_rfl)
      (OpenSpec.preRow_of_cond 8 hx (by kernel_rfl) (fun k hk => by cases hk; kernel_rfl) (by kernel_rfl) (laid_met os _))
  · exact contract H enc

theorem saidUpto : Rows.PackOrderUptoSaid :=
  OpenClaim.holds_of_cond 6 Tryd.f6 rfl rfl rfl rfl rfl rfl rfl ⟨rfl, rfl, rfl, rfl, rfl⟩ rfl rfl rfl rfl rfl (by kernel_rfl) Tryd.func6 (by kernel_rfl)
    (of_decide_eq_true (by kernel_rfl)) (by unfold Func.isWrapper; rw [if_neg (by decide +kernel)]; exact ⟨rfl, rfl⟩)
    (fun os started H enc _ F => by rw [OpenClaim.pre_eq_preRow]; exact lifted os started H enc F)

theorem plain (f : FuncId) (fn : Func) (hf : Tryd.pinned.checked.prog.funcNamed "towline/towlinelaw15.PackOrder" = some f) (hfn : Tryd.pinned.checked.prog.funcs[f]? = some fn) :
    false = Tryd.pinned.checked.prog.looks [] ∧ ∀ (j : Nat) t, fn.params[j]? = some t → Tryd.pinned.checked.prog.wantsStandIn t = false := by
  obtain rfl : f = 6 := Option.some.inj ((show Tryd.prog.funcNamed "towline/towlinelaw15.PackOrder" = some 6 by kernel_rfl).symm.trans hf) |>.symm
  obtain rfl : fn = Tryd.f6 := (Option.some.inj (Tryd.func6.symm.trans hfn)).symm
  refine ⟨by kernel_rfl, fun j t ht => ?_⟩
  rw [Tryd.params6] at ht
  have ht : t ∈ [69, 79] := by simpa using Array.mem_of_getElem? ht
  simp only [List.mem_cons, List.mem_nil_iff, or_false] at ht
  rcases ht with rfl | rfl <;> exact (show Tryd.prog.wantsStandIn _ = false by kernel_rfl)

theorem cardUpto : Rows.PackOrderUptoCardSaid :=
  Claim7.holds_tied_plain_at .later [] _ _ _ _ saidUpto (fun _ h => by cases h) (by kernel_rfl) (fun _ h => by cases h) packOrderUpto_row_tie rfl ⟨rfl, rfl⟩ (by kernel_rfl) rfl plain (by kernel_rfl)
end Go.Proofs.YtfoamcobpfflbaaDoor.packOrder
