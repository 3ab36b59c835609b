/- Texts of mine, joined: Walks: the document's Has. | Walks over the document's answer: its small functions. | The law PackOnce: its walk. -/
import Derived.Handy
import Derived.Test.YtfoamcobpfflbaaDoorZ37
namespace Go.Proofs.YtfoamcobpfflbaaDoor
open Go Go.RowKit Go.Maps

theorem rhas_drop {L : List (List Nat)} {i : Nat} (hi : i < L.length) (x : List Nat) : PackS.rhas (L.drop i) x = if Sha.sum L[i] = x then some L[i] else PackS.rhas (L.drop (i + 1)) x := by
  rw [List.drop_eq_getElem_cons hi]
  unfold PackS.rhas
  by_cases h : Sha.sum L[i] = x
  · rw [List.find?_cons_of_pos (by simpa using h), if_pos h]
  · rw [List.find?_cons_of_neg (by simpa using h), if_neg h]

set_option maxRecDepth 100000 in
set_option maxHeartbeats 1000000 in
theorem rhas_c {w : World} {a : Option Addr} {c : Nat} {L : List (List Nat)} (hr : Sl w a (srow L)) (hL : ∀ d ∈ L, d.length ≤ 524288 ∧ ∀ x ∈ d, x < 256) (hl : L.length ≤ 100000000) {x : List Nat} (hx : OkId x) :
    Calls Tryd.prog 33 #[.slice a L.length c, .agg (nums .u8 x)] w fun e w' => e = .returned (.tuple #[.string (ofL ((PackS.rhas L x).getD [])), .bool (PackS.rhas L x).isSome]) ∧ Below w.heap.size w w' := by
  go_enter Tryd.func33, Tryd.ntmps33
  go_upto_region 1 with fail
  have hbA : Below w.heap.size w (w.alloc (.cells (nums .u8 x) 47)) := (Below.refl _ w).alloc (Nat.le_refl _) _
  have hI : (w.alloc (.cells (nums .u8 x) 47)).heap[w.heap.size]? = some (.cells (nums .u8 x) 47 (0, 0)) := Array.getElem?_push_size
  have hrA := hr.below hbA
  have HBA := Lib.hid hbA
  have hblt := (Array.getElem?_eq_some_iff.1 hI).1
  generalize hbi : w.heap.size = bi at *
  generalize w.alloc (.cells (nums .u8 x) 47) = wA at *
  have hir : wA.rangeAt bi 0 (nb x) := fun i u hu => by
    simp only [World.cell?, hI, Nat.zero_add]
    unfold nums
    rw [List.getElem?_toArray]
    exact hu
  have hu47 := id_under
  have hi47 : (Tryd.prog.info? 47).map (·.size) = some (nb x).length := by rw [nb_len, hx.1]; kernel_rfl
  have HBA : Hid (Below w.heap.size w wA) := by rw [hbi]; exact HBA.out
  clear hr hbA hI hbi
  go_wp2_with fail
  go_loopw [6] (fun iv wx => ∃ i : Nat, i ≤ L.length ∧ iv = .int .i64 i ∧ Below wA.heap.size wA wx ∧ PackS.rhas L x = PackS.rhas (L.drop i) x) (fun iv _ => (L.length - intOf iv).toNat)
  case atStart => exact ⟨0, Nat.zero_le _, rfl, Below.refl _ _, rfl⟩
  case round =>
    obtain ⟨i, hi, rfl, hbr, hd⟩ := hrel
    by_cases hil : i < L.length
    · have hdd : decide ((i : Int) < (L.length : Int)) = true := decide_eq_true (by omega)
      obtain ⟨b, o, rfl, hb, hc⟩ := hrA.at (k := i) (by rw [srow_len]; exact hil)
      have hci := (hbr.cell (p := ⟨b, o + i, none⟩) hb).trans (hc i (by rw [srow_len]; exact hil))
      have hse : (srow L)[i]'(by rw [srow_len]; exact hil) = .string (ofL L[i]) := by unfold srow; rw [List.getElem_map]
      rw [hse] at hci
      obtain ⟨hdl, hdb⟩ := hL L[i] (List.getElem_mem hil)
      rw [rhas_drop hil] at hd
      generalize L[i] = d at *
      have hsum := fun W (_ : Below wr.heap.size wr W) => refsum_c (w := W) (ofL d) (by rw [ofL_size]; omega)
      rw [bl_ofL hdb] at hsum
      have HSUM := Lib.hid hsum
      have heql : ∀ W, (binOp .eql 47 (.agg (nums .u8 (Sha.sum d))) (.agg (nb x).toArray)).run Tryd.prog W = .ok (.bool (decide (Sha.sum d = x))) W := fun W => id_eql (okId_sum d) hx W
      obtain ⟨t, ht⟩ : ∃ t, decide (Sha.sum d = x) = t := ⟨_, rfl⟩
      rw [ht] at heql
      have HT := Lib.hid ht
      have HD := Lib.hid hd
      have hbw : b < wr.heap.size := Nat.lt_of_lt_of_le hb hbr.size
      have hbiw : bi < wr.heap.size := Nat.lt_of_lt_of_le hblt hbr.size
      have HS : Hid (∀ W, Below wr.heap.size wr W → W.cell? ⟨b, o + i, none⟩ = some (.string (ofL d)) ∧ W.rangeAt bi 0 (nb x)) := fun W hW =>
        ⟨(hW.cell (p := ⟨b, o + i, none⟩) hbw).trans hci, fun j u hu => (hW.cell (p := ⟨bi, 0 + j, none⟩) hbiw).trans ((hbr.cell (p := ⟨bi, 0 + j, none⟩) hblt).trans (hir j u hu))⟩
      have HBD : Hid (Below wr.heap.size wr wr.drew) := below_dN (Below.refl _ wr) 1
      have HBR := Lib.hid hbr
      have b0 : (0 : Int) ≤ (i : Int) := by omega
      have b1 : (i : Int) < (L.length : Int) := by omega
      have hw1 : IntKind.i64.wrap ((i : Int) + 1) = ((i + 1 : Nat) : Int) := IntWalk.i64_in _ (by omega)
      clear hsum ht hd hci hse hc hbr hdb hdl
      go_wp2_with fail
      go_cut [19] from 13 to 19 (fun v19 wx => v19 = .bool t ∧ Below wr.heap.size wr wx)
      case first =>
        go_region_held3 (fun W => W.cell? ⟨b, o + i, none⟩ = some (.string (ofL d)) ∧ W.rangeAt bi 0 (nb x))
          (first | exact HS.out _ HBD.out | exact HS.out _ hbz | go_keep)
          (first
            | (go_at_call 32; refine (HSUM.out _ ?_).mono ?_; (first | exact HBD.out); rintro e w' ⟨rfl, hb'⟩; have hbz : Below wr.heap.size wr w' := HBD.out.trans (hb'.mono HBD.out.size)))
        all_goals
          go_wp2_with fail
          go_meet
          case rel => exact ⟨rfl, hbz⟩
      case rest =>
        obtain ⟨rfl, hbx⟩ := hcut
        have hbxA := HBR.out.trans (hbx.mono HBR.out.size)
        cases t with
        | true =>
          have he : Sha.sum d = x := of_decide_eq_true HT.out
          have hd := HD.out
          rw [if_pos he] at hd
          have c1 := (HS.out _ hbx).1
          go_wp2_with fail
          go_ret2
          rw [hd]
          exact ⟨rfl, HBA.out.trans (hbxA.mono HBA.out.size)⟩
        | false =>
          have he : ¬ Sha.sum d = x := of_decide_eq_false HT.out
          have hd := HD.out
          rw [if_neg he] at hd
          have HD2 := Lib.hid hd
          clear hd
          go_wp2_with fail
          go_roundw
          case rel => exact ⟨i + 1, by omega, by first | rfl | go_num, hbxA, HD2.out⟩
          case measure => simp [intOf]; omega
    · obtain rfl : i = L.length := by omega
      have hdd : decide ((L.length : Int) < (L.length : Int)) = false := decide_eq_false (by omega)
      rw [List.drop_length] at hd
      go_wp2_with fail
      go_ret2
      rw [hd]
      exact ⟨rfl, HBA.out.trans (hbr.mono HBA.out.size)⟩
end Go.Proofs.YtfoamcobpfflbaaDoor
namespace Go.Proofs.YtfoamcobpfflbaaDoor
open Go Go.RowKit
open VfsS (File Chg Nm St find doL)

/-- A file system as the document holds it: four slices, three numbers. -/
def RVv (fa : Option Addr) (fn fc : Nat) (na : Option Addr) (nn nc : Nat) (sa : Option Addr) (sn sc : Nat) (aa : Option Addr) (an ac : Nat) (room steps limit : Int) : Value :=
  .agg #[.slice fa fn fc, .slice na nn nc, .slice sa sn sc, .slice aa an ac, .int .i64 room, .int .i64 steps, .int .i64 limit]

theorem rclamp_c (n : Int) (m : Nat) (w : World) : Calls Tryd.prog 69 #[.int .i64 n, .int .i64 (m : Int)] w fun e w' => e = .returned (.int .i64 (VfsS.clampN n m : Nat)) ∧ w' = w := by
  go_enter Tryd.func69, Tryd.ntmps69
  by_cases h0 : n < 0
  · have hd : decide (n < 0) = true := decide_eq_true h0
    have HC : Hid ((VfsS.clampN n m : Nat) = (0 : Int)) := by show _ = _; unfold VfsS.clampN; omega
    go_wp2_with fail
    go_ret
    exact ⟨ret_i64 HC.out, rfl⟩
  · have hd : decide (n < 0) = false := decide_eq_false h0
    by_cases h1 : n > m
    · have hd1 : decide (n > (m : Int)) = true := decide_eq_true h1
      have HC : Hid ((VfsS.clampN n m : Nat) = (m : Int)) := by show _ = _; unfold VfsS.clampN; omega
      go_wp2_with fail
      go_ret
      exact ⟨ret_i64 HC.out, rfl⟩
    · have hd1 : decide (n > (m : Int)) = false := decide_eq_false h1
      have HC : Hid ((VfsS.clampN n m : Nat) = (n : Int)) := by show _ = _; unfold VfsS.clampN; omega
      go_wp2_with fail
      go_ret
      exact ⟨ret_i64 HC.out, rfl⟩

theorem rwrong_c (n : Int) (w : World) : Calls Tryd.prog 15 #[.int .i64 n] w fun e w' => e = .returned (.int .i64 (if n < 0 ∨ 4194304 < n then 1 else 0)) ∧ w' = w := by
  go_enter Tryd.func15, Tryd.ntmps15
  by_cases h0 : n < 0
  · have hd : decide (n < 0) = true := decide_eq_true h0
    have HC : Hid ((if n < 0 ∨ 4194304 < n then (1 : Int) else 0) = 1) := if_pos (.inl h0)
    go_wp2_with fail
    go_ret
    exact ⟨by first | rfl | exact ret_i64 HC.out, rfl⟩
  · have hd : decide (n < 0) = false := decide_eq_false h0
    by_cases h1 : n > 4194304
    · have hd1 : decide (n > 4194304) = true := decide_eq_true h1
      have HC : Hid ((if n < 0 ∨ 4194304 < n then (1 : Int) else 0) = 1) := if_pos (.inr h1)
      go_wp2_with fail
      go_ret
      exact ⟨by first | rfl | exact ret_i64 HC.out, rfl⟩
    · have hd1 : decide (n > 4194304) = false := decide_eq_false h1
      have HC : Hid ((if n < 0 ∨ 4194304 < n then (1 : Int) else 0) = 0) := if_neg (fun e => e.elim h0 h1)
      go_wp2_with fail
      go_ret
      exact ⟨by first | rfl | exact ret_i64 HC.out, rfl⟩

set_option maxRecDepth 100000 in
theorem rnew_c (n : Int) (w : World) : Calls Tryd.prog 18 #[.int .i64 n] w fun e w' => e = .returned (RVv none 0 0 none 0 0 none 0 0 none 0 0 n 0 (-1)) ∧ Below w.heap.size w w' := by
  go_enter Tryd.func18, Tryd.ntmps18
  go_wp2_with fail
  go_returns
  exact ⟨rfl, (Below.refl _ w).alloc (Nat.le_refl _) _⟩

set_option maxRecDepth 100000 in
theorem rstep_c (fa : Option Addr) (fn fc : Nat) (na : Option Addr) (nn nc : Nat) (sa : Option Addr) (sn sc : Nat) (aa : Option Addr) (an ac : Nat) (room steps limit : Int) (hs : 0 ≤ steps ∧ steps ≤ 100000000) (hl : -1 ≤ limit ∧ limit ≤ 9223372036854775807) (w : World) :
    Calls Tryd.prog 60 #[RVv fa fn fc na nn nc sa sn sc aa an ac room steps limit] w fun e w' =>
      e = .returned (.tuple #[RVv fa fn fc na nn nc sa sn sc aa an ac room (if limit = 0 then steps else steps + 1) (if 0 < limit then limit - 1 else limit), .int .i64 (if limit = 0 then 190 else 0)]) ∧ Below w.heap.size w w' := by
  unfold RVv
  have hw1 : IntKind.i64.wrap (steps + 1) = steps + 1 := IntWalk.i64_in _ (by omega)
  have hw2 : IntKind.i64.wrap (limit - 1) = limit - 1 := IntWalk.i64_in _ (by omega)
  by_cases h0 : limit = 0
  · subst h0
    rw [if_pos rfl, if_pos rfl, if_neg (by decide)]
    go_enter Tryd.func60, Tryd.ntmps60
    go_wp2_with fail
    go_returns
    exact ⟨rfl, ((Below.refl _ w).alloc (Nat.le_refl _) _).alloc (by simp) _⟩
  · have hd : (limit == 0) = false := by rw [beq_eq_false_iff_ne]; exact h0
    rw [if_neg h0, if_neg h0]
    by_cases h1 : 0 < limit
    · rw [if_pos h1]
      have hd1 : decide (limit > 0) = true := decide_eq_true h1
      have hd2 : decide (0 < limit) = true := decide_eq_true h1
      clear h0
      go_enter Tryd.func60, Tryd.ntmps60
      go_wp2_with fail
      go_returns
      exact ⟨rfl, ((Below.refl _ w).alloc (Nat.le_refl _) _).alloc (by simp) _⟩
    · rw [if_neg h1]
      have hd1 : decide (limit > 0) = false := decide_eq_false h1
      have hd2 : decide (0 < limit) = false := decide_eq_false h1
      clear h0
      go_enter Tryd.func60, Tryd.ntmps60
      go_wp2_with fail
      go_returns
      exact ⟨rfl, ((Below.refl _ w).alloc (Nat.le_refl _) _).alloc (by simp) _⟩
end Go.Proofs.YtfoamcobpfflbaaDoor
namespace Go.Proofs.YtfoamcobpfflbaaDoor
open Go Go.RowKit Go.Maps
open VfsS (St)

namespace PackT
/-- Made, and the file created. -/
def C1 (r : Nat) : St := ⟨[⟨ByteArray.empty, 0⟩], [(nm, 0)], [], [⟨ByteArray.empty, nm, some 0⟩], r, 1, -1⟩
theorem t1r (r : Nat) : VfsS.createS (VfsS.newS r) nm = (C1 r, 0) := by
  rw [VfsS.createS, check_nm, if_neg (by decide)]; rfl
theorem tied1 (r : Nat) : PackS.Tied (C1 r) (PackS.new nm) nm [] :=
  ⟨PackS.Good.new nm, ⟨ByteArray.empty, rfl, rfl⟩, fun d h => by cases h⟩
end PackT

theorem slE_old {E : Nat → Prop} {w0 w : World} {a : Option Addr} {xs : List Value} (h : Sl w0 a xs) (hb : Below w0.heap.size w0 w) : SlE E w0 w a xs := by
  rcases h with h | ⟨b, o, h1, h2, h3⟩
  · exact .inl h
  · exact .inr ⟨b, o, h1, .inl h2, fun i u hu => (hb.cell (p := ⟨b, o + i, none⟩) h2).trans (h3 i u hu)⟩
theorem PW.idx {E : Nat → Prop} {w0 w : World} {p q N M : Nat} {S : St} {P : PackS.Pk} (h : PW E w0 w p q S P N M) : ∀ x ∈ S.now, x.2 < S.files.length := fun x hx => h.wf.idx x.2 (.inl ⟨x.1, hx⟩)

/-- What the loop knows. -/
structure OnU (w0 wx : World) (p q i : Nat) (L0 : List (List Nat)) : Prop where
  ex : ∃ S P L, PW (fun _ => False) w0 wx p q S P (2 * i) (3 + 4 * i) ∧ PackS.Tied S P PackT.nm L ∧ S.now = [(PackT.nm, 0)] ∧ ∀ x ∈ L, x ∈ L0

set_option maxRecDepth 100000 in
set_option maxHeartbeats 4000000 in
theorem lawOnce_c (a : Option Addr) (c : Nat) (ps : List Prt) (room : Int) (w : World) (hg : Gl w) (hin : LsIn w a c ps) :
    Calls Tryd.prog 5 #[.slice a ps.length c, .int .i64 room] w fun e w' => e = .returned (.bool true) ∧ Below w.heap.size w w' := by
  have HIN := Lib.hid hin
  have hlen := hin.len
  clear hin
  go_enter Tryd.func5, Tryd.ntmps5
  go_upto_region 3 with (go_at_call 13; refine (awake15_c _ hg).mono ?_; rintro e w0 ⟨rfl, hb0⟩)
  have hg0 := hg.below hb0 (Nat.le_refl _)
  go_wp2_with fail
  refine (new_a room w0 hg0).mono ?_
  rintro e w1 (⟨hr, rfl, rfl⟩ | ⟨hr, p, rfl, H1⟩)
  · go_wp2_with fail
    refine (rwrong_c room _).mono ?_
    rw [if_pos hr]
    rintro e w2 ⟨rfl, rfl⟩
    go_wp2_with fail
    go_ret
    exact ⟨rfl, hb0⟩
  obtain ⟨r, rfl⟩ : ∃ r : Nat, room = (r : Int) := ⟨room.toNat, by omega⟩
  rw [Int.toNat_natCast] at H1
  have HI0 := Lib.hid (HIN.out.below hb0)
  go_wp2_with fail
  refine (pcreate_p H1.toE PackT.nm (by decide) (by omega)).mono ?_
  rw [PackT.t1r]
  rintro e w2 ⟨-, h | ⟨-, q, rfl, H2⟩⟩
  · exact absurd rfl h.1
  clear H1
  have H2 : PW (fun _ => False) w0 w2 p q (PackT.C1 r) (PackS.new PackT.nm) 0 3 := H2
  have HB0 := Lib.hid hb0
  have HFIN : Hid (∀ W, Below w0.heap.size w0 W → Below w.heap.size w W) := fun W hW => HB0.out.trans (hW.mono HB0.out.size)
  clear hb0 hg0 hg
  by_cases h50 : 50 < ps.length
  · have hd : decide ((ps.length : Int) > 50) = true := decide_eq_true (by omega)
    have hd' : decide ((50 : Int) < (ps.length : Int)) = true := decide_eq_true (by omega)
    go_wp2_with fail
    go_ret
    exact ⟨rfl, HFIN.out _ H2.out⟩
  have hd : decide ((ps.length : Int) > 50) = false := decide_eq_false (by omega)
  have hd' : decide ((50 : Int) < (ps.length : Int)) = false := decide_eq_false (by omega)
  go_upto_if 46 with (go_at_call 40; refine (twins_c (HI0.out.below H2.out)).mono ?_; rintro e w3 ⟨tb, rfl, htb, hb3⟩)
  have H3 := (H2.reads hb3).1
  have HTB := Lib.hid htb
  clear H2 hb3 htb
  cases tb with
  | true =>
    go_wp2_with fail
    go_ret
    exact ⟨rfl, HFIN.out _ H3.out⟩
  | false =>
    have H0 := Lib.hid (HTB.out rfl)
    have hU : OnU w0 w3 p q 0 (recsIn ps) := ⟨_, _, _, H3, PackT.tied1 r, rfl, fun x h => by cases h⟩
    clear H3 HTB
    go_wp2_with fail
    go_loopw [51] (fun iv wx => ∃ i : Nat, i ≤ ps.length ∧ iv = .int .i64 i ∧ OnU w0 wx p q i (recsIn ps)) (fun iv _ => (ps.length - intOf iv).toNat)
    case atStart => exact ⟨0, Nat.zero_le _, rfl, hU⟩
    case round =>
      clear hU hd hd'
      obtain ⟨i, hi, rfl, S, P, L, H, T, hn, hs⟩ := hrel
      by_cases hil : i < ps.length
      · have hd : decide ((i : Int) < (ps.length : Int)) = true := decide_eq_true (by omega)
        obtain ⟨b, o, rfl, hb, hc⟩ := HI0.out.at hil
        have hci := (H.out.cell (p := ⟨b, o + i, none⟩) hb).trans (hc i hil)
        obtain ⟨hsl, hbb, hll⟩ := HI0.out.each ps[i] (List.getElem_mem hil)
        have hm : ps[i].2.2 ∈ recsIn ps := List.mem_map.2 ⟨_, List.getElem_mem hil, rfl⟩
        generalize ps[i] = part at *
        obtain ⟨da, dc, d⟩ := part
        simp only at hci hsl hbb hll hm
        have hon := PackS.once T H.idx hn H0.out hs hbb hm
        obtain ⟨S1, P1, id1, c1, hadd⟩ : ∃ S1 P1 id1 c1, PackS.add P S d = (S1, P1, id1, c1) := ⟨_, _, _, _, rfl⟩
        rw [hadd] at hon
        have HAD := Lib.hid hadd
        have HSL := Lib.hid hsl
        have HBB := Lib.hid hbb
        have HT := Lib.hid T
        have HN := Lib.hid hn
        have HS := Lib.hid hs
        have hw1 : IntKind.i64.wrap ((i : Int) + 1) = ((i + 1 : Nat) : Int) := IntWalk.i64_in _ (by omega)
        have b0 : (0 : Int) ≤ (i : Int) := by omega
        have b1 : (i : Int) < (ps.length : Int) := by omega
        clear hadd hsl hbb hc T hn hs hm
        rcases hon with ⟨hc1, he⟩ | ⟨hc1, hid1, hadd2, hget, hused, hn1, L', T', hs'⟩
        · injection he with e1 he
          injection he with e2 he
          injection he with e3 e4
          simp only at hc1 e4
          subst e1 e2 e3
          have hne : (c1 == 0) = false := by simpa using hc1
          have hdd : decide (c1 = 0) = false := decide_eq_false hc1
          have hz : ∀ W, (binOp .neq 47 (.agg (nums .u8 PackS.zid)) (.agg #[Value.int .u8 0, Value.int .u8 0, Value.int .u8 0, Value.int .u8 0, Value.int .u8 0, Value.int .u8 0, Value.int .u8 0, Value.int .u8 0, Value.int .u8 0, Value.int .u8 0, Value.int .u8 0, Value.int .u8 0, Value.int .u8 0, Value.int .u8 0, Value.int .u8 0, Value.int .u8 0, Value.int .u8 0, Value.int .u8 0, Value.int .u8 0, Value.int .u8 0, Value.int .u8 0, Value.int .u8 0, Value.int .u8 0, Value.int .u8 0, Value.int .u8 0, Value.int .u8 0, Value.int .u8 0, Value.int .u8 0, Value.int .u8 0, Value.int .u8 0, Value.int .u8 0, Value.int .u8 0])).run Tryd.prog W = .ok (.bool false) W := fun W => by
            have := id_neq okId_z okId_z W
            rw [decide_eq_true rfl] at this
            exact this
          clear e4
          go_upto_region 14 with (first
            | (go_at_call 41; refine (pids_p H).mono ?_; rintro e w4 ⟨ia, ic, rfl, -, H4, hb4⟩)
            | (go_at_call 36; refine (psize_p H4).mono ?_; rintro e w5 ⟨rfl, rfl⟩)
            | (go_at_call 21; refine (padd_p H4 (slE_old HSL.out H4.out) HBB.out (by omega) (by omega) (by omega)).mono ?_; unfold AddP; rw [HAD.out]; rintro e w6 ⟨rfl, H6, -⟩; have hI : (w6.alloc (.cells #[Value.int .u8 0, Value.int .u8 0, Value.int .u8 0, Value.int .u8 0, Value.int .u8 0, Value.int .u8 0, Value.int .u8 0, Value.int .u8 0, Value.int .u8 0, Value.int .u8 0, Value.int .u8 0, Value.int .u8 0, Value.int .u8 0, Value.int .u8 0, Value.int .u8 0, Value.int .u8 0, Value.int .u8 0, Value.int .u8 0, Value.int .u8 0, Value.int .u8 0, Value.int .u8 0, Value.int .u8 0, Value.int .u8 0, Value.int .u8 0, Value.int .u8 0, Value.int .u8 0, Value.int .u8 0, Value.int .u8 0, Value.int .u8 0, Value.int .u8 0, Value.int .u8 0, Value.int .u8 0] 47)).heap[w6.heap.size]? = some (.cells #[Value.int .u8 0, Value.int .u8 0, Value.int .u8 0, Value.int .u8 0, Value.int .u8 0, Value.int .u8 0, Value.int .u8 0, Value.int .u8 0, Value.int .u8 0, Value.int .u8 0, Value.int .u8 0, Value.int .u8 0, Value.int .u8 0, Value.int .u8 0, Value.int .u8 0, Value.int .u8 0, Value.int .u8 0, Value.int .u8 0, Value.int .u8 0, Value.int .u8 0, Value.int .u8 0, Value.int .u8 0, Value.int .u8 0, Value.int .u8 0, Value.int .u8 0, Value.int .u8 0, Value.int .u8 0, Value.int .u8 0, Value.int .u8 0, Value.int .u8 0, Value.int .u8 0, Value.int .u8 0] 47 (0, 0)) := Array.getElem?_push_size)
            | (refine wp_storeB rfl 47 _ _ rfl w6.heap.size (nums .u8 PackS.zid) rfl rfl hI (by rw [nums_size]; kernel_rfl) (by rw [nums_size]; kernel_rfl) (nums_one _ _) ?_; intro w7 h7 g7))
          have H7 := ((H6.below (below_alloc w6 (.cells #[Value.int .u8 0, Value.int .u8 0, Value.int .u8 0, Value.int .u8 0, Value.int .u8 0, Value.int .u8 0, Value.int .u8 0, Value.int .u8 0, Value.int .u8 0, Value.int .u8 0, Value.int .u8 0, Value.int .u8 0, Value.int .u8 0, Value.int .u8 0, Value.int .u8 0, Value.int .u8 0, Value.int .u8 0, Value.int .u8 0, Value.int .u8 0, Value.int .u8 0, Value.int .u8 0, Value.int .u8 0, Value.int .u8 0, Value.int .u8 0, Value.int .u8 0, Value.int .u8 0, Value.int .u8 0, Value.int .u8 0, Value.int .u8 0, Value.int .u8 0, Value.int .u8 0, Value.int .u8 0] 47))).grown g7 (.inr ⟨Nat.le_refl _, by simp⟩)).sub (E' := fun k => k = w6.heap.size) (fun k hk => .inr ⟨by omega, by simp; omega⟩)
          generalize w6.heap.size = b6 at *
          clear H4 H6 hI g7 H
          go_wp2_with (first
            | (go_at_call 41; refine (pids_p H7).mono ?_; rintro e w8 ⟨ja, jc, rfl, -, H8, hb8⟩; have h8 := (hb8.block b6 (H7.lt rfl)).trans h7)
            | (go_at_call 36; refine (psize_p H8).mono ?_; rintro e w9 ⟨rfl, rfl⟩)
            | (refine wp_loadBg rfl 47 _ rfl b6 rfl h8 _ id_under rfl (idSz _ okId_z) ?_))
          go_roundw
          case rel => exact ⟨i + 1, by omega, by first | rfl | go_num, _, _, _, (H8.sub fun _ h => h.elim).mono (by omega) (by omega) (by omega) (by omega), HT.out, HN.out, HS.out⟩
          case measure => simp [intOf]; omega
        · subst hc1 hid1
          have hx := okId_sum d
          simp only at hadd2 hget hused hn1 T'
          have HAD2 := Lib.hid hadd2
          have HGET := Lib.hid hget
          have HUS := Lib.hid hused
          have HN1 := Lib.hid hn1
          have HT1 := Lib.hid T'
          have HS1 := Lib.hid hs'
          clear hadd2 hget hused hn1 T' hs'
          generalize hxs : Sha.sum d = x at *
          clear hxs
          have hzx : ∀ W, (binOp .neq 47 (.agg (nums .u8 x)) (.agg (nums .u8 x))).run Tryd.prog W = .ok (.bool false) W := fun W => by
            have := id_neq hx hx W
            rw [decide_eq_true rfl] at this
            exact this
          go_upto_region 14 with (first
            | (go_at_call 41; refine (pids_p H).mono ?_; rintro e w4 ⟨ia, ic, rfl, -, H4, hb4⟩)
            | (go_at_call 36; refine (psize_p H4).mono ?_; rintro e w5 ⟨rfl, rfl⟩)
            | (go_at_call 21; refine (padd_p H4 (slE_old HSL.out H4.out) HBB.out (by omega) (by omega) (by omega)).mono ?_; unfold AddP; rw [HAD.out]; rintro e w6 ⟨rfl, H6, -⟩; have hI : (w6.alloc (.cells #[Value.int .u8 0, Value.int .u8 0, Value.int .u8 0, Value.int .u8 0, Value.int .u8 0, Value.int .u8 0, Value.int .u8 0, Value.int .u8 0, Value.int .u8 0, Value.int .u8 0, Value.int .u8 0, Value.int .u8 0, Value.int .u8 0, Value.int .u8 0, Value.int .u8 0, Value.int .u8 0, Value.int .u8 0, Value.int .u8 0, Value.int .u8 0, Value.int .u8 0, Value.int .u8 0, Value.int .u8 0, Value.int .u8 0, Value.int .u8 0, Value.int .u8 0, Value.int .u8 0, Value.int .u8 0, Value.int .u8 0, Value.int .u8 0, Value.int .u8 0, Value.int .u8 0, Value.int .u8 0] 47)).heap[w6.heap.size]? = some (.cells #[Value.int .u8 0, Value.int .u8 0, Value.int .u8 0, Value.int .u8 0, Value.int .u8 0, Value.int .u8 0, Value.int .u8 0, Value.int .u8 0, Value.int .u8 0, Value.int .u8 0, Value.int .u8 0, Value.int .u8 0, Value.int .u8 0, Value.int .u8 0, Value.int .u8 0, Value.int .u8 0, Value.int .u8 0, Value.int .u8 0, Value.int .u8 0, Value.int .u8 0, Value.int .u8 0, Value.int .u8 0, Value.int .u8 0, Value.int .u8 0, Value.int .u8 0, Value.int .u8 0, Value.int .u8 0, Value.int .u8 0, Value.int .u8 0, Value.int .u8 0, Value.int .u8 0, Value.int .u8 0] 47 (0, 0)) := Array.getElem?_push_size)
            | (refine wp_storeB rfl 47 _ _ rfl w6.heap.size (nums .u8 x) rfl rfl hI (by rw [nums_size, hx.1]; rfl) (by rw [nums_size, hx.1]; kernel_rfl) (nums_one _ _) ?_; intro w7 h7 g7))
          have H7 := ((H6.below (below_alloc w6 (.cells #[Value.int .u8 0, Value.int .u8 0, Value.int .u8 0, Value.int .u8 0, Value.int .u8 0, Value.int .u8 0, Value.int .u8 0, Value.int .u8 0, Value.int .u8 0, Value.int .u8 0, Value.int .u8 0, Value.int .u8 0, Value.int .u8 0, Value.int .u8 0, Value.int .u8 0, Value.int .u8 0, Value.int .u8 0, Value.int .u8 0, Value.int .u8 0, Value.int .u8 0, Value.int .u8 0, Value.int .u8 0, Value.int .u8 0, Value.int .u8 0, Value.int .u8 0, Value.int .u8 0, Value.int .u8 0, Value.int .u8 0, Value.int .u8 0, Value.int .u8 0, Value.int .u8 0, Value.int .u8 0] 47))).grown g7 (.inr ⟨Nat.le_refl _, by simp⟩)).sub (E' := fun k => k = w6.heap.size) (fun k hk => .inr ⟨by omega, by simp; omega⟩)
          generalize w6.heap.size = b6 at *
          clear H4 H6 hI g7 H
          go_upto_region 18 with (first
            | (go_at_call 41; refine (pids_p H7).mono ?_; rintro e w8 ⟨ja, jc, rfl, -, H8, hb8⟩; have h8 := (hb8.block b6 (H7.lt rfl)).trans h7)
            | (go_at_call 36; refine (psize_p H8).mono ?_; rintro e w9 ⟨rfl, rfl⟩))
          clear H7 hb8 h7
          go_upto_region 19 with (first
            | (go_at_call 21; refine (padd_p H8 (slE_old HSL.out H8.out) HBB.out (by omega) (by omega) (by omega)).mono ?_; unfold AddP; rw [HAD2.out]; rintro e w9 ⟨rfl, H9, hs9⟩; have hI : (w9.alloc (.cells #[Value.int .u8 0, Value.int .u8 0, Value.int .u8 0, Value.int .u8 0, Value.int .u8 0, Value.int .u8 0, Value.int .u8 0, Value.int .u8 0, Value.int .u8 0, Value.int .u8 0, Value.int .u8 0, Value.int .u8 0, Value.int .u8 0, Value.int .u8 0, Value.int .u8 0, Value.int .u8 0, Value.int .u8 0, Value.int .u8 0, Value.int .u8 0, Value.int .u8 0, Value.int .u8 0, Value.int .u8 0, Value.int .u8 0, Value.int .u8 0, Value.int .u8 0, Value.int .u8 0, Value.int .u8 0, Value.int .u8 0, Value.int .u8 0, Value.int .u8 0, Value.int .u8 0, Value.int .u8 0] 47)).heap[w9.heap.size]? = some (.cells #[Value.int .u8 0, Value.int .u8 0, Value.int .u8 0, Value.int .u8 0, Value.int .u8 0, Value.int .u8 0, Value.int .u8 0, Value.int .u8 0, Value.int .u8 0, Value.int .u8 0, Value.int .u8 0, Value.int .u8 0, Value.int .u8 0, Value.int .u8 0, Value.int .u8 0, Value.int .u8 0, Value.int .u8 0, Value.int .u8 0, Value.int .u8 0, Value.int .u8 0, Value.int .u8 0, Value.int .u8 0, Value.int .u8 0, Value.int .u8 0, Value.int .u8 0, Value.int .u8 0, Value.int .u8 0, Value.int .u8 0, Value.int .u8 0, Value.int .u8 0, Value.int .u8 0, Value.int .u8 0] 47 (0, 0)) := Array.getElem?_push_size)
            | (refine wp_storeB rfl 47 _ _ rfl w9.heap.size (nums .u8 x) rfl rfl hI (by rw [nums_size, hx.1]; rfl) (by rw [nums_size, hx.1]; kernel_rfl) (nums_one _ _) ?_; intro wA hA gA))
          have h69 := (hs9 b6 rfl).trans h8
          have hl69 := H9.lt (k := b6) rfl
          have h6A := (gA.block b6 (Nat.lt_of_lt_of_le hl69 (by simp)) (fun e => by injection e with e; omega)).trans (((below_alloc w9 (.cells #[Value.int .u8 0, Value.int .u8 0, Value.int .u8 0, Value.int .u8 0, Value.int .u8 0, Value.int .u8 0, Value.int .u8 0, Value.int .u8 0, Value.int .u8 0, Value.int .u8 0, Value.int .u8 0, Value.int .u8 0, Value.int .u8 0, Value.int .u8 0, Value.int .u8 0, Value.int .u8 0, Value.int .u8 0, Value.int .u8 0, Value.int .u8 0, Value.int .u8 0, Value.int .u8 0, Value.int .u8 0, Value.int .u8 0, Value.int .u8 0, Value.int .u8 0, Value.int .u8 0, Value.int .u8 0, Value.int .u8 0, Value.int .u8 0, Value.int .u8 0, Value.int .u8 0, Value.int .u8 0] 47)).block b6 hl69).trans h69)
          have HA := ((H9.below (below_alloc w9 (.cells #[Value.int .u8 0, Value.int .u8 0, Value.int .u8 0, Value.int .u8 0, Value.int .u8 0, Value.int .u8 0, Value.int .u8 0, Value.int .u8 0, Value.int .u8 0, Value.int .u8 0, Value.int .u8 0, Value.int .u8 0, Value.int .u8 0, Value.int .u8 0, Value.int .u8 0, Value.int .u8 0, Value.int .u8 0, Value.int .u8 0, Value.int .u8 0, Value.int .u8 0, Value.int .u8 0, Value.int .u8 0, Value.int .u8 0, Value.int .u8 0, Value.int .u8 0, Value.int .u8 0, Value.int .u8 0, Value.int .u8 0, Value.int .u8 0, Value.int .u8 0, Value.int .u8 0, Value.int .u8 0] 47))).grown gA (.inr ⟨Nat.le_refl _, by simp⟩)).sub (E' := fun k => k = b6 ∨ k = w9.heap.size) (fun k hk => hk.elim (fun h => .inl h) (fun h => .inr ⟨by omega, by simp; omega⟩))
          generalize w9.heap.size = b9 at *
          clear H8 H9 hI gA hs9 h8 h69 hl69
          go_upto_region 20 with (first
            | (refine wp_loadB rfl 47 _ rfl b6 rfl h6A _ id_under rfl (idSz _ hx) ?_)
            | (go_at_call 31; refine (pget_p HA hx).mono ?_; rw [HGET.out]; rintro e wB ⟨ga, gc, rfl, hnB, HB, hbB⟩))
          have h6B := (hbB.block b6 (HA.lt (.inl rfl))).trans h6A
          have h9B := (hbB.block b9 (HA.lt (.inr rfl))).trans hA
          obtain ⟨a5, c5, e5, -, -, hs5⟩ := hnB.r.form
          injection e5 with e5 _ e6
          subst e5 e6
          have hc1 := run_str_of (P := Tryd.prog) Tryd.underlying43 Tryd.underlying5 Tryd.underlying9 (b := ofL d) (by rw [byteCells_ofL HBB.out]; exact hs5) gc
          have hc2 := run_str_of (P := Tryd.prog) Tryd.underlying43 Tryd.underlying5 Tryd.underlying9 (b := ofL d) (by rw [byteCells_ofL HBB.out]; exact HSL.out.below HB.out) dc
          rw [ofL_size] at hc1 hc2
          have hcmp : ((ofL d).toList == (ofL d).toList) = true := beq_self_eq_true _
          clear HA hnB hs5 h6A hA hbB
          go_wp2_with (first
            | (refine wp_loadB rfl 47 _ rfl b9 rfl h9B _ id_under rfl (idSz _ hx) ?_)
            | (refine wp_loadB rfl 47 _ rfl b6 rfl h6B _ id_under rfl (idSz _ hx) ?_)
            | (go_at_call 41; refine (pids_p HB).mono ?_; rintro e wC ⟨ka, kc, rfl, -, HC, hbC⟩)
            | (go_at_call 36; refine (psize_p HC).mono ?_; rintro e wD ⟨rfl, rfl⟩)
            | (go_at_call 42; refine (pused_p HC).mono ?_; rw [HUS.out]; rintro e wE ⟨rfl, HE, -⟩))
          go_roundw
          case rel => exact ⟨i + 1, by omega, by first | rfl | go_num, _, _, _, (HE.sub fun _ h => h.elim).mono (by omega) (by omega) (by omega) (by omega), HT1.out, HN1.out, HS1.out⟩
          case measure => simp [intOf]; omega
      · obtain rfl : i = ps.length := by omega
        have hd : decide ((ps.length : Int) < (ps.length : Int)) = false := decide_eq_false (by omega)
        go_wp2_with fail
        go_ret
        exact ⟨rfl, HFIN.out _ H.out⟩
end Go.Proofs.YtfoamcobpfflbaaDoor
