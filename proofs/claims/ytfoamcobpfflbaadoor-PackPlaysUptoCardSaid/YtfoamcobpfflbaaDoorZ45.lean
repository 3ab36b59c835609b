/- Texts of mine, joined: The law PackOrder: its walk. -/
import Derived.Deep.CutRange
import Derived.Test.YtfoamcobpfflbaaDoorZ44
namespace Go.Proofs.YtfoamcobpfflbaaDoor
open Go Go.RowKit Go.Maps
open VfsS (St)

theorem add_id_ok (P : PackS.Pk) (S : St) (d : List Nat) : OkId (PackS.add P S d).2.2.1 := by
  unfold PackS.add
  split
  · exact okId_z
  · split
    · split
      · exact okId_z
      · split
        · exact okId_sum d
        · exact okId_z
    · split
      · exact okId_z
      · exact okId_sum d

section
variable {E : Nat → Prop} {w0 w : World} {p q N M : Nat} {S : St} {P : PackS.Pk}
theorem pread_p (h : PW E w0 w p q S P N M) (s : ByteArray) (hs : s.size ≤ 10000000) : Calls Tryd.prog 34 #[.pointer (some ⟨p, 0, none⟩), .string s] w fun e w' => ∃ a c, e = .returned (.tuple #[.slice a ((VfsS.readS S s).getD ByteArray.empty).size c, .int .i64 (if (VfsS.readS S s).isSome then 0 else 4)]) ∧
    OwnG w' 5 1 (.slice a ((VfsS.readS S s).getD ByteArray.empty).size c) ((VfsS.readS S s).getD ByteArray.empty).size (byteCells ((VfsS.readS S s).getD ByteArray.empty)) ∧ PW E w0 w' p q S P N M ∧ Below w.heap.size w w' := by
  obtain ⟨Kf, hv, -⟩ := h.ve
  refine (read_c hv s hs).mono ?_
  rintro e w' ⟨v, rfl, ho, -, hb⟩
  obtain ⟨a, c, rfl, -, -, -⟩ := ho.form
  exact ⟨a, c, rfl, ho, (h.reads hb).1, hb⟩
theorem PW.pk2 (h : PW E w0 w p q S P N M) : ∃ K, PK w q p P K N ∧ ∀ k, K k → w0.heap.size ≤ k ∧ k < w.heap.size := by
  obtain ⟨K, h1, h2, h3⟩ := h.ex
  obtain ⟨Kf, _, _, _, h4, _⟩ := h2
  exact ⟨K, h1, fun k hk => (h4 k (.inl hk)).2⟩
end

/-- A long array within a block loaded in a quiet walk. -/
theorem wpQuiet_loadM {P : Program} {ops : Array Oper} {C : World → Prop} {Q : Act → Prop} {a : Act} {o : Oper} {rest : List Oper} (hgd : o.guard = none) (ty : TypeId) (x : Operand) (ho : o.op = .load ty x) (b f : Nat) (hx : a.eval x = .pointer (some ⟨b, f, none⟩)) {cs : List Value}
    (hb : ∀ w, C w → w.rangeAt b f cs) (d : TypeDesc) (hu : P.underlying ty = some d) (hd : d.isRow = true) (hi : (P.info? ty).map (·.size) = some cs.length) (h : wpQuiet P ops C Q rest (a.put o.dst (.agg cs.toArray))) : wpQuiet P ops C Q (o :: rest) a := by
  unfold wpQuiet
  rw [if_pos (by simp [Region.wanted, hgd])]
  refine ⟨_, fun w hw => ?_, h⟩
  unfold Oper.quietAt
  have hl := run_loadVar_mid (P := P) w b f ty cs d (fun j v hj => hb w hw j v hj) hu hd hi
  have : (execOp a.eval o).run P w = .ok (.value (.agg cs.toArray)) w := by
    unfold execOp
    simp only [ho, hx, Instr.loadAt, Instr.sureAddr, Sem.run_bind, Sem.run_pure, Result.andThen_ok, hl]
  rw [this]
  exact ⟨rfl, rfl⟩

theorem irow_at (L : List (List Nat)) (hL : ∀ x ∈ L, x.length = 32) (i : Nat) (hi : i < L.length) (j : Nat) (hj : j < 32) : (irow L)[i * 32 + j]? = (nb L[i])[j]? :=
  flat_at nb 32 L (fun y hy => by rw [nb_len]; exact hL y hy) i hi j hj
theorem irow_len (L : List (List Nat)) (hL : ∀ x ∈ L, x.length = 32) : (irow L).length = L.length * 32 := flat_len nb 32 L (fun y hy => by rw [nb_len]; exact hL y hy)
theorem sums_len (R : List (List Nat)) : ∀ x ∈ R.map Sha.sum, x.length = 32 := fun x hx => by
  obtain ⟨d, -, rfl⟩ := List.mem_map.1 hx
  exact PackS.sum_len d
/-- An id's cells in a row of ids. -/
theorem ids_at {W : World} {a : Option Addr} {R : List (List Nat)} (h : Sl W a (irow (R.map Sha.sum))) {i : Nat} (hi : i < R.length) : ∃ b o, a = some ⟨b, o, none⟩ ∧ b < W.heap.size ∧ W.rangeAt b (o + i * 32) (nb (Sha.sum R[i])) := by
  have hlen := irow_len _ (sums_len R)
  rw [List.length_map] at hlen
  obtain ⟨b, o, e, hb, hc⟩ := h.at (k := i * 32) (by omega)
  refine ⟨b, o, e, hb, fun j u hu => ?_⟩
  have hj : j < 32 := by
    have := (List.getElem?_eq_some_iff.1 hu).1
    rw [nb_len, PackS.sum_len] at this
    exact this
  have h1 := irow_at (R.map Sha.sum) (sums_len R) i (by rw [List.length_map]; exact hi) j hj
  rw [List.getElem_map, hu] at h1
  obtain ⟨hlt, h2⟩ := List.getElem?_eq_some_iff.1 h1
  have := hc (i * 32 + j) hlt
  rw [h2] at this
  rw [Nat.add_assoc]
  exact this
theorem recsIn_get (ps : List Prt) (k : Nat) (h : k < (recsIn ps).length) : (recsIn ps)[k] = (ps[k]'(by unfold recsIn at h; rwa [List.length_map] at h)).2.2 := List.getElem_map _
theorem frames_lt {R : List (List Nat)} (h : ∀ d ∈ R, ∀ y ∈ d, y < 256) : ∀ x ∈ PackS.frames R, x < 256 := fun x hx => by
  obtain ⟨d, hd, hx⟩ := List.mem_flatMap.1 hx
  exact PackS.frame_lt (h d hd) x hx

/-- What the second loop knows. -/
structure OrU (w0 wx : World) (p q i : Nat) (l : List (List Nat)) (S : St) (P : PackS.Pk) : Prop where
  pw : PW (fun _ => False) w0 wx p q S P (400000 + i) (3 + 6 * i)
  t : PackS.Tied S P PackT.nm (PackS.recs (l.take i))
  r : PackS.Roomy S PackT.nm 0
  u : VfsS.used S ≤ i * 20012

set_option maxRecDepth 100000 in
set_option maxHeartbeats 4000000 in
theorem lawOrder_c (a : Option Addr) (c : Nat) (ps : List Prt) (oa : Option Addr) (oc : Nat) (os : List Bool) (w : World) (hg : Gl w) (hin : LsIn w a c ps) (hos : Sl w oa (os.map Value.bool)) (hol : os.length ≤ 1048576) :
    Calls Tryd.prog 6 #[.slice a ps.length c, .slice oa os.length oc] w fun e w' => e = .returned (.bool true) ∧ Below w.heap.size w w' := by
  have HIN := Lib.hid hin
  have HOS := Lib.hid hos
  have hlen := hin.len
  clear hin hos
  go_enter Tryd.func6, Tryd.ntmps6
  go_upto_region 3 with (go_at_call 13; refine (awake15_c _ hg).mono ?_; rintro e w0 ⟨rfl, hb0⟩)
  have hg0 := hg.below hb0 (Nat.le_refl _)
  have HG0 := Lib.hid hg0
  have HB0 := Lib.hid hb0
  clear hg hg0 hb0
  by_cases h40 : 40 < ps.length
  · have hd : decide ((ps.length : Int) > 40) = true := decide_eq_true (by omega)
    have hd' : decide ((40 : Int) < (ps.length : Int)) = true := decide_eq_true (by omega)
    go_wp2_with fail
    go_ret
    exact ⟨rfl, HB0.out⟩
  have hd : decide ((ps.length : Int) > 40) = false := decide_eq_false (by omega)
  have hd' : decide ((40 : Int) < (ps.length : Int)) = false := decide_eq_false (by omega)
  go_upto_if 26 with (go_at_call 40; refine (twins_c (HIN.out.below HB0.out)).mono ?_; rintro e w3 ⟨tb, rfl, htb, hb3⟩)
  have HTB := Lib.hid htb
  have HB3 : Hid (Below w.heap.size w w3) := HB0.out.trans (hb3.mono HB0.out.size)
  have HG3 : Hid (Gl w3) := HG0.out.below hb3 (Nat.le_refl _)
  clear hb3 htb hd hd'
  cases tb with
  | true =>
    go_wp2_with fail
    go_ret
    exact ⟨rfl, HB3.out⟩
  | false =>
    have H0 := Lib.hid (HTB.out rfl)
    have HI3 := Lib.hid (HIN.out.below HB3.out)
    have HO3 := Lib.hid (HOS.out.below HB3.out)
    clear HTB HIN HOS HG0 HB0
    have hU : ResU ((w3.alloc (.cells #[.slice none 0 0, .slice none 0 0] 80)).alloc (.cells #[.slice none 0 0, .slice none 0 0] 81)) (PackS.recs (recsIn ps)) w3.heap.size (w3.heap.size + 1) 0 (.slice none 0 0) (.slice none 0 0) (.slice none 0 0) (.slice none 0 0) :=
      ⟨((below_alloc (w3.alloc (.cells #[.slice none 0 0, .slice none 0 0] 80)) _).block _ (by simp)).trans Array.getElem?_push_size, push_at (by simp), (fun h => by omega), (fun h => by omega), (fun h => by omega), (fun h => by omega)⟩
    have hbU : Below w3.heap.size w3 ((w3.alloc (.cells #[.slice none 0 0, .slice none 0 0] 80)).alloc (.cells #[.slice none 0 0, .slice none 0 0] 81)) := below_made w3 _ _
    obtain ⟨R, hR⟩ : ∃ R, PackS.recs (recsIn ps) = R := ⟨_, rfl⟩
    rw [hR] at hU
    have HR := Lib.hid hR
    clear hR
    go_upto_region 8 with fail
    go_loopw [7] (fun kv wx => ∃ (k : Nat) (F0 F1 I0 I1 : Value), k ≤ 2 ∧ kv = .int .i64 k ∧ Below w3.heap.size w3 wx ∧ ResU wx R w3.heap.size (w3.heap.size + 1) k F0 F1 I0 I1) (fun kv _ => (2 - intOf kv).toNat)
    case atStart => exact ⟨0, _, _, _, _, by omega, rfl, hbU, hU⟩
    case round =>
      clear hbU hU
      obtain ⟨k, F0, F1, I0, I1, hk, rfl, hbk, hU⟩ := hrel
      rename World => wK
      have HBK := Lib.hid hbk
      have HU := Lib.hid hU
      have hgk := HG3.out.below hbk (Nat.le_refl _)
      clear hbk hU
      by_cases hk2 : k < 2
      · skip
        have hd : decide ((k : Int) < 2) = true := decide_eq_true (by omega)
        go_wp2_with fail
        refine (new_a 4194304 wK hgk).mono ?_
        rintro e w4 (⟨hr, -⟩ | ⟨-, p, rfl, H4⟩)
        · omega
        go_wp2_with fail
        refine (pcreate_p H4.toE PackT.nm (by decide) (by omega)).mono ?_
        rw [show ((4194304 : Int).toNat) = 4194304 from rfl, PackT.t1r]
        rintro e w5 ⟨-, h | ⟨-, q, rfl, H5⟩⟩
        · exact absurd rfl h.1
        have hV : OrU wK w5 p q 0 (recsIn ps) (PackT.C1 4194304) (PackS.new PackT.nm) := ⟨PW.mono H5 (by omega) (by omega) (by omega) (by omega), PackT.tied1 4194304, PackS.roomy1, Nat.le_refl _⟩
        clear H4 H5 hgk
        go_wp2_with fail
        go_loopw [46, 10] (fun iv qv wx => ∃ (i q : Nat) (S : St) (P : PackS.Pk), i ≤ ps.length ∧ iv = .int .i64 i ∧ qv = .pointer (some ⟨q, 0, none⟩) ∧ OrU wK wx p q i (recsIn ps) S P) (fun iv _ _ => (ps.length - intOf iv).toNat)
        case atStart => exact ⟨0, q, _, _, Nat.zero_le _, rfl, rfl, hV⟩
        case round =>
          clear hV
          obtain ⟨i, q, S, P, hi, rfl, rfl, hV⟩ := hrel
          by_cases hil : i < ps.length
          · have hd2 : decide ((i : Int) < (ps.length : Int)) = true := decide_eq_true (by omega)
            have hbw := hV.pw.out
            have HW : Hid (Below w3.heap.size w3 wr) := HBK.out.trans (hbw.mono HBK.out.size)
            obtain ⟨b, o, rfl, hb, hc⟩ := HI3.out.at hil
            have hci := (HW.out.cell (p := ⟨b, o + i, none⟩) hb).trans (hc i hil)
            obtain ⟨hsl, hbb, hll⟩ := HI3.out.each ps[i] (List.getElem_mem hil)
            have hm : ps[i].2.2 ∈ recsIn ps := List.mem_map.2 ⟨_, List.getElem_mem hil, rfl⟩
            have htk : (recsIn ps).take (i + 1) = (recsIn ps).take i ++ [ps[i].2.2] := by
              rw [List.take_add_one]; unfold recsIn; rw [List.getElem?_map, List.getElem?_eq_getElem hil]; rfl
            generalize ps[i] = part at *
            obtain ⟨da, dc, d⟩ := part
            simp only at hci hsl hbb hll hm htk
            by_cases hbig : 20000 < d.length
            · have hd3 : decide ((d.length : Int) > 20000) = true := decide_eq_true (by omega)
              have hd3' : decide ((20000 : Int) < (d.length : Int)) = true := decide_eq_true (by omega)
              clear hc
              go_wp2_with fail
              go_ret
              exact ⟨rfl, HB3.out.trans (HW.out.mono HB3.out.size)⟩
            have hd3 : decide ((d.length : Int) > 20000) = false := decide_eq_false (by omega)
            have hd3' : decide ((20000 : Int) < (d.length : Int)) = false := decide_eq_false (by omega)
            obtain ⟨k1, k2, k3, k4⟩ := PackS.order_add hV.t hV.pw.idx hV.r H0.out (fun x hx => List.mem_of_mem_take hx) (by have := hV.u; have : i * 20012 ≤ 40 * 20012 := Nat.mul_le_mul_right _ (by omega); omega) hbb hm (by omega)
            have hidk := add_id_ok P S d
            have hadp := padd_p (c := dc) hV.pw (slE_old (hsl.below HBK.out) hbw) hbb (by omega) (by omega) (by omega)
            unfold AddP at hadp
            obtain ⟨S1, P1, id1, c1, hadd⟩ : ∃ S1 P1 id1 c1, PackS.add P S d = (S1, P1, id1, c1) := ⟨_, _, _, _, rfl⟩
            rw [hadd] at k1 k2 k3 k4 hidk hadp
            simp only at k1 k2 k3 k4 hidk hadp
            subst k1
            rw [← htk] at k2
            have HAD := Lib.hid hadp
            have HK2 := Lib.hid k2
            have HK3 := Lib.hid k3
            have HK4 : Hid (VfsS.used S1 ≤ (i + 1) * 20012) := by
              have := hV.u
              show _ ≤ _
              rw [Nat.add_mul]; omega
            have hw1 : IntKind.i64.wrap ((i : Int) + 1) = ((i + 1 : Nat) : Int) := IntWalk.i64_in _ (by omega)
            have b0 : (0 : Int) ≤ (i : Int) := by omega
            have b1 : (i : Int) < (ps.length : Int) := by omega
            clear hadd hsl hbb hc hm htk k2 k3 k4 hbw hV
            go_upto_region 24 with (first
              | (go_at_call 21; refine HAD.out.mono ?_; rintro e w6 ⟨rfl, H6, -⟩; have hI : (w6.alloc (.cells #[Value.int .u8 0, Value.int .u8 0, Value.int .u8 0, Value.int .u8 0, Value.int .u8 0, Value.int .u8 0, Value.int .u8 0, Value.int .u8 0, Value.int .u8 0, Value.int .u8 0, Value.int .u8 0, Value.int .u8 0, Value.int .u8 0, Value.int .u8 0, Value.int .u8 0, Value.int .u8 0, Value.int .u8 0, Value.int .u8 0, Value.int .u8 0, Value.int .u8 0, Value.int .u8 0, Value.int .u8 0, Value.int .u8 0, Value.int .u8 0, Value.int .u8 0, Value.int .u8 0, Value.int .u8 0, Value.int .u8 0, Value.int .u8 0, Value.int .u8 0, Value.int .u8 0, Value.int .u8 0] 47)).heap[w6.heap.size]? = some (.cells #[Value.int .u8 0, Value.int .u8 0, Value.int .u8 0, Value.int .u8 0, Value.int .u8 0, Value.int .u8 0, Value.int .u8 0, Value.int .u8 0, Value.int .u8 0, Value.int .u8 0, Value.int .u8 0, Value.int .u8 0, Value.int .u8 0, Value.int .u8 0, Value.int .u8 0, Value.int .u8 0, Value.int .u8 0, Value.int .u8 0, Value.int .u8 0, Value.int .u8 0, Value.int .u8 0, Value.int .u8 0, Value.int .u8 0, Value.int .u8 0, Value.int .u8 0, Value.int .u8 0, Value.int .u8 0, Value.int .u8 0, Value.int .u8 0, Value.int .u8 0, Value.int .u8 0, Value.int .u8 0] 47 (0, 0)) := Array.getElem?_push_size)
              | (refine wp_storeB rfl 47 _ _ rfl w6.heap.size (nums .u8 id1) rfl rfl hI (by rw [nums_size, hidk.1]; rfl) (by rw [nums_size, hidk.1]; kernel_rfl) (nums_one _ _) ?_; intro w7 h7 g7))
            have H7 := ((H6.below (below_alloc w6 (.cells #[Value.int .u8 0, Value.int .u8 0, Value.int .u8 0, Value.int .u8 0, Value.int .u8 0, Value.int .u8 0, Value.int .u8 0, Value.int .u8 0, Value.int .u8 0, Value.int .u8 0, Value.int .u8 0, Value.int .u8 0, Value.int .u8 0, Value.int .u8 0, Value.int .u8 0, Value.int .u8 0, Value.int .u8 0, Value.int .u8 0, Value.int .u8 0, Value.int .u8 0, Value.int .u8 0, Value.int .u8 0, Value.int .u8 0, Value.int .u8 0, Value.int .u8 0, Value.int .u8 0, Value.int .u8 0, Value.int .u8 0, Value.int .u8 0, Value.int .u8 0, Value.int .u8 0, Value.int .u8 0] 47))).grown g7 (.inr ⟨Nat.le_refl _, by simp⟩)).sub (E' := fun _ => False) (fun k hk => hk.elim)
            clear H6 hI h7 g7
            have HV1 : OrU wK w7 p q (i + 1) (recsIn ps) S1 P1 := ⟨H7.mono (by omega) (by omega) (by omega) (by omega), HK2.out, HK3.out, HK4.out⟩
            have HP7 := Lib.hid H7
            clear H7
            by_cases hk1 : k = 1
            · have hdk : decide ((k : Int) = 1) = true := decide_eq_true (by omega)
              have hdk' : ((k : Int) == 1) = true := by rw [beq_iff_eq]; omega
              clear hk1
              by_cases hio : i < os.length
              · have hd4 : decide ((i : Int) < (os.length : Int)) = true := decide_eq_true (by omega)
                have b2 : (i : Int) < (os.length : Int) := by omega
                obtain ⟨ob, oo, rfl, hob, hoc⟩ := (HO3.out.below HBK.out).at (k := i) (by rw [List.length_map]; exact hio)
                have hbk7 := HV1.pw.out
                have hoi := (hbk7.cell (p := ⟨ob, oo + i, none⟩) hob).trans (hoc i (by rw [List.length_map]; exact hio))
                rw [List.getElem_map] at hoi
                generalize os[i] = ov at hoi
                clear hoc hbk7
                cases ov with
                | true =>
                  obtain ⟨ho1, ho2⟩ := PackS.order_open HV1.t
                  have hop := popen_p HP7.out.ve PackT.nm (by decide) (by omega)
                  unfold OpenP at hop
                  rw [ho1] at hop
                  have HOP := Lib.hid hop
                  have HO2 := Lib.hid ho2
                  clear hop ho1 ho2
                  go_wp2_with (go_at_call 30; refine HOP.out.mono ?_; rintro e w8 ⟨-, h | ⟨P8, q8, hP8, -, rfl, H8⟩⟩; (exact absurd h.1 (by simp)))
                  injection hP8 with hP8
                  go_roundw
                  case rel => exact ⟨i + 1, q8, S1, P8, by omega, by first | rfl | go_num, rfl, H8.mono (by omega) (by omega) (by omega) (by omega), hP8 ▸ HO2.out, HK3.out, HK4.out⟩
                  case measure => simp [intOf]; omega
                | false =>
                  go_wp2_with fail
                  go_roundw
                  case rel => exact ⟨i + 1, q, _, _, by omega, by first | rfl | go_num, rfl, HV1⟩
                  case measure => simp [intOf]; omega
              · have hd4 : decide ((i : Int) < (os.length : Int)) = false := decide_eq_false (by omega)
                go_wp2_with fail
                go_roundw
                case rel => exact ⟨i + 1, q, _, _, by omega, by first | rfl | go_num, rfl, HV1⟩
                case measure => simp [intOf]; omega
            · have hdk : decide ((k : Int) = 1) = false := decide_eq_false (by omega)
              have hdk' : ((k : Int) == 1) = false := by rw [beq_eq_false_iff_ne]; omega
              clear hk1
              go_wp2_with fail
              go_roundw
              case rel => exact ⟨i + 1, q, _, _, by omega, by first | rfl | go_num, rfl, HV1⟩
              case measure => simp [intOf]; omega
          · obtain rfl : i = ps.length := by omega
            have hd2 : decide ((ps.length : Int) < (ps.length : Int)) = false := decide_eq_false (by omega)
            have htk : (recsIn ps).take ps.length = recsIn ps := List.take_of_length_le (by unfold recsIn; rw [List.length_map]; omega)
            have hT := hV.t
            rw [htk, HR.out] at hT
            obtain ⟨t, ht, hft⟩ := hT.read
            have hord : P.order = R.map Sha.sum := by
              have h1 := hT.good.order
              rw [h1, ← HR.out]
              exact (PackS.ids_recs (recsIn ps)).1
            have hrd := pread_p hV.pw PackT.nm (by decide)
            rw [ht] at hrd
            simp only [Option.getD_some, Option.isSome_some, if_true] at hrd
            simp only [← bl_len t, hft, nb_ba] at hrd
            have HRD := Lib.hid hrd
            have HORD := Lib.hid hord
            have hbU := hV.pw.out
            have hU := HU.out.below hbU
            have HBU := Lib.hid hbU
            clear hrd hord ht hft hT htk hV hbU
            have hb50 : w3.heap.size < wK.heap.size := (Array.getElem?_eq_some_iff.1 HU.out.h5).1
            have hb60 : w3.heap.size + 1 < wK.heap.size := (Array.getElem?_eq_some_iff.1 HU.out.h6).1
            obtain ⟨Fk, hFk⟩ : ∃ Fk, (#[F0, F1] : Array Value)[k]? = some Fk := ⟨_, Array.getElem?_eq_getElem (by simpa using hk2)⟩
            obtain ⟨Ik, hIk⟩ : ∃ Ik, (#[I0, I1] : Array Value)[k]? = some Ik := ⟨_, Array.getElem?_eq_getElem (by simpa using hk2)⟩
            have hk0 : (0 : Int) ≤ (k : Int) := by omega
            have hk2' : (k : Int) < 2 := by omega
            go_upto_region 30 with (first
              | (go_at_call 34; refine HRD.out.mono ?_; rintro e w6 ⟨fa, fc, rfl, hfs, H6, hb6⟩; have hU6 := hU.below hb6; have c5 : w6.cell? ⟨w3.heap.size, k, none⟩ = some Fk := (by rw [cell_of hU6.h5]; exact hFk); have f5 : w6.frozen? ⟨w3.heap.size, k, none⟩ = false := (by simp [World.frozen?, hU6.h5])))
            have hfo : FileOk w6 R (.slice fa (PackS.frames R).length fc) := hfs
            obtain ⟨_, g5⟩ := set_blk hU6.h5 k (.slice fa (PackS.frames R).length fc)
            obtain ⟨K, hpk, hK⟩ := H6.pk2
            have hpk7 := hpk.block (w' := w6.setCell ⟨w3.heap.size, k, none⟩ (.slice fa (PackS.frames R).length fc)) fun k' hk' => g5.block k' (hK k' hk').2 (fun e => by injection e with e; have := (hK k' hk').1; omega)
            have hids := ids_c hpk7
            rw [HORD.out] at hids
            have HIDS := Lib.hid hids
            have HFO := Lib.hid hfo
            have HU6 := Lib.hid hU6
            have h76 := hU6.other (v := .slice fa (PackS.frames R).length fc) (by omega)
            have HB6 : Hid (Below w3.heap.size w3 w6) := (HBK.out.trans (HBU.out.mono HBK.out.size)).trans (hb6.mono (HBK.out.trans (HBU.out.mono HBK.out.size)).size)
            have HG5 := Lib.hid g5
            clear hids hpk7 hpk hK g5 hfo hfs hU6 c5 f5 HRD hU H6 hb6
            go_wp2_with (first
              | (go_at_call 41; refine HIDS.out.mono ?_; rintro e w8 ⟨ia, ic, rfl, hoi, hb8⟩; rw [List.length_map] at hoi ⊢; have h86 := (hb8.block _ (Array.getElem?_eq_some_iff.1 h76).1).trans h76; have c6 : w8.cell? ⟨w3.heap.size + 1, k, none⟩ = some Ik := (by rw [cell_of h86]; exact hIk); have f6 : w8.frozen? ⟨w3.heap.size + 1, k, none⟩ = false := (by simp [World.frozen?, h86])))
            have hg7 := HG5.out.size
            have hb9 : Below w3.heap.size w3 (w8.setCell ⟨w3.heap.size + 1, k, none⟩ (.slice ia R.length ic)) := by
              obtain ⟨_, g6⟩ := set_blk h86 k (.slice ia R.length ic)
              have h1 := HB6.out.grown HG5.out HB6.out.size (fun k e => by injection e with e; omega)
              have h2 := h1.trans (hb8.mono h1.size)
              exact h2.grown g6 h2.size (fun k e => by injection e with e; omega)
            obtain ⟨F0', F1', I0', I1', hU9⟩ := HU6.out.step (by omega) hk2 HFO.out hb8 hoi
            go_roundw
            case rel => exact ⟨k + 1, F0', F1', I0', I1', by omega, by first | rfl | go_num, hb9, hU9⟩
            case measure => simp [intOf]; omega
      · have hd : decide ((k : Int) < 2) = false := decide_eq_false (by omega)
        have hU := HU.out
        have hf0 := hU.f0 (by omega)
        have hf1 := hU.f1 (by omega)
        have hi0 := hU.i0 (by omega)
        have hi1 := hU.i1 (by omega)
        obtain ⟨fa0, fc0, rfl, -, -, hfs0⟩ := OwnG.form hf0
        obtain ⟨fa1, fc1, rfl, -, -, hfs1⟩ := OwnG.form hf1
        obtain ⟨ia0, ic0, rfl, -, -, his0⟩ := OwnG.form hi0
        obtain ⟨ia1, ic1, rfl, -, -, his1⟩ := OwnG.form hi1
        have c50 : wK.cell? ⟨w3.heap.size, 0, none⟩ = some (.slice fa0 (PackS.frames R).length fc0) := by rw [cell_of hU.h5]; rfl
        have c51 : wK.cell? ⟨w3.heap.size, 1, none⟩ = some (.slice fa1 (PackS.frames R).length fc1) := by rw [cell_of hU.h5]; rfl
        have c60 : wK.cell? ⟨w3.heap.size + 1, 0, none⟩ = some (.slice ia0 R.length ic0) := by rw [cell_of hU.h6]; rfl
        have c61 : wK.cell? ⟨w3.heap.size + 1, 1, none⟩ = some (.slice ia1 R.length ic1) := by rw [cell_of hU.h6]; rfl
        have hfb : ∀ x ∈ PackS.frames R, x < 256 := frames_lt fun d hd => by
          rw [← HR.out] at hd
          obtain ⟨q, hq, rfl⟩ := List.mem_map.1 (PackS.recs_mem hd)
          exact (HI3.out.each q hq).2.1
        have hAt : PackS.AtOk R (recsIn ps) 0 0 := PackS.AtOk.zero (by rw [← HR.out]; exact PackS.recs_sublist _)
        have hRl : R.length ≤ ps.length := by
          have := (PackS.recs_sublist (recsIn ps)).length_le
          rw [HR.out] at this
          unfold recsIn at this
          rwa [List.length_map] at this
        have hc0 := run_str_of (P := Tryd.prog) Tryd.underlying43 Tryd.underlying5 Tryd.underlying9 (b := ofL (PackS.frames R)) (by rw [byteCells_ofL hfb]; exact hfs0) fc0
        have hc1 := run_str_of (P := Tryd.prog) Tryd.underlying43 Tryd.underlying5 Tryd.underlying9 (b := ofL (PackS.frames R)) (by rw [byteCells_ofL hfb]; exact hfs1) fc1
        rw [ofL_size] at hc0 hc1
        have hcmp : ((ofL (PackS.frames R)).toList == (ofL (PackS.frames R)).toList) = true := beq_self_eq_true _
        have hb60 : w3.heap.size + 1 < wK.heap.size := (Array.getElem?_eq_some_iff.1 hU.h6).1
        clear hf0 hf1 hi0 hi1 hfs0 hfs1 hU HU hfb hgk
        have HC60 : Hid (∀ W, Below wK.heap.size wK W → W.cell? ⟨w3.heap.size + 1, 0, none⟩ = some (.slice ia0 R.length ic0)) := fun W hW => (hW.cell (p := ⟨w3.heap.size + 1, 0, none⟩) hb60).trans c60
        have HC61 : Hid (∀ W, Below wK.heap.size wK W → W.cell? ⟨w3.heap.size + 1, 1, none⟩ = some (.slice ia1 R.length ic1)) := fun W hW => (hW.cell (p := ⟨w3.heap.size + 1, 1, none⟩) hb60).trans c61
        have hu47 := id_under
        have hi47 : ∀ x : List Nat, (Tryd.prog.info? 47).map (·.size) = some (nb (Sha.sum x)).length := fun x => by rw [nb_len, PackS.sum_len]; kernel_rfl
        have HFIN : Hid (∀ W, Below wK.heap.size wK W → Below w.heap.size w W) := fun W hW => HB3.out.trans ((HBK.out.trans (hW.mono HBK.out.size)).mono HB3.out.size)
        go_wp2_with fail
        go_loopw [114, 16] (fun iv av wx => ∃ i k : Nat, i ≤ R.length ∧ iv = .int .i64 i ∧ av = .int .i64 k ∧ PackS.AtOk R (recsIn ps) i k ∧ Below wK.heap.size wK wx) (fun iv _ _ => (R.length - intOf iv).toNat)
        case atStart => exact ⟨0, 0, Nat.zero_le _, rfl, rfl, hAt, Below.refl _ _⟩
        case round =>
          clear hAt
          obtain ⟨i, k, hi, rfl, rfl, hAt, hbr⟩ := hrel
          rename World => wr3
          by_cases hil : i < R.length
          · have hd2 : decide ((i : Int) < (R.length : Int)) = true := decide_eq_true (by omega)
            obtain ⟨x0, o0, rfl, hx0, hr0⟩ := ids_at his0 hil
            obtain ⟨x1, o1, rfl, hx1, hr1⟩ := ids_at his1 hil
            have hi47x := hi47 R[i]
            have HS37 : Hid (∀ W, Below wK.heap.size wK W → W.cell? ⟨w3.heap.size + 1, 0, none⟩ = some (.slice (some ⟨x0, o0, none⟩) R.length ic0) ∧ W.cell? ⟨w3.heap.size + 1, 1, none⟩ = some (.slice (some ⟨x1, o1, none⟩) R.length ic1) ∧ W.rangeAt x0 (o0 + i * 32) (nb (Sha.sum R[i])) ∧ W.rangeAt x1 (o1 + i * 32) (nb (Sha.sum R[i]))) := fun W hW =>
              ⟨HC60.out W hW, HC61.out W hW, fun j u hu => (hW.cell (p := ⟨x0, o0 + i * 32 + j, none⟩) hx0).trans (hr0 j u hu), fun j u hu => (hW.cell (p := ⟨x1, o1 + i * 32 + j, none⟩) hx1).trans (hr1 j u hu)⟩
            have hzx : ∀ W, (binOp .neq 47 (.agg (nb (Sha.sum R[i])).toArray) (.agg (nb (Sha.sum R[i])).toArray)).run Tryd.prog W = .ok (.bool false) W := fun W => by
              have := id_neq (okId_sum R[i]) (okId_sum R[i]) W
              rw [decide_eq_true rfl] at this
              exact this
            have hrs : ∃ x, Sha.sum R[i] = x := ⟨_, rfl⟩
            obtain ⟨x, hx⟩ := hrs
            have hox := okId_sum R[i]
            rw [hx] at HS37 hzx hi47x hox
            have HX := Lib.hid hx
            have b0 : (0 : Int) ≤ (i : Int) := by omega
            have b1 : (i : Int) < (R.length : Int) := by omega
            have hbd3 : Below wK.heap.size wK wr3.drew := hbr.trans (below_dN ((Below.refl _ wr3).mono hbr.size) 1)
            have HBD3 := Lib.hid hbd3
            clear hx hr0 hr1 his0 his1 hbd3
            go_wp2_with fail
            go_cut [127] from 117 to 127 (fun v127 wx => v127 = .bool false ∧ Below wK.heap.size wK wx)
            case first =>
              have f0 := fun p => (HS37.out _ (hbr.trans ((bw_below wr3 p).mono hbr.size))).1
              have f1 := fun p => (HS37.out _ (hbr.trans ((bw_below wr3 p).mono hbr.size))).2.1
              refine wp_region_bw (by kernel_rfl) (by kernel_rfl) ?_
              iterate 4 quiet_step (fail)
              refine wpQuiet_loadM rfl 47 _ rfl x0 (o0 + i * 32) rfl (fun W hW => by obtain ⟨p, rfl⟩ := hW; exact (HS37.out _ (hbr.trans ((bw_below wr3 p).mono hbr.size))).2.2.1) _ id_under rfl hi47x ?_
              iterate 4 quiet_step (fail)
              refine wpQuiet_loadM rfl 47 _ rfl x1 (o1 + i * 32) rfl (fun W hW => by obtain ⟨p, rfl⟩ := hW; exact (HS37.out _ (hbr.trans ((bw_below wr3 p).mono hbr.size))).2.2.2) _ id_under rfl hi47x ?_
              quiet_step (fail)
              refine wpQuiet_nil ?_
              rintro Wn ⟨pn, hWn⟩
              have hbx : Below wK.heap.size wK Wn := hbr.trans ((show Below wr3.heap.size wr3 Wn by rw [hWn]; exact bw_below _ _).mono hbr.size)
              clear hWn f0 f1
              go_wp2_with fail
              go_meet
              case rel => exact ⟨rfl, hbx⟩
            case rest =>
              obtain ⟨rfl, hbx⟩ := hcut
              rename World => w37
              go_wp2_with fail
              go_loopw [16] (fun av wx => ∃ k : Nat, av = .int .i64 k ∧ PackS.AtOk R (recsIn ps) i k ∧ Below wK.heap.size wK wx) (fun av _ => (ps.length - intOf av).toNat)
              case atStart => exact ⟨k, rfl, hAt, hbx⟩
              case round =>
                clear hAt hbx
                obtain ⟨k, rfl, hAt, hb4⟩ := hrel
                have hkl : k < (recsIn ps).length := hAt.lt hil
                have hkp : k < ps.length := by unfold recsIn at hkl; rwa [List.length_map] at hkl
                have hd3 : decide ((k : Int) < (ps.length : Int)) = true := decide_eq_true (by omega)
                have hb3 : Below w3.heap.size w3 wr := HBK.out.trans (hb4.mono HBK.out.size)
                obtain ⟨b, o, rfl, hb, hc⟩ := HI3.out.at hkp
                have hck := (hb3.cell (p := ⟨b, o + k, none⟩) hb).trans (hc k hkp)
                obtain ⟨hsl, hbb, hll⟩ := HI3.out.each ps[k] (List.getElem_mem hkp)
                have hsl := hsl.below hb3
                have hrk : (recsIn ps)[k]'hkl = ps[k].2.2 := recsIn_get ps k hkl
                have HSK : Hid (Sha.sum ps[k].2.2 ≠ x → PackS.AtOk R (recsIn ps) i (k + 1)) := fun hne => hAt.skip hil (by rw [hrk, HX.out]; exact hne)
                have HNX : Hid (PackS.AtOk R (recsIn ps) (i + 1) k) := hAt.next hil
                generalize ps[k] = part at *
                obtain ⟨da, dc, d⟩ := part
                simp only at hck hsl hbb hll HSK
                have hbw : b < wr.heap.size := Nat.lt_of_lt_of_le hb hb3.size
                have HS : Hid (∀ W, Below wr.heap.size wr W → W.cell? ⟨b, o + k, none⟩ = some (.slice da d.length dc) ∧ W.cell? ⟨w3.heap.size + 1, 0, none⟩ = some (.slice (some ⟨x0, o0, none⟩) R.length ic0) ∧ W.rangeAt x0 (o0 + i * 32) (nb x)) := fun W hW =>
                  ⟨(hW.cell (p := ⟨b, o + k, none⟩) hbw).trans hck, (HS37.out _ (hb4.trans (hW.mono hb4.size))).1, (HS37.out _ (hb4.trans (hW.mono hb4.size))).2.2.1⟩
                have HSUM : Hid (∀ W b, Below wr.heap.size wr W → W.heap[b]? = some (.cells #[.slice da d.length dc] 43 (0, 0)) → Calls Tryd.prog 43 #[.slice (some ⟨b, 0, none⟩) 1 1] W fun e w' => e = .returned (.agg (nums .u8 (Sha.sum d))) ∧ Below W.heap.size W w') := fun W b hW hh => sum1_at hh (hsl.below hW) hbb (by omega)
                have HBD : Hid (Below wr.heap.size wr wr.drew) := below_dN (Below.refl _ wr) 1
                have hneq : ∀ W, (binOp .neq 47 (.agg (nums .u8 (Sha.sum d))) (.agg (nb x).toArray)).run Tryd.prog W = .ok (.bool (!decide (Sha.sum d = x))) W := fun W => id_neq (okId_sum d) hox W
                obtain ⟨t, ht⟩ : ∃ t, (!decide (Sha.sum d = x)) = t := ⟨_, rfl⟩
                rw [ht] at hneq
                have HT := Lib.hid ht
                have HB4 := Lib.hid hb4
                have b2 : (0 : Int) ≤ (k : Int) := by omega
                have b3 : (k : Int) < (ps.length : Int) := by omega
                have hw1 : IntKind.i64.wrap ((k : Int) + 1) = ((k + 1 : Nat) : Int) := IntWalk.i64_in _ (by omega)
                have hw2 : IntKind.i64.wrap ((i : Int) + 1) = ((i + 1 : Nat) : Int) := IntWalk.i64_in _ (by omega)
                clear ht hb4 hb3 hc hck hsl hrk hAt hkl
                go_wp2_with fail
                go_cut [145] from 128 to 145 (fun v145 wx => v145 = .bool t ∧ Below wK.heap.size wK wx)
                case first =>
                  go_region_held3 (fun W => W.cell? ⟨b, o + k, none⟩ = some (.slice da d.length dc) ∧ W.cell? ⟨w3.heap.size + 1, 0, none⟩ = some (.slice (some ⟨x0, o0, none⟩) R.length ic0) ∧ W.rangeAt x0 (o0 + i * 32) (nb x))
                    (first | exact HS.out _ HBD.out | exact HS.out _ (HBD.out.alloc HBD.out.size _) | exact HS.out _ hbz | go_keep)
                    (first
                      | (go_at_call 43; refine (HSUM.out _ _ ?_ ?_).mono ?_; (first | exact HBD.out.alloc HBD.out.size _); (first | exact push_at rfl); rintro e w' ⟨rfl, hb'⟩; have hbz : Below wr.heap.size wr w' := (HBD.out.alloc HBD.out.size _).trans (hb'.mono (HBD.out.alloc HBD.out.size _).size)))
                  all_goals
                    go_wp2_with fail
                    go_meet
                    case rel => exact ⟨rfl, HB4.out.trans (hbz.mono HB4.out.size)⟩
                case rest =>
                  obtain ⟨rfl, hbx⟩ := hcut
                  cases t with
                  | true =>
                    have hne : Sha.sum d ≠ x := by have := HT.out; simpa using this
                    go_wp2_with fail
                    go_roundw
                    case rel => exact ⟨k + 1, by first | rfl | go_num, HSK.out hne, hbx⟩
                    case measure => simp [intOf]; omega
                  | false =>
                    go_wp2_with fail
                    go_roundw
                    case rel => exact ⟨i + 1, k, by omega, by first | rfl | go_num, rfl, HNX.out, hbx⟩
                    case measure => simp [intOf]; omega
          · obtain rfl : i = R.length := by omega
            have hd2 : decide ((R.length : Int) < (R.length : Int)) = false := decide_eq_false (by omega)
            have hlast := hAt.last
            rw [show (recsIn ps).length = ps.length from List.length_map _] at hlast
            have c60' := HC60.out _ hbr
            clear his0 his1
            by_cases hkp : k < ps.length
            · have hd3 : decide ((k : Int) < (ps.length : Int)) = true := decide_eq_true (by omega)
              go_wp2_with fail
              go_ret
              exact ⟨rfl, HFIN.out _ hbr⟩
            · have hd3 : decide ((k : Int) < (ps.length : Int)) = false := decide_eq_false (by omega)
              have hR0 : R.length = 0 := by omega
              have hd4 : decide ((R.length : Int) = 0) = true := decide_eq_true (by omega)
              have hd4' : ((R.length : Int) == 0) = true := by rw [beq_iff_eq]; omega
              clear hR0 hlast
              go_wp2_with fail
              go_ret
              exact ⟨rfl, HFIN.out _ hbr⟩
end Go.Proofs.YtfoamcobpfflbaaDoor
