/- Texts of mine, joined: Walks: has a pack just the ids of some records? -/
import Derived.Test.YtfoamcobpfflbaaDoorZ45
namespace Go.Proofs.YtfoamcobpfflbaaDoor
open Go Go.RowKit Go.Maps
open VfsS (St)

/-- Ids of the call's own. -/
structure WnU (w wx : World) (v : Value) (I : List (List Nat)) : Prop where
  b : Below w.heap.size w wx
  r : OwnG wx 47 32 v I.length (irow I)
  new : ∀ k, v.ownBlock = some k → w.heap.size ≤ k
theorem WnU.nil (w : World) : WnU w w (.slice none 0 0) [] := ⟨Below.refl _ _, OwnG.nil _ _ _, fun k h => by cases h⟩
theorem WnU.below {w wx w' : World} {v : Value} {I : List (List Nat)} (h : WnU w wx v I) (hb : Below wx.heap.size wx w') : WnU w w' v I := ⟨h.b.trans (hb.mono h.b.size), h.r.below hb, h.new⟩
theorem WnU.app {w wx w' : World} {v v' : Value} {I : List (List Nat)} {x : List Nat} (h : WnU w wx v I) (ho : OwnG w' 47 32 v' (I.length + 1) (irow I ++ nb x)) (hg : wx.grownBy w' v.ownBlock) (hv : ∀ k, v'.ownBlock = some k → v.ownBlock = some k ∨ wx.heap.size ≤ k) : WnU w w' v' (I ++ [x]) := by
  have hz := h.b.size
  refine ⟨h.b.grown hg h.b.size (fun k e => h.new k e), ?_, fun k hk => (hv k hk).elim (h.new k) (fun h => by omega)⟩
  rw [List.length_append, irow_app, irow_one]; exact ho
theorem ids_ok {L : List (List Nat)} : ∀ x ∈ PackS.ids L, OkId x := by
  unfold PackS.ids
  suffices h : ∀ (M o : List (List Nat)), (∀ x ∈ o, OkId x) → ∀ x ∈ M.foldl PackS.addId o, OkId x from h L [] fun x h => by cases h
  intro M
  induction M with
  | nil => exact fun o h => h
  | cons d M ih =>
    intro o h
    refine ih _ fun x hx => ?_
    unfold PackS.addId at hx
    split at hx
    · exact h x hx
    · rcases List.mem_append.1 hx with hx | hx
      · exact h x hx
      · rw [List.mem_singleton] at hx; subst hx; exact okId_sum d
theorem ids_take {L : List (List Nat)} {i : Nat} (hi : i < L.length) : PackS.ids (L.take (i + 1)) = PackS.addId (PackS.ids (L.take i)) L[i] := by
  unfold PackS.ids
  rw [List.take_add_one, List.getElem?_eq_getElem hi, List.foldl_append]; rfl
theorem ids_le (L : List (List Nat)) (i : Nat) : (PackS.ids (L.take i)).length ≤ i := by
  suffices h : ∀ (M o : List (List Nat)), (M.foldl PackS.addId o).length ≤ o.length + M.length by
    have := h (L.take i) []
    unfold PackS.ids
    rw [List.length_take] at this
    simp only [List.length_nil] at this
    omega
  intro M
  induction M with
  | nil => exact fun o => Nat.le_refl _
  | cons d M ih =>
    intro o
    have := ih (PackS.addId o d)
    rw [List.foldl_cons, List.length_cons]
    have h2 : (PackS.addId o d).length ≤ o.length + 1 := by
      unfold PackS.addId
      split
      · omega
      · rw [List.length_append]; simp
    omega
/-- An id's cells in a row of ids. -/
theorem ids_at' {W : World} {a : Option Addr} {I : List (List Nat)} (h : Sl W a (irow I)) (hI : ∀ x ∈ I, OkId x) {i : Nat} (hi : i < I.length) : ∃ b o, a = some ⟨b, o, none⟩ ∧ b < W.heap.size ∧ W.rangeAt b (o + i * 32) (nb I[i]) := by
  have hlen := irow_len I fun x hx => (hI x hx).1
  obtain ⟨b, o, e, hb, hc⟩ := h.at (k := i * 32) (by omega)
  refine ⟨b, o, e, hb, fun j u hu => ?_⟩
  have hj : j < 32 := by
    have := (List.getElem?_eq_some_iff.1 hu).1
    rw [nb_len, (hI _ (List.getElem_mem hi)).1] at this
    exact this
  have h1 := irow_at I (fun x hx => (hI x hx).1) i hi j hj
  rw [hu] at h1
  obtain ⟨hlt, h2⟩ := List.getElem?_eq_some_iff.1 h1
  have := hc (i * 32 + j) hlt
  rw [h2] at this
  rw [Nat.add_assoc]
  exact this

/-- .. under a guard that lets it. -/
theorem wpQuiet_loadMg {P : Program} {ops : Array Oper} {C : World → Prop} {Q : Act → Prop} {a : Act} {o : Oper} {rest : List Oper} (hw : Region.wanted o (yielded ops a.tmps) = true) (ty : TypeId) (x : Operand) (ho : o.op = .load ty x) (b f : Nat) (hx : a.eval x = .pointer (some ⟨b, f, none⟩)) {cs : List Value}
    (hb : ∀ w, C w → w.rangeAt b f cs) (d : TypeDesc) (hu : P.underlying ty = some d) (hd : d.isRow = true) (hi : (P.info? ty).map (·.size) = some cs.length) (h : wpQuiet P ops C Q rest (a.put o.dst (.agg cs.toArray))) : wpQuiet P ops C Q (o :: rest) a := by
  unfold wpQuiet
  rw [if_pos hw]
  refine ⟨_, fun w hw => ?_, h⟩
  unfold Oper.quietAt
  have hl := run_loadVar_mid (P := P) w b f ty cs d (fun j v hj => hb w hw j v hj) hu hd hi
  have : (execOp a.eval o).run P w = .ok (.value (.agg cs.toArray)) w := by
    unfold execOp
    simp only [ho, hx, Instr.loadAt, Instr.sureAddr, Sem.run_bind, Sem.run_pure, Result.andThen_ok, hl]
  rw [this]
  exact ⟨rfl, rfl⟩

theorem mem_take_succ {I : List (List Nat)} {x : List Nat} {j : Nat} (hj : j < I.length) : decide (x ∈ I.take (j + 1)) = (decide (x ∈ I.take j) || decide (I[j] = x)) := by
  rw [List.take_add_one, List.getElem?_eq_getElem hj, ← Bool.decide_or]
  congr 1
  simp only [Option.toList_some, List.mem_append, List.mem_singleton, eq_iff_iff]
  constructor
  · rintro (h | h)
    · exact .inl h
    · exact .inr h.symm
  · rintro (h | h)
    · exact .inl h
    · exact .inr h.symm

set_option maxRecDepth 100000 in
set_option maxHeartbeats 4000000 in
theorem known_c {w : World} {q p N : Nat} {P : PackS.Pk} {K : Nat → Prop} {nm : ByteArray} {L : List (List Nat)} (hk : PK w q p P K N) (hgd : PackS.Good P nm L) {a : Option Addr} {c : Nat} (hr : Sl w a (srow L)) (hL : ∀ d ∈ L, d.length ≤ 524288 ∧ ∀ x ∈ d, x < 256) (hl : L.length ≤ 400000) :
    Calls Tryd.prog 37 #[.pointer (some ⟨q, 0, none⟩), .slice a L.length c] w fun e w' => e = .returned (.bool true) ∧ Below w.heap.size w w' := by
  go_enter Tryd.func37, Tryd.ntmps37
  go_wp2_with fail
  go_loopw [16, 5] (fun iv wv wx => ∃ i : Nat, i ≤ L.length ∧ iv = .int .i64 i ∧ WnU w wx wv (PackS.ids (L.take i))) (fun iv _ _ => (L.length - intOf iv).toNat)
  case atStart => exact ⟨0, Nat.zero_le _, rfl, WnU.nil w⟩
  case round =>
    obtain ⟨i, hi, rfl, hU⟩ := hrel
    by_cases hil : i < L.length
    · have hd : decide ((i : Int) < (L.length : Int)) = true := decide_eq_true (by omega)
      obtain ⟨b, o, rfl, hb, hc⟩ := hr.at (k := i) (by rw [srow_len]; exact hil)
      have hci := (hU.b.cell (p := ⟨b, o + i, none⟩) hb).trans (hc i (by rw [srow_len]; exact hil))
      have hse : (srow L)[i]'(by rw [srow_len]; exact hil) = .string (ofL L[i]) := by unfold srow; rw [List.getElem_map]
      rw [hse] at hci
      obtain ⟨hdl, hdb⟩ := hL L[i] (List.getElem_mem hil)
      have hit := ids_take hil
      have hIl := ids_le L i
      have hIo : ∀ x ∈ PackS.ids (L.take i), OkId x := ids_ok
      generalize PackS.ids (L.take i) = I at *
      generalize hdd : L[i] = d at *
      have hsum := fun W : World => refsum_c (w := W) (ofL d) (by rw [ofL_size]; omega)
      rw [bl_ofL hdb] at hsum
      have hx := okId_sum d
      unfold PackS.addId at hit
      generalize Sha.sum d = x at *
      have HSUM := Lib.hid hsum
      have HIT := Lib.hid hit
      have HIO := Lib.hid hIo
      have HU := Lib.hid hU
      rename World => w2
      obtain ⟨wa, wc', e, -, -, hIs⟩ := hU.r.form
      subst e
      have hw1 : IntKind.i64.wrap ((i : Int) + 1) = ((i + 1 : Nat) : Int) := IntWalk.i64_in _ (by omega)
      have b0 : (0 : Int) ≤ (i : Int) := by omega
      have b1 : (i : Int) < (L.length : Int) := by omega
      clear hit hIo hsum hc hse hU hdd hdl hdb
      go_upto_region 8 with (first
        | (go_at_call 32; refine (HSUM.out _).mono ?_; rintro e w3 ⟨rfl, hb3⟩; have hI : (w3.alloc (.cells #[Value.int .u8 0, Value.int .u8 0, Value.int .u8 0, Value.int .u8 0, Value.int .u8 0, Value.int .u8 0, Value.int .u8 0, Value.int .u8 0, Value.int .u8 0, Value.int .u8 0, Value.int .u8 0, Value.int .u8 0, Value.int .u8 0, Value.int .u8 0, Value.int .u8 0, Value.int .u8 0, Value.int .u8 0, Value.int .u8 0, Value.int .u8 0, Value.int .u8 0, Value.int .u8 0, Value.int .u8 0, Value.int .u8 0, Value.int .u8 0, Value.int .u8 0, Value.int .u8 0, Value.int .u8 0, Value.int .u8 0, Value.int .u8 0, Value.int .u8 0, Value.int .u8 0, Value.int .u8 0] 47)).heap[w3.heap.size]? = some (.cells #[Value.int .u8 0, Value.int .u8 0, Value.int .u8 0, Value.int .u8 0, Value.int .u8 0, Value.int .u8 0, Value.int .u8 0, Value.int .u8 0, Value.int .u8 0, Value.int .u8 0, Value.int .u8 0, Value.int .u8 0, Value.int .u8 0, Value.int .u8 0, Value.int .u8 0, Value.int .u8 0, Value.int .u8 0, Value.int .u8 0, Value.int .u8 0, Value.int .u8 0, Value.int .u8 0, Value.int .u8 0, Value.int .u8 0, Value.int .u8 0, Value.int .u8 0, Value.int .u8 0, Value.int .u8 0, Value.int .u8 0, Value.int .u8 0, Value.int .u8 0, Value.int .u8 0, Value.int .u8 0] 47 (0, 0)) := Array.getElem?_push_size)
        | (refine wp_storeB rfl 47 _ _ rfl w3.heap.size (nums .u8 x) rfl rfl hI (by rw [nums_size, hx.1]; rfl) (by rw [nums_size, hx.1]; kernel_rfl) (nums_one _ _) ?_; intro w4 h4 g4))
      have hb4 : Below w2.heap.size w2 w4 := ((hb3.alloc hb3.size _).grown g4 (hb3.alloc hb3.size _).size (fun k e => by injection e with e; have := hb3.size; omega))
      generalize w3.heap.size = b8 at *
      have hIs4 := hIs.below hb4
      have HU4 := Lib.hid (HU.out.below hb4)
      have hl8 := (Array.getElem?_eq_some_iff.1 h4).1
      clear hb3 hI g4 hIs hci HU hb4
      go_loopw [24, 9] (fun jv tv wx => ∃ j : Nat, j ≤ I.length ∧ jv = .int .i64 j ∧ tv = .bool (decide (x ∈ I.take j)) ∧ Below w4.heap.size w4 wx) (fun jv _ _ => (I.length - intOf jv).toNat)
      case atStart => exact ⟨0, Nat.zero_le _, rfl, by simp, Below.refl _ _⟩
      case round =>
        obtain ⟨j, hj, rfl, rfl, hbr⟩ := hrel
        by_cases hjl : j < I.length
        · have hd2 : decide ((j : Int) < (I.length : Int)) = true := decide_eq_true (by omega)
          obtain ⟨x1, o1, rfl, hx1, hr1⟩ := ids_at' hIs4 HIO.out hjl
          have hoy := HIO.out _ (List.getElem_mem hjl)
          have hmt := mem_take_succ (x := x) hjl
          have hrj : wr.rangeAt x1 (o1 + j * 32) (nb I[j]) := fun k u hu => (hbr.cell (p := ⟨x1, o1 + j * 32 + k, none⟩) hx1).trans (hr1 k u hu)
          have h8r := (hbr.block b8 hl8).trans h4
          generalize I[j] = y at *
          obtain ⟨t, ht⟩ : ∃ t, decide (x ∈ I.take j) = t := ⟨_, rfl⟩
          rw [ht] at hmt ⊢
          have HMT := Lib.hid hmt
          have HBR := Lib.hid hbr
          have hi47 : (Tryd.prog.info? 47).map (·.size) = some (nb y).length := by rw [nb_len, hoy.1]; kernel_rfl
          have hI2 : (wr.alloc (.cells #[Value.int .u8 0, Value.int .u8 0, Value.int .u8 0, Value.int .u8 0, Value.int .u8 0, Value.int .u8 0, Value.int .u8 0, Value.int .u8 0, Value.int .u8 0, Value.int .u8 0, Value.int .u8 0, Value.int .u8 0, Value.int .u8 0, Value.int .u8 0, Value.int .u8 0, Value.int .u8 0, Value.int .u8 0, Value.int .u8 0, Value.int .u8 0, Value.int .u8 0, Value.int .u8 0, Value.int .u8 0, Value.int .u8 0, Value.int .u8 0, Value.int .u8 0, Value.int .u8 0, Value.int .u8 0, Value.int .u8 0, Value.int .u8 0, Value.int .u8 0, Value.int .u8 0, Value.int .u8 0] 47)).heap[wr.heap.size]? = some (.cells #[Value.int .u8 0, Value.int .u8 0, Value.int .u8 0, Value.int .u8 0, Value.int .u8 0, Value.int .u8 0, Value.int .u8 0, Value.int .u8 0, Value.int .u8 0, Value.int .u8 0, Value.int .u8 0, Value.int .u8 0, Value.int .u8 0, Value.int .u8 0, Value.int .u8 0, Value.int .u8 0, Value.int .u8 0, Value.int .u8 0, Value.int .u8 0, Value.int .u8 0, Value.int .u8 0, Value.int .u8 0, Value.int .u8 0, Value.int .u8 0, Value.int .u8 0, Value.int .u8 0, Value.int .u8 0, Value.int .u8 0, Value.int .u8 0, Value.int .u8 0, Value.int .u8 0, Value.int .u8 0] 47 (0, 0)) := Array.getElem?_push_size
          have heql : ∀ W, (binOp .eql 47 (.agg (nums .u8 y)) (.agg (nums .u8 x))).run Tryd.prog W = .ok (.bool (decide (y = x))) W := fun W => id_eql hoy hx W
          obtain ⟨t2, ht2⟩ : ∃ t2, decide (y = x) = t2 := ⟨_, rfl⟩
          rw [ht2] at heql
          have HT2 := Lib.hid ht2
          have hw2 : IntKind.i64.wrap ((j : Int) + 1) = ((j + 1 : Nat) : Int) := IntWalk.i64_in _ (by omega)
          have b2 : (0 : Int) ≤ (j : Int) := by omega
          have b3 : (j : Int) < (I.length : Int) := by omega
          have hl8r : b8 < wr.heap.size := (Array.getElem?_eq_some_iff.1 h8r).1
          clear ht ht2 hmt hr1
          go_upto_region 10 with (first
            | (refine wpList_load_mid rfl 47 _ rfl x1 (o1 + j * 32) rfl (nb y) _ hrj id_under rfl hi47 ?_)
            | (refine wp_storeB rfl 47 _ _ rfl wr.heap.size (nums .u8 y) rfl rfl hI2 (by rw [nums_size, hoy.1]; rfl) (by rw [nums_size, hoy.1]; kernel_rfl) (nums_one _ _) ?_; intro w5 h5 g5))
          have hb5 : Below wr.heap.size wr w5 := ((Below.refl _ wr).alloc (Nat.le_refl _) _).grown g5 (by simp) (fun k e => by injection e with e; omega)
          have h85 := (hb5.block b8 hl8r).trans h8r
          have hbx : Below w4.heap.size w4 w5 := HBR.out.trans (hb5.mono HBR.out.size)
          clear hI2 g5 hrj hb5 hbr h8r
          generalize wr.heap.size = b11 at *
          cases t with
          | true =>
            have hm1 : decide (x ∈ I.take (j + 1)) = true := by rw [HMT.out]; rfl
            have HM1 := Lib.hid hm1
            clear hm1
            go_wp2_with fail
            go_roundw
            case rel => exact ⟨j + 1, by omega, by first | rfl | go_num, by rw [HM1.out], hbx⟩
            case measure => simp [intOf]; omega
          | false =>
            have hm1 : decide (x ∈ I.take (j + 1)) = t2 := by rw [HMT.out, HT2.out]; rfl
            have HM1 := Lib.hid hm1
            clear hm1
            go_wp2_with (first
              | (refine wp_loadBg rfl 47 _ rfl b11 rfl h5 _ id_under rfl (idSz _ hoy) ?_)
              | (refine wp_loadBg rfl 47 _ rfl b8 rfl h85 _ id_under rfl (idSz _ hx) ?_))
            go_roundw
            case rel => exact ⟨j + 1, by omega, by first | rfl | go_num, by rw [HM1.out], hbx⟩
            case measure => simp [intOf]; omega
        · obtain rfl : j = I.length := by omega
          have hd2 : decide ((I.length : Int) < (I.length : Int)) = false := decide_eq_false (by omega)
          rw [List.take_length]
          have hUr := HU4.out.below hbr
          have h8r := (hbr.block b8 hl8).trans h4
          by_cases hmem : x ∈ I
          · have hit := HIT.out
            rw [if_pos hmem] at hit
            rw [decide_eq_true hmem]
            have HUR := Lib.hid hUr
            have HIT2 := Lib.hid hit
            clear hmem hit hUr h8r
            go_wp2_with fail
            go_roundw
            case rel => exact ⟨i + 1, by omega, by first | rfl | go_num, by rw [HIT2.out]; exact HUR.out⟩
            case measure => simp [intOf]; omega
          · have hit := HIT.out
            rw [if_neg hmem] at hit
            rw [decide_eq_false hmem]
            have HIT2 := Lib.hid hit
            have hU9 := hUr.below ((Below.refl _ wr).alloc (Nat.le_refl _) (.cells (nums .u8 x) 47))
            have hU9r := hU9.r
            have HU9 := Lib.hid hU9
            have h63 : I.length + 1 ≤ maxLen := by simp [maxLen]; omega
            have h47 : (I.length + 1) * 32 ≤ 140737488355328 := by omega
            have hsr : Src Tryd.prog 32 76 (.slice (some ⟨wr.heap.size, 0, none⟩) 1 1) 1 (nb x) (wr.alloc (.cells (nums .u8 x) 47)) := Src.ofNew (e := 47) (news := nb x) Tryd.underlying76 (by rw [nb_len, hx.1]) (nb_one _)
            have hz32 : (Value.agg (nums .u8 (List.replicate 32 0))).cells.size = 32 := by simp [Value.cells, nums]
            clear hmem hit hUr hU9
            go_wp2_with (first
              | (refine wp_loadB rfl 47 _ rfl b8 rfl h8r _ id_under rfl (idSz _ hx) ?_)
              | (refine wpList_ids1 rfl hx _ rfl (by simp only [Act.put, List.setIfInBounds_toArray]; simp [Act.eval]) ?_)
              | (at_builtin; refine wp_appG (xv := .slice (some ⟨wr.heap.size, 0, none⟩) 1 1) rfl _ _ _ _ rfl idElem hz32 rfl hU9r rfl hsr h63 h47 ?_; intro v9 w9 ho9 hg9 hv9))
            have hUA := HU9.out.app ho9 hg9 hv9
            go_roundw
            case rel => exact ⟨i + 1, by omega, by first | rfl | go_num, by rw [HIT2.out]; exact hUA⟩
            case measure => simp [intOf]; omega
    · obtain rfl : i = L.length := by omega
      have hd : decide ((L.length : Int) < (L.length : Int)) = false := decide_eq_false (by omega)
      rw [List.take_length] at hU
      have hIl := ids_le L L.length
      rw [List.take_length] at hIl
      have hIo : ∀ x ∈ PackS.ids L, OkId x := ids_ok
      have hhas : ∀ x ∈ PackS.ids L, PackS.has P x = true := fun x hx => by
        rw [hgd.has_iff]
        exact (hgd.hid x).1 (by rw [hgd.order]; exact hx)
      have hkr := hk.below hU.b
      have hids := ids_c hkr
      rw [hgd.order] at hids
      generalize PackS.ids L = I at *
      obtain ⟨wa, wc', e, -, -, hIs⟩ := hU.r.form
      subst e
      have HB := Lib.hid hU.b
      have HIDS := Lib.hid hids
      have HHAS := Lib.hid hhas
      rename World => w2
      clear hids hU hhas hgd hr hk
      go_upto_region 16 with (go_at_call 41; refine HIDS.out.mono ?_; rintro e w3 ⟨ja, jc, rfl, hoi, hb3⟩)
      obtain ⟨ja', jc', e', -, -, hJs⟩ := hoi.form
      injection e' with e1 _ e2
      subst e1 e2
      have hIs3 := hIs.below hb3
      have hk3 := hkr.below hb3
      have HB3 : Hid (Below w.heap.size w w3) := HB.out.trans (hb3.mono HB.out.size)
      clear hoi hIs hkr hb3 HIDS
      go_wp2_with fail
      go_loopw [51] (fun iv wx => ∃ i : Nat, i ≤ I.length ∧ iv = .int .i64 i ∧ Below w3.heap.size w3 wx) (fun iv _ => (I.length - intOf iv).toNat)
      case atStart => exact ⟨0, Nat.zero_le _, rfl, Below.refl _ _⟩
      case round =>
        obtain ⟨i, hi, rfl, hbr⟩ := hrel
        by_cases hil : i < I.length
        · have hd2 : decide ((i : Int) < (I.length : Int)) = true := decide_eq_true (by omega)
          obtain ⟨x1, o1, rfl, hx1, hr1⟩ := ids_at' hIs3 hIo hil
          obtain ⟨x2, o2, rfl, hx2, hr2⟩ := ids_at' hJs hIo hil
          have hoy := hIo _ (List.getElem_mem hil)
          have hhy := HHAS.out _ (List.getElem_mem hil)
          generalize I[i] = y at *
          have hi47 : (Tryd.prog.info? 47).map (·.size) = some (nb y).length := by rw [nb_len, hoy.1]; kernel_rfl
          have hR1 : ∀ W : World, (∃ p : BW, W = bw wr p) → W.rangeAt x1 (o1 + i * 32) (nb y) := fun W hW k u hu => by
            obtain ⟨p, rfl⟩ := hW
            exact ((hbr.trans ((bw_below wr p).mono hbr.size)).cell (p := ⟨x1, o1 + i * 32 + k, none⟩) hx1).trans (hr1 k u hu)
          have hR2 : ∀ W : World, (∃ p : BW, W = bw wr p) → W.rangeAt x2 (o2 + i * 32) (nb y) := fun W hW k u hu => by
            obtain ⟨p, rfl⟩ := hW
            exact ((hbr.trans ((bw_below wr p).mono hbr.size)).cell (p := ⟨x2, o2 + i * 32 + k, none⟩) hx2).trans (hr2 k u hu)
          have hHA : ∀ p', Calls Tryd.prog 56 #[.pointer (some ⟨q, 0, none⟩), .agg (nb y).toArray] (bw wr p') fun e w'' => e = .returned (.bool true) ∧ ∃ q : BW, w'' = bw wr q := fun p' => calls_bw ((has_c ((hk3.below hbr).below (bw_below wr p')) hoy).mono fun e w' h => by
            rw [hhy] at h
            exact h)
          have hneq : ∀ W, (binOp .neq 47 (.agg (nb y).toArray) (.agg (nb y).toArray)).run Tryd.prog W = .ok (.bool false) W := fun W => by
            have := id_neq hoy hoy W
            rw [decide_eq_true rfl] at this
            exact this
          have HR1 := Lib.hid hR1
          have HR2 := Lib.hid hR2
          have HHA := Lib.hid hHA
          have hw1 : IntKind.i64.wrap ((i : Int) + 1) = ((i + 1 : Nat) : Int) := IntWalk.i64_in _ (by omega)
          have b0 : (0 : Int) ≤ (i : Int) := by omega
          have b1 : (i : Int) < (I.length : Int) := by omega
          clear hR1 hR2 hHA hr1 hr2
          go_wp2_with fail
          refine wp_region_bw (by kernel_rfl) (by kernel_rfl) ?_
          iterate 3 quiet_step (fail)
          refine wpQuiet_loadM rfl 47 _ rfl x2 (o2 + i * 32) rfl HR2.out _ id_under rfl hi47 ?_
          iterate 3 quiet_step (fail)
          refine wpQuiet_loadM rfl 47 _ rfl x1 (o1 + i * 32) rfl HR1.out _ id_under rfl hi47 ?_
          iterate 6 quiet_step (fail)
          refine wpQuiet_loadMg rfl 47 _ rfl x2 (o2 + i * 32) rfl HR2.out _ id_under rfl hi47 ?_
          quiet_step (exact HHA.out _)
          iterate 2 quiet_step (fail)
          refine wpQuiet_nil ?_
          rintro Wn ⟨pn, hWn⟩
          have hbx : Below w3.heap.size w3 Wn := hbr.trans ((show Below wr.heap.size wr Wn by rw [hWn]; exact bw_below _ _).mono hbr.size)
          clear hWn
          go_wp2_with fail
          go_roundw
          case rel => exact ⟨i + 1, by omega, by first | rfl | go_num, hbx⟩
          case measure => simp [intOf]; omega
        · obtain rfl : i = I.length := by omega
          have hd2 : decide ((I.length : Int) < (I.length : Int)) = false := decide_eq_false (by omega)
          go_wp2_with fail
          go_ret
          exact ⟨rfl, HB3.out.trans (hbr.mono HB3.out.size)⟩
end Go.Proofs.YtfoamcobpfflbaaDoor
