/- Texts of mine, joined: Walk: tree.Apply. -/
import Derived.Test.YtpcipdkoncmdcaaGreatDoorYJoinApart24
namespace Go.Proofs.YtpcipdkoncmdcaaGreatDoor
open Go Go.RowKit
/-- In a plain region: a store. -/
theorem goP_st {P : Program} {ops : Array Oper} {Q : Exit → Act → World → Prop} {rest : List Oper} {o : Oper} {T : Array Value} {D : List Deferred} {w : World} (hg : Region.wanted o (yielded ops T) = true) (hd : o.dst = none) (ty : TypeId) (x y : Operand) (hop : o.op = .store ty x y) (ad : Addr) (u : Value) (hx : Act.eval ⟨T, D⟩ x = .pointer (some ad)) (hy : Act.eval ⟨T, D⟩ y = u) (w' : World)
    (hrun : (Instr.storeAt ty (.pointer (some ad)) u).run P w = .ok () w') (h : goP P ops Q rest ⟨T, D⟩ w') : goP P ops Q (o :: rest) ⟨T, D⟩ w := by
  rw [goP_eq] at h ⊢
  refine wpList_step fun K hK => ?_
  rw [if_pos hg]
  unfold Oper.wp execOp
  simp only [hop, hx, hy, Sem.run_bind, hrun, Result.andThen_ok, Sem.run_pure]
  exact hK _ _ (by rw [hd]; exact h)
theorem FR.put {w : World} {g o c : Nat} {l : List Fi} (h : FR w (.slice (some ⟨g, o, none⟩) l.length c) l) {i : Nat} (hi : i < l.length) {x : Fi} (hx : OkFi x) : FR (w.setCells g (o + i * 34) (fiC x)) (.slice (some ⟨g, o, none⟩) l.length c) (l.take i ++ x :: l.drop (i + 1)) ∧ w.there g (o + i * 34) (fiC x).length := by
  have hok := h.ok
  obtain ⟨hrw, hnc, hcm, -⟩ := h.row.rw
  have hxl := fiC_len hx
  have hlr : (fiR l).length = l.length * 34 := fiR_len hok
  have hw := hrw.write (k := i * 34) (by rw [hlr]; omega) (fiC x) (by rw [hxl]; omega)
  have e : i * 34 + 34 = (i + 1) * 34 := by omega
  rw [hxl, e, fiR_take hok (by omega), fiR_drop hok (by omega)] at hw
  have hL : (l.take i ++ x :: l.drop (i + 1)).length = l.length := by rw [List.length_append, List.length_cons, List.length_take, List.length_drop]; omega
  refine ⟨Rw.fr (by rw [fiR_app]; exact hw) hL (fun f hf => ?_) hnc hcm, hrw.there (by rw [hxl]; omega)⟩
  rcases List.mem_append.1 hf with hf | hf
  · exact hok f (List.mem_of_mem_take hf)
  · rcases List.mem_cons.1 hf with rfl | hf
    · exact hx
    · exact hok f (List.mem_of_mem_drop hf)
theorem ba_of_toList {a b : ByteArray} (h : a.toList = b.toList) : a = b := by
  rw [Lib.toList_data, Lib.toList_data] at h
  exact ByteArray.ext (Array.toList_inj.1 h)
theorem str_neq (a b : ByteArray) (W : World) : (binOp .neq 9 (.string a) (.string b)).run Tryz.prog W = .ok (.bool (!(a.toList == b.toList))) W := by go_simp
theorem app1_bad {l : List Fi} {c : Ch} {p : ByteArray} (hp : appP c = p) (h : bsB p l ≠ decide (c.kind ≠ 1) ∨ c.kind < 1 ∨ c.kind > 4) : app1 l c = none := by
  subst hp; unfold app1; rw [if_pos h]
theorem app1_ok {l : List Fi} {c : Ch} {p : ByteArray} (hp : appP c = p) (hb : bsB p l = decide (c.kind ≠ 1)) (h1 : ¬ c.kind < 1) (h4 : ¬ c.kind > 4) : ¬ (bsB (appP c) l ≠ decide (c.kind ≠ 1) ∨ c.kind < 1 ∨ c.kind > 4) := by
  subst hp
  rintro (h | h | h)
  · exact h hb
  · exact h1 h
  · exact h4 h
theorem app1_ins {l : List Fi} {c : Ch} {p : ByteArray} (hp : appP c = p) (hk : c.kind = 1) (hb : bsB p l = false) {i : Nat} (hi : bsI p l = i) : app1 l c = some (l.take i ++ c.new :: l.drop i) := by
  unfold app1
  rw [if_neg (app1_ok hp (by rw [hb, hk]; rfl) (by omega) (by omega)), if_pos hk, hp, hi]
theorem app1_miss {l : List Fi} {c : Ch} {p : ByteArray} (hp : appP c = p) (hk : c.kind ≠ 1) (hb : bsB p l = true) (h1 : ¬ c.kind < 1) (h4 : ¬ c.kind > 4) {i : Nat} (hi : bsI p l = i) {f : Fi} (hf : l[i]? = some f) (h : f.id ≠ c.old.id ∨ c.kind ≠ 2 ∧ c.new.path ≠ p) : app1 l c = none := by
  unfold app1
  rw [if_neg (app1_ok hp (by rw [hb, decide_eq_true hk]) h1 h4), if_neg hk, hp, hi, hf]
  exact if_pos h
theorem app1_del {l : List Fi} {c : Ch} {p : ByteArray} (hp : appP c = p) (hk : c.kind = 2) (hb : bsB p l = true) {i : Nat} (hi : bsI p l = i) {f : Fi} (hf : l[i]? = some f) (h : f.id = c.old.id) : app1 l c = some (l.take i ++ l.drop (i + 1)) := by
  unfold app1
  rw [if_neg (app1_ok hp (by rw [hb, hk]; rfl) (by omega) (by omega)), if_neg (by omega), hp, hi, hf]
  show (if _ then _ else _) = _
  rw [if_neg (by rintro (e | e); exact e h; exact e.1 hk), if_pos hk]
theorem app1_set {l : List Fi} {c : Ch} {p : ByteArray} (hp : appP c = p) (hk : c.kind ≠ 1) (hk2 : c.kind ≠ 2) (hb : bsB p l = true) (h1 : ¬ c.kind < 1) (h4 : ¬ c.kind > 4) {i : Nat} (hi : bsI p l = i) {f : Fi} (hf : l[i]? = some f) (h : f.id = c.old.id) (hq : c.new.path = p) : app1 l c = some (l.take i ++ c.new :: l.drop (i + 1)) := by
  unfold app1
  rw [if_neg (app1_ok hp (by rw [hb, decide_eq_true hk]) h1 h4), if_neg hk, hp, hi, hf]
  show (if _ then _ else _) = _
  rw [if_neg (by rintro (e | e); exact e h; exact e.2 hq), if_neg hk2]

set_option maxRecDepth 100000 in
set_option maxHeartbeats 8000000 in
theorem fapply_c {w : World} {v : Value} {l : List Fi} (h : FS w v l) {vc : Value} {cs : List Ch} (hc : CS w vc cs) (hn : l.length + cs.length ≤ 3000000) (hg : Gl w) :
    Calls Tryz.prog 24 #[v, vc] w fun e w' => (applyS l cs = none → e = .returned (.tuple #[.slice none 0 0, .int .i64 4])) ∧ (∀ L, applyS l cs = some L → ∃ v', e = .returned (.tuple #[v', .int .i64 0]) ∧ FR w' v' L ∧ ∀ g, v'.ownBlock = some g → w.heap.size ≤ g) ∧ Below w.heap.size w w' := by
  obtain ⟨av, cv, rfl⟩ := hc.lit
  have HCL := Lib.hid (fclone_c h)
  have HCS := Lib.hid hc
  have HG := Lib.hid hg
  clear h hc hg
  go_enter Tryz.func24, Tryz.ntmps24
  go_upto_region 3 with (go_at_call 42; refine HCL.out.mono ?_; rintro e w1 ⟨v1, rfl, hf1, ho1, hb1⟩)
  have HF1 := Lib.hid hf1
  have HO1 := Lib.hid ho1
  have HB1 := Lib.hid hb1
  clear hf1 ho1 hb1 HCL
  go_loopw [6, 16] (fun v6 kv wx => ∃ k : Nat, k ≤ cs.length ∧ kv = .int .i64 k ∧ ∃ l', Hid (applyS l cs = applyS l' (cs.drop k)) ∧ l'.length ≤ l.length + k ∧ Hid (FR wx v6 l') ∧ Hid (∀ g, v6.ownBlock = some g → w.heap.size ≤ g) ∧ Hid (Below w.heap.size w wx)) (fun _ kv _ => cs.length - (intOf kv).toNat)
  case atStart => exact ⟨0, Nat.zero_le _, rfl, l, rfl, Nat.le_refl _, HF1.out, HO1.out, HB1.out⟩
  case round =>
    obtain ⟨k, hkn, rfl, l', HAP, hll, HFR, HOW, HB⟩ := hrel
    clear HF1 HO1 HB1
    by_cases hk : k < cs.length
    · have d1 : decide ((k : Int) < (cs.length : Int)) = true := decide_eq_true (by omega)
      have d2 : decide (k < cs.length) = true := decide_eq_true hk
      have k0 : (0 : Int) ≤ (k : Int) := by omega
      have k1 : (k : Int) < (cs.length : Int) := by omega
      have kw : IntKind.i64.wrap ((k : Int) + 1) = ((k + 1 : Nat) : Int) := IntWalk.i64_in _ (by have := HCS.out.n; omega)
      obtain ⟨b, o, c', e, hbl, hr⟩ := (HCS.out.below HB.out).at hk
      injection e with e1 e2 e3
      clear e2 e3
      subst e1
      have HR : Hid (wr.rangeAt b (o + k * 69) (chC cs[k])) := hr k hk
      have HOX : Hid (OkCh cs[k]) := HCS.out.ok _ (List.getElem_mem hk)
      have HST : Hid (applyS l cs = (app1 l' cs[k]).bind (applyS · (cs.drop (k + 1)))) := by show _ = _; rw [HAP.out, applyS_step hk]
      have HCI : Hid ((Tryz.prog.info? 75).map (·.size) = some (chC cs[k]).length) := by show _ = _; rw [chC_len HOX.out]; kernel_rfl
      clear hr hbl HAP
      generalize cs[k] = x at HR HOX HST HCI
      have HCJ : Hid ((Tryz.prog.info? 75).map (·.size) = some (chC x).toArray.size) := by show _ = _; rw [List.size_toArray]; exact HCI.out
      have HZS : Hid (Tryz.zeroCells75.size = (chC x).toArray.size) := (show Tryz.zeroCells75.size = 69 by kernel_rfl).trans (by rw [List.size_toArray, chC_len HOX.out])
      go_upto_region 5 with (first
        | (refine wpList_load_mid rfl 75 _ rfl b (o + k * 69) rfl (chC x) _ HR.out Tryz.underlying75 rfl HCI.out ?_)
        | (refine wp_storeB rfl 75 _ _ rfl wr.heap.size (chC x).toArray rfl rfl (old := Tryz.zeroCells75) Array.getElem?_push_size HZS.out HCJ.out chC_one ?_; intro W1 hb14 hg14))
      have hbr : Below wr.heap.size wr W1 := ((Below.refl wr.heap.size wr).alloc (Nat.le_refl _) _).grown hg14 (by simp) (fun k hk => by cases hk; exact Nat.le_refl _)
      have hcb : ChB W1 wr.heap.size x := hb14
      have HB1 : Hid (Below w.heap.size w W1) := HB.out.trans (hbr.mono HB.out.size)
      have HF1 : Hid (FR W1 u6 l') := HFR.out.below hbr
      have HPW : Hid (w.heap.size ≤ wr.heap.size) := HB.out.size
      have HOW8 : Hid (∀ g, u6.ownBlock = some g → g < wr.heap.size) := fun g hg => HFR.out.row.lt hg
      clear hb14 hg14 hbr HFR HR HCI HCJ HZS
      generalize wr.heap.size = p8 at *
      have hk0 := hcb.kind
      have hk1 := hcb.opath
      have hk35 := hcb.npath HOX.out
      have HCB := Lib.hid hcb
      have HBSF := Lib.hid (fun p hp => fbs_c (w := W1) (HF1.out.fs (by omega)) (p := p) hp (HG.out.below HB1.out (Nat.le_refl _)))
      clear hcb
      obtain ⟨p, hp⟩ : ∃ p, appP x = p := ⟨_, rfl⟩
      have hpz : p.size ≤ 2000000 := by rw [← hp]; unfold appP; split; exact HOX.out.new.pz; exact HOX.out.old.pz
      have HBS := Lib.hid (HBSF.out p hpz)
      obtain ⟨i, hi⟩ : ∃ i, bsI p l' = i := ⟨_, rfl⟩
      obtain ⟨t, ht⟩ : ∃ t, bsB p l' = t := ⟨_, rfl⟩
      have hil : i ≤ l'.length := by rw [← hi]; exact bsI_le p l'
      have HIT : Hid (t = true → i < l'.length) := fun h => by rw [← hi]; exact bsB_lt (by rw [ht]; exact h)
      rw [hi, ht] at HBS
      have HP := Lib.hid hp
      have HI := Lib.hid hi
      have HT := Lib.hid ht
      clear hi ht hpz HBSF hp
      by_cases hk1' : x.kind = 1
      · -- @dev{ K1
        have hpe : x.new.path = p := by have h := HP.out; unfold appP at h; rw [if_pos hk1'] at h; exact h
        rw [hpe] at hk35
        have e1 : (x.kind == 1) = true := beq_iff_eq.2 hk1'
        go_upto_region 10 with (go_at_call 43; refine HBS.out.mono ?_; rintro e w2 ⟨rfl, hb2⟩)
        have hk0 := (HCB.out.below hb2).kind
        cases t with
        | true =>
          have HE : Hid (applyS l cs = none) := by show _ = _; rw [HST.out, app1_bad HP.out (.inl (by rw [HT.out, hk1']; decide))]; rfl
          go_upto_region 10 with fail
          refine goP_start ?_
          refine goP_mv rfl 41 rfl _ rfl (.bool true) rfl ?_; simp only [zT, zA, zB]
          refine goP_tk rfl 42 rfl (.pointer (some ⟨p8, 0, none⟩)) (by first | rfl | go_simp) ?_; simp only [zT, zA, zB]
          refine goP_ld rfl 43 rfl 3 _ rfl ⟨p8, 0, none⟩ (.int .i64 x.kind) rfl (ld_int _ _ _ hk0) ?_; simp only [zT, zA, zB]
          refine goP_tk rfl 44 rfl (.bool false) (by first | rfl | go_simp) ?_; simp only [zT, zA, zB]
          refine goP_tk rfl 45 rfl (.bool true) (by first | rfl | go_simp) ?_; simp only [zT, zA, zB]
          refine goP_mv rfl 46 rfl _ rfl (.bool true) rfl ?_; simp only [zT, zA, zB]
          refine goP_no rfl 47 rfl ?_; simp only [zT, zA, zB]
          refine goP_no rfl 48 rfl ?_; simp only [zT, zA, zB]
          refine goP_no rfl 49 rfl ?_; simp only [zT, zA, zB]
          refine goP_pk rfl 50 rfl _ _ _ rfl true rfl (.bool true) rfl ?_; simp only [zT, zA, zB]
          refine goP_mv rfl 51 rfl _ rfl (.bool true) rfl ?_; simp only [zT, zA, zB]
          refine goP_no rfl 52 rfl ?_; simp only [zT, zA, zB]
          refine goP_no rfl 53 rfl ?_; simp only [zT, zA, zB]
          refine goP_no rfl 54 rfl ?_; simp only [zT, zA, zB]
          refine goP_pk rfl 55 rfl _ _ _ rfl true rfl (.bool true) rfl ?_; simp only [zT, zA, zB]
          refine goP_as rfl 40 rfl _ rfl (.bool true) rfl ?_; simp only [zT, zA, zB]
          refine goP_end ?_
          go_wp2_with fail
          go_ret2
          exact ⟨fun _ => rfl, fun L h => (by rw [HE.out] at h; cases h), HB1.out.trans (hb2.mono HB1.out.size)⟩
        | false =>
          -- @dev{ INS
          have HE : Hid (applyS l cs = applyS (l'.take i ++ x.new :: l'.drop i) (cs.drop (k + 1))) := by show _ = _; rw [HST.out, app1_ins HP.out hk1' HT.out HI.out]; rfl
          have HLL : Hid ((l'.take i ++ x.new :: l'.drop i).length ≤ l.length + (k + 1)) := by show _ ≤ _; rw [ins_len hil]; omega
          have HNW : Hid (w2.rangeAt p8 35 (fiC x.new)) := (HCB.out.below hb2).new HOX.out
          have HNI : Hid ((Tryz.prog.info? 56).map (·.size) = some (fiC x.new).length) := by show _ = _; rw [fiC_len HOX.out.new]; exact fiInfo
          obtain ⟨W3, hW3⟩ : ∃ W3, w2.alloc (.cells (fiC x.new).toArray 56) = W3 := ⟨_, rfl⟩
          have HB2 : Hid (Below w.heap.size w w2) := HB1.out.trans (hb2.mono HB1.out.size)
          have hb23 : Below w2.heap.size w2 W3 := by rw [← hW3]; exact (Below.refl _ w2).alloc (Nat.le_refl _) _
          have hf2 := HF1.out.below hb2
          have HNE : Hid (u6.ownBlock ≠ some w2.heap.size) := fun e => absurd (hf2.row.lt e) (Nat.lt_irrefl _)
          have HF3 : Hid (FR W3 u6 l') := hf2.below hb23
          have HFB : Hid (FB W3 w2.heap.size x.new) := by show W3.heap[w2.heap.size]? = _; rw [← hW3]; exact Array.getElem?_push_size
          have HB3 : Hid (Below w.heap.size w W3) := HB2.out.trans (hb23.mono HB2.out.size)
          have HIN := Lib.hid (finsert_c HF3.out hil HOX.out.new HFB.out HNE.out (by omega))
          have HRB := Lib.hid (rb_fs HOX.out.new w2)
          rw [hW3] at HRB
          clear hW3 hb23 hf2
          go_upto_region 10 with fail
          refine goP_start ?_
          refine goP_mv rfl 41 rfl _ rfl (.bool false) rfl ?_; simp only [zT, zA, zB]
          refine goP_tk rfl 42 rfl (.pointer (some ⟨p8, 0, none⟩)) (by first | rfl | go_simp) ?_; simp only [zT, zA, zB]
          refine goP_ld rfl 43 rfl 3 _ rfl ⟨p8, 0, none⟩ (.int .i64 x.kind) rfl (ld_int _ _ _ hk0) ?_; simp only [zT, zA, zB]
          refine goP_tk rfl 44 rfl (.bool false) (by first | rfl | go_simp) ?_; simp only [zT, zA, zB]
          refine goP_tk rfl 45 rfl (.bool false) (by first | rfl | go_simp) ?_; simp only [zT, zA, zB]
          refine goP_mv rfl 46 rfl _ rfl (.bool false) rfl ?_; simp only [zT, zA, zB]
          refine goP_tk rfl 47 rfl (.pointer (some ⟨p8, 0, none⟩)) (by first | rfl | go_simp) ?_; simp only [zT, zA, zB]
          refine goP_ld rfl 48 rfl 3 _ rfl ⟨p8, 0, none⟩ (.int .i64 x.kind) rfl (ld_int _ _ _ hk0) ?_; simp only [zT, zA, zB]
          refine goP_tk rfl 49 rfl (.bool false) (by first | rfl | go_simp) ?_; simp only [zT, zA, zB]
          refine goP_pk rfl 50 rfl _ _ _ rfl false rfl (.bool false) rfl ?_; simp only [zT, zA, zB]
          refine goP_mv rfl 51 rfl _ rfl (.bool false) rfl ?_; simp only [zT, zA, zB]
          refine goP_tk rfl 52 rfl (.pointer (some ⟨p8, 0, none⟩)) (by first | rfl | go_simp) ?_; simp only [zT, zA, zB]
          refine goP_ld rfl 53 rfl 3 _ rfl ⟨p8, 0, none⟩ (.int .i64 x.kind) rfl (ld_int _ _ _ hk0) ?_; simp only [zT, zA, zB]
          refine goP_tk rfl 54 rfl (.bool false) (by first | rfl | go_simp) ?_; simp only [zT, zA, zB]
          refine goP_pk rfl 55 rfl _ _ _ rfl false rfl (.bool false) rfl ?_; simp only [zT, zA, zB]
          refine goP_as rfl 40 rfl _ rfl (.bool false) rfl ?_; simp only [zT, zA, zB]
          refine goP_end ?_
          go_upto_region 13 with fail
          refine goP_start ?_
          refine goP_mv rfl 60 rfl _ rfl u6 rfl ?_; simp only [zT, zA, zB]
          refine goP_mv rfl 61 rfl _ rfl (.int .i64 i) rfl ?_; simp only [zT, zA, zB]
          refine goP_tk rfl 62 rfl (.pointer (some ⟨p8, 35, none⟩)) (by first | rfl | go_simp) ?_; simp only [zT, zA, zB]
          refine goP_ld rfl 63 rfl 56 _ rfl ⟨p8, 35, none⟩ (.agg (fiC x.new).toArray) rfl (run_loadAt_mid (P := Tryz.prog) _ p8 35 56 (fiC x.new) _ HNW.out Tryz.underlying56 rfl HNI.out) ?_; simp only [zT, zA, zB]
          refine goP_by rfl 64 rfl (.slice (some ⟨w2.heap.size, 0, none⟩) 1 1) W3 (exec_slice _ rfl (by simp [Act.eval]) HRB.out) ?_; simp only [zT, zA, zB]
          refine goP_call rfl 65 rfl 45 _ rfl [u6, (.int .i64 i), .slice (some ⟨w2.heap.size, 0, none⟩) 1 1] rfl (enters_of Tryz.func45 (by kernel_rfl) rfl) ((HIN.out).mono ?_)
          rintro e w4 ⟨v7, rfl, hf7, hg7, ho7⟩
          refine ⟨v7, rfl, ?_⟩; simp only [zT, zA, zB]
          refine goP_as rfl 6 rfl _ rfl v7 rfl ?_; simp only [zT, zA, zB]
          refine goP_end ?_
          go_wp2_with fail
          go_roundw
          case rel => exact ⟨k + 1, hk, by go_num, _, HE.out, HLL.out, hf7, fun g hg => (ho7 g hg).elim (HOW.out g) (fun h => Nat.le_trans HB3.out.size h), HB3.out.grown hg7 HB3.out.size (fun g hg => HOW.out g hg)⟩
          case measure => simp [intOf]; omega
      · -- @dev{ K2
        have e1 : (x.kind == 1) = false := beq_eq_false_iff_ne.2 hk1'
        have e1' : (x.kind != 1) = true := bne_iff_ne.2 hk1'
        have hpe : x.old.path = p := by have h := HP.out; unfold appP at h; rw [if_neg hk1'] at h; exact h
        rw [hpe] at hk1
        go_upto_region 10 with (go_at_call 43; refine HBS.out.mono ?_; rintro e w2 ⟨rfl, hb2⟩)
        have hcb2 := HCB.out.below hb2
        have hk0 := hcb2.kind
        have HB2 : Hid (Below w.heap.size w w2) := HB1.out.trans (hb2.mono HB1.out.size)
        have NO : Hid (applyS l cs = none → ∀ L, applyS l cs = some L → False) := fun h L h' => by rw [h] at h'; cases h'
        have hf2 := HF1.out.below hb2
        have HCB2 := Lib.hid hcb2
        have HF2 := Lib.hid hf2
        clear hcb2 hf2 hb2 HBS HCB HF1 HB1 hk1 hk35
        cases t with
        | false =>
          have HE : Hid (applyS l cs = none) := by show _ = _; rw [HST.out, app1_bad HP.out (.inl (by rw [HT.out, decide_eq_true hk1']; decide))]; rfl
          go_upto_region 10 with fail
          refine goP_start ?_
          refine goP_mv rfl 41 rfl _ rfl (.bool false) rfl ?_; simp only [zT, zA, zB]
          refine goP_tk rfl 42 rfl (.pointer (some ⟨p8, 0, none⟩)) (by first | rfl | go_simp) ?_; simp only [zT, zA, zB]
          refine goP_ld rfl 43 rfl 3 _ rfl ⟨p8, 0, none⟩ (.int .i64 x.kind) rfl (ld_int _ _ _ hk0) ?_; simp only [zT, zA, zB]
          refine goP_tk rfl 44 rfl (.bool true) (by first | rfl | go_simp) ?_; simp only [zT, zA, zB]
          refine goP_tk rfl 45 rfl (.bool true) (by first | rfl | go_simp) ?_; simp only [zT, zA, zB]
          refine goP_mv rfl 46 rfl _ rfl (.bool true) rfl ?_; simp only [zT, zA, zB]
          refine goP_no rfl 47 rfl ?_; simp only [zT, zA, zB]
          refine goP_no rfl 48 rfl ?_; simp only [zT, zA, zB]
          refine goP_no rfl 49 rfl ?_; simp only [zT, zA, zB]
          refine goP_pk rfl 50 rfl _ _ _ rfl true rfl (.bool true) rfl ?_; simp only [zT, zA, zB]
          refine goP_mv rfl 51 rfl _ rfl (.bool true) rfl ?_; simp only [zT, zA, zB]
          refine goP_no rfl 52 rfl ?_; simp only [zT, zA, zB]
          refine goP_no rfl 53 rfl ?_; simp only [zT, zA, zB]
          refine goP_no rfl 54 rfl ?_; simp only [zT, zA, zB]
          refine goP_pk rfl 55 rfl _ _ _ rfl true rfl (.bool true) rfl ?_; simp only [zT, zA, zB]
          refine goP_as rfl 40 rfl _ rfl (.bool true) rfl ?_; simp only [zT, zA, zB]
          refine goP_end ?_
          go_wp2_with fail
          go_ret2
          exact ⟨fun _ => rfl, fun L h => (NO.out HE.out L h).elim, HB2.out⟩
        | true =>
          by_cases hl1 : x.kind < 1
          · have HE : Hid (applyS l cs = none) := by show _ = _; rw [HST.out, app1_bad HP.out (.inr (.inl hl1))]; rfl
            have e2 : decide (x.kind < 1) = true := decide_eq_true hl1
            go_upto_region 10 with fail
            refine goP_start ?_
            refine goP_mv rfl 41 rfl _ rfl (.bool true) rfl ?_; simp only [zT, zA, zB]
            refine goP_tk rfl 42 rfl (.pointer (some ⟨p8, 0, none⟩)) (by first | rfl | go_simp) ?_; simp only [zT, zA, zB]
            refine goP_ld rfl 43 rfl 3 _ rfl ⟨p8, 0, none⟩ (.int .i64 x.kind) rfl (ld_int _ _ _ hk0) ?_; simp only [zT, zA, zB]
            refine goP_tk rfl 44 rfl (.bool true) (by first | rfl | go_simp) ?_; simp only [zT, zA, zB]
            refine goP_tk rfl 45 rfl (.bool false) (by first | rfl | go_simp) ?_; simp only [zT, zA, zB]
            refine goP_mv rfl 46 rfl _ rfl (.bool false) rfl ?_; simp only [zT, zA, zB]
            refine goP_tk rfl 47 rfl (.pointer (some ⟨p8, 0, none⟩)) (by first | rfl | go_simp) ?_; simp only [zT, zA, zB]
            refine goP_ld rfl 48 rfl 3 _ rfl ⟨p8, 0, none⟩ (.int .i64 x.kind) rfl (ld_int _ _ _ hk0) ?_; simp only [zT, zA, zB]
            refine goP_tk rfl 49 rfl (.bool true) (by first | rfl | go_simp) ?_; simp only [zT, zA, zB]
            refine goP_pk rfl 50 rfl _ _ _ rfl false rfl (.bool true) rfl ?_; simp only [zT, zA, zB]
            refine goP_mv rfl 51 rfl _ rfl (.bool true) rfl ?_; simp only [zT, zA, zB]
            refine goP_no rfl 52 rfl ?_; simp only [zT, zA, zB]
            refine goP_no rfl 53 rfl ?_; simp only [zT, zA, zB]
            refine goP_no rfl 54 rfl ?_; simp only [zT, zA, zB]
            refine goP_pk rfl 55 rfl _ _ _ rfl true rfl (.bool true) rfl ?_; simp only [zT, zA, zB]
            refine goP_as rfl 40 rfl _ rfl (.bool true) rfl ?_; simp only [zT, zA, zB]
            refine goP_end ?_
            go_wp2_with fail
            go_ret2
            exact ⟨fun _ => rfl, fun L h => (NO.out HE.out L h).elim, HB2.out⟩
          · have e2 : decide (x.kind < 1) = false := decide_eq_false hl1
            by_cases hg4 : x.kind > 4
            · have HE : Hid (applyS l cs = none) := by show _ = _; rw [HST.out, app1_bad HP.out (.inr (.inr hg4))]; rfl
              have e3 : decide (x.kind > 4) = true := decide_eq_true hg4
              go_upto_region 10 with fail
              refine goP_start ?_
              refine goP_mv rfl 41 rfl _ rfl (.bool true) rfl ?_; simp only [zT, zA, zB]
              refine goP_tk rfl 42 rfl (.pointer (some ⟨p8, 0, none⟩)) (by first | rfl | go_simp) ?_; simp only [zT, zA, zB]
              refine goP_ld rfl 43 rfl 3 _ rfl ⟨p8, 0, none⟩ (.int .i64 x.kind) rfl (ld_int _ _ _ hk0) ?_; simp only [zT, zA, zB]
              refine goP_tk rfl 44 rfl (.bool true) (by first | rfl | go_simp) ?_; simp only [zT, zA, zB]
              refine goP_tk rfl 45 rfl (.bool false) (by first | rfl | go_simp) ?_; simp only [zT, zA, zB]
              refine goP_mv rfl 46 rfl _ rfl (.bool false) rfl ?_; simp only [zT, zA, zB]
              refine goP_tk rfl 47 rfl (.pointer (some ⟨p8, 0, none⟩)) (by first | rfl | go_simp) ?_; simp only [zT, zA, zB]
              refine goP_ld rfl 48 rfl 3 _ rfl ⟨p8, 0, none⟩ (.int .i64 x.kind) rfl (ld_int _ _ _ hk0) ?_; simp only [zT, zA, zB]
              refine goP_tk rfl 49 rfl (.bool false) (by first | rfl | go_simp) ?_; simp only [zT, zA, zB]
              refine goP_pk rfl 50 rfl _ _ _ rfl false rfl (.bool false) rfl ?_; simp only [zT, zA, zB]
              refine goP_mv rfl 51 rfl _ rfl (.bool false) rfl ?_; simp only [zT, zA, zB]
              refine goP_tk rfl 52 rfl (.pointer (some ⟨p8, 0, none⟩)) (by first | rfl | go_simp) ?_; simp only [zT, zA, zB]
              refine goP_ld rfl 53 rfl 3 _ rfl ⟨p8, 0, none⟩ (.int .i64 x.kind) rfl (ld_int _ _ _ hk0) ?_; simp only [zT, zA, zB]
              refine goP_tk rfl 54 rfl (.bool true) (by first | rfl | go_simp) ?_; simp only [zT, zA, zB]
              refine goP_pk rfl 55 rfl _ _ _ rfl false rfl (.bool true) rfl ?_; simp only [zT, zA, zB]
              refine goP_as rfl 40 rfl _ rfl (.bool true) rfl ?_; simp only [zT, zA, zB]
              refine goP_end ?_
              go_wp2_with fail
              go_ret2
              exact ⟨fun _ => rfl, fun L h => (NO.out HE.out L h).elim, HB2.out⟩
            · have e3 : decide (x.kind > 4) = false := decide_eq_false hg4
              -- @dev{ D
              have hix : i < l'.length := HIT.out rfl
              obtain ⟨g, o6, c6, rfl⟩ : ∃ g o6 c6, u6 = .slice (some ⟨g, o6, none⟩) l'.length c6 := by
                rcases HF2.out.row.2 with ⟨e, h0⟩ | ⟨g, o, cap, cur, e, -⟩
                · omega
                · exact ⟨g, o, cap, e⟩
              have i0 : (0 : Int) ≤ (i : Int) := by omega
              have i1 : (i : Int) < (l'.length : Int) := by omega
              have iw : IntKind.i64.wrap ((i : Int) + 1) = ((i + 1 : Nat) : Int) := IntWalk.i64_in _ (by omega)
              have HIW := Lib.hid iw
              have HGX : Hid (Hid (l'[i]? = some l'[i])) := List.getElem?_eq_getElem hix
              have HOF : Hid (OkFi l'[i]) := HF2.out.ok _ (List.getElem_mem hix)
              have HRI : Hid (w2.rangeAt g (o6 + i * 34) (fiC l'[i])) := by
                obtain ⟨b', o', c', e, -, hr⟩ := (HF2.out.fs (by omega)).at hix
                injection e with e4 e5 e6
                injection e4 with e4
                injection e4 with e7 e8
                rw [e7, e8]
                exact hr i hix
              have HRD : Hid (w2.rangeAt g (o6 + i * 34 + 1) (nb l'[i].id)) := fun j u hu => by
                rw [Nat.add_assoc]; exact HRI.out (1 + j) u (fiC_id HOF.out hu)
              generalize l'[i] = f at HGX HOF HRD
              have hs0 : (w2.drewN 1).rangeAt g (o6 + i * 34 + 1) (nb f.id) ∧ ChB (w2.drewN 1) p8 x := ⟨HRD.out, HCB2.out⟩
              have hb3 : Below w.heap.size w (w2.drewN 1) := HB2.out.trans (below_dN (Below.refl _ w2) 1)
              have HB3 := Lib.hid hb3
              have HF3 : Hid (FR (w2.drewN 1) (.slice (some ⟨g, o6, none⟩) l'.length c6) l') := HF2.out.below (below_dN (Below.refl _ w2) 1)
              have hk0' : (w2.drewN 1).cell? ⟨p8, 0, none⟩ = some (.int .i64 x.kind) := hk0
              clear HRI HRD hb3
              by_cases hid : f.id = x.old.id
              · have HEQ : Hid (∀ W, (binOp .neq 43 (.agg (nums .u8 f.id)) (.agg (nums .u8 x.old.id))).run Tryz.prog W = .ok (.bool false) W) := fun W => by rw [id_neq HOF.out.id HOX.out.old.id, decide_eq_true hid]; rfl
                by_cases hk2 : x.kind = 2
                · -- @dev{ DEL
                  have e4 : (x.kind == 2) = true := beq_iff_eq.2 hk2
                  have e4' : (x.kind != 2) = false := by rw [bne, e4]; rfl
                  have HE : Hid (applyS l cs = applyS (l'.take i ++ l'.drop (i + 1)) (cs.drop (k + 1))) := by show _ = _; rw [HST.out, app1_del HP.out hk2 HT.out HI.out HGX.out.out hid]; rfl
                  have HLL : Hid ((l'.take i ++ l'.drop (i + 1)).length ≤ l.length + (k + 1)) := by show _ ≤ _; rw [List.length_append, List.length_take, List.length_drop]; omega
                  have HDL := Lib.hid (fdelete_c HF3.out hix)
                  go_upto_region 10 with fail
                  refine goP_start ?_
                  refine goP_mv rfl 41 rfl _ rfl (.bool true) rfl ?_; simp only [zT, zA, zB]
                  refine goP_tk rfl 42 rfl (.pointer (some ⟨p8, 0, none⟩)) (by first | rfl | go_simp) ?_; simp only [zT, zA, zB]
                  refine goP_ld rfl 43 rfl 3 _ rfl ⟨p8, 0, none⟩ (.int .i64 x.kind) rfl (ld_int _ _ _ hk0) ?_; simp only [zT, zA, zB]
                  refine goP_tk rfl 44 rfl (.bool true) (by first | rfl | go_simp) ?_; simp only [zT, zA, zB]
                  refine goP_tk rfl 45 rfl (.bool false) (by first | rfl | go_simp) ?_; simp only [zT, zA, zB]
                  refine goP_mv rfl 46 rfl _ rfl (.bool false) rfl ?_; simp only [zT, zA, zB]
                  refine goP_tk rfl 47 rfl (.pointer (some ⟨p8, 0, none⟩)) (by first | rfl | go_simp) ?_; simp only [zT, zA, zB]
                  refine goP_ld rfl 48 rfl 3 _ rfl ⟨p8, 0, none⟩ (.int .i64 x.kind) rfl (ld_int _ _ _ hk0) ?_; simp only [zT, zA, zB]
                  refine goP_tk rfl 49 rfl (.bool false) (by first | rfl | go_simp) ?_; simp only [zT, zA, zB]
                  refine goP_pk rfl 50 rfl _ _ _ rfl false rfl (.bool false) rfl ?_; simp only [zT, zA, zB]
                  refine goP_mv rfl 51 rfl _ rfl (.bool false) rfl ?_; simp only [zT, zA, zB]
                  refine goP_tk rfl 52 rfl (.pointer (some ⟨p8, 0, none⟩)) (by first | rfl | go_simp) ?_; simp only [zT, zA, zB]
                  refine goP_ld rfl 53 rfl 3 _ rfl ⟨p8, 0, none⟩ (.int .i64 x.kind) rfl (ld_int _ _ _ hk0) ?_; simp only [zT, zA, zB]
                  refine goP_tk rfl 54 rfl (.bool false) (by first | rfl | go_simp) ?_; simp only [zT, zA, zB]
                  refine goP_pk rfl 55 rfl _ _ _ rfl false rfl (.bool false) rfl ?_; simp only [zT, zA, zB]
                  refine goP_as rfl 40 rfl _ rfl (.bool false) rfl ?_; simp only [zT, zA, zB]
                  refine goP_end ?_
                  go_upto_region 14 with fail
                  refine wp_region_hz (fun W => W.rangeAt g (o6 + i * 34 + 1) (nb f.id) ∧ ChB W p8 x) (.tk 0 (.tk 1 (.tk 2 (.tk 3 (.tk 4 (.tk 5 (.tk 6 (.tk 7 (.tk 8 (.tk 9 (.tk 10 (.tk 11 (.tk 12 (.tk 13 (.tk 14 (.tk 15 (.tk 16 (.tk 17 (.tk 18 (.tk 19 (.tk 20 (.tk 21 (.nil))))))))))))))))))))))) (by kernel_rfl) (by kernel_rfl) (fun _ _ _ _ _ h => h) ?_
                  refine goZ_tk rfl rfl 67 rfl (.slice (some ⟨g, o6, none⟩) l'.length c6) (fun _ => rfl) ?_; simp only [zT, zA, zB]
                  refine goZ_tk rfl rfl 68 rfl (.int .i64 i) (fun _ => rfl) ?_; simp only [zT, zA, zB]
                  refine goZ_tk rfl rfl 69 rfl (.pointer (some ⟨g, o6 + i * 34, none⟩)) (fun _ => by go_simp) ?_; simp only [zT, zA, zB]
                  refine goZ_tk rfl rfl 70 rfl (.pointer (some ⟨g, o6 + i * 34 + 1, none⟩)) (fun _ => rfl) ?_; simp only [zT, zA, zB]
                  refine goZ_ld rfl rfl 71 rfl 43 _ rfl ⟨g, o6 + i * 34 + 1, none⟩ (.agg (nums .u8 f.id)) rfl (fun W hS => ld_id HOF.out.id hS.1) (hs0) ?_; simp only [zT, zA, zB]
                  refine goZ_tk rfl rfl 72 rfl (.pointer (some ⟨p8, 1, none⟩)) (fun _ => by go_simp) ?_; simp only [zT, zA, zB]
                  refine goZ_tk rfl rfl 73 rfl (.pointer (some ⟨p8, 2, none⟩)) (fun _ => by go_simp) ?_; simp only [zT, zA, zB]
                  refine goZ_ld rfl rfl 74 rfl 43 _ rfl ⟨p8, 2, none⟩ (.agg (nums .u8 x.old.id)) rfl (fun W hS => ld_id HOX.out.old.id (hS.2.oid HOX.out)) (hs0) ?_; simp only [zT, zA, zB]
                  refine goZ_tk rfl rfl 75 rfl (.bool false) (exec_bin _ _ rfl rfl rfl (fun _ => by first | rfl | go_simp) HEQ.out) ?_; simp only [zT, zA, zB]
                  refine goZ_tk rfl rfl 76 rfl (.bool false) (fun _ => rfl) ?_; simp only [zT, zA, zB]
                  refine goZ_tk rfl rfl 77 rfl (.pointer (some ⟨p8, 0, none⟩)) (fun _ => by go_simp) ?_; simp only [zT, zA, zB]
                  refine goZ_ld rfl rfl 78 rfl 3 _ rfl ⟨p8, 0, none⟩ (.int .i64 x.kind) rfl (fun W hS => ld_int _ _ W hS.2.kind) (hs0) ?_; simp only [zT, zA, zB]
                  refine goZ_tk rfl rfl 79 rfl (.bool false) (fun _ => by go_simp) ?_; simp only [zT, zA, zB]
                  refine goZ_tk rfl rfl 80 rfl (.bool false) (fun _ => rfl) ?_; simp only [zT, zA, zB]
                  refine goZ_no rfl rfl 81 rfl ?_; simp only [zT, zA, zB]
                  refine goZ_no rfl rfl 82 rfl ?_; simp only [zT, zA, zB]
                  refine goZ_no rfl rfl 83 rfl ?_; simp only [zT, zA, zB]
                  refine goZ_no rfl rfl 84 rfl ?_; simp only [zT, zA, zB]
                  refine goZ_no rfl rfl 85 rfl ?_; simp only [zT, zA, zB]
                  refine goZ_tk rfl rfl 86 rfl (.bool false) (fun _ => rfl) ?_; simp only [zT, zA, zB]
                  refine goZ_tk rfl rfl 87 rfl (.bool false) (fun _ => rfl) ?_; simp only [zT, zA, zB]
                  refine goZ_tk rfl rfl 66 rfl (.bool false) (fun _ => rfl) ?_; simp only [zT, zA, zB]
                  refine goZ_end ?_
                  go_upto_region 17 with fail
                  refine goP_start ?_
                  refine goP_mv rfl 92 rfl _ rfl (.slice (some ⟨g, o6, none⟩) l'.length c6) rfl ?_; simp only [zT, zA, zB]
                  refine goP_mv rfl 93 rfl _ rfl (.int .i64 i) rfl ?_; simp only [zT, zA, zB]
                  refine goP_mv rfl 94 rfl _ rfl (.int .i64 i) rfl ?_; simp only [zT, zA, zB]
                  refine goP_tk rfl 95 rfl (.int .i64 ((i + 1 : Nat) : Int)) (exec_bin _ _ rfl rfl rfl (fun _ => rfl) (add_i HIW.out) _) ?_; simp only [zT, zA, zB]
                  refine goP_call rfl 96 rfl 46 _ rfl [(.slice (some ⟨g, o6, none⟩) l'.length c6), (.int .i64 i), .int .i64 ((i + 1 : Nat) : Int)] rfl (enters_of Tryz.func46 (by kernel_rfl) rfl) ((HDL.out).mono ?_)
                  rintro e w4 ⟨v7, rfl, hf7, hg7, ho7⟩
                  refine ⟨v7, rfl, ?_⟩; simp only [zT, zA, zB]
                  refine goP_as rfl 6 rfl _ rfl v7 rfl ?_; simp only [zT, zA, zB]
                  refine goP_end ?_
                  go_wp2_with fail
                  go_roundw
                  case rel => exact ⟨k + 1, hk, by go_num, _, HE.out, HLL.out, hf7, fun g' hg' => HOW.out g' (by rw [ho7] at hg'; exact hg'), HB3.out.grown hg7 HB3.out.size (fun g' hg' => HOW.out g' hg')⟩
                  case measure => simp [intOf]; omega
                · have e4 : (x.kind == 2) = false := beq_eq_false_iff_ne.2 hk2
                  have e4' : (x.kind != 2) = true := bne_iff_ne.2 hk2
                  by_cases hpn : x.new.path = p
                  · -- @dev{ SET
                    have HE : Hid (applyS l cs = applyS (l'.take i ++ x.new :: l'.drop (i + 1)) (cs.drop (k + 1))) := by show _ = _; rw [HST.out, app1_set HP.out hk1' hk2 HT.out hl1 hg4 HI.out HGX.out.out hid hpn]; rfl
                    have HLL : Hid ((l'.take i ++ x.new :: l'.drop (i + 1)).length ≤ l.length + (k + 1)) := by show _ ≤ _; rw [List.length_append, List.length_cons, List.length_take, List.length_drop]; omega
                    have HLE : Hid ((l'.take i ++ x.new :: l'.drop (i + 1)).length = l'.length) := by show _ = _; rw [List.length_append, List.length_cons, List.length_take, List.length_drop]; omega
                    have HPQ : Hid (∀ W, (binOp .neq 9 (.string x.new.path) (.string p)).run Tryz.prog W = .ok (.bool false) W) := fun W => by rw [str_neq, hpn]; simp
                    have HNW : Hid ((w2.drewN 1).rangeAt p8 35 (fiC x.new)) := hs0.2.new HOX.out
                    have HNI : Hid ((Tryz.prog.info? 56).map (·.size) = some (fiC x.new).length) := by show _ = _; rw [fiC_len HOX.out.new]; exact fiInfo
                    have HNJ : Hid ((Tryz.prog.info? 56).map (·.size) = some (fiC x.new).toArray.size) := by show _ = _; rw [List.size_toArray]; exact HNI.out
                    have HPT := Lib.hid (HF3.out.put hix HOX.out.new)
                    go_upto_region 10 with fail
                    refine goP_start ?_
                    refine goP_mv rfl 41 rfl _ rfl (.bool true) rfl ?_; simp only [zT, zA, zB]
                    refine goP_tk rfl 42 rfl (.pointer (some ⟨p8, 0, none⟩)) (by first | rfl | go_simp) ?_; simp only [zT, zA, zB]
                    refine goP_ld rfl 43 rfl 3 _ rfl ⟨p8, 0, none⟩ (.int .i64 x.kind) rfl (ld_int _ _ _ hk0) ?_; simp only [zT, zA, zB]
                    refine goP_tk rfl 44 rfl (.bool true) (by first | rfl | go_simp) ?_; simp only [zT, zA, zB]
                    refine goP_tk rfl 45 rfl (.bool false) (by first | rfl | go_simp) ?_; simp only [zT, zA, zB]
                    refine goP_mv rfl 46 rfl _ rfl (.bool false) rfl ?_; simp only [zT, zA, zB]
                    refine goP_tk rfl 47 rfl (.pointer (some ⟨p8, 0, none⟩)) (by first | rfl | go_simp) ?_; simp only [zT, zA, zB]
                    refine goP_ld rfl 48 rfl 3 _ rfl ⟨p8, 0, none⟩ (.int .i64 x.kind) rfl (ld_int _ _ _ hk0) ?_; simp only [zT, zA, zB]
                    refine goP_tk rfl 49 rfl (.bool false) (by first | rfl | go_simp) ?_; simp only [zT, zA, zB]
                    refine goP_pk rfl 50 rfl _ _ _ rfl false rfl (.bool false) rfl ?_; simp only [zT, zA, zB]
                    refine goP_mv rfl 51 rfl _ rfl (.bool false) rfl ?_; simp only [zT, zA, zB]
                    refine goP_tk rfl 52 rfl (.pointer (some ⟨p8, 0, none⟩)) (by first | rfl | go_simp) ?_; simp only [zT, zA, zB]
                    refine goP_ld rfl 53 rfl 3 _ rfl ⟨p8, 0, none⟩ (.int .i64 x.kind) rfl (ld_int _ _ _ hk0) ?_; simp only [zT, zA, zB]
                    refine goP_tk rfl 54 rfl (.bool false) (by first | rfl | go_simp) ?_; simp only [zT, zA, zB]
                    refine goP_pk rfl 55 rfl _ _ _ rfl false rfl (.bool false) rfl ?_; simp only [zT, zA, zB]
                    refine goP_as rfl 40 rfl _ rfl (.bool false) rfl ?_; simp only [zT, zA, zB]
                    refine goP_end ?_
                    go_upto_region 14 with fail
                    refine wp_region_hz (fun W => W.rangeAt g (o6 + i * 34 + 1) (nb f.id) ∧ ChB W p8 x) (.tk 0 (.tk 1 (.tk 2 (.tk 3 (.tk 4 (.tk 5 (.tk 6 (.tk 7 (.tk 8 (.tk 9 (.tk 10 (.tk 11 (.tk 12 (.tk 13 (.tk 14 (.tk 15 (.tk 16 (.tk 17 (.tk 18 (.tk 19 (.tk 20 (.tk 21 (.nil))))))))))))))))))))))) (by kernel_rfl) (by kernel_rfl) (fun _ _ _ _ _ h => h) ?_
                    refine goZ_tk rfl rfl 67 rfl (.slice (some ⟨g, o6, none⟩) l'.length c6) (fun _ => rfl) ?_; simp only [zT, zA, zB]
                    refine goZ_tk rfl rfl 68 rfl (.int .i64 i) (fun _ => rfl) ?_; simp only [zT, zA, zB]
                    refine goZ_tk rfl rfl 69 rfl (.pointer (some ⟨g, o6 + i * 34, none⟩)) (fun _ => by go_simp) ?_; simp only [zT, zA, zB]
                    refine goZ_tk rfl rfl 70 rfl (.pointer (some ⟨g, o6 + i * 34 + 1, none⟩)) (fun _ => rfl) ?_; simp only [zT, zA, zB]
                    refine goZ_ld rfl rfl 71 rfl 43 _ rfl ⟨g, o6 + i * 34 + 1, none⟩ (.agg (nums .u8 f.id)) rfl (fun W hS => ld_id HOF.out.id hS.1) (hs0) ?_; simp only [zT, zA, zB]
                    refine goZ_tk rfl rfl 72 rfl (.pointer (some ⟨p8, 1, none⟩)) (fun _ => by go_simp) ?_; simp only [zT, zA, zB]
                    refine goZ_tk rfl rfl 73 rfl (.pointer (some ⟨p8, 2, none⟩)) (fun _ => by go_simp) ?_; simp only [zT, zA, zB]
                    refine goZ_ld rfl rfl 74 rfl 43 _ rfl ⟨p8, 2, none⟩ (.agg (nums .u8 x.old.id)) rfl (fun W hS => ld_id HOX.out.old.id (hS.2.oid HOX.out)) (hs0) ?_; simp only [zT, zA, zB]
                    refine goZ_tk rfl rfl 75 rfl (.bool false) (exec_bin _ _ rfl rfl rfl (fun _ => by first | rfl | go_simp) HEQ.out) ?_; simp only [zT, zA, zB]
                    refine goZ_tk rfl rfl 76 rfl (.bool false) (fun _ => rfl) ?_; simp only [zT, zA, zB]
                    refine goZ_tk rfl rfl 77 rfl (.pointer (some ⟨p8, 0, none⟩)) (fun _ => by go_simp) ?_; simp only [zT, zA, zB]
                    refine goZ_ld rfl rfl 78 rfl 3 _ rfl ⟨p8, 0, none⟩ (.int .i64 x.kind) rfl (fun W hS => ld_int _ _ W hS.2.kind) (hs0) ?_; simp only [zT, zA, zB]
                    refine goZ_tk rfl rfl 79 rfl (.bool true) (fun _ => by go_simp) ?_; simp only [zT, zA, zB]
                    refine goZ_tk rfl rfl 80 rfl (.bool true) (fun _ => rfl) ?_; simp only [zT, zA, zB]
                    refine goZ_tk rfl rfl 81 rfl (.pointer (some ⟨p8, 35, none⟩)) (fun _ => by go_simp) ?_; simp only [zT, zA, zB]
                    refine goZ_tk rfl rfl 82 rfl (.pointer (some ⟨p8, 35, none⟩)) (fun _ => by go_simp) ?_; simp only [zT, zA, zB]
                    refine goZ_ld rfl rfl 83 rfl 9 _ rfl ⟨p8, 35, none⟩ (.string x.new.path) rfl (fun W hS => ld_string _ _ W (hS.2.npath HOX.out)) (hs0) ?_; simp only [zT, zA, zB]
                    refine goZ_tk rfl rfl 84 rfl (.string p) (fun _ => rfl) ?_; simp only [zT, zA, zB]
                    refine goZ_tk rfl rfl 85 rfl (.bool false) (exec_bin _ _ rfl rfl rfl (fun _ => by first | rfl | go_simp) HPQ.out) ?_; simp only [zT, zA, zB]
                    refine goZ_tk rfl rfl 86 rfl (.bool false) (fun _ => rfl) ?_; simp only [zT, zA, zB]
                    refine goZ_tk rfl rfl 87 rfl (.bool false) (fun _ => rfl) ?_; simp only [zT, zA, zB]
                    refine goZ_tk rfl rfl 66 rfl (.bool false) (fun _ => rfl) ?_; simp only [zT, zA, zB]
                    refine goZ_end ?_
                    go_upto_region 9 with fail
                    refine goP_start ?_
                    refine goP_mv rfl 35 rfl _ rfl (.slice (some ⟨g, o6, none⟩) l'.length c6) rfl ?_; simp only [zT, zA, zB]
                    refine goP_mv rfl 36 rfl _ rfl (.int .i64 i) rfl ?_; simp only [zT, zA, zB]
                    refine goP_tk rfl 37 rfl (.pointer (some ⟨p8, 35, none⟩)) (by first | rfl | go_simp) ?_; simp only [zT, zA, zB]
                    refine goP_ld rfl 38 rfl 56 _ rfl ⟨p8, 35, none⟩ (.agg (fiC x.new).toArray) rfl (run_loadAt_mid (P := Tryz.prog) _ p8 35 56 (fiC x.new) _ HNW.out Tryz.underlying56 rfl HNI.out) ?_; simp only [zT, zA, zB]
                    refine goP_tk rfl 39 rfl (.pointer (some ⟨g, o6 + i * 34, none⟩)) (by first | rfl | go_simp) ?_; simp only [zT, zA, zB]
                    refine goP_st rfl rfl 56 _ _ rfl ⟨g, o6 + i * 34, none⟩ (.agg (fiC x.new).toArray) rfl rfl ((w2.drewN 1).setCells g (o6 + i * 34) (fiC x.new)) (run_storeAt_mid _ g (o6 + i * 34) 56 _ (by rw [List.size_toArray]; exact HPT.out.2) HNJ.out (all_oneCell_toArray fiC_mem1)) ?_
                    refine goP_end ?_
                    go_wp2_with fail
                    go_roundw
                    case rel => exact ⟨k + 1, hk, by go_num, _, HE.out, HLL.out, HPT.out.1, HOW.out, HB3.out.grown (setCells_grown _ _ _ _) HB3.out.size (fun g' hg' => HOW.out g' hg')⟩
                    case measure => simp [intOf]; omega
                  · -- @dev{ PTH
                    have HPQ : Hid (∀ W, (binOp .neq 9 (.string x.new.path) (.string p)).run Tryz.prog W = .ok (.bool true) W) := fun W => by rw [str_neq, beq_eq_false_iff_ne.2 (fun e => hpn (ba_of_toList e))]; rfl
                    have HE : Hid (applyS l cs = none) := by show _ = _; rw [HST.out, app1_miss HP.out hk1' HT.out hl1 hg4 HI.out HGX.out.out (.inr ⟨hk2, hpn⟩)]; rfl
                    go_upto_region 10 with fail
                    refine goP_start ?_
                    refine goP_mv rfl 41 rfl _ rfl (.bool true) rfl ?_; simp only [zT, zA, zB]
                    refine goP_tk rfl 42 rfl (.pointer (some ⟨p8, 0, none⟩)) (by first | rfl | go_simp) ?_; simp only [zT, zA, zB]
                    refine goP_ld rfl 43 rfl 3 _ rfl ⟨p8, 0, none⟩ (.int .i64 x.kind) rfl (ld_int _ _ _ hk0) ?_; simp only [zT, zA, zB]
                    refine goP_tk rfl 44 rfl (.bool true) (by first | rfl | go_simp) ?_; simp only [zT, zA, zB]
                    refine goP_tk rfl 45 rfl (.bool false) (by first | rfl | go_simp) ?_; simp only [zT, zA, zB]
                    refine goP_mv rfl 46 rfl _ rfl (.bool false) rfl ?_; simp only [zT, zA, zB]
                    refine goP_tk rfl 47 rfl (.pointer (some ⟨p8, 0, none⟩)) (by first | rfl | go_simp) ?_; simp only [zT, zA, zB]
                    refine goP_ld rfl 48 rfl 3 _ rfl ⟨p8, 0, none⟩ (.int .i64 x.kind) rfl (ld_int _ _ _ hk0) ?_; simp only [zT, zA, zB]
                    refine goP_tk rfl 49 rfl (.bool false) (by first | rfl | go_simp) ?_; simp only [zT, zA, zB]
                    refine goP_pk rfl 50 rfl _ _ _ rfl false rfl (.bool false) rfl ?_; simp only [zT, zA, zB]
                    refine goP_mv rfl 51 rfl _ rfl (.bool false) rfl ?_; simp only [zT, zA, zB]
                    refine goP_tk rfl 52 rfl (.pointer (some ⟨p8, 0, none⟩)) (by first | rfl | go_simp) ?_; simp only [zT, zA, zB]
                    refine goP_ld rfl 53 rfl 3 _ rfl ⟨p8, 0, none⟩ (.int .i64 x.kind) rfl (ld_int _ _ _ hk0) ?_; simp only [zT, zA, zB]
                    refine goP_tk rfl 54 rfl (.bool false) (by first | rfl | go_simp) ?_; simp only [zT, zA, zB]
                    refine goP_pk rfl 55 rfl _ _ _ rfl false rfl (.bool false) rfl ?_; simp only [zT, zA, zB]
                    refine goP_as rfl 40 rfl _ rfl (.bool false) rfl ?_; simp only [zT, zA, zB]
                    refine goP_end ?_
                    go_upto_region 14 with fail
                    refine wp_region_hz (fun W => W.rangeAt g (o6 + i * 34 + 1) (nb f.id) ∧ ChB W p8 x) (.tk 0 (.tk 1 (.tk 2 (.tk 3 (.tk 4 (.tk 5 (.tk 6 (.tk 7 (.tk 8 (.tk 9 (.tk 10 (.tk 11 (.tk 12 (.tk 13 (.tk 14 (.tk 15 (.tk 16 (.tk 17 (.tk 18 (.tk 19 (.tk 20 (.tk 21 (.nil))))))))))))))))))))))) (by kernel_rfl) (by kernel_rfl) (fun _ _ _ _ _ h => h) ?_
                    refine goZ_tk rfl rfl 67 rfl (.slice (some ⟨g, o6, none⟩) l'.length c6) (fun _ => rfl) ?_; simp only [zT, zA, zB]
                    refine goZ_tk rfl rfl 68 rfl (.int .i64 i) (fun _ => rfl) ?_; simp only [zT, zA, zB]
                    refine goZ_tk rfl rfl 69 rfl (.pointer (some ⟨g, o6 + i * 34, none⟩)) (fun _ => by go_simp) ?_; simp only [zT, zA, zB]
                    refine goZ_tk rfl rfl 70 rfl (.pointer (some ⟨g, o6 + i * 34 + 1, none⟩)) (fun _ => rfl) ?_; simp only [zT, zA, zB]
                    refine goZ_ld rfl rfl 71 rfl 43 _ rfl ⟨g, o6 + i * 34 + 1, none⟩ (.agg (nums .u8 f.id)) rfl (fun W hS => ld_id HOF.out.id hS.1) (hs0) ?_; simp only [zT, zA, zB]
                    refine goZ_tk rfl rfl 72 rfl (.pointer (some ⟨p8, 1, none⟩)) (fun _ => by go_simp) ?_; simp only [zT, zA, zB]
                    refine goZ_tk rfl rfl 73 rfl (.pointer (some ⟨p8, 2, none⟩)) (fun _ => by go_simp) ?_; simp only [zT, zA, zB]
                    refine goZ_ld rfl rfl 74 rfl 43 _ rfl ⟨p8, 2, none⟩ (.agg (nums .u8 x.old.id)) rfl (fun W hS => ld_id HOX.out.old.id (hS.2.oid HOX.out)) (hs0) ?_; simp only [zT, zA, zB]
                    refine goZ_tk rfl rfl 75 rfl (.bool false) (exec_bin _ _ rfl rfl rfl (fun _ => by first | rfl | go_simp) HEQ.out) ?_; simp only [zT, zA, zB]
                    refine goZ_tk rfl rfl 76 rfl (.bool false) (fun _ => rfl) ?_; simp only [zT, zA, zB]
                    refine goZ_tk rfl rfl 77 rfl (.pointer (some ⟨p8, 0, none⟩)) (fun _ => by go_simp) ?_; simp only [zT, zA, zB]
                    refine goZ_ld rfl rfl 78 rfl 3 _ rfl ⟨p8, 0, none⟩ (.int .i64 x.kind) rfl (fun W hS => ld_int _ _ W hS.2.kind) (hs0) ?_; simp only [zT, zA, zB]
                    refine goZ_tk rfl rfl 79 rfl (.bool true) (fun _ => by go_simp) ?_; simp only [zT, zA, zB]
                    refine goZ_tk rfl rfl 80 rfl (.bool true) (fun _ => rfl) ?_; simp only [zT, zA, zB]
                    refine goZ_tk rfl rfl 81 rfl (.pointer (some ⟨p8, 35, none⟩)) (fun _ => by go_simp) ?_; simp only [zT, zA, zB]
                    refine goZ_tk rfl rfl 82 rfl (.pointer (some ⟨p8, 35, none⟩)) (fun _ => by go_simp) ?_; simp only [zT, zA, zB]
                    refine goZ_ld rfl rfl 83 rfl 9 _ rfl ⟨p8, 35, none⟩ (.string x.new.path) rfl (fun W hS => ld_string _ _ W (hS.2.npath HOX.out)) (hs0) ?_; simp only [zT, zA, zB]
                    refine goZ_tk rfl rfl 84 rfl (.string p) (fun _ => rfl) ?_; simp only [zT, zA, zB]
                    refine goZ_tk rfl rfl 85 rfl (.bool true) (exec_bin _ _ rfl rfl rfl (fun _ => by first | rfl | go_simp) HPQ.out) ?_; simp only [zT, zA, zB]
                    refine goZ_tk rfl rfl 86 rfl (.bool true) (fun _ => rfl) ?_; simp only [zT, zA, zB]
                    refine goZ_tk rfl rfl 87 rfl (.bool true) (fun _ => rfl) ?_; simp only [zT, zA, zB]
                    refine goZ_tk rfl rfl 66 rfl (.bool true) (fun _ => rfl) ?_; simp only [zT, zA, zB]
                    refine goZ_end ?_
                    go_wp2_with fail
                    go_ret2
                    exact ⟨fun _ => rfl, fun L h => (NO.out HE.out L h).elim, HB3.out⟩
              · -- @dev{ IDX
                have HEQ : Hid (∀ W, (binOp .neq 43 (.agg (nums .u8 f.id)) (.agg (nums .u8 x.old.id))).run Tryz.prog W = .ok (.bool true) W) := fun W => by rw [id_neq HOF.out.id HOX.out.old.id, decide_eq_false hid]; rfl
                have HE : Hid (applyS l cs = none) := by show _ = _; rw [HST.out, app1_miss HP.out hk1' HT.out hl1 hg4 HI.out HGX.out.out (.inl hid)]; rfl
                go_upto_region 10 with fail
                refine goP_start ?_
                refine goP_mv rfl 41 rfl _ rfl (.bool true) rfl ?_; simp only [zT, zA, zB]
                refine goP_tk rfl 42 rfl (.pointer (some ⟨p8, 0, none⟩)) (by first | rfl | go_simp) ?_; simp only [zT, zA, zB]
                refine goP_ld rfl 43 rfl 3 _ rfl ⟨p8, 0, none⟩ (.int .i64 x.kind) rfl (ld_int _ _ _ hk0) ?_; simp only [zT, zA, zB]
                refine goP_tk rfl 44 rfl (.bool true) (by first | rfl | go_simp) ?_; simp only [zT, zA, zB]
                refine goP_tk rfl 45 rfl (.bool false) (by first | rfl | go_simp) ?_; simp only [zT, zA, zB]
                refine goP_mv rfl 46 rfl _ rfl (.bool false) rfl ?_; simp only [zT, zA, zB]
                refine goP_tk rfl 47 rfl (.pointer (some ⟨p8, 0, none⟩)) (by first | rfl | go_simp) ?_; simp only [zT, zA, zB]
                refine goP_ld rfl 48 rfl 3 _ rfl ⟨p8, 0, none⟩ (.int .i64 x.kind) rfl (ld_int _ _ _ hk0) ?_; simp only [zT, zA, zB]
                refine goP_tk rfl 49 rfl (.bool false) (by first | rfl | go_simp) ?_; simp only [zT, zA, zB]
                refine goP_pk rfl 50 rfl _ _ _ rfl false rfl (.bool false) rfl ?_; simp only [zT, zA, zB]
                refine goP_mv rfl 51 rfl _ rfl (.bool false) rfl ?_; simp only [zT, zA, zB]
                refine goP_tk rfl 52 rfl (.pointer (some ⟨p8, 0, none⟩)) (by first | rfl | go_simp) ?_; simp only [zT, zA, zB]
                refine goP_ld rfl 53 rfl 3 _ rfl ⟨p8, 0, none⟩ (.int .i64 x.kind) rfl (ld_int _ _ _ hk0) ?_; simp only [zT, zA, zB]
                refine goP_tk rfl 54 rfl (.bool false) (by first | rfl | go_simp) ?_; simp only [zT, zA, zB]
                refine goP_pk rfl 55 rfl _ _ _ rfl false rfl (.bool false) rfl ?_; simp only [zT, zA, zB]
                refine goP_as rfl 40 rfl _ rfl (.bool false) rfl ?_; simp only [zT, zA, zB]
                refine goP_end ?_
                go_upto_region 14 with fail
                refine wp_region_hz (fun W => W.rangeAt g (o6 + i * 34 + 1) (nb f.id) ∧ ChB W p8 x) (.tk 0 (.tk 1 (.tk 2 (.tk 3 (.tk 4 (.tk 5 (.tk 6 (.tk 7 (.tk 8 (.tk 9 (.tk 10 (.tk 11 (.tk 12 (.tk 13 (.tk 14 (.tk 15 (.tk 16 (.tk 17 (.tk 18 (.tk 19 (.tk 20 (.tk 21 (.nil))))))))))))))))))))))) (by kernel_rfl) (by kernel_rfl) (fun _ _ _ _ _ h => h) ?_
                refine goZ_tk rfl rfl 67 rfl (.slice (some ⟨g, o6, none⟩) l'.length c6) (fun _ => rfl) ?_; simp only [zT, zA, zB]
                refine goZ_tk rfl rfl 68 rfl (.int .i64 i) (fun _ => rfl) ?_; simp only [zT, zA, zB]
                refine goZ_tk rfl rfl 69 rfl (.pointer (some ⟨g, o6 + i * 34, none⟩)) (fun _ => by go_simp) ?_; simp only [zT, zA, zB]
                refine goZ_tk rfl rfl 70 rfl (.pointer (some ⟨g, o6 + i * 34 + 1, none⟩)) (fun _ => rfl) ?_; simp only [zT, zA, zB]
                refine goZ_ld rfl rfl 71 rfl 43 _ rfl ⟨g, o6 + i * 34 + 1, none⟩ (.agg (nums .u8 f.id)) rfl (fun W hS => ld_id HOF.out.id hS.1) (hs0) ?_; simp only [zT, zA, zB]
                refine goZ_tk rfl rfl 72 rfl (.pointer (some ⟨p8, 1, none⟩)) (fun _ => by go_simp) ?_; simp only [zT, zA, zB]
                refine goZ_tk rfl rfl 73 rfl (.pointer (some ⟨p8, 2, none⟩)) (fun _ => by go_simp) ?_; simp only [zT, zA, zB]
                refine goZ_ld rfl rfl 74 rfl 43 _ rfl ⟨p8, 2, none⟩ (.agg (nums .u8 x.old.id)) rfl (fun W hS => ld_id HOX.out.old.id (hS.2.oid HOX.out)) (hs0) ?_; simp only [zT, zA, zB]
                refine goZ_tk rfl rfl 75 rfl (.bool true) (exec_bin _ _ rfl rfl rfl (fun _ => by first | rfl | go_simp) HEQ.out) ?_; simp only [zT, zA, zB]
                refine goZ_tk rfl rfl 76 rfl (.bool true) (fun _ => rfl) ?_; simp only [zT, zA, zB]
                refine goZ_no rfl rfl 77 rfl ?_; simp only [zT, zA, zB]
                refine goZ_no rfl rfl 78 rfl ?_; simp only [zT, zA, zB]
                refine goZ_no rfl rfl 79 rfl ?_; simp only [zT, zA, zB]
                refine goZ_no rfl rfl 80 rfl ?_; simp only [zT, zA, zB]
                refine goZ_no rfl rfl 81 rfl ?_; simp only [zT, zA, zB]
                refine goZ_no rfl rfl 82 rfl ?_; simp only [zT, zA, zB]
                refine goZ_no rfl rfl 83 rfl ?_; simp only [zT, zA, zB]
                refine goZ_no rfl rfl 84 rfl ?_; simp only [zT, zA, zB]
                refine goZ_no rfl rfl 85 rfl ?_; simp only [zT, zA, zB]
                refine goZ_no rfl rfl 86 rfl ?_; simp only [zT, zA, zB]
                refine goZ_tk rfl rfl 87 rfl (.bool true) (fun _ => rfl) ?_; simp only [zT, zA, zB]
                refine goZ_tk rfl rfl 66 rfl (.bool true) (fun _ => rfl) ?_; simp only [zT, zA, zB]
                refine goZ_end ?_
                go_wp2_with fail
                go_ret2
                exact ⟨fun _ => rfl, fun L h => (NO.out HE.out L h).elim, HB3.out⟩
    · have d1 : decide ((k : Int) < (cs.length : Int)) = false := decide_eq_false (by omega)
      have d2 : decide (k < cs.length) = false := decide_eq_false hk
      have HE : Hid (applyS l cs = some l') := by
        show _ = _
        rw [HAP.out, List.drop_eq_nil_of_le (by omega)]; rfl
      clear HAP
      go_wp2_with fail
      go_ret2
      exact ⟨fun h => (by rw [HE.out] at h; cases h), fun L h => ⟨_, rfl, by rw [HE.out] at h; injection h with h; rw [← h]; exact HFR.out, HOW.out⟩, HB.out⟩
end Go.Proofs.YtpcipdkoncmdcaaGreatDoor
