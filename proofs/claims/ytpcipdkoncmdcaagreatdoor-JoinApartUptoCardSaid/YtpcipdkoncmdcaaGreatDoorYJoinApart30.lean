/- Texts of mine, joined: The law of sides that change other paths than each other: the walk. -/
import Derived.Test.YtpcipdkoncmdcaaGreatDoorYJoinApart29
namespace Go.Proofs.YtpcipdkoncmdcaaGreatDoor
open Go Go.RowKit
theorem applyS_len : ∀ {cs : List Ch} {l L : List Fi}, applyS l cs = some L → L.length ≤ l.length + cs.length
  | [], l, L, h => by injection h with h; rw [← h]; simp
  | c :: cs, l, L, h => by
    have h : (app1 l c).bind (applyS · cs) = some L := h
    cases e : app1 l c with
    | none => rw [e] at h; cases h
    | some l1 =>
      rw [e] at h
      have h1 := app1_len e
      have h2 := applyS_len (cs := cs) (l := l1) (L := L) h
      rw [List.length_cons]; omega
/-- tree.Apply, whatever comes. -/
theorem apply_any {w : World} {v : Value} {l : List Fi} (h : FS w v l) {vc : Value} {cs : List Ch} (hc : CS w vc cs) (hn : l.length + cs.length ≤ 3000000) (hg : Gl w) :
    Calls Tryz.prog 24 #[v, vc] w fun e w' => ∃ v' L, ∃ er : Int, e = .returned (.tuple #[v', .int .i64 er]) ∧ FT w' v' L ∧ (er = 0 → applyS l cs = some L) ∧ Below w.heap.size w w' :=
  (fapply_c h hc hn hg).mono fun e w' ⟨h1, h2, h3⟩ => by
    cases hr : applyS l cs with
    | none => exact ⟨_, [], 4, h1 hr, (FR.nil w').ft (Nat.zero_le _), (fun h => by cases h), h3⟩
    | some L =>
      obtain ⟨v', e1, e2, -⟩ := h2 L hr
      have := applyS_len hr
      exact ⟨v', L, 0, e1, e2.ft (by omega), fun _ => rfl, h3⟩
theorem tcheck_any {w : World} {v : Value} {l : List Fi} (h : FT w v l) (hg : Gl w) : Calls Tryz.prog 19 #[v] w fun e w' => e = .returned (.int .i64 (chkS l)) ∧ Below w.heap.size w w' := tcheck_c h.fs hg
/-- The outcomes of sides apart. -/
theorem clashed_at {T : T3 (List Fi)} {R : List Fi} {V : List Ov} (hV : V.map (·.o) = clashed (R.map (keptO T))) : V.length = R.length ∧ ∀ k (h1 : k < V.length) (h2 : k < R.length), V[k].o = keptO T R[k] ∨ (V[k].o.kind = 4) := by
  have hl : V.length = R.length := by have := congrArg List.length hV; simpa [clashed] using this
  refine ⟨hl, fun k h1 h2 => ?_⟩
  have e1 : (V.map (·.o))[k]? = (clashed (R.map (keptO T)))[k]? := by rw [hV]
  unfold clashed at e1
  rw [List.getElem?_map, List.getElem?_mapIdx, List.getElem?_map, List.getElem?_eq_getElem h1, List.getElem?_eq_getElem h2] at e1
  have e2 : V[k].o = clash1 (R.map (keptO T)) k (keptO T R[k]) := Option.some.inj e1
  rw [e2]
  unfold clash1
  split
  · exact .inr rfl
  · exact .inl rfl
theorem diffS_len : ∀ (A B : List Fi), (diffS A B).length ≤ A.length + B.length
  | [], [] => by rw [diffS]; exact Nat.zero_le _
  | x :: a, [] => by
    rw [diffS]
    have := diffS_len a []
    simp only [List.length_cons, List.length_nil] at this ⊢; omega
  | [], y :: b => by
    rw [diffS]
    have := diffS_len [] b
    simp only [List.length_cons, List.length_nil] at this ⊢; omega
  | x :: a, y :: b => by
    have h1 := diffS_len a (y :: b)
    have h2 := diffS_len (x :: a) b
    have h3 := diffS_len a b
    rw [diffS]
    simp only [List.length_cons] at h1 h2 ⊢
    repeat' split
    all_goals (try simp only [List.length_cons])
    all_goals omega
termination_by A B => A.length + B.length
/-- tree.Diff, its slice written out. -/
theorem diff_any {w : World} {va vb : Value} {A B : List Fi} (hA : FT w va A) (hB : FT w vb B) (hn : A.length + B.length ≤ 1000000) (hg : Gl w) :
    Calls Tryz.prog 25 #[va, vb] w fun e w' => ∃ a c, e = .returned (.slice a (diffS A B).length c) ∧ CR w' (.slice a (diffS A B).length c) (diffS A B) ∧ Below w.heap.size w w' :=
  (fdiff_c hA hB hn hg).mono fun e w' ⟨v', e1, h2, _, h4⟩ => by
    obtain ⟨a, c, e2, -⟩ := h2.row.form
    subst e2
    exact ⟨a, c, e1, h2, h4⟩
theorem str_add {a b : ByteArray} (h : a.size + b.size ≤ 9223372036854775807) (W : World) : (binOp .add 9 (.string a) (.string b)).run Tryz.prog W = .ok (.string (a ++ b)) W := by go_simp
theorem str_eql (a b : ByteArray) (W : World) : (binOp .eql 9 (.string a) (.string b)).run Tryz.prog W = .ok (.bool (decide (a = b))) W := by
  by_cases h : a = b
  · rw [decide_eq_true h, h]; go_simp
  · rw [decide_eq_false h]
    have : (a.toList == b.toList) = false := beq_eq_false_iff_ne.2 (fun e => h (ba_of_toList e))
    go_simp
theorem str_neqd (a b : ByteArray) (W : World) : (binOp .neq 9 (.string a) (.string b)).run Tryz.prog W = .ok (.bool (!decide (a = b))) W := by
  rw [str_neq]
  by_cases h : a = b
  · rw [decide_eq_true h, h]; simp
  · rw [decide_eq_false h, beq_eq_false_iff_ne.2 (fun e => h (ba_of_toList e))]
theorem ch_isz {x : Ch} (h : OkCh x) : (Tryz.prog.info? 75).map (·.size) = some (chC x).length := by rw [chC_len h]; exact ch_info
theorem ch_isy {x : Ch} (h : OkCh x) : (Tryz.prog.info? 75).map (·.size) = some (chC x).toArray.size := by rw [List.size_toArray]; exact ch_isz h
theorem ch_zsz {x : Ch} (h : OkCh x) : Tryz.zeroCells75.size = (chC x).toArray.size := (show Tryz.zeroCells75.size = 69 by kernel_rfl).trans (by rw [List.size_toArray, chC_len h])
theorem take_all {α : Type} {P : α → Prop} {l : List α} {k : Nat} (hk : k < l.length) (h : ∀ x ∈ l.take k, P x) (hx : P l[k]) : ∀ x ∈ l.take (k + 1), P x := by
  intro x hm
  rw [List.take_add_one, List.getElem?_eq_getElem hk] at hm
  rcases List.mem_append.1 hm with hm | hm
  · exact h x hm
  · have : x = l[k] := by simpa using hm
    rw [this]; exact hx

set_option maxRecDepth 100000 in
set_option maxHeartbeats 8000000 in
theorem apart_c {w : World} {vb va1 va2 : Value} {A : List Fi} {c1 c2 : List Ch} (ha : FT w vb A) (h1 : CS w va1 c1) (h2 : CS w va2 c2) (hz1 : A.length + c1.length ≤ 3000000) (hz2 : A.length + c2.length ≤ 3000000) (hg : Gl w) :
    Calls Tryz.prog 9 #[vb, va1, va2] w fun e w' => e = .returned (.bool true) ∧ Below w.heap.size w w' := by
  have HA := Lib.hid ha
  have H1 := Lib.hid h1
  have H2 := Lib.hid h2
  have HG := Lib.hid hg
  have HAW := Lib.hid (awake_c w hg)
  clear ha h1 h2 hg
  go_enter Tryz.func9, Tryz.ntmps9
  go_upto_region 3 with (go_at_call 10; refine HAW.out.mono ?_; rintro e W2 ⟨rfl, hb2⟩)
  have HB2 := Lib.hid hb2
  have HAP := Lib.hid (apply_any (HA.out.fs.below hb2) (H1.out.below hb2) hz1 (HG.out.below hb2 (Nat.le_refl _)))
  clear hb2 HAW
  go_upto_region 4 with (go_at_call 24; refine HAP.out.mono ?_; rintro e W3 ⟨v7, O, e1, rfl, hfo, heo, hb3⟩)
  have HB3 : Hid (Below w.heap.size w W3) := HB2.out.trans (hb3.mono HB2.out.size)
  have HFO := Lib.hid hfo
  have HEO := Lib.hid heo
  have HAP2 := Lib.hid (apply_any (HA.out.fs.below HB3.out) (H2.out.below HB3.out) hz2 (HG.out.below HB3.out (Nat.le_refl _)))
  clear hb3 hfo heo HAP HB2
  go_upto_region 5 with (go_at_call 24; refine HAP2.out.mono ?_; rintro e W4 ⟨v9, T, e2, rfl, hft, het, hb4⟩)
  have HX : Hid (∀ W, Below W4.heap.size W4 W → Below w.heap.size w W ∧ Gl W ∧ FT W vb A ∧ FT W v7 O ∧ FT W v9 T) := by
    intro W hb
    have h0 : Below w.heap.size w W := HB3.out.trans ((hb4.trans (hb.mono hb4.size)).mono HB3.out.size)
    exact ⟨h0, HG.out.below h0 (Nat.le_refl _), HA.out.below h0, HFO.out.below (hb4.trans (hb.mono hb4.size)), hft.below hb⟩
  have HET := Lib.hid het
  clear hb4 hft het HAP2 HB3 HFO H1 H2 HA HG
  have HC0 := Lib.hid (tcheck_any (HX.out W4 (Below.refl _ _)).2.2.1 (HX.out W4 (Below.refl _ _)).2.1)
  have HC1 : Hid (∀ W, Below W4.heap.size W4 W → Calls Tryz.prog 19 #[v7] W fun e w' => e = .returned (.int .i64 (chkS O)) ∧ Below W.heap.size W w') := fun W hb => tcheck_any (HX.out W hb).2.2.2.1 (HX.out W hb).2.1
  have HC2 : Hid (∀ W, Below W4.heap.size W4 W → Calls Tryz.prog 19 #[v9] W fun e w' => e = .returned (.int .i64 (chkS T)) ∧ Below W.heap.size W w') := fun W hb => tcheck_any (HX.out W hb).2.2.2.2 (HX.out W hb).2.1
  have HOA : Hid (chkS A = 0 → OkS A) := fun h => okS_of h
  have HOO : Hid (chkS O = 0 → OkS O) := fun h => okS_of h
  have HOT : Hid (chkS T = 0 → OkS T) := fun h => okS_of h
  generalize chkS A = k0 at HC0 HOA
  generalize chkS O = k1 at HC1 HOO
  generalize chkS T = k2 at HC2 HOT
  by_cases hk0 : k0 = 0
  · by_cases he1 : e1 = 0
    · by_cases he2 : e2 = 0
      · by_cases hk1 : k1 = 0
        · by_cases hk2 : k2 = 0
          · subst hk0 he1 he2 hk1 hk2
            have HAA := Lib.hid (HOA.out rfl)
            have HOOS := Lib.hid (HOO.out rfl)
            have HTT := Lib.hid (HOT.out rfl)
            have HEO1 := Lib.hid (HEO.out rfl)
            clear HOA HOO HOT HEO HET HEO1
            go_upto_region 5 with fail
            refine goP_start ?_
            refine goP_mv rfl 37 rfl _ rfl vb rfl ?_; simp only [zT, zA, zB]
            refine goP_call rfl 38 rfl 19 _ rfl [vb] rfl (enters_of Tryz.func19 (by kernel_rfl) rfl) ((HC0.out).mono ?_)
            rintro e W5 ⟨rfl, hb5⟩
            refine ⟨(.int .i64 0), rfl, ?_⟩; simp only [zT, zA, zB]
            refine goP_tk rfl 39 rfl (.bool false) (by first | rfl | go_simp) ?_; simp only [zT, zA, zB]
            refine goP_mv rfl 40 rfl _ rfl (.bool false) rfl ?_; simp only [zT, zA, zB]
            refine goP_mv rfl 41 rfl _ rfl (.int .i64 0) rfl ?_; simp only [zT, zA, zB]
            refine goP_tk rfl 42 rfl (.bool false) (by first | rfl | go_simp) ?_; simp only [zT, zA, zB]
            refine goP_pk rfl 43 rfl _ _ _ rfl false rfl (.bool false) rfl ?_; simp only [zT, zA, zB]
            refine goP_mv rfl 44 rfl _ rfl (.bool false) rfl ?_; simp only [zT, zA, zB]
            refine goP_mv rfl 45 rfl _ rfl (.int .i64 0) rfl ?_; simp only [zT, zA, zB]
            refine goP_tk rfl 46 rfl (.bool false) (by first | rfl | go_simp) ?_; simp only [zT, zA, zB]
            refine goP_pk rfl 47 rfl _ _ _ rfl false rfl (.bool false) rfl ?_; simp only [zT, zA, zB]
            refine goP_mv rfl 48 rfl _ rfl (.bool false) rfl ?_; simp only [zT, zA, zB]
            refine goP_mv rfl 49 rfl _ rfl v7 rfl ?_; simp only [zT, zA, zB]
            refine goP_call rfl 50 rfl 19 _ rfl [v7] rfl (enters_of Tryz.func19 (by kernel_rfl) rfl) ((HC1.out W5 hb5).mono ?_)
            rintro e W6 ⟨rfl, hb6⟩
            refine ⟨(.int .i64 0), rfl, ?_⟩; simp only [zT, zA, zB]
            refine goP_tk rfl 51 rfl (.bool false) (by first | rfl | go_simp) ?_; simp only [zT, zA, zB]
            refine goP_pk rfl 52 rfl _ _ _ rfl false rfl (.bool false) rfl ?_; simp only [zT, zA, zB]
            refine goP_mv rfl 53 rfl _ rfl (.bool false) rfl ?_; simp only [zT, zA, zB]
            refine goP_mv rfl 54 rfl _ rfl v9 rfl ?_; simp only [zT, zA, zB]
            refine goP_call rfl 55 rfl 19 _ rfl [v9] rfl (enters_of Tryz.func19 (by kernel_rfl) rfl) ((HC2.out W6 (hb5.trans (hb6.mono hb5.size))).mono ?_)
            rintro e W7 ⟨rfl, hb7⟩
            refine ⟨(.int .i64 0), rfl, ?_⟩; simp only [zT, zA, zB]
            refine goP_tk rfl 56 rfl (.bool false) (by first | rfl | go_simp) ?_; simp only [zT, zA, zB]
            refine goP_pk rfl 57 rfl _ _ _ rfl false rfl (.bool false) rfl ?_; simp only [zT, zA, zB]
            refine goP_end ?_
            have HBB5 := Lib.hid (hb5.trans ((hb6.trans (hb7.mono hb6.size)).mono hb5.size))
            clear hb5 hb6 hb7 HC0 HC1 HC2
            -- @dev{ GO
            obtain ⟨h0, hgl, hfa, hfo, hft⟩ := HX.out W7 HBB5.out
            obtain ⟨ab, cb, rfl⟩ := hfa.fs.lit
            obtain ⟨ao, co, rfl⟩ := hfo.fs.lit
            obtain ⟨at', ct, rfl⟩ := hft.fs.lit
            have HLA : Hid (A.length ≤ 256) := HAA.out.n
            have HLO : Hid (O.length ≤ 256) := HOOS.out.n
            have HLT : Hid (T.length ≤ 256) := HTT.out.n
            have HD1 := Lib.hid (diff_any hfa hfo (by have := HLA.out; have := HLO.out; omega) hgl)
            have HD2 : Hid (∀ W, Below W4.heap.size W4 W → Calls Tryz.prog 25 #[.slice ab A.length cb, .slice at' T.length ct] W fun e w' => ∃ a c, e = .returned (.slice a (diffS A T).length c) ∧ CR w' (.slice a (diffS A T).length c) (diffS A T) ∧ Below W.heap.size W w') := fun W hb => diff_any (HX.out W hb).2.2.1 (HX.out W hb).2.2.2.2 (by have := HLA.out; have := HLT.out; omega) (HX.out W hb).2.1
            have HPL := Lib.hid (apart_plain HAA.out HOOS.out HTT.out)
            have HXL : Hid ((diffS A O).length ≤ 512) := by have h1 := diffS_len A O; have h2 := HLA.out; have h3 := HLO.out; show _ ≤ _; omega
            have HYL : Hid ((diffS A T).length ≤ 512) := by have h1 := diffS_len A T; have h2 := HLA.out; have h3 := HLT.out; show _ ≤ _; omega
            generalize hXe : diffS A O = X at HD1 HPL HXL
            have HAPY : Hid (∀ R, applyS O (diffS A T) = some R → ∀ W, Below W4.heap.size W4 W → ∀ v, CR W v (diffS A T) → Calls Tryz.prog 24 #[.slice ao O.length co, v] W fun e w' => ∃ a c, e = .returned (.tuple #[.slice a R.length c, .int .i64 0]) ∧ FR w' (.slice a R.length c) R ∧ Below W.heap.size W w') := by
              intro R hR W hb v hv
              refine (fapply_c (HX.out W hb).2.2.2.1.fs (hv.cs (by have := HYL.out; omega)) (by have := HYL.out; have := HLO.out; omega) (HX.out W hb).2.1).mono fun e w' ⟨g1, g2, g3⟩ => ?_
              obtain ⟨v', e1, e2, -⟩ := g2 R hR
              obtain ⟨a, c, e3, -⟩ := e2.row.form
              subst e3
              exact ⟨a, c, e1, e2, g3⟩
            have HAPL : Hid (∀ R, applyS O (diffS A T) = some R → R.length ≤ 1000) := fun R hR => by have h1 := applyS_len hR; have h2 := HYL.out; have h3 := HLO.out; omega
            generalize hYe : diffS A T = Y at HD2 HPL HYL HAPY HAPL
            clear h0 hgl hfa hfo hft hXe hYe
            go_upto_region 8 with (go_at_call 25; refine HD1.out.mono ?_; rintro e W8 ⟨ax, cx, rfl, hcr, hb8⟩)
            have HB8 : Hid (Below W4.heap.size W4 W8) := HBB5.out.trans (hb8.mono HBB5.out.size)
            have HC8 := Lib.hid (hcr.cs (by have := HXL.out; omega))
            have hxl := HXL.out
            have hyl := HYL.out
            clear hcr hb8 HBB5 HD1
            go_loopw [62] (fun iv wx => ∃ i : Nat, i ≤ X.length ∧ iv = .int .i64 i ∧ Hid (Below W8.heap.size W8 wx) ∧ Hid (∀ x ∈ X.take i, ∀ y ∈ Y, ¬ meetsC x y)) (fun iv _ => (X.length - intOf iv).toNat)
            case atStart => exact ⟨0, Nat.zero_le _, rfl, Below.refl _ _, fun x hx => by simp at hx⟩
            case round =>
              obtain ⟨i, hi, rfl, HBW, HNM⟩ := hrel
              by_cases hil : i < X.length
              · -- @dev{ L1
                have d1 : decide ((i : Int) < (X.length : Int)) = true := decide_eq_true (by omega)
                have d2 : decide (i < X.length) = true := decide_eq_true hil
                have i0 : (0 : Int) ≤ (i : Int) := by omega
                have i1 : (i : Int) < (X.length : Int) := by omega
                have iw : IntKind.i64.wrap ((i : Int) + 1) = ((i + 1 : Nat) : Int) := IntWalk.i64_in _ (by omega)
                obtain ⟨b, o, c', e, hbl, hr⟩ := (HC8.out.below HBW.out).at hil
                injection e with e1 e2 e3
                clear e2 e3
                subst e1
                have HR : Hid (wr.rangeAt b (o + i * 69) (chC X[i])) := hr i hil
                have HOX : Hid (OkCh X[i]) := HC8.out.ok _ (List.getElem_mem hil)
                have HNX : Hid (∀ h : ∀ y ∈ Y, ¬ meetsC X[i] y, ∀ x ∈ X.take (i + 1), ∀ y ∈ Y, ¬ meetsC x y) := fun h => take_all hil HNM.out h
                clear hr hbl
                generalize X[i] = x at HR HOX HNX
                go_upto_region 10 with (first
                  | (refine wpList_load_mid rfl 75 _ rfl b (o + i * 69) rfl (chC x) _ HR.out Tryz.underlying75 rfl (ch_isz HOX.out) ?_)
                  | (refine wp_storeB rfl 75 _ _ rfl wr.heap.size (chC x).toArray rfl rfl (old := Tryz.zeroCells75) Array.getElem?_push_size (ch_zsz HOX.out) (ch_isy HOX.out) chC_one ?_; intro W9 hb9 hg9))
                have hB9 : Below wr.heap.size wr W9 := ((Below.refl wr.heap.size wr).alloc (Nat.le_refl _) _).grown hg9 (by simp) (fun k hk => by cases hk; exact Nat.le_refl _)
                have HB9 : Hid (Below W8.heap.size W8 W9) := HBW.out.trans (hB9.mono HBW.out.size)
                have HCX : Hid (ChB W9 wr.heap.size x) := hb9
                clear hb9 hg9 hB9 HR HBW HNM
                generalize wr.heap.size = p12 at *
                have HDY := Lib.hid (HD2.out W9 (HB8.out.trans (HB9.out.mono HB8.out.size)))
                go_upto_region 11 with (go_at_call 25; refine HDY.out.mono ?_; rintro e W10 ⟨ay, cy, rfl, hcr, hb10⟩)
                have HB10 : Hid (Below W8.heap.size W8 W10) := HB9.out.trans (hb10.mono HB9.out.size)
                have HC10 := Lib.hid (hcr.cs (by omega))
                have HCX10 := Lib.hid (HCX.out.below hb10)
                clear hcr hb10 HDY HB9 HCX
                go_loopw [70] (fun jv wx => ∃ j : Nat, j ≤ Y.length ∧ jv = .int .i64 j ∧ Hid (Below W10.heap.size W10 wx) ∧ Hid (∀ y ∈ Y.take j, ¬ meetsC x y)) (fun jv _ => (Y.length - intOf jv).toNat)
                case atStart => exact ⟨0, Nat.zero_le _, rfl, Below.refl _ _, fun x hx => by simp at hx⟩
                case round =>
                  obtain ⟨j, hj, rfl, HBW, HNM⟩ := hrel
                  by_cases hjl : j < Y.length
                  · -- @dev{ L2
                    have d3 : decide ((j : Int) < (Y.length : Int)) = true := decide_eq_true (by omega)
                    have d4 : decide (j < Y.length) = true := decide_eq_true hjl
                    have j0 : (0 : Int) ≤ (j : Int) := by omega
                    have j1 : (j : Int) < (Y.length : Int) := by omega
                    have jw : IntKind.i64.wrap ((j : Int) + 1) = ((j + 1 : Nat) : Int) := IntWalk.i64_in _ (by omega)
                    obtain ⟨b', o', c'', e, hbl, hr⟩ := (HC10.out.below HBW.out).at hjl
                    injection e with e1 e2 e3
                    clear e2 e3
                    subst e1
                    have HR : Hid (wr.rangeAt b' (o' + j * 69) (chC Y[j])) := hr j hjl
                    have HOY : Hid (OkCh Y[j]) := HC10.out.ok _ (List.getElem_mem hjl)
                    have HNY : Hid (∀ h : ¬ meetsC x Y[j], ∀ y ∈ Y.take (j + 1), ¬ meetsC x y) := fun h => take_all hjl HNM.out h
                    clear hr hbl
                    generalize Y[j] = y at HR HOY HNY
                    go_upto_region 13 with (first
                      | (refine wpList_load_mid rfl 75 _ rfl b' (o' + j * 69) rfl (chC y) _ HR.out Tryz.underlying75 rfl (ch_isz HOY.out) ?_)
                      | (refine wp_storeB rfl 75 _ _ rfl wr.heap.size (chC y).toArray rfl rfl (old := Tryz.zeroCells75) Array.getElem?_push_size (ch_zsz HOY.out) (ch_isy HOY.out) chC_one ?_; intro W12 hb12 hg12))
                    have hB12 : Below wr.heap.size wr W12 := ((Below.refl wr.heap.size wr).alloc (Nat.le_refl _) _).grown hg12 (by simp) (fun k hk => by cases hk; exact Nat.le_refl _)
                    have HB12 : Hid (Hid (Below W10.heap.size W10 W12)) := HBW.out.trans (hB12.mono HBW.out.size)
                    have hcy : ChB W12 wr.heap.size y := hb12
                    have hcx := HCX10.out.below HB12.out.out
                    have HEND : Hid (Below w.heap.size w W12) := (HX.out W12 (HB8.out.trans ((HB10.out.trans (HB12.out.out.mono HB10.out.size)).mono HB8.out.size))).1
                    clear hb12 hg12 hB12 HR HBW HNM
                    generalize wr.heap.size = p14 at *
                    have HX1 := Lib.hid hcx.opath
                    have HX2 := Lib.hid (hcx.npath HOX.out)
                    have HY1 := Lib.hid hcy.opath
                    have HY2 := Lib.hid (hcy.npath HOY.out)
                    clear hcx hcy
                    have HSZ : Hid (x.old.path.size + x.new.path.size ≤ 9223372036854775807) := by have h1 := HOX.out.old.pz; have h2 := HOX.out.new.pz; show _ ≤ _; omega
                    obtain ⟨xo, hxo⟩ : ∃ s, x.old.path = s := ⟨_, rfl⟩
                    obtain ⟨xn, hxn⟩ : ∃ s, x.new.path = s := ⟨_, rfl⟩
                    obtain ⟨yo, hyo⟩ : ∃ s, y.old.path = s := ⟨_, rfl⟩
                    obtain ⟨yn, hyn⟩ : ∃ s, y.new.path = s := ⟨_, rfl⟩
                    have HM : Hid (meetsC x y ↔ (xo ++ xn = ByteArray.empty ∨ (xo = yo ∧ xo ≠ ByteArray.empty) ∨ (xn = yn ∧ xn ≠ ByteArray.empty))) := by show _ ↔ _; unfold meetsC; rw [hxo, hxn, hyo, hyn]
                    rw [hxo] at HX1 HSZ
                    rw [hxn] at HX2 HSZ
                    rw [hyo] at HY1
                    rw [hyn] at HY2
                    clear hxo hxn hyo hyn
                    have HQ1 := Lib.hid (str_eql (xo ++ xn) ByteArray.empty)
                    have HQ2 := Lib.hid (str_eql xo yo)
                    have HQ3 := Lib.hid (str_neqd xo ByteArray.empty)
                    have HQ4 := Lib.hid (str_eql xn yn)
                    have HQ5 := Lib.hid (str_neqd xn ByteArray.empty)
                    by_cases m1 : xo ++ xn = ByteArray.empty
                    · rw [decide_eq_true m1] at HQ1
                      go_upto_region 13 with fail
                      refine goP_start ?_
                      refine goP_tk rfl 74 rfl (.pointer (some ⟨p12, 1, none⟩)) (by first | rfl | go_simp) ?_; simp only [zT, zA, zB]
                      refine goP_tk rfl 75 rfl (.pointer (some ⟨p12, 1, none⟩)) (by first | rfl | go_simp) ?_; simp only [zT, zA, zB]
                      refine goP_ld rfl 76 rfl 9 _ rfl ⟨p12, 1, none⟩ (.string xo) rfl (ld_string _ _ _ HX1.out) ?_; simp only [zT, zA, zB]
                      refine goP_tk rfl 77 rfl (.pointer (some ⟨p12, 35, none⟩)) (by first | rfl | go_simp) ?_; simp only [zT, zA, zB]
                      refine goP_tk rfl 78 rfl (.pointer (some ⟨p12, 35, none⟩)) (by first | rfl | go_simp) ?_; simp only [zT, zA, zB]
                      refine goP_ld rfl 79 rfl 9 _ rfl ⟨p12, 35, none⟩ (.string xn) rfl (ld_string _ _ _ HX2.out) ?_; simp only [zT, zA, zB]
                      refine goP_tk rfl 80 rfl (.string (xo ++ xn)) (exec_bin _ _ rfl rfl rfl (fun _ => by first | rfl | go_simp) (str_add HSZ.out) _) ?_; simp only [zT, zA, zB]
                      refine goP_tk rfl 81 rfl (.bool true) (exec_bin _ _ rfl rfl rfl (fun _ => by first | rfl | go_simp) HQ1.out _) ?_; simp only [zT, zA, zB]
                      refine goP_mv rfl 82 rfl _ rfl (.bool true) rfl ?_; simp only [zT, zA, zB]
                      refine goP_no rfl 83 rfl ?_; simp only [zT, zA, zB]
                      refine goP_no rfl 84 rfl ?_; simp only [zT, zA, zB]
                      refine goP_no rfl 85 rfl ?_; simp only [zT, zA, zB]
                      refine goP_no rfl 86 rfl ?_; simp only [zT, zA, zB]
                      refine goP_no rfl 87 rfl ?_; simp only [zT, zA, zB]
                      refine goP_no rfl 88 rfl ?_; simp only [zT, zA, zB]
                      refine goP_no rfl 89 rfl ?_; simp only [zT, zA, zB]
                      refine goP_no rfl 90 rfl ?_; simp only [zT, zA, zB]
                      refine goP_no rfl 91 rfl ?_; simp only [zT, zA, zB]
                      refine goP_no rfl 92 rfl ?_; simp only [zT, zA, zB]
                      refine goP_no rfl 93 rfl ?_; simp only [zT, zA, zB]
                      refine goP_no rfl 94 rfl ?_; simp only [zT, zA, zB]
                      refine goP_no rfl 95 rfl ?_; simp only [zT, zA, zB]
                      refine goP_pk rfl 96 rfl _ _ _ rfl true rfl (.bool true) rfl ?_; simp only [zT, zA, zB]
                      refine goP_mv rfl 97 rfl _ rfl (.bool true) rfl ?_; simp only [zT, zA, zB]
                      refine goP_no rfl 98 rfl ?_; simp only [zT, zA, zB]
                      refine goP_no rfl 99 rfl ?_; simp only [zT, zA, zB]
                      refine goP_no rfl 100 rfl ?_; simp only [zT, zA, zB]
                      refine goP_no rfl 101 rfl ?_; simp only [zT, zA, zB]
                      refine goP_no rfl 102 rfl ?_; simp only [zT, zA, zB]
                      refine goP_no rfl 103 rfl ?_; simp only [zT, zA, zB]
                      refine goP_no rfl 104 rfl ?_; simp only [zT, zA, zB]
                      refine goP_no rfl 105 rfl ?_; simp only [zT, zA, zB]
                      refine goP_no rfl 106 rfl ?_; simp only [zT, zA, zB]
                      refine goP_no rfl 107 rfl ?_; simp only [zT, zA, zB]
                      refine goP_no rfl 108 rfl ?_; simp only [zT, zA, zB]
                      refine goP_no rfl 109 rfl ?_; simp only [zT, zA, zB]
                      refine goP_no rfl 110 rfl ?_; simp only [zT, zA, zB]
                      refine goP_pk rfl 111 rfl _ _ _ rfl true rfl (.bool true) rfl ?_; simp only [zT, zA, zB]
                      refine goP_end ?_
                      go_wp2_with fail
                      go_ret
                      exact ⟨rfl, HEND.out⟩
                    · rw [decide_eq_false m1] at HQ1
                      by_cases m2 : xo = yo
                      · rw [decide_eq_true m2] at HQ2
                        by_cases m3 : xo = ByteArray.empty
                        · rw [decide_eq_true m3] at HQ3
                          by_cases m4 : xn = yn
                          · rw [decide_eq_true m4] at HQ4
                            by_cases m5 : xn = ByteArray.empty
                            · rw [decide_eq_true m5] at HQ5
                              go_upto_region 13 with fail
                              refine goP_start ?_
                              refine goP_tk rfl 74 rfl (.pointer (some ⟨p12, 1, none⟩)) (by first | rfl | go_simp) ?_; simp only [zT, zA, zB]
                              refine goP_tk rfl 75 rfl (.pointer (some ⟨p12, 1, none⟩)) (by first | rfl | go_simp) ?_; simp only [zT, zA, zB]
                              refine goP_ld rfl 76 rfl 9 _ rfl ⟨p12, 1, none⟩ (.string xo) rfl (ld_string _ _ _ HX1.out) ?_; simp only [zT, zA, zB]
                              refine goP_tk rfl 77 rfl (.pointer (some ⟨p12, 35, none⟩)) (by first | rfl | go_simp) ?_; simp only [zT, zA, zB]
                              refine goP_tk rfl 78 rfl (.pointer (some ⟨p12, 35, none⟩)) (by first | rfl | go_simp) ?_; simp only [zT, zA, zB]
                              refine goP_ld rfl 79 rfl 9 _ rfl ⟨p12, 35, none⟩ (.string xn) rfl (ld_string _ _ _ HX2.out) ?_; simp only [zT, zA, zB]
                              refine goP_tk rfl 80 rfl (.string (xo ++ xn)) (exec_bin _ _ rfl rfl rfl (fun _ => by first | rfl | go_simp) (str_add HSZ.out) _) ?_; simp only [zT, zA, zB]
                              refine goP_tk rfl 81 rfl (.bool false) (exec_bin _ _ rfl rfl rfl (fun _ => by first | rfl | go_simp) HQ1.out _) ?_; simp only [zT, zA, zB]
                              refine goP_mv rfl 82 rfl _ rfl (.bool false) rfl ?_; simp only [zT, zA, zB]
                              refine goP_tk rfl 83 rfl (.pointer (some ⟨p12, 1, none⟩)) (by first | rfl | go_simp) ?_; simp only [zT, zA, zB]
                              refine goP_tk rfl 84 rfl (.pointer (some ⟨p12, 1, none⟩)) (by first | rfl | go_simp) ?_; simp only [zT, zA, zB]
                              refine goP_ld rfl 85 rfl 9 _ rfl ⟨p12, 1, none⟩ (.string xo) rfl (ld_string _ _ _ HX1.out) ?_; simp only [zT, zA, zB]
                              refine goP_tk rfl 86 rfl (.pointer (some ⟨p14, 1, none⟩)) (by first | rfl | go_simp) ?_; simp only [zT, zA, zB]
                              refine goP_tk rfl 87 rfl (.pointer (some ⟨p14, 1, none⟩)) (by first | rfl | go_simp) ?_; simp only [zT, zA, zB]
                              refine goP_ld rfl 88 rfl 9 _ rfl ⟨p14, 1, none⟩ (.string yo) rfl (ld_string _ _ _ HY1.out) ?_; simp only [zT, zA, zB]
                              refine goP_tk rfl 89 rfl (.bool true) (exec_bin _ _ rfl rfl rfl (fun _ => by first | rfl | go_simp) HQ2.out _) ?_; simp only [zT, zA, zB]
                              refine goP_mv rfl 90 rfl _ rfl (.bool true) rfl ?_; simp only [zT, zA, zB]
                              refine goP_tk rfl 91 rfl (.pointer (some ⟨p12, 1, none⟩)) (by first | rfl | go_simp) ?_; simp only [zT, zA, zB]
                              refine goP_tk rfl 92 rfl (.pointer (some ⟨p12, 1, none⟩)) (by first | rfl | go_simp) ?_; simp only [zT, zA, zB]
                              refine goP_ld rfl 93 rfl 9 _ rfl ⟨p12, 1, none⟩ (.string xo) rfl (ld_string _ _ _ HX1.out) ?_; simp only [zT, zA, zB]
                              refine goP_tk rfl 94 rfl (.bool false) (exec_bin _ _ rfl rfl rfl (fun _ => by first | rfl | go_simp) HQ3.out _) ?_; simp only [zT, zA, zB]
                              refine goP_pk rfl 95 rfl _ _ _ rfl true rfl (.bool false) rfl ?_; simp only [zT, zA, zB]
                              refine goP_pk rfl 96 rfl _ _ _ rfl false rfl (.bool false) rfl ?_; simp only [zT, zA, zB]
                              refine goP_mv rfl 97 rfl _ rfl (.bool false) rfl ?_; simp only [zT, zA, zB]
                              refine goP_tk rfl 98 rfl (.pointer (some ⟨p12, 35, none⟩)) (by first | rfl | go_simp) ?_; simp only [zT, zA, zB]
                              refine goP_tk rfl 99 rfl (.pointer (some ⟨p12, 35, none⟩)) (by first | rfl | go_simp) ?_; simp only [zT, zA, zB]
                              refine goP_ld rfl 100 rfl 9 _ rfl ⟨p12, 35, none⟩ (.string xn) rfl (ld_string _ _ _ HX2.out) ?_; simp only [zT, zA, zB]
                              refine goP_tk rfl 101 rfl (.pointer (some ⟨p14, 35, none⟩)) (by first | rfl | go_simp) ?_; simp only [zT, zA, zB]
                              refine goP_tk rfl 102 rfl (.pointer (some ⟨p14, 35, none⟩)) (by first | rfl | go_simp) ?_; simp only [zT, zA, zB]
                              refine goP_ld rfl 103 rfl 9 _ rfl ⟨p14, 35, none⟩ (.string yn) rfl (ld_string _ _ _ HY2.out) ?_; simp only [zT, zA, zB]
                              refine goP_tk rfl 104 rfl (.bool true) (exec_bin _ _ rfl rfl rfl (fun _ => by first | rfl | go_simp) HQ4.out _) ?_; simp only [zT, zA, zB]
                              refine goP_mv rfl 105 rfl _ rfl (.bool true) rfl ?_; simp only [zT, zA, zB]
                              refine goP_tk rfl 106 rfl (.pointer (some ⟨p12, 35, none⟩)) (by first | rfl | go_simp) ?_; simp only [zT, zA, zB]
                              refine goP_tk rfl 107 rfl (.pointer (some ⟨p12, 35, none⟩)) (by first | rfl | go_simp) ?_; simp only [zT, zA, zB]
                              refine goP_ld rfl 108 rfl 9 _ rfl ⟨p12, 35, none⟩ (.string xn) rfl (ld_string _ _ _ HX2.out) ?_; simp only [zT, zA, zB]
                              refine goP_tk rfl 109 rfl (.bool false) (exec_bin _ _ rfl rfl rfl (fun _ => by first | rfl | go_simp) HQ5.out _) ?_; simp only [zT, zA, zB]
                              refine goP_pk rfl 110 rfl _ _ _ rfl true rfl (.bool false) rfl ?_; simp only [zT, zA, zB]
                              refine goP_pk rfl 111 rfl _ _ _ rfl false rfl (.bool false) rfl ?_; simp only [zT, zA, zB]
                              refine goP_end ?_
                              go_wp2_with fail
                              have HNZ : Hid (Hid (∀ y ∈ Y.take (j + 1), ¬ meetsC x y)) := HNY.out (fun h => by rcases HM.out.1 h with h | h | h; exact m1 h; exact h.2 m3; exact h.2 m5)
                              go_roundw
                              case rel => exact ⟨j + 1, hjl, by go_num, HB12.out, HNZ.out⟩
                              case measure => simp [intOf]; omega
                            · rw [decide_eq_false m5] at HQ5
                              go_upto_region 13 with fail
                              refine goP_start ?_
                              refine goP_tk rfl 74 rfl (.pointer (some ⟨p12, 1, none⟩)) (by first | rfl | go_simp) ?_; simp only [zT, zA, zB]
                              refine goP_tk rfl 75 rfl (.pointer (some ⟨p12, 1, none⟩)) (by first | rfl | go_simp) ?_; simp only [zT, zA, zB]
                              refine goP_ld rfl 76 rfl 9 _ rfl ⟨p12, 1, none⟩ (.string xo) rfl (ld_string _ _ _ HX1.out) ?_; simp only [zT, zA, zB]
                              refine goP_tk rfl 77 rfl (.pointer (some ⟨p12, 35, none⟩)) (by first | rfl | go_simp) ?_; simp only [zT, zA, zB]
                              refine goP_tk rfl 78 rfl (.pointer (some ⟨p12, 35, none⟩)) (by first | rfl | go_simp) ?_; simp only [zT, zA, zB]
                              refine goP_ld rfl 79 rfl 9 _ rfl ⟨p12, 35, none⟩ (.string xn) rfl (ld_string _ _ _ HX2.out) ?_; simp only [zT, zA, zB]
                              refine goP_tk rfl 80 rfl (.string (xo ++ xn)) (exec_bin _ _ rfl rfl rfl (fun _ => by first | rfl | go_simp) (str_add HSZ.out) _) ?_; simp only [zT, zA, zB]
                              refine goP_tk rfl 81 rfl (.bool false) (exec_bin _ _ rfl rfl rfl (fun _ => by first | rfl | go_simp) HQ1.out _) ?_; simp only [zT, zA, zB]
                              refine goP_mv rfl 82 rfl _ rfl (.bool false) rfl ?_; simp only [zT, zA, zB]
                              refine goP_tk rfl 83 rfl (.pointer (some ⟨p12, 1, none⟩)) (by first | rfl | go_simp) ?_; simp only [zT, zA, zB]
                              refine goP_tk rfl 84 rfl (.pointer (some ⟨p12, 1, none⟩)) (by first | rfl | go_simp) ?_; simp only [zT, zA, zB]
                              refine goP_ld rfl 85 rfl 9 _ rfl ⟨p12, 1, none⟩ (.string xo) rfl (ld_string _ _ _ HX1.out) ?_; simp only [zT, zA, zB]
                              refine goP_tk rfl 86 rfl (.pointer (some ⟨p14, 1, none⟩)) (by first | rfl | go_simp) ?_; simp only [zT, zA, zB]
                              refine goP_tk rfl 87 rfl (.pointer (some ⟨p14, 1, none⟩)) (by first | rfl | go_simp) ?_; simp only [zT, zA, zB]
                              refine goP_ld rfl 88 rfl 9 _ rfl ⟨p14, 1, none⟩ (.string yo) rfl (ld_string _ _ _ HY1.out) ?_; simp only [zT, zA, zB]
                              refine goP_tk rfl 89 rfl (.bool true) (exec_bin _ _ rfl rfl rfl (fun _ => by first | rfl | go_simp) HQ2.out _) ?_; simp only [zT, zA, zB]
                              refine goP_mv rfl 90 rfl _ rfl (.bool true) rfl ?_; simp only [zT, zA, zB]
                              refine goP_tk rfl 91 rfl (.pointer (some ⟨p12, 1, none⟩)) (by first | rfl | go_simp) ?_; simp only [zT, zA, zB]
                              refine goP_tk rfl 92 rfl (.pointer (some ⟨p12, 1, none⟩)) (by first | rfl | go_simp) ?_; simp only [zT, zA, zB]
                              refine goP_ld rfl 93 rfl 9 _ rfl ⟨p12, 1, none⟩ (.string xo) rfl (ld_string _ _ _ HX1.out) ?_; simp only [zT, zA, zB]
                              refine goP_tk rfl 94 rfl (.bool false) (exec_bin _ _ rfl rfl rfl (fun _ => by first | rfl | go_simp) HQ3.out _) ?_; simp only [zT, zA, zB]
                              refine goP_pk rfl 95 rfl _ _ _ rfl true rfl (.bool false) rfl ?_; simp only [zT, zA, zB]
                              refine goP_pk rfl 96 rfl _ _ _ rfl false rfl (.bool false) rfl ?_; simp only [zT, zA, zB]
                              refine goP_mv rfl 97 rfl _ rfl (.bool false) rfl ?_; simp only [zT, zA, zB]
                              refine goP_tk rfl 98 rfl (.pointer (some ⟨p12, 35, none⟩)) (by first | rfl | go_simp) ?_; simp only [zT, zA, zB]
                              refine goP_tk rfl 99 rfl (.pointer (some ⟨p12, 35, none⟩)) (by first | rfl | go_simp) ?_; simp only [zT, zA, zB]
                              refine goP_ld rfl 100 rfl 9 _ rfl ⟨p12, 35, none⟩ (.string xn) rfl (ld_string _ _ _ HX2.out) ?_; simp only [zT, zA, zB]
                              refine goP_tk rfl 101 rfl (.pointer (some ⟨p14, 35, none⟩)) (by first | rfl | go_simp) ?_; simp only [zT, zA, zB]
                              refine goP_tk rfl 102 rfl (.pointer (some ⟨p14, 35, none⟩)) (by first | rfl | go_simp) ?_; simp only [zT, zA, zB]
                              refine goP_ld rfl 103 rfl 9 _ rfl ⟨p14, 35, none⟩ (.string yn) rfl (ld_string _ _ _ HY2.out) ?_; simp only [zT, zA, zB]
                              refine goP_tk rfl 104 rfl (.bool true) (exec_bin _ _ rfl rfl rfl (fun _ => by first | rfl | go_simp) HQ4.out _) ?_; simp only [zT, zA, zB]
                              refine goP_mv rfl 105 rfl _ rfl (.bool true) rfl ?_; simp only [zT, zA, zB]
                              refine goP_tk rfl 106 rfl (.pointer (some ⟨p12, 35, none⟩)) (by first | rfl | go_simp) ?_; simp only [zT, zA, zB]
                              refine goP_tk rfl 107 rfl (.pointer (some ⟨p12, 35, none⟩)) (by first | rfl | go_simp) ?_; simp only [zT, zA, zB]
                              refine goP_ld rfl 108 rfl 9 _ rfl ⟨p12, 35, none⟩ (.string xn) rfl (ld_string _ _ _ HX2.out) ?_; simp only [zT, zA, zB]
                              refine goP_tk rfl 109 rfl (.bool true) (exec_bin _ _ rfl rfl rfl (fun _ => by first | rfl | go_simp) HQ5.out _) ?_; simp only [zT, zA, zB]
                              refine goP_pk rfl 110 rfl _ _ _ rfl true rfl (.bool true) rfl ?_; simp only [zT, zA, zB]
                              refine goP_pk rfl 111 rfl _ _ _ rfl false rfl (.bool true) rfl ?_; simp only [zT, zA, zB]
                              refine goP_end ?_
                              go_wp2_with fail
                              go_ret
                              exact ⟨rfl, HEND.out⟩
                          · rw [decide_eq_false m4] at HQ4
                            go_upto_region 13 with fail
                            refine goP_start ?_
                            refine goP_tk rfl 74 rfl (.pointer (some ⟨p12, 1, none⟩)) (by first | rfl | go_simp) ?_; simp only [zT, zA, zB]
                            refine goP_tk rfl 75 rfl (.pointer (some ⟨p12, 1, none⟩)) (by first | rfl | go_simp) ?_; simp only [zT, zA, zB]
                            refine goP_ld rfl 76 rfl 9 _ rfl ⟨p12, 1, none⟩ (.string xo) rfl (ld_string _ _ _ HX1.out) ?_; simp only [zT, zA, zB]
                            refine goP_tk rfl 77 rfl (.pointer (some ⟨p12, 35, none⟩)) (by first | rfl | go_simp) ?_; simp only [zT, zA, zB]
                            refine goP_tk rfl 78 rfl (.pointer (some ⟨p12, 35, none⟩)) (by first | rfl | go_simp) ?_; simp only [zT, zA, zB]
                            refine goP_ld rfl 79 rfl 9 _ rfl ⟨p12, 35, none⟩ (.string xn) rfl (ld_string _ _ _ HX2.out) ?_; simp only [zT, zA, zB]
                            refine goP_tk rfl 80 rfl (.string (xo ++ xn)) (exec_bin _ _ rfl rfl rfl (fun _ => by first | rfl | go_simp) (str_add HSZ.out) _) ?_; simp only [zT, zA, zB]
                            refine goP_tk rfl 81 rfl (.bool false) (exec_bin _ _ rfl rfl rfl (fun _ => by first | rfl | go_simp) HQ1.out _) ?_; simp only [zT, zA, zB]
                            refine goP_mv rfl 82 rfl _ rfl (.bool false) rfl ?_; simp only [zT, zA, zB]
                            refine goP_tk rfl 83 rfl (.pointer (some ⟨p12, 1, none⟩)) (by first | rfl | go_simp) ?_; simp only [zT, zA, zB]
                            refine goP_tk rfl 84 rfl (.pointer (some ⟨p12, 1, none⟩)) (by first | rfl | go_simp) ?_; simp only [zT, zA, zB]
                            refine goP_ld rfl 85 rfl 9 _ rfl ⟨p12, 1, none⟩ (.string xo) rfl (ld_string _ _ _ HX1.out) ?_; simp only [zT, zA, zB]
                            refine goP_tk rfl 86 rfl (.pointer (some ⟨p14, 1, none⟩)) (by first | rfl | go_simp) ?_; simp only [zT, zA, zB]
                            refine goP_tk rfl 87 rfl (.pointer (some ⟨p14, 1, none⟩)) (by first | rfl | go_simp) ?_; simp only [zT, zA, zB]
                            refine goP_ld rfl 88 rfl 9 _ rfl ⟨p14, 1, none⟩ (.string yo) rfl (ld_string _ _ _ HY1.out) ?_; simp only [zT, zA, zB]
                            refine goP_tk rfl 89 rfl (.bool true) (exec_bin _ _ rfl rfl rfl (fun _ => by first | rfl | go_simp) HQ2.out _) ?_; simp only [zT, zA, zB]
                            refine goP_mv rfl 90 rfl _ rfl (.bool true) rfl ?_; simp only [zT, zA, zB]
                            refine goP_tk rfl 91 rfl (.pointer (some ⟨p12, 1, none⟩)) (by first | rfl | go_simp) ?_; simp only [zT, zA, zB]
                            refine goP_tk rfl 92 rfl (.pointer (some ⟨p12, 1, none⟩)) (by first | rfl | go_simp) ?_; simp only [zT, zA, zB]
                            refine goP_ld rfl 93 rfl 9 _ rfl ⟨p12, 1, none⟩ (.string xo) rfl (ld_string _ _ _ HX1.out) ?_; simp only [zT, zA, zB]
                            refine goP_tk rfl 94 rfl (.bool false) (exec_bin _ _ rfl rfl rfl (fun _ => by first | rfl | go_simp) HQ3.out _) ?_; simp only [zT, zA, zB]
                            refine goP_pk rfl 95 rfl _ _ _ rfl true rfl (.bool false) rfl ?_; simp only [zT, zA, zB]
                            refine goP_pk rfl 96 rfl _ _ _ rfl false rfl (.bool false) rfl ?_; simp only [zT, zA, zB]
                            refine goP_mv rfl 97 rfl _ rfl (.bool false) rfl ?_; simp only [zT, zA, zB]
                            refine goP_tk rfl 98 rfl (.pointer (some ⟨p12, 35, none⟩)) (by first | rfl | go_simp) ?_; simp only [zT, zA, zB]
                            refine goP_tk rfl 99 rfl (.pointer (some ⟨p12, 35, none⟩)) (by first | rfl | go_simp) ?_; simp only [zT, zA, zB]
                            refine goP_ld rfl 100 rfl 9 _ rfl ⟨p12, 35, none⟩ (.string xn) rfl (ld_string _ _ _ HX2.out) ?_; simp only [zT, zA, zB]
                            refine goP_tk rfl 101 rfl (.pointer (some ⟨p14, 35, none⟩)) (by first | rfl | go_simp) ?_; simp only [zT, zA, zB]
                            refine goP_tk rfl 102 rfl (.pointer (some ⟨p14, 35, none⟩)) (by first | rfl | go_simp) ?_; simp only [zT, zA, zB]
                            refine goP_ld rfl 103 rfl 9 _ rfl ⟨p14, 35, none⟩ (.string yn) rfl (ld_string _ _ _ HY2.out) ?_; simp only [zT, zA, zB]
                            refine goP_tk rfl 104 rfl (.bool false) (exec_bin _ _ rfl rfl rfl (fun _ => by first | rfl | go_simp) HQ4.out _) ?_; simp only [zT, zA, zB]
                            refine goP_mv rfl 105 rfl _ rfl (.bool false) rfl ?_; simp only [zT, zA, zB]
                            refine goP_no rfl 106 rfl ?_; simp only [zT, zA, zB]
                            refine goP_no rfl 107 rfl ?_; simp only [zT, zA, zB]
                            refine goP_no rfl 108 rfl ?_; simp only [zT, zA, zB]
                            refine goP_no rfl 109 rfl ?_; simp only [zT, zA, zB]
                            refine goP_pk rfl 110 rfl _ _ _ rfl false rfl (.bool false) rfl ?_; simp only [zT, zA, zB]
                            refine goP_pk rfl 111 rfl _ _ _ rfl false rfl (.bool false) rfl ?_; simp only [zT, zA, zB]
                            refine goP_end ?_
                            go_wp2_with fail
                            have HNZ : Hid (Hid (∀ y ∈ Y.take (j + 1), ¬ meetsC x y)) := HNY.out (fun h => by rcases HM.out.1 h with h | h | h; exact m1 h; exact h.2 m3; exact m4 h.1)
                            go_roundw
                            case rel => exact ⟨j + 1, hjl, by go_num, HB12.out, HNZ.out⟩
                            case measure => simp [intOf]; omega
                        · rw [decide_eq_false m3] at HQ3
                          go_upto_region 13 with fail
                          refine goP_start ?_
                          refine goP_tk rfl 74 rfl (.pointer (some ⟨p12, 1, none⟩)) (by first | rfl | go_simp) ?_; simp only [zT, zA, zB]
                          refine goP_tk rfl 75 rfl (.pointer (some ⟨p12, 1, none⟩)) (by first | rfl | go_simp) ?_; simp only [zT, zA, zB]
                          refine goP_ld rfl 76 rfl 9 _ rfl ⟨p12, 1, none⟩ (.string xo) rfl (ld_string _ _ _ HX1.out) ?_; simp only [zT, zA, zB]
                          refine goP_tk rfl 77 rfl (.pointer (some ⟨p12, 35, none⟩)) (by first | rfl | go_simp) ?_; simp only [zT, zA, zB]
                          refine goP_tk rfl 78 rfl (.pointer (some ⟨p12, 35, none⟩)) (by first | rfl | go_simp) ?_; simp only [zT, zA, zB]
                          refine goP_ld rfl 79 rfl 9 _ rfl ⟨p12, 35, none⟩ (.string xn) rfl (ld_string _ _ _ HX2.out) ?_; simp only [zT, zA, zB]
                          refine goP_tk rfl 80 rfl (.string (xo ++ xn)) (exec_bin _ _ rfl rfl rfl (fun _ => by first | rfl | go_simp) (str_add HSZ.out) _) ?_; simp only [zT, zA, zB]
                          refine goP_tk rfl 81 rfl (.bool false) (exec_bin _ _ rfl rfl rfl (fun _ => by first | rfl | go_simp) HQ1.out _) ?_; simp only [zT, zA, zB]
                          refine goP_mv rfl 82 rfl _ rfl (.bool false) rfl ?_; simp only [zT, zA, zB]
                          refine goP_tk rfl 83 rfl (.pointer (some ⟨p12, 1, none⟩)) (by first | rfl | go_simp) ?_; simp only [zT, zA, zB]
                          refine goP_tk rfl 84 rfl (.pointer (some ⟨p12, 1, none⟩)) (by first | rfl | go_simp) ?_; simp only [zT, zA, zB]
                          refine goP_ld rfl 85 rfl 9 _ rfl ⟨p12, 1, none⟩ (.string xo) rfl (ld_string _ _ _ HX1.out) ?_; simp only [zT, zA, zB]
                          refine goP_tk rfl 86 rfl (.pointer (some ⟨p14, 1, none⟩)) (by first | rfl | go_simp) ?_; simp only [zT, zA, zB]
                          refine goP_tk rfl 87 rfl (.pointer (some ⟨p14, 1, none⟩)) (by first | rfl | go_simp) ?_; simp only [zT, zA, zB]
                          refine goP_ld rfl 88 rfl 9 _ rfl ⟨p14, 1, none⟩ (.string yo) rfl (ld_string _ _ _ HY1.out) ?_; simp only [zT, zA, zB]
                          refine goP_tk rfl 89 rfl (.bool true) (exec_bin _ _ rfl rfl rfl (fun _ => by first | rfl | go_simp) HQ2.out _) ?_; simp only [zT, zA, zB]
                          refine goP_mv rfl 90 rfl _ rfl (.bool true) rfl ?_; simp only [zT, zA, zB]
                          refine goP_tk rfl 91 rfl (.pointer (some ⟨p12, 1, none⟩)) (by first | rfl | go_simp) ?_; simp only [zT, zA, zB]
                          refine goP_tk rfl 92 rfl (.pointer (some ⟨p12, 1, none⟩)) (by first | rfl | go_simp) ?_; simp only [zT, zA, zB]
                          refine goP_ld rfl 93 rfl 9 _ rfl ⟨p12, 1, none⟩ (.string xo) rfl (ld_string _ _ _ HX1.out) ?_; simp only [zT, zA, zB]
                          refine goP_tk rfl 94 rfl (.bool true) (exec_bin _ _ rfl rfl rfl (fun _ => by first | rfl | go_simp) HQ3.out _) ?_; simp only [zT, zA, zB]
                          refine goP_pk rfl 95 rfl _ _ _ rfl true rfl (.bool true) rfl ?_; simp only [zT, zA, zB]
                          refine goP_pk rfl 96 rfl _ _ _ rfl false rfl (.bool true) rfl ?_; simp only [zT, zA, zB]
                          refine goP_mv rfl 97 rfl _ rfl (.bool true) rfl ?_; simp only [zT, zA, zB]
                          refine goP_no rfl 98 rfl ?_; simp only [zT, zA, zB]
                          refine goP_no rfl 99 rfl ?_; simp only [zT, zA, zB]
                          refine goP_no rfl 100 rfl ?_; simp only [zT, zA, zB]
                          refine goP_no rfl 101 rfl ?_; simp only [zT, zA, zB]
                          refine goP_no rfl 102 rfl ?_; simp only [zT, zA, zB]
                          refine goP_no rfl 103 rfl ?_; simp only [zT, zA, zB]
                          refine goP_no rfl 104 rfl ?_; simp only [zT, zA, zB]
                          refine goP_no rfl 105 rfl ?_; simp only [zT, zA, zB]
                          refine goP_no rfl 106 rfl ?_; simp only [zT, zA, zB]
                          refine goP_no rfl 107 rfl ?_; simp only [zT, zA, zB]
                          refine goP_no rfl 108 rfl ?_; simp only [zT, zA, zB]
                          refine goP_no rfl 109 rfl ?_; simp only [zT, zA, zB]
                          refine goP_no rfl 110 rfl ?_; simp only [zT, zA, zB]
                          refine goP_pk rfl 111 rfl _ _ _ rfl true rfl (.bool true) rfl ?_; simp only [zT, zA, zB]
                          refine goP_end ?_
                          go_wp2_with fail
                          go_ret
                          exact ⟨rfl, HEND.out⟩
                      · rw [decide_eq_false m2] at HQ2
                        by_cases m4 : xn = yn
                        · rw [decide_eq_true m4] at HQ4
                          by_cases m5 : xn = ByteArray.empty
                          · rw [decide_eq_true m5] at HQ5
                            go_upto_region 13 with fail
                            refine goP_start ?_
                            refine goP_tk rfl 74 rfl (.pointer (some ⟨p12, 1, none⟩)) (by first | rfl | go_simp) ?_; simp only [zT, zA, zB]
                            refine goP_tk rfl 75 rfl (.pointer (some ⟨p12, 1, none⟩)) (by first | rfl | go_simp) ?_; simp only [zT, zA, zB]
                            refine goP_ld rfl 76 rfl 9 _ rfl ⟨p12, 1, none⟩ (.string xo) rfl (ld_string _ _ _ HX1.out) ?_; simp only [zT, zA, zB]
                            refine goP_tk rfl 77 rfl (.pointer (some ⟨p12, 35, none⟩)) (by first | rfl | go_simp) ?_; simp only [zT, zA, zB]
                            refine goP_tk rfl 78 rfl (.pointer (some ⟨p12, 35, none⟩)) (by first | rfl | go_simp) ?_; simp only [zT, zA, zB]
                            refine goP_ld rfl 79 rfl 9 _ rfl ⟨p12, 35, none⟩ (.string xn) rfl (ld_string _ _ _ HX2.out) ?_; simp only [zT, zA, zB]
                            refine goP_tk rfl 80 rfl (.string (xo ++ xn)) (exec_bin _ _ rfl rfl rfl (fun _ => by first | rfl | go_simp) (str_add HSZ.out) _) ?_; simp only [zT, zA, zB]
                            refine goP_tk rfl 81 rfl (.bool false) (exec_bin _ _ rfl rfl rfl (fun _ => by first | rfl | go_simp) HQ1.out _) ?_; simp only [zT, zA, zB]
                            refine goP_mv rfl 82 rfl _ rfl (.bool false) rfl ?_; simp only [zT, zA, zB]
                            refine goP_tk rfl 83 rfl (.pointer (some ⟨p12, 1, none⟩)) (by first | rfl | go_simp) ?_; simp only [zT, zA, zB]
                            refine goP_tk rfl 84 rfl (.pointer (some ⟨p12, 1, none⟩)) (by first | rfl | go_simp) ?_; simp only [zT, zA, zB]
                            refine goP_ld rfl 85 rfl 9 _ rfl ⟨p12, 1, none⟩ (.string xo) rfl (ld_string _ _ _ HX1.out) ?_; simp only [zT, zA, zB]
                            refine goP_tk rfl 86 rfl (.pointer (some ⟨p14, 1, none⟩)) (by first | rfl | go_simp) ?_; simp only [zT, zA, zB]
                            refine goP_tk rfl 87 rfl (.pointer (some ⟨p14, 1, none⟩)) (by first | rfl | go_simp) ?_; simp only [zT, zA, zB]
                            refine goP_ld rfl 88 rfl 9 _ rfl ⟨p14, 1, none⟩ (.string yo) rfl (ld_string _ _ _ HY1.out) ?_; simp only [zT, zA, zB]
                            refine goP_tk rfl 89 rfl (.bool false) (exec_bin _ _ rfl rfl rfl (fun _ => by first | rfl | go_simp) HQ2.out _) ?_; simp only [zT, zA, zB]
                            refine goP_mv rfl 90 rfl _ rfl (.bool false) rfl ?_; simp only [zT, zA, zB]
                            refine goP_no rfl 91 rfl ?_; simp only [zT, zA, zB]
                            refine goP_no rfl 92 rfl ?_; simp only [zT, zA, zB]
                            refine goP_no rfl 93 rfl ?_; simp only [zT, zA, zB]
                            refine goP_no rfl 94 rfl ?_; simp only [zT, zA, zB]
                            refine goP_pk rfl 95 rfl _ _ _ rfl false rfl (.bool false) rfl ?_; simp only [zT, zA, zB]
                            refine goP_pk rfl 96 rfl _ _ _ rfl false rfl (.bool false) rfl ?_; simp only [zT, zA, zB]
                            refine goP_mv rfl 97 rfl _ rfl (.bool false) rfl ?_; simp only [zT, zA, zB]
                            refine goP_tk rfl 98 rfl (.pointer (some ⟨p12, 35, none⟩)) (by first | rfl | go_simp) ?_; simp only [zT, zA, zB]
                            refine goP_tk rfl 99 rfl (.pointer (some ⟨p12, 35, none⟩)) (by first | rfl | go_simp) ?_; simp only [zT, zA, zB]
                            refine goP_ld rfl 100 rfl 9 _ rfl ⟨p12, 35, none⟩ (.string xn) rfl (ld_string _ _ _ HX2.out) ?_; simp only [zT, zA, zB]
                            refine goP_tk rfl 101 rfl (.pointer (some ⟨p14, 35, none⟩)) (by first | rfl | go_simp) ?_; simp only [zT, zA, zB]
                            refine goP_tk rfl 102 rfl (.pointer (some ⟨p14, 35, none⟩)) (by first | rfl | go_simp) ?_; simp only [zT, zA, zB]
                            refine goP_ld rfl 103 rfl 9 _ rfl ⟨p14, 35, none⟩ (.string yn) rfl (ld_string _ _ _ HY2.out) ?_; simp only [zT, zA, zB]
                            refine goP_tk rfl 104 rfl (.bool true) (exec_bin _ _ rfl rfl rfl (fun _ => by first | rfl | go_simp) HQ4.out _) ?_; simp only [zT, zA, zB]
                            refine goP_mv rfl 105 rfl _ rfl (.bool true) rfl ?_; simp only [zT, zA, zB]
                            refine goP_tk rfl 106 rfl (.pointer (some ⟨p12, 35, none⟩)) (by first | rfl | go_simp) ?_; simp only [zT, zA, zB]
                            refine goP_tk rfl 107 rfl (.pointer (some ⟨p12, 35, none⟩)) (by first | rfl | go_simp) ?_; simp only [zT, zA, zB]
                            refine goP_ld rfl 108 rfl 9 _ rfl ⟨p12, 35, none⟩ (.string xn) rfl (ld_string _ _ _ HX2.out) ?_; simp only [zT, zA, zB]
                            refine goP_tk rfl 109 rfl (.bool false) (exec_bin _ _ rfl rfl rfl (fun _ => by first | rfl | go_simp) HQ5.out _) ?_; simp only [zT, zA, zB]
                            refine goP_pk rfl 110 rfl _ _ _ rfl true rfl (.bool false) rfl ?_; simp only [zT, zA, zB]
                            refine goP_pk rfl 111 rfl _ _ _ rfl false rfl (.bool false) rfl ?_; simp only [zT, zA, zB]
                            refine goP_end ?_
                            go_wp2_with fail
                            have HNZ : Hid (Hid (∀ y ∈ Y.take (j + 1), ¬ meetsC x y)) := HNY.out (fun h => by rcases HM.out.1 h with h | h | h; exact m1 h; exact m2 h.1; exact h.2 m5)
                            go_roundw
                            case rel => exact ⟨j + 1, hjl, by go_num, HB12.out, HNZ.out⟩
                            case measure => simp [intOf]; omega
                          · rw [decide_eq_false m5] at HQ5
                            go_upto_region 13 with fail
                            refine goP_start ?_
                            refine goP_tk rfl 74 rfl (.pointer (some ⟨p12, 1, none⟩)) (by first | rfl | go_simp) ?_; simp only [zT, zA, zB]
                            refine goP_tk rfl 75 rfl (.pointer (some ⟨p12, 1, none⟩)) (by first | rfl | go_simp) ?_; simp only [zT, zA, zB]
                            refine goP_ld rfl 76 rfl 9 _ rfl ⟨p12, 1, none⟩ (.string xo) rfl (ld_string _ _ _ HX1.out) ?_; simp only [zT, zA, zB]
                            refine goP_tk rfl 77 rfl (.pointer (some ⟨p12, 35, none⟩)) (by first | rfl | go_simp) ?_; simp only [zT, zA, zB]
                            refine goP_tk rfl 78 rfl (.pointer (some ⟨p12, 35, none⟩)) (by first | rfl | go_simp) ?_; simp only [zT, zA, zB]
                            refine goP_ld rfl 79 rfl 9 _ rfl ⟨p12, 35, none⟩ (.string xn) rfl (ld_string _ _ _ HX2.out) ?_; simp only [zT, zA, zB]
                            refine goP_tk rfl 80 rfl (.string (xo ++ xn)) (exec_bin _ _ rfl rfl rfl (fun _ => by first | rfl | go_simp) (str_add HSZ.out) _) ?_; simp only [zT, zA, zB]
                            refine goP_tk rfl 81 rfl (.bool false) (exec_bin _ _ rfl rfl rfl (fun _ => by first | rfl | go_simp) HQ1.out _) ?_; simp only [zT, zA, zB]
                            refine goP_mv rfl 82 rfl _ rfl (.bool false) rfl ?_; simp only [zT, zA, zB]
                            refine goP_tk rfl 83 rfl (.pointer (some ⟨p12, 1, none⟩)) (by first | rfl | go_simp) ?_; simp only [zT, zA, zB]
                            refine goP_tk rfl 84 rfl (.pointer (some ⟨p12, 1, none⟩)) (by first | rfl | go_simp) ?_; simp only [zT, zA, zB]
                            refine goP_ld rfl 85 rfl 9 _ rfl ⟨p12, 1, none⟩ (.string xo) rfl (ld_string _ _ _ HX1.out) ?_; simp only [zT, zA, zB]
                            refine goP_tk rfl 86 rfl (.pointer (some ⟨p14, 1, none⟩)) (by first | rfl | go_simp) ?_; simp only [zT, zA, zB]
                            refine goP_tk rfl 87 rfl (.pointer (some ⟨p14, 1, none⟩)) (by first | rfl | go_simp) ?_; simp only [zT, zA, zB]
                            refine goP_ld rfl 88 rfl 9 _ rfl ⟨p14, 1, none⟩ (.string yo) rfl (ld_string _ _ _ HY1.out) ?_; simp only [zT, zA, zB]
                            refine goP_tk rfl 89 rfl (.bool false) (exec_bin _ _ rfl rfl rfl (fun _ => by first | rfl | go_simp) HQ2.out _) ?_; simp only [zT, zA, zB]
                            refine goP_mv rfl 90 rfl _ rfl (.bool false) rfl ?_; simp only [zT, zA, zB]
                            refine goP_no rfl 91 rfl ?_; simp only [zT, zA, zB]
                            refine goP_no rfl 92 rfl ?_; simp only [zT, zA, zB]
                            refine goP_no rfl 93 rfl ?_; simp only [zT, zA, zB]
                            refine goP_no rfl 94 rfl ?_; simp only [zT, zA, zB]
                            refine goP_pk rfl 95 rfl _ _ _ rfl false rfl (.bool false) rfl ?_; simp only [zT, zA, zB]
                            refine goP_pk rfl 96 rfl _ _ _ rfl false rfl (.bool false) rfl ?_; simp only [zT, zA, zB]
                            refine goP_mv rfl 97 rfl _ rfl (.bool false) rfl ?_; simp only [zT, zA, zB]
                            refine goP_tk rfl 98 rfl (.pointer (some ⟨p12, 35, none⟩)) (by first | rfl | go_simp) ?_; simp only [zT, zA, zB]
                            refine goP_tk rfl 99 rfl (.pointer (some ⟨p12, 35, none⟩)) (by first | rfl | go_simp) ?_; simp only [zT, zA, zB]
                            refine goP_ld rfl 100 rfl 9 _ rfl ⟨p12, 35, none⟩ (.string xn) rfl (ld_string _ _ _ HX2.out) ?_; simp only [zT, zA, zB]
                            refine goP_tk rfl 101 rfl (.pointer (some ⟨p14, 35, none⟩)) (by first | rfl | go_simp) ?_; simp only [zT, zA, zB]
                            refine goP_tk rfl 102 rfl (.pointer (some ⟨p14, 35, none⟩)) (by first | rfl | go_simp) ?_; simp only [zT, zA, zB]
                            refine goP_ld rfl 103 rfl 9 _ rfl ⟨p14, 35, none⟩ (.string yn) rfl (ld_string _ _ _ HY2.out) ?_; simp only [zT, zA, zB]
                            refine goP_tk rfl 104 rfl (.bool true) (exec_bin _ _ rfl rfl rfl (fun _ => by first | rfl | go_simp) HQ4.out _) ?_; simp only [zT, zA, zB]
                            refine goP_mv rfl 105 rfl _ rfl (.bool true) rfl ?_; simp only [zT, zA, zB]
                            refine goP_tk rfl 106 rfl (.pointer (some ⟨p12, 35, none⟩)) (by first | rfl | go_simp) ?_; simp only [zT, zA, zB]
                            refine goP_tk rfl 107 rfl (.pointer (some ⟨p12, 35, none⟩)) (by first | rfl | go_simp) ?_; simp only [zT, zA, zB]
                            refine goP_ld rfl 108 rfl 9 _ rfl ⟨p12, 35, none⟩ (.string xn) rfl (ld_string _ _ _ HX2.out) ?_; simp only [zT, zA, zB]
                            refine goP_tk rfl 109 rfl (.bool true) (exec_bin _ _ rfl rfl rfl (fun _ => by first | rfl | go_simp) HQ5.out _) ?_; simp only [zT, zA, zB]
                            refine goP_pk rfl 110 rfl _ _ _ rfl true rfl (.bool true) rfl ?_; simp only [zT, zA, zB]
                            refine goP_pk rfl 111 rfl _ _ _ rfl false rfl (.bool true) rfl ?_; simp only [zT, zA, zB]
                            refine goP_end ?_
                            go_wp2_with fail
                            go_ret
                            exact ⟨rfl, HEND.out⟩
                        · rw [decide_eq_false m4] at HQ4
                          go_upto_region 13 with fail
                          refine goP_start ?_
                          refine goP_tk rfl 74 rfl (.pointer (some ⟨p12, 1, none⟩)) (by first | rfl | go_simp) ?_; simp only [zT, zA, zB]
                          refine goP_tk rfl 75 rfl (.pointer (some ⟨p12, 1, none⟩)) (by first | rfl | go_simp) ?_; simp only [zT, zA, zB]
                          refine goP_ld rfl 76 rfl 9 _ rfl ⟨p12, 1, none⟩ (.string xo) rfl (ld_string _ _ _ HX1.out) ?_; simp only [zT, zA, zB]
                          refine goP_tk rfl 77 rfl (.pointer (some ⟨p12, 35, none⟩)) (by first | rfl | go_simp) ?_; simp only [zT, zA, zB]
                          refine goP_tk rfl 78 rfl (.pointer (some ⟨p12, 35, none⟩)) (by first | rfl | go_simp) ?_; simp only [zT, zA, zB]
                          refine goP_ld rfl 79 rfl 9 _ rfl ⟨p12, 35, none⟩ (.string xn) rfl (ld_string _ _ _ HX2.out) ?_; simp only [zT, zA, zB]
                          refine goP_tk rfl 80 rfl (.string (xo ++ xn)) (exec_bin _ _ rfl rfl rfl (fun _ => by first | rfl | go_simp) (str_add HSZ.out) _) ?_; simp only [zT, zA, zB]
                          refine goP_tk rfl 81 rfl (.bool false) (exec_bin _ _ rfl rfl rfl (fun _ => by first | rfl | go_simp) HQ1.out _) ?_; simp only [zT, zA, zB]
                          refine goP_mv rfl 82 rfl _ rfl (.bool false) rfl ?_; simp only [zT, zA, zB]
                          refine goP_tk rfl 83 rfl (.pointer (some ⟨p12, 1, none⟩)) (by first | rfl | go_simp) ?_; simp only [zT, zA, zB]
                          refine goP_tk rfl 84 rfl (.pointer (some ⟨p12, 1, none⟩)) (by first | rfl | go_simp) ?_; simp only [zT, zA, zB]
                          refine goP_ld rfl 85 rfl 9 _ rfl ⟨p12, 1, none⟩ (.string xo) rfl (ld_string _ _ _ HX1.out) ?_; simp only [zT, zA, zB]
                          refine goP_tk rfl 86 rfl (.pointer (some ⟨p14, 1, none⟩)) (by first | rfl | go_simp) ?_; simp only [zT, zA, zB]
                          refine goP_tk rfl 87 rfl (.pointer (some ⟨p14, 1, none⟩)) (by first | rfl | go_simp) ?_; simp only [zT, zA, zB]
                          refine goP_ld rfl 88 rfl 9 _ rfl ⟨p14, 1, none⟩ (.string yo) rfl (ld_string _ _ _ HY1.out) ?_; simp only [zT, zA, zB]
                          refine goP_tk rfl 89 rfl (.bool false) (exec_bin _ _ rfl rfl rfl (fun _ => by first | rfl | go_simp) HQ2.out _) ?_; simp only [zT, zA, zB]
                          refine goP_mv rfl 90 rfl _ rfl (.bool false) rfl ?_; simp only [zT, zA, zB]
                          refine goP_no rfl 91 rfl ?_; simp only [zT, zA, zB]
                          refine goP_no rfl 92 rfl ?_; simp only [zT, zA, zB]
                          refine goP_no rfl 93 rfl ?_; simp only [zT, zA, zB]
                          refine goP_no rfl 94 rfl ?_; simp only [zT, zA, zB]
                          refine goP_pk rfl 95 rfl _ _ _ rfl false rfl (.bool false) rfl ?_; simp only [zT, zA, zB]
                          refine goP_pk rfl 96 rfl _ _ _ rfl false rfl (.bool false) rfl ?_; simp only [zT, zA, zB]
                          refine goP_mv rfl 97 rfl _ rfl (.bool false) rfl ?_; simp only [zT, zA, zB]
                          refine goP_tk rfl 98 rfl (.pointer (some ⟨p12, 35, none⟩)) (by first | rfl | go_simp) ?_; simp only [zT, zA, zB]
                          refine goP_tk rfl 99 rfl (.pointer (some ⟨p12, 35, none⟩)) (by first | rfl | go_simp) ?_; simp only [zT, zA, zB]
                          refine goP_ld rfl 100 rfl 9 _ rfl ⟨p12, 35, none⟩ (.string xn) rfl (ld_string _ _ _ HX2.out) ?_; simp only [zT, zA, zB]
                          refine goP_tk rfl 101 rfl (.pointer (some ⟨p14, 35, none⟩)) (by first | rfl | go_simp) ?_; simp only [zT, zA, zB]
                          refine goP_tk rfl 102 rfl (.pointer (some ⟨p14, 35, none⟩)) (by first | rfl | go_simp) ?_; simp only [zT, zA, zB]
                          refine goP_ld rfl 103 rfl 9 _ rfl ⟨p14, 35, none⟩ (.string yn) rfl (ld_string _ _ _ HY2.out) ?_; simp only [zT, zA, zB]
                          refine goP_tk rfl 104 rfl (.bool false) (exec_bin _ _ rfl rfl rfl (fun _ => by first | rfl | go_simp) HQ4.out _) ?_; simp only [zT, zA, zB]
                          refine goP_mv rfl 105 rfl _ rfl (.bool false) rfl ?_; simp only [zT, zA, zB]
                          refine goP_no rfl 106 rfl ?_; simp only [zT, zA, zB]
                          refine goP_no rfl 107 rfl ?_; simp only [zT, zA, zB]
                          refine goP_no rfl 108 rfl ?_; simp only [zT, zA, zB]
                          refine goP_no rfl 109 rfl ?_; simp only [zT, zA, zB]
                          refine goP_pk rfl 110 rfl _ _ _ rfl false rfl (.bool false) rfl ?_; simp only [zT, zA, zB]
                          refine goP_pk rfl 111 rfl _ _ _ rfl false rfl (.bool false) rfl ?_; simp only [zT, zA, zB]
                          refine goP_end ?_
                          go_wp2_with fail
                          have HNZ : Hid (Hid (∀ y ∈ Y.take (j + 1), ¬ meetsC x y)) := HNY.out (fun h => by rcases HM.out.1 h with h | h | h; exact m1 h; exact m2 h.1; exact m4 h.1)
                          go_roundw
                          case rel => exact ⟨j + 1, hjl, by go_num, HB12.out, HNZ.out⟩
                          case measure => simp [intOf]; omega
                  · have hjn : j = Y.length := by omega
                    subst hjn
                    have d3 : decide ((Y.length : Int) < (Y.length : Int)) = false := decide_eq_false (by omega)
                    have HN1 : Hid (Hid (∀ x ∈ X.take (i + 1), ∀ y ∈ Y, ¬ meetsC x y)) := HNX.out (by have h := HNM.out; rw [List.take_length] at h; exact h)
                    have HB11 : Hid (Hid (Below W8.heap.size W8 wr)) := HB10.out.trans (HBW.out.mono HB10.out.size)
                    clear HNM HBW HB10 HC10 HCX10 HNX
                    go_wp2_with fail
                    go_roundw
                    case rel => exact ⟨i + 1, hil, by go_num, HB11.out, HN1.out⟩
                    case measure => simp [intOf]; omega
              · -- @dev{ REST
                have hin : i = X.length := by omega
                subst hin
                have d1 : decide ((X.length : Int) < (X.length : Int)) = false := decide_eq_false (by omega)
                have HB9 : Hid (Below W4.heap.size W4 wr) := HB8.out.trans (HBW.out.mono HB8.out.size)
                obtain ⟨R, hR, hSr, hM⟩ := HPL.out (fun x hx y hy => HNM.out x (by rw [List.take_length]; exact hx) y hy) (textS [])
                obtain ⟨h0, hgl, hfa, hfo, hft⟩ := HX.out wr HB9.out
                have HMK : Hid (Calls Tryz.prog 13 #[.agg #[.slice ab A.length cb, .slice ao O.length co, .slice at' T.length ct], SrcV (.slice none 0 0)] wr fun e w' => ∃ ov V, e = .returned (.tuple #[ov, .int .i64 0]) ∧ V.map (·.o) = clashed (R.map (keptO ⟨A, O, T⟩)) ∧ OR w' ov V ∧ (∀ x ∈ V, x.tv.oneCell' = true) ∧ Below wr.heap.size wr w') := (merge_c (T := ⟨A, O, T⟩) (bl := []) hfa.fs hfo.fs hft.fs hgl (fun _ => Nat.zero_le _) (BS.nil wr)).mono fun e w' ⟨ov, V, e1, e2, hmo⟩ => ⟨ov, V, by rw [hM] at e1; exact e1, by rw [hM] at e2; exact e2, hmo.or, fun x hx => tx_one (hmo.tx x hx).1.tx, hmo.below⟩
                have HAPR := Lib.hid (HAPY.out R hR)
                have hrl := HAPL.out R hR
                clear h0 hgl hfa hfo hft hSr hM hR HPL HAPY HAPL HBW HNM HC8 HB8 hxl
                go_upto_region 20 with (go_at_call 13; refine HMK.out.mono ?_; rintro e W17 ⟨ov, V, rfl, hV, hor, hone, hb17⟩)
                obtain ⟨hvl, hvk⟩ := clashed_at hV
                obtain ⟨aw, cw, rfl⟩ := hor.lit
                have HB17 : Hid (Below W4.heap.size W4 W17) := HB9.out.trans (hb17.mono HB9.out.size)
                have HOR := Lib.hid hor
                have HVK := Lib.hid hvk
                have HONE := Lib.hid hone
                have hvn : V.length ≤ 1000 := by omega
                have HVL := Lib.hid hvl
                have HCC : Hid (∀ W, Below W17.heap.size W17 W → Calls Tryz.prog 18 #[.slice aw V.length cw] W fun e w' => e = .returned (.bool (V.all fun x => cleanO x.o)) ∧ Below W.heap.size W w') := fun W hb => clean_c (HOR.out.below hb) HONE.out (by omega)
                clear hV hor hone hb17 hvk hvl HMK HB9
                go_upto_region 21 with fail
                go_loopw [128] (fun kv wx => ∃ k : Nat, k ≤ V.length ∧ kv = .int .i64 k ∧ Hid (Below W17.heap.size W17 wx) ∧ Hid (∀ x ∈ V.take k, x.o.kind ≠ 4)) (fun kv _ => (V.length - intOf kv).toNat)
                case atStart => exact ⟨0, Nat.zero_le _, rfl, Below.refl _ _, fun x hx => by simp at hx⟩
                case round =>
                  obtain ⟨k, hk, rfl, HBW, HNM⟩ := hrel
                  by_cases hkl : k < V.length
                  · -- @dev{ L3
                    have k1 : decide ((k : Int) < (V.length : Int)) = true := decide_eq_true (by omega)
                    have k2 : decide (k < V.length) = true := decide_eq_true hkl
                    have k3 : (0 : Int) ≤ (k : Int) := by omega
                    have k4 : (k : Int) < (V.length : Int) := by omega
                    have kw : IntKind.i64.wrap ((k : Int) + 1) = ((k + 1 : Nat) : Int) := IntWalk.i64_in _ (by omega)
                    obtain ⟨b, o, c', e, hbl, hr⟩ := (HOR.out.below HBW.out).at hkl
                    injection e with e1 _ e2
                    subst e1 e2
                    have HR : Hid (wr.rangeAt b (o + k * 135) (ouC V[k])) := hr k hkl
                    have HXO : Hid (OkOu V[k].o) := HOR.out.ok _ (List.getElem_mem hkl)
                    have HCL : Hid ((ouC V[k]).length = 135) := ouC_len HXO.out
                    have HOE : Hid ((ouC V[k]).toArray.all (·.oneCell') = true) := by show _ = _; rw [List.all_toArray, List.all_eq_true]; exact ouC_one (HONE.out _ (List.getElem_mem hkl))
                    have HNX : Hid (V[k].o.kind ≠ 4 → ∀ x ∈ V.take (k + 1), x.o.kind ≠ 4) := fun h => take_all (P := fun x : Ov => x.o.kind ≠ 4) hkl HNM.out h
                    have HCF : Hid (V[k].o.kind = 4 → (V.all fun x => cleanO x.o) = false) := fun h => by
                      show _ = _
                      rw [List.all_eq_false]
                      exact ⟨V[k], List.getElem_mem hkl, by unfold cleanO; rw [h]; decide⟩
                    clear hr hbl
                    generalize V[k] = x at HR HXO HCL HOE HNX HCF
                    go_upto_region 23 with (first
                      | (refine wpList_load_mid rfl 54 _ rfl b (o + k * 135) rfl (ouC x) _ HR.out Tryz.underlying54 rfl (by rw [HCL.out]; exact out_info) ?_)
                      | (refine wp_storeB rfl 54 _ _ rfl wr.heap.size (ouC x).toArray rfl rfl Array.getElem?_push_size (out_zsz HCL.out) (out_isz HCL.out) HOE.out ?_; intro W18 hb18 hg18))
                    have hB18 : Below wr.heap.size wr W18 := ((Below.refl wr.heap.size wr).alloc (Nat.le_refl _) _).grown hg18 (by simp) (fun k hk => by cases hk; exact Nat.le_refl _)
                    have hkc : W18.cell? ⟨wr.heap.size, 1, none⟩ = some (.int .i64 x.o.kind) := by simp only [World.cell?, hb18]; rfl
                    have HB18 : Hid (Hid (Below W17.heap.size W17 W18)) := HBW.out.trans (hB18.mono HBW.out.size)
                    clear hb18 hg18 hB18 HBW HR HXO HCL HOE HNM
                    generalize wr.heap.size = p18 at *
                    have HEND : Hid (Below w.heap.size w W18) := (HX.out W18 (HB17.out.trans (HB18.out.out.mono HB17.out.size))).1
                    by_cases h4 : x.o.kind = 4
                    · have HCW := Lib.hid (HCC.out W18 HB18.out.out)
                      rw [HCF.out h4] at HCW
                      rw [h4] at hkc
                      go_wp2_with (go_at_call 18; refine HCW.out.mono ?_; rintro e W19 ⟨rfl, hb19⟩)
                      go_ret
                      exact ⟨rfl, HEND.out.trans (hb19.mono HEND.out.size)⟩
                    · have e4 : ((x.o.kind : Int) == 4) = false := beq_eq_false_iff_ne.2 (by omega)
                      have HN2 : Hid (Hid (∀ x ∈ V.take (k + 1), x.o.kind ≠ 4)) := HNX.out h4
                      clear HCF HNX
                      go_wp2_with fail
                      go_roundw
                      case rel => exact ⟨k + 1, hkl, by go_num, HB18.out, HN2.out⟩
                      case measure => simp [intOf]; omega
                  · have hkn : k = V.length := by omega
                    subst hkn
                    have k1 : decide ((V.length : Int) < (V.length : Int)) = false := decide_eq_false (by omega)
                    have HVE : Hid (∀ k (h1 : k < V.length) (h2 : k < R.length), V[k].o = keptO ⟨A, O, T⟩ R[k]) := fun k h1 h2 => (HVK.out k h1 h2).resolve_right (HNM.out _ (by rw [List.take_length]; exact List.getElem_mem h1))
                    have hcl : (V.all fun x => cleanO x.o) = true := by
                      rw [List.all_eq_true]
                      intro x hx
                      obtain ⟨k, hk, rfl⟩ := List.getElem_of_mem hx
                      rw [HVE.out k hk (by have := HVL.out; omega)]; rfl
                    rw [hcl] at HCC
                    have HB20 : Hid (Below W4.heap.size W4 wr) := HB17.out.trans (HBW.out.mono HB17.out.size)
                    have HDY := Lib.hid (HD2.out wr HB20.out)
                    have HOR20 := Lib.hid (HOR.out.below HBW.out)
                    have hle : ((R.length : Int) == (V.length : Int)) = true := beq_iff_eq.2 (by have := HVL.out; omega)
                    clear hcl HNM HVK HOR
                    -- @dev{ L4
                    go_upto_region 27 with (first
                      | (go_at_call 25; refine HDY.out.mono ?_; rintro e W26 ⟨ay, cy, rfl, hcr, hb26⟩)
                      | (go_at_call 24; refine (HAPR.out W26 (HB20.out.trans (hb26.mono HB20.out.size)) _ hcr).mono ?_; rintro e W27 ⟨fa, fc, rfl, hfr, hb27⟩))
                    have hb27 : Below wr.heap.size wr W27 := hb26.trans (hb27.mono hb26.size)
                    have HBW27 : Hid (Below W17.heap.size W17 W27) := HBW.out.trans (hb27.mono HBW.out.size)
                    have HCW := Lib.hid (HCC.out W27 HBW27.out)
                    have HOR27 := Lib.hid (HOR20.out.below hb27)
                    have HFR27 := Lib.hid hfr
                    clear hb26 hb27 hcr hfr HBW HOR20 HCC HDY HAPR HD2
                    go_upto_region 29 with (go_at_call 18; refine HCW.out.mono ?_; rintro e W28 ⟨rfl, hb28⟩)
                    have HB28 : Hid (Below w.heap.size w W28) := (HX.out W28 (HB17.out.trans ((HBW27.out.trans (hb28.mono HBW27.out.size)).mono HB17.out.size))).1
                    have HOR28 := Lib.hid (HOR27.out.below hb28)
                    have HFS28 := Lib.hid ((HFR27.out.below hb28).fs (by omega))
                    clear hb28 HOR27 HFR27 HCW HBW27 HB17 HB20
                    go_upto_region 30 with fail
                    go_loopw [163] (fun kv wx => ∃ k : Nat, k ≤ V.length ∧ kv = .int .i64 k ∧ Hid (Below w.heap.size w wx) ∧ Hid (FS wx (.slice fa R.length fc) R) ∧ Hid (OR wx (.slice aw V.length cw) V)) (fun kv _ => (V.length - intOf kv).toNat)
                    case atStart => exact ⟨0, Nat.zero_le _, rfl, HB28, HFS28, HOR28⟩
                    case round =>
                      clear HB28 HFS28 HOR28
                      obtain ⟨k, hk, rfl, HBW, HFS, HOR⟩ := hrel
                      by_cases hkl : k < V.length
                      · have k1 : decide ((k : Int) < (V.length : Int)) = true := decide_eq_true (by omega)
                        have k2 : decide (k < V.length) = true := decide_eq_true hkl
                        have k3 : (0 : Int) ≤ (k : Int) := by omega
                        have k4 : (k : Int) < (V.length : Int) := by omega
                        have k5 : (k : Int) < (R.length : Int) := by have := HVL.out; omega
                        have kw : IntKind.i64.wrap ((k : Int) + 1) = ((k + 1 : Nat) : Int) := IntWalk.i64_in _ (by omega)
                        have hko : k < R.length := by have := HVL.out; omega
                        obtain ⟨b, o, c', e, hbl, hr⟩ := HOR.out.at hkl
                        injection e with e1 _ e2
                        subst e1 e2
                        obtain ⟨fb, fo, c2', e, hfl, hfr⟩ := HFS.out.at hko
                        injection e with e1 _ e2
                        subst e1 e2
                        have HR : Hid (wr.rangeAt b (o + k * 135) (ouC V[k])) := hr k hkl
                        have HFR : Hid (wr.rangeAt fb (fo + k * 34) (fiC R[k])) := hfr k hko
                        have HFK : Hid (OkFi R[k]) := HFS.out.ok _ (List.getElem_mem hko)
                        have HFL : Hid (fb < wr.heap.size) := hfl
                        have HCL : Hid ((ouC V[k]).length = 135) := ouC_len (HOR.out.ok _ (List.getElem_mem hkl))
                        have HOE : Hid ((ouC V[k]).toArray.all (·.oneCell') = true) := by show _ = _; rw [List.all_toArray, List.all_eq_true]; exact ouC_one (HONE.out _ (List.getElem_mem hkl))
                        have HVX : Hid (V[k].o = keptO ⟨A, O, T⟩ R[k]) := HVE.out k hkl hko
                        clear hr hfr hfl hbl
                        generalize V[k] = x at HR HCL HOE HVX
                        generalize R[k] = f at HFR HFK HVX
                        go_upto_region 32 with (first
                          | (refine wpList_load_mid rfl 54 _ rfl b (o + k * 135) rfl (ouC x) _ HR.out Tryz.underlying54 rfl (by rw [HCL.out]; exact out_info) ?_)
                          | (refine wp_storeB rfl 54 _ _ rfl wr.heap.size (ouC x).toArray rfl rfl Array.getElem?_push_size (out_zsz HCL.out) (out_isz HCL.out) HOE.out ?_; intro W30 hb8 hg8))
                        have hB8 : Below wr.heap.size wr W30 := ((Below.refl wr.heap.size wr).alloc (Nat.le_refl _) _).grown hg8 (by simp) (fun k hk => by cases hk; exact Nat.le_refl _)
                        have hs0 : CmpS (W30.drewN 1) wr.heap.size fb (fo + k * 34) f := (cmpS_of HFK.out hb8 (fun j u hu => (hB8.cell (p := ⟨fb, fo + k * 34 + j, none⟩) HFL.out).trans (HFR.out j u hu)) (by rw [HVX.out]; rfl) (by rw [HVX.out]; rfl) (by rw [HVX.out]; rfl) (by rw [HVX.out]; rfl)).dn 1
                        have HB8 : Hid (Hid (Below w.heap.size w (W30.drewN 1))) := below_dN (HBW.out.trans (hB8.mono HBW.out.size)) 1
                        have HFS8 : Hid (Hid (FS (W30.drewN 1) (.slice (some ⟨fb, fo, none⟩) R.length fc) R)) := HFS.out.below (below_dN hB8 1)
                        have HOR8 : Hid (Hid (OR (W30.drewN 1) (.slice (some ⟨b, o, none⟩) V.length cw) V)) := HOR.out.below (below_dN hB8 1)
                        have HBT : Hid (∀ W, Calls Tryz.prog 20 #[.float .f64 (cn f.stamp)] W fun e w' => e = .returned (.int .u64 (cn f.stamp)) ∧ w' = W) := fun W => by have := refbits_c (cn f.stamp) W; rw [cn_cn] at this; exact this
                        clear hb8 hg8 hB8 HBW HFS HOR HR HFR HCL HOE HVX HFL
                        generalize wr.heap.size = p10 at *
                        refine wp_region_hz (fun W => CmpS W p10 fb (fo + k * 34) f) (.tk 0 (.tk 1 (.tk 2 (.tk 3 (.tk 4 (.tk 5 (.tk 6 (.tk 7 (.tk 8 (.tk 9 (.tk 10 (.tk 11 (.tk 12 (.tk 13 (.tk 14 (.tk 15 (.tk 16 (.tk 17 (.tk 18 (.tk 19 (.tk 20 (.tk 21 (.tk 22 (.tk 23 (.tk 24 (.tk 25 (.tk 27 (.tk 28 (.tk 29 (.tk 30 (.tk 31 (.fc 26 (.fc 32 (.tk 33 (.tk 34 (.nil)))))))))))))))))))))))))))))))))))) (by kernel_rfl) (by kernel_rfl) (fun _ _ _ _ _ h => h) ?_
                        refine goZ_tk rfl rfl 168 rfl (.pointer (some ⟨p10, 1, none⟩)) (fun _ => rfl) ?_; simp only [zT, zA, zB]
                        refine goZ_ld rfl rfl 169 rfl 3 _ rfl ⟨p10, 1, none⟩ (.int .i64 1) rfl (fun W hS => ld_int _ _ W hS.kd) (hs0) ?_; simp only [zT, zA, zB]
                        refine goZ_tk rfl rfl 170 rfl (.bool false) (fun _ => by go_simp) ?_; simp only [zT, zA, zB]
                        refine goZ_tk rfl rfl 171 rfl (.bool false) (fun _ => rfl) ?_; simp only [zT, zA, zB]
                        refine goZ_tk rfl rfl 172 rfl (.pointer (some ⟨p10, 0, none⟩)) (fun _ => rfl) ?_; simp only [zT, zA, zB]
                        refine goZ_ld rfl rfl 173 rfl 9 _ rfl ⟨p10, 0, none⟩ (.string f.path) rfl (fun W hS => ld_string _ _ W hS.pa) (hs0) ?_; simp only [zT, zA, zB]
                        refine goZ_tk rfl rfl 174 rfl (.slice (some ⟨fb, fo, none⟩) R.length fc) (fun _ => rfl) ?_; simp only [zT, zA, zB]
                        refine goZ_tk rfl rfl 175 rfl (.int .i64 k) (fun _ => rfl) ?_; simp only [zT, zA, zB]
                        refine goZ_tk rfl rfl 176 rfl (.pointer (some ⟨fb, fo + k * 34, none⟩)) (fun _ => by go_simp) ?_; simp only [zT, zA, zB]
                        refine goZ_tk rfl rfl 177 rfl (.pointer (some ⟨fb, fo + k * 34, none⟩)) (fun _ => rfl) ?_; simp only [zT, zA, zB]
                        refine goZ_ld rfl rfl 178 rfl 9 _ rfl ⟨fb, fo + k * 34, none⟩ (.string f.path) rfl (fun W hS => ld_string _ _ W hS.fp) (hs0) ?_; simp only [zT, zA, zB]
                        refine goZ_tk rfl rfl 179 rfl (.bool false) (fun _ => by go_simp) ?_; simp only [zT, zA, zB]
                        refine goZ_tk rfl rfl 180 rfl (.bool false) (fun _ => rfl) ?_; simp only [zT, zA, zB]
                        refine goZ_tk rfl rfl 181 rfl (.bool false) (fun _ => rfl) ?_; simp only [zT, zA, zB]
                        refine goZ_tk rfl rfl 182 rfl (.pointer (some ⟨p10, 2, none⟩)) (fun _ => rfl) ?_; simp only [zT, zA, zB]
                        refine goZ_ld rfl rfl 183 rfl 43 _ rfl ⟨p10, 2, none⟩ (.agg (nums .u8 f.id)) rfl (fun W hS => ld_id HFK.out.id hS.id) (hs0) ?_; simp only [zT, zA, zB]
                        refine goZ_tk rfl rfl 184 rfl (.slice (some ⟨fb, fo, none⟩) R.length fc) (fun _ => rfl) ?_; simp only [zT, zA, zB]
                        refine goZ_tk rfl rfl 185 rfl (.int .i64 k) (fun _ => rfl) ?_; simp only [zT, zA, zB]
                        refine goZ_tk rfl rfl 186 rfl (.pointer (some ⟨fb, fo + k * 34, none⟩)) (fun _ => by go_simp) ?_; simp only [zT, zA, zB]
                        refine goZ_tk rfl rfl 187 rfl (.pointer (some ⟨fb, fo + k * 34 + 1, none⟩)) (fun _ => rfl) ?_; simp only [zT, zA, zB]
                        refine goZ_ld rfl rfl 188 rfl 43 _ rfl ⟨fb, fo + k * 34 + 1, none⟩ (.agg (nums .u8 f.id)) rfl (fun W hS => ld_id HFK.out.id hS.fi) (hs0) ?_; simp only [zT, zA, zB]
                        refine goZ_tk rfl rfl 189 rfl (.bool false) (exec_bin _ _ rfl rfl rfl (fun _ => by first | rfl | go_simp) (id_same HFK.out.id)) ?_; simp only [zT, zA, zB]
                        refine goZ_tk rfl rfl 190 rfl (.bool false) (fun _ => rfl) ?_; simp only [zT, zA, zB]
                        refine goZ_tk rfl rfl 191 rfl (.bool false) (fun _ => rfl) ?_; simp only [zT, zA, zB]
                        refine goZ_tk rfl rfl 192 rfl (.pointer (some ⟨p10, 34, none⟩)) (fun _ => rfl) ?_; simp only [zT, zA, zB]
                        refine goZ_ld rfl rfl 193 rfl 44 _ rfl ⟨p10, 34, none⟩ (.float .f64 (cn f.stamp)) rfl (fun W hS => ld_float _ _ W hS.st) (hs0) ?_; simp only [zT, zA, zB]
                        refine goZ_tk rfl rfl 195 rfl (.slice (some ⟨fb, fo, none⟩) R.length fc) (fun _ => rfl) ?_; simp only [zT, zA, zB]
                        refine goZ_tk rfl rfl 196 rfl (.int .i64 k) (fun _ => rfl) ?_; simp only [zT, zA, zB]
                        refine goZ_tk rfl rfl 197 rfl (.pointer (some ⟨fb, fo + k * 34, none⟩)) (fun _ => by go_simp) ?_; simp only [zT, zA, zB]
                        refine goZ_tk rfl rfl 198 rfl (.pointer (some ⟨fb, fo + k * 34 + 33, none⟩)) (fun _ => rfl) ?_; simp only [zT, zA, zB]
                        refine goZ_ld rfl rfl 199 rfl 44 _ rfl ⟨fb, fo + k * 34 + 33, none⟩ (.float .f64 f.stamp) rfl (fun W hS => ld_float _ _ W hS.fs) (hs0) ?_; simp only [zT, zA, zB]
                        refine goZ_call (ds' := [31, 20, 15, 10, 5, 1]) rfl rfl (by kernel_rfl) 194 rfl 20 _ rfl [(.float .f64 (cn f.stamp))] rfl (enters_of Tryz.func20 (by kernel_rfl) rfl) ((HBT.out _).mono ?_)
                        rintro _ _ ⟨rfl, rfl⟩
                        refine ⟨(.int .u64 (cn f.stamp)), rfl, fun _ => hs0, ?_⟩; simp only [zT, zA, zB]
                        refine goZ_call (ds' := [20, 15, 10, 5, 1]) rfl rfl (by kernel_rfl) 200 rfl 20 _ rfl [(.float .f64 f.stamp)] rfl (enters_of Tryz.func20 (by kernel_rfl) rfl) ((refbits_c f.stamp _).mono ?_)
                        rintro _ _ ⟨rfl, rfl⟩
                        refine ⟨(.int .u64 (cn f.stamp)), rfl, fun _ => hs0, ?_⟩; simp only [zT, zA, zB]
                        refine goZ_tk rfl rfl 201 rfl (.bool false) (fun _ => by go_simp) ?_; simp only [zT, zA, zB]
                        refine goZ_tk rfl rfl 202 rfl (.bool false) (fun _ => rfl) ?_; simp only [zT, zA, zB]
                        refine goZ_end ?_
                        generalize W30.drewN 1 = W9 at *
                        go_wp2_with fail
                        exact ⟨⟨_, _, _, _, ⟨k + 1, hkl, rfl, HB8.out, HFS8.out, HOR8.out⟩, rfl, rfl, rfl, by go_num⟩, by simp [intOf]; omega⟩
                      · have k1 : decide ((k : Int) < (V.length : Int)) = false := decide_eq_false (by omega)
                        have k2 : decide (k < V.length) = false := decide_eq_false hkl
                        go_wp2_with fail
                        go_ret
                        exact ⟨rfl, HBW.out⟩
          · -- @dev{ F4
            have n2 : (k2 != 0) = true := bne_iff_ne.2 hk2
            subst hk0 he1 he2 hk1
            go_upto_region 5 with fail
            refine goP_start ?_
            refine goP_mv rfl 37 rfl _ rfl vb rfl ?_; simp only [zT, zA, zB]
            refine goP_call rfl 38 rfl 19 _ rfl [vb] rfl (enters_of Tryz.func19 (by kernel_rfl) rfl) ((HC0.out).mono ?_)
            rintro e W5 ⟨rfl, hb5⟩
            refine ⟨(.int .i64 0), rfl, ?_⟩; simp only [zT, zA, zB]
            refine goP_tk rfl 39 rfl (.bool false) (by first | rfl | go_simp) ?_; simp only [zT, zA, zB]
            refine goP_mv rfl 40 rfl _ rfl (.bool false) rfl ?_; simp only [zT, zA, zB]
            refine goP_mv rfl 41 rfl _ rfl (.int .i64 0) rfl ?_; simp only [zT, zA, zB]
            refine goP_tk rfl 42 rfl (.bool false) (by first | rfl | go_simp) ?_; simp only [zT, zA, zB]
            refine goP_pk rfl 43 rfl _ _ _ rfl false rfl (.bool false) rfl ?_; simp only [zT, zA, zB]
            refine goP_mv rfl 44 rfl _ rfl (.bool false) rfl ?_; simp only [zT, zA, zB]
            refine goP_mv rfl 45 rfl _ rfl (.int .i64 0) rfl ?_; simp only [zT, zA, zB]
            refine goP_tk rfl 46 rfl (.bool false) (by first | rfl | go_simp) ?_; simp only [zT, zA, zB]
            refine goP_pk rfl 47 rfl _ _ _ rfl false rfl (.bool false) rfl ?_; simp only [zT, zA, zB]
            refine goP_mv rfl 48 rfl _ rfl (.bool false) rfl ?_; simp only [zT, zA, zB]
            refine goP_mv rfl 49 rfl _ rfl v7 rfl ?_; simp only [zT, zA, zB]
            refine goP_call rfl 50 rfl 19 _ rfl [v7] rfl (enters_of Tryz.func19 (by kernel_rfl) rfl) ((HC1.out W5 hb5).mono ?_)
            rintro e W6 ⟨rfl, hb6⟩
            refine ⟨(.int .i64 0), rfl, ?_⟩; simp only [zT, zA, zB]
            refine goP_tk rfl 51 rfl (.bool false) (by first | rfl | go_simp) ?_; simp only [zT, zA, zB]
            refine goP_pk rfl 52 rfl _ _ _ rfl false rfl (.bool false) rfl ?_; simp only [zT, zA, zB]
            refine goP_mv rfl 53 rfl _ rfl (.bool false) rfl ?_; simp only [zT, zA, zB]
            refine goP_mv rfl 54 rfl _ rfl v9 rfl ?_; simp only [zT, zA, zB]
            refine goP_call rfl 55 rfl 19 _ rfl [v9] rfl (enters_of Tryz.func19 (by kernel_rfl) rfl) ((HC2.out W6 (hb5.trans (hb6.mono hb5.size))).mono ?_)
            rintro e W7 ⟨rfl, hb7⟩
            refine ⟨(.int .i64 k2), rfl, ?_⟩; simp only [zT, zA, zB]
            refine goP_tk rfl 56 rfl (.bool true) (by first | rfl | go_simp) ?_; simp only [zT, zA, zB]
            refine goP_pk rfl 57 rfl _ _ _ rfl false rfl (.bool true) rfl ?_; simp only [zT, zA, zB]
            refine goP_end ?_
            go_wp2_with fail
            go_ret
            exact ⟨rfl, (HX.out _ (hb5.trans ((hb6.trans (hb7.mono hb6.size)).mono hb5.size))).1⟩
        · -- @dev{ F3
          have n1 : (k1 != 0) = true := bne_iff_ne.2 hk1
          subst hk0 he1 he2
          go_upto_region 5 with fail
          refine goP_start ?_
          refine goP_mv rfl 37 rfl _ rfl vb rfl ?_; simp only [zT, zA, zB]
          refine goP_call rfl 38 rfl 19 _ rfl [vb] rfl (enters_of Tryz.func19 (by kernel_rfl) rfl) ((HC0.out).mono ?_)
          rintro e W5 ⟨rfl, hb5⟩
          refine ⟨(.int .i64 0), rfl, ?_⟩; simp only [zT, zA, zB]
          refine goP_tk rfl 39 rfl (.bool false) (by first | rfl | go_simp) ?_; simp only [zT, zA, zB]
          refine goP_mv rfl 40 rfl _ rfl (.bool false) rfl ?_; simp only [zT, zA, zB]
          refine goP_mv rfl 41 rfl _ rfl (.int .i64 0) rfl ?_; simp only [zT, zA, zB]
          refine goP_tk rfl 42 rfl (.bool false) (by first | rfl | go_simp) ?_; simp only [zT, zA, zB]
          refine goP_pk rfl 43 rfl _ _ _ rfl false rfl (.bool false) rfl ?_; simp only [zT, zA, zB]
          refine goP_mv rfl 44 rfl _ rfl (.bool false) rfl ?_; simp only [zT, zA, zB]
          refine goP_mv rfl 45 rfl _ rfl (.int .i64 0) rfl ?_; simp only [zT, zA, zB]
          refine goP_tk rfl 46 rfl (.bool false) (by first | rfl | go_simp) ?_; simp only [zT, zA, zB]
          refine goP_pk rfl 47 rfl _ _ _ rfl false rfl (.bool false) rfl ?_; simp only [zT, zA, zB]
          refine goP_mv rfl 48 rfl _ rfl (.bool false) rfl ?_; simp only [zT, zA, zB]
          refine goP_mv rfl 49 rfl _ rfl v7 rfl ?_; simp only [zT, zA, zB]
          refine goP_call rfl 50 rfl 19 _ rfl [v7] rfl (enters_of Tryz.func19 (by kernel_rfl) rfl) ((HC1.out W5 hb5).mono ?_)
          rintro e W6 ⟨rfl, hb6⟩
          refine ⟨(.int .i64 k1), rfl, ?_⟩; simp only [zT, zA, zB]
          refine goP_tk rfl 51 rfl (.bool true) (by first | rfl | go_simp) ?_; simp only [zT, zA, zB]
          refine goP_pk rfl 52 rfl _ _ _ rfl false rfl (.bool true) rfl ?_; simp only [zT, zA, zB]
          refine goP_mv rfl 53 rfl _ rfl (.bool true) rfl ?_; simp only [zT, zA, zB]
          refine goP_no rfl 54 rfl ?_; simp only [zT, zA, zB]
          refine goP_no rfl 55 rfl ?_; simp only [zT, zA, zB]
          refine goP_no rfl 56 rfl ?_; simp only [zT, zA, zB]
          refine goP_pk rfl 57 rfl _ _ _ rfl true rfl (.bool true) rfl ?_; simp only [zT, zA, zB]
          refine goP_end ?_
          go_wp2_with fail
          go_ret
          exact ⟨rfl, (HX.out _ (hb5.trans (hb6.mono hb5.size))).1⟩
      · -- @dev{ F2
        have n1 : (e2 != 0) = true := bne_iff_ne.2 he2
        subst hk0 he1
        go_upto_region 5 with fail
        refine goP_start ?_
        refine goP_mv rfl 37 rfl _ rfl vb rfl ?_; simp only [zT, zA, zB]
        refine goP_call rfl 38 rfl 19 _ rfl [vb] rfl (enters_of Tryz.func19 (by kernel_rfl) rfl) ((HC0.out).mono ?_)
        rintro e W5 ⟨rfl, hb5⟩
        refine ⟨(.int .i64 0), rfl, ?_⟩; simp only [zT, zA, zB]
        refine goP_tk rfl 39 rfl (.bool false) (by first | rfl | go_simp) ?_; simp only [zT, zA, zB]
        refine goP_mv rfl 40 rfl _ rfl (.bool false) rfl ?_; simp only [zT, zA, zB]
        refine goP_mv rfl 41 rfl _ rfl (.int .i64 0) rfl ?_; simp only [zT, zA, zB]
        refine goP_tk rfl 42 rfl (.bool false) (by first | rfl | go_simp) ?_; simp only [zT, zA, zB]
        refine goP_pk rfl 43 rfl _ _ _ rfl false rfl (.bool false) rfl ?_; simp only [zT, zA, zB]
        refine goP_mv rfl 44 rfl _ rfl (.bool false) rfl ?_; simp only [zT, zA, zB]
        refine goP_mv rfl 45 rfl _ rfl (.int .i64 e2) rfl ?_; simp only [zT, zA, zB]
        refine goP_tk rfl 46 rfl (.bool true) (by first | rfl | go_simp) ?_; simp only [zT, zA, zB]
        refine goP_pk rfl 47 rfl _ _ _ rfl false rfl (.bool true) rfl ?_; simp only [zT, zA, zB]
        refine goP_mv rfl 48 rfl _ rfl (.bool true) rfl ?_; simp only [zT, zA, zB]
        refine goP_no rfl 49 rfl ?_; simp only [zT, zA, zB]
        refine goP_no rfl 50 rfl ?_; simp only [zT, zA, zB]
        refine goP_no rfl 51 rfl ?_; simp only [zT, zA, zB]
        refine goP_pk rfl 52 rfl _ _ _ rfl true rfl (.bool true) rfl ?_; simp only [zT, zA, zB]
        refine goP_mv rfl 53 rfl _ rfl (.bool true) rfl ?_; simp only [zT, zA, zB]
        refine goP_no rfl 54 rfl ?_; simp only [zT, zA, zB]
        refine goP_no rfl 55 rfl ?_; simp only [zT, zA, zB]
        refine goP_no rfl 56 rfl ?_; simp only [zT, zA, zB]
        refine goP_pk rfl 57 rfl _ _ _ rfl true rfl (.bool true) rfl ?_; simp only [zT, zA, zB]
        refine goP_end ?_
        go_wp2_with fail
        go_ret
        exact ⟨rfl, (HX.out _ hb5).1⟩
    · -- @dev{ F1
      have n1 : (e1 != 0) = true := bne_iff_ne.2 he1
      subst hk0
      go_upto_region 5 with fail
      refine goP_start ?_
      refine goP_mv rfl 37 rfl _ rfl vb rfl ?_; simp only [zT, zA, zB]
      refine goP_call rfl 38 rfl 19 _ rfl [vb] rfl (enters_of Tryz.func19 (by kernel_rfl) rfl) ((HC0.out).mono ?_)
      rintro e W5 ⟨rfl, hb5⟩
      refine ⟨(.int .i64 0), rfl, ?_⟩; simp only [zT, zA, zB]
      refine goP_tk rfl 39 rfl (.bool false) (by first | rfl | go_simp) ?_; simp only [zT, zA, zB]
      refine goP_mv rfl 40 rfl _ rfl (.bool false) rfl ?_; simp only [zT, zA, zB]
      refine goP_mv rfl 41 rfl _ rfl (.int .i64 e1) rfl ?_; simp only [zT, zA, zB]
      refine goP_tk rfl 42 rfl (.bool true) (by first | rfl | go_simp) ?_; simp only [zT, zA, zB]
      refine goP_pk rfl 43 rfl _ _ _ rfl false rfl (.bool true) rfl ?_; simp only [zT, zA, zB]
      refine goP_mv rfl 44 rfl _ rfl (.bool true) rfl ?_; simp only [zT, zA, zB]
      refine goP_no rfl 45 rfl ?_; simp only [zT, zA, zB]
      refine goP_no rfl 46 rfl ?_; simp only [zT, zA, zB]
      refine goP_pk rfl 47 rfl _ _ _ rfl true rfl (.bool true) rfl ?_; simp only [zT, zA, zB]
      refine goP_mv rfl 48 rfl _ rfl (.bool true) rfl ?_; simp only [zT, zA, zB]
      refine goP_no rfl 49 rfl ?_; simp only [zT, zA, zB]
      refine goP_no rfl 50 rfl ?_; simp only [zT, zA, zB]
      refine goP_no rfl 51 rfl ?_; simp only [zT, zA, zB]
      refine goP_pk rfl 52 rfl _ _ _ rfl true rfl (.bool true) rfl ?_; simp only [zT, zA, zB]
      refine goP_mv rfl 53 rfl _ rfl (.bool true) rfl ?_; simp only [zT, zA, zB]
      refine goP_no rfl 54 rfl ?_; simp only [zT, zA, zB]
      refine goP_no rfl 55 rfl ?_; simp only [zT, zA, zB]
      refine goP_no rfl 56 rfl ?_; simp only [zT, zA, zB]
      refine goP_pk rfl 57 rfl _ _ _ rfl true rfl (.bool true) rfl ?_; simp only [zT, zA, zB]
      refine goP_end ?_
      go_wp2_with fail
      go_ret
      exact ⟨rfl, (HX.out _ hb5).1⟩
  · -- @dev{ F0
    have n1 : (k0 != 0) = true := bne_iff_ne.2 hk0
    go_upto_region 5 with fail
    refine goP_start ?_
    refine goP_mv rfl 37 rfl _ rfl vb rfl ?_; simp only [zT, zA, zB]
    refine goP_call rfl 38 rfl 19 _ rfl [vb] rfl (enters_of Tryz.func19 (by kernel_rfl) rfl) ((HC0.out).mono ?_)
    rintro e W5 ⟨rfl, hb5⟩
    refine ⟨(.int .i64 k0), rfl, ?_⟩; simp only [zT, zA, zB]
    refine goP_tk rfl 39 rfl (.bool true) (by first | rfl | go_simp) ?_; simp only [zT, zA, zB]
    refine goP_mv rfl 40 rfl _ rfl (.bool true) rfl ?_; simp only [zT, zA, zB]
    refine goP_no rfl 41 rfl ?_; simp only [zT, zA, zB]
    refine goP_no rfl 42 rfl ?_; simp only [zT, zA, zB]
    refine goP_pk rfl 43 rfl _ _ _ rfl true rfl (.bool true) rfl ?_; simp only [zT, zA, zB]
    refine goP_mv rfl 44 rfl _ rfl (.bool true) rfl ?_; simp only [zT, zA, zB]
    refine goP_no rfl 45 rfl ?_; simp only [zT, zA, zB]
    refine goP_no rfl 46 rfl ?_; simp only [zT, zA, zB]
    refine goP_pk rfl 47 rfl _ _ _ rfl true rfl (.bool true) rfl ?_; simp only [zT, zA, zB]
    refine goP_mv rfl 48 rfl _ rfl (.bool true) rfl ?_; simp only [zT, zA, zB]
    refine goP_no rfl 49 rfl ?_; simp only [zT, zA, zB]
    refine goP_no rfl 50 rfl ?_; simp only [zT, zA, zB]
    refine goP_no rfl 51 rfl ?_; simp only [zT, zA, zB]
    refine goP_pk rfl 52 rfl _ _ _ rfl true rfl (.bool true) rfl ?_; simp only [zT, zA, zB]
    refine goP_mv rfl 53 rfl _ rfl (.bool true) rfl ?_; simp only [zT, zA, zB]
    refine goP_no rfl 54 rfl ?_; simp only [zT, zA, zB]
    refine goP_no rfl 55 rfl ?_; simp only [zT, zA, zB]
    refine goP_no rfl 56 rfl ?_; simp only [zT, zA, zB]
    refine goP_pk rfl 57 rfl _ _ _ rfl true rfl (.bool true) rfl ?_; simp only [zT, zA, zB]
    refine goP_end ?_
    go_wp2_with fail
    go_ret
    exact ⟨rfl, (HX.out _ hb5).1⟩
end Go.Proofs.YtpcipdkoncmdcaaGreatDoor
