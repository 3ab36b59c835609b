/- The walk of the law ScoreOnce. -/
import Derived.Test.YtlnifigbnpdemaaDoorScoreOn
namespace Go.Proofs.YtlnifigbnpdemaaDoor
open Go Go.RowKit Go.Sort Go.Maps

theorem MapI.below {w w' : World} {b n B : Nat} {F : ByteArray → Int} (h : MapI w b n F) (hb : RowKit.Below B w w') (hB : b < B) : MapI w' b n F := by
  obtain ⟨D, ⟨es, clock, hc, h1, h2⟩, h3⟩ := h
  exact ⟨D, ⟨es, clock, (hb.block b hB).trans hc, h1, h2⟩, h3⟩

theorem MapI.drewN {w : World} {b n : Nat} {F : ByteArray → Int} (h : MapI w b n F) (q : Nat) : MapI (w.drewN q) b n F := h

theorem own_slN {w : World} {base : Nat} {e : TypeId} {s : Nat} {v : Value} {n : Nat} {xs : List Value} (h : w.ownsRow base e s v n xs) : ∃ a c, v = .slice a n c ∧ Sl w a xs := by
  have hl := h.1
  rcases h.2 with ⟨rfl, rfl⟩ | ⟨g, cap, cur, rfl, hb, hg, _⟩
  · rw [Nat.zero_mul] at hl
    exact ⟨none, 0, rfl, .inl (List.eq_nil_of_length_eq_zero hl)⟩
  · refine ⟨_, cap, rfl, .inr ⟨g, 0, rfl, (Array.getElem?_eq_some_iff.1 hg).1, fun i u hu => ?_⟩⟩
    rw [Nat.zero_add, h.cellAt i (by have := (List.getElem?_eq_some_iff.1 hu).1; omega)]
    exact hu

set_option maxRecDepth 100000 in
theorem moves_long (ag ac : Option Addr) (cg cc ng nc least : Nat) (w : World) (h : 64 < ng ∨ 64 < nc) :
    Calls Tryd.prog 13 #[.slice ag ng cg, .slice ac nc cc, .float .f64 least] w fun e w' => e = .returned (.tuple #[.slice none 0 0, .int .i64 2]) ∧ w' = w := by
  by_cases h1 : 64 < ng
  · have h1' : (64 : Int) < ng := by omega
    go_enter Tryd.func13, Tryd.ntmps13
    go_wp2_with fail
    go_ret2
    exact ⟨rfl, rfl⟩
  · have h1' : ¬ (64 : Int) < ng := by omega
    have h2' : (64 : Int) < nc := by omega
    go_enter Tryd.func13, Tryd.ntmps13
    go_wp2_with fail
    go_ret2
    exact ⟨rfl, rfl⟩

set_option maxRecDepth 100000 in
set_option maxHeartbeats 3000000 in
theorem lawOnce_c (ag ac : Option Addr) (cg cc : Nat) (gone come : List Tx) (least : Nat) (w : World) (hg : Gl w) (hsg : TxS w ag gone) (hsc : TxS w ac come) (hlg : gone.length ≤ 10000000) (hlc : come.length ≤ 10000000)
    (htg : totL gone ≤ 100000000) (htc : totL come ≤ 100000000) (hzg : ∀ t ∈ gone, t.path.size ≤ 10000000) (hzc : ∀ t ∈ come, t.path.size ≤ 10000000) (hl : least < 2 ^ 64) :
    Calls Tryd.prog 5 #[.slice ag gone.length cg, .slice ac come.length cc, .float .f64 least] w fun e w' => e = .returned (.bool true) ∧ RowKit.Below w.heap.size w w' := by
  go_enter Tryd.func5, Tryd.ntmps5
  go_wp2_with fail
  refine (awake_c w hg).mono ?_
  rintro e w1 ⟨rfl, b1⟩
  go_wp2_with fail
  refine (small_c ag cg gone w1 (hsg.below b1) hlg htg).mono ?_
  rintro e w2 ⟨rfl, b2'⟩
  have b2 := b1.trans (b2'.mono b1.size)
  clear b2'
  by_cases hs1 : totL gone ≤ 200
  · rw [decide_eq_true hs1]
    go_wp2_with fail
    refine (small_c ac cc come w2 (hsc.below b2) hlc htc).mono ?_
    rintro e w3 ⟨rfl, b3'⟩
    have b3 := b2.trans (b3'.mono b2.size)
    clear b3' b2 b1
    by_cases hs2 : totL come ≤ 200
    · rw [decide_eq_true hs2]
      by_cases hbig : 64 < gone.length ∨ 64 < come.length
      · have HM := Lib.hid (moves_long ag ac cg cc gone.length come.length least w3 hbig)
        clear hbig hs1 hs2
        go_wp2_with fail
        refine HM.out.mono ?_
        rintro e w4 ⟨rfl, rfl⟩
        go_wp2_with fail
        go_ret
        exact ⟨rfl, b3⟩
      · have hlt : (allM gone come least).length < 1000000 := by
          have := allM_le least gone come
          have := Nat.mul_le_mul (show gone.length ≤ 64 by omega) (show come.length ≤ 64 by omega)
          omega
        have HM := Lib.hid (moves_c stableToAll ag ac cg cc gone come least w3 (hg.below b3 (Nat.le_refl _)) (hsg.below b3) (hsc.below b3) (by omega) (by omega) (fun t h => ⟨hzg t h, by have := totL_mem h; omega⟩) (fun t h => ⟨hzc t h, by have := totL_mem h; omega⟩) hl hlt)
        have HLG := Lib.hid (fun t (h : t ∈ gone) => (show t.lines.length ≤ 200 from Nat.le_trans (totL_mem h) hs1))
        have HLC := Lib.hid (fun t (h : t ∈ come) => (show t.lines.length ≤ 200 from Nat.le_trans (totL_mem h) hs2))
        have hg64 : gone.length ≤ 64 := by omega
        have hc64 : come.length ≤ 64 := by omega
        have HZG := Lib.hid hzg
        have HZC := Lib.hid hzc
        clear hbig hs1 hs2 hlt hzg hzc htg htc
        have hmm := fun (t : TypeId) (w : World) => run_makeMap (P := Tryd.prog) t w
        have hsf := fun (W : World) (p : Addr) (m : Mode) (b : Nat) => run_storef Tryd.prog W p m .f64 b
        go_wp2_with fail
        refine HM.out.mono ?_
        rintro e w4 ⟨v, rfl, l', hperm, hpw, hown, b4'⟩
        have b4 := b3.trans (b4'.mono b3.size)
        have ON := Lib.hid (once_of hperm (List.Pairwise.imp (fun h => Int.not_lt.2 h) hpw) HZG.out HZC.out)
        clear hperm hpw b4' HM b3
        generalize grd [] l' = out at *
        obtain ⟨a5, c5, rfl, hsl⟩ := own_slN hown
        have hol : out.length ≤ 4096 := Nat.le_trans ON.out.len (Nat.mul_le_mul hg64 hc64)
        clear hown
        go_wp2_with fail
        have hm0 : MapI ((w4.alloc (.map #[] 0)).alloc (.map #[] 0)) w4.heap.size 0 (cntS (out.take 0)) := (MapI.made w4).alloc _
        have hm1 : MapI ((w4.alloc (.map #[] 0)).alloc (.map #[] 0)) (w4.heap.size + 1) 0 (cntD (out.take 0)) := by
          have := MapI.made (w4.alloc (.map #[] 0))
          rwa [show (w4.alloc (.map #[] 0)).heap.size = w4.heap.size + 1 by simp] at this
        have hb45 : RowKit.Below w4.heap.size w4 ((w4.alloc (.map #[] 0)).alloc (.map #[] 0)) := ((RowKit.Below.refl _ w4).alloc (Nat.le_refl _) _).alloc (by simp) _
        go_loopw [45] (fun iv wr => ∃ j : Nat, j ≤ out.length ∧ iv = .int .i64 j ∧ MapI wr w4.heap.size j (cntS (out.take j)) ∧ MapI wr (w4.heap.size + 1) j (cntD (out.take j)) ∧ RowKit.Below w4.heap.size w4 wr) (fun iv _ => out.length - (intOf iv).toNat)
        case atStart => exact ⟨0, by omega, rfl, hm0, hm1, hb45⟩
        case round =>
          clear hm0 hm1 hb45
          obtain ⟨j, hj, rfl, hm0, hm1, hbr⟩ := hrel
          by_cases hjl : j < out.length
          · have hjj : (j : Int) < out.length := by omega
            have hjj0 : (0 : Int) ≤ j := by omega
            obtain ⟨g8, o8, rfl, hgl8, hc8⟩ := hsl.at (k := j * 3) (by rw [mrow_len]; omega)
            have hget := mrow_get (w := w4) (g := g8) (o := o8) (l := out) (fun i u hu => by
              obtain ⟨hi', hu'⟩ := List.getElem?_eq_some_iff.1 hu
              rw [hc8 i hi', hu'])
            obtain ⟨d0, d1, d2⟩ := hget j hjl
            have hok := ON.out.ok _ (List.getElem_mem hjl)
            have e0 : wr.cell? ⟨g8, o8 + j * 3, none⟩ = some (.string out[j].src) := by rw [hbr.cell (p := ⟨g8, _, none⟩) hgl8]; exact d0
            have e1 : wr.cell? ⟨g8, o8 + j * 3 + 1, none⟩ = some (.string out[j].dst) := by rw [hbr.cell (p := ⟨g8, _, none⟩) hgl8]; exact d1
            have e2 : wr.cell? ⟨g8, o8 + j * 3 + 2, none⟩ = some (.float .f64 out[j].sc) := by rw [hbr.cell (p := ⟨g8, _, none⟩) hgl8]; exact d2
            obtain ⟨u0, u1⟩ := cnt_take ON.out.apart j hjl
            have hmuch := ON.out.much _ (List.getElem_mem hjl)
            have HTK := Lib.hid (List.take_succ_eq_append_getElem hjl)
            have HPV : Hid (∀ i (hi : i + 1 = j), ∃ p, w4.cell? ⟨g8, o8 + i * 3 + 2, none⟩ = some (.float .f64 p) ∧ p < 2 ^ 64 ∧ ¬ fkey p < fkey out[j].sc) := by
              intro i hi
              subst hi
              exact ⟨out[i].sc, (hget i (by omega)).2.2, (ON.out.ok _ (List.getElem_mem (by omega))).2.2.1, ON.out.down i hjl⟩
            clear hc8 d0 d1 d2 hget
            generalize out[j] = m at *
            obtain ⟨ms, md, mc⟩ := m
            obtain ⟨ok1, ok2, ok3, ok4⟩ := hok
            simp only at e0 e1 e2 ok1 ok2 ok3 u0 u1 hmuch
            have hm0' := hm0.alloc (.cells #[.string ms, .string md, .float .f64 mc] 43)
            have hm1' := hm1.alloc (.cells #[.string ms, .string md, .float .f64 mc] 43)
            have hmb : (wr.alloc (.cells #[.string ms, .string md, .float .f64 mc] 43)).heap[wr.heap.size]? = some (.cells #[.string ms, .string md, .float .f64 mc] 43 (0, 0)) := (Go.MapKept.heap_alloc wr _).1
            have hbr' := hbr.alloc hbr.size (.cells #[.string ms, .string md, .float .f64 mc] 43)
            have hlm0 := hm0.lt
            have hlm1 := hm1.lt
            have lk0 := hm0'.look ms (by omega)
            rw [u0] at lk0
            obtain ⟨w5, up0, hmA, hgA⟩ := hm0'.put ms (by omega) 1 (by omega) (by decide)
            have hmA1 := hm1'.kept hgA (fun e => by injection e with e; omega)
            obtain ⟨w6, up1, hmB, hgB⟩ := hmA1.put md (by omega) 1 (by omega) (by decide)
            have hmA2 := hmA.kept hgB (fun e => by injection e with e; omega)
            have lk2 := hmA1.look md (by omega)
            rw [u1] at lk2
            have hszA : wr.heap.size < (wr.alloc (.cells #[.string ms, .string md, .float .f64 mc] 43)).heap.size := by simp
            have hmb3 := (hgA.block wr.heap.size hszA (fun e => by injection e with e; omega)).trans hmb
            have hmb4 := (hgB.block wr.heap.size (Array.getElem?_eq_some_iff.1 hmb3).1 (fun e => by injection e with e; omega)).trans hmb3
            have s1 : w5.cell? ⟨wr.heap.size, 1, none⟩ = some (.string md) := by rw [blk_cell hmb3]; rfl
            have t0 : w6.cell? ⟨wr.heap.size, 0, none⟩ = some (.string ms) := by rw [blk_cell hmb4]; rfl
            have t1 : w6.cell? ⟨wr.heap.size, 1, none⟩ = some (.string md) := by rw [blk_cell hmb4]; rfl
            have t2 : w6.cell? ⟨wr.heap.size, 2, none⟩ = some (.float .f64 mc) := by rw [blk_cell hmb4]; rfl
            have hbr6 : RowKit.Below w4.heap.size w4 w6 := by
              refine (hbr'.grown hgA (by have := hbr'.size; omega) (by intro k hk; cases hk; omega)).grown hgB ?_ ?_
              · have := hgA.size; have := hbr'.size; omega
              · intro k hk; cases hk; omega
            have g0 := hmA2.congr (G := cntS (out.take j ++ [Mv.mk ms md mc])) (fun s => cntS_snoc (out.take j) (Mv.mk ms md mc) u0 s)
            have g1 := hmB.congr (G := cntD (out.take j ++ [Mv.mk ms md mc])) (fun s => cntD_snoc (out.take j) (Mv.mk ms md mc) u1 s)
            have v0 : cntS (out.take j ++ [Mv.mk ms md mc]) ms = 1 := by rw [← cntS_snoc (out.take j) (Mv.mk ms md mc) u0 ms, if_pos rfl]
            have v1 : cntD (out.take j ++ [Mv.mk ms md mc]) md = 1 := by rw [← cntD_snoc (out.take j) (Mv.mk ms md mc) u1 md, if_pos rfl]
            have lkA := fun q => (g0.drewN q).look ms (by omega)
            have lkB := fun q => (g1.drewN q).look md (by omega)
            rw [v0] at lkA
            rw [v1] at lkB
            rw [← HTK.out] at g0 g1
            have HB1 := Lib.hid (fun W => before_c mc least W ok3 hl)
            rw [decide_eq_false hmuch] at HB1
            clear hm0 hm1 hm0' hm1' hmb hmb3 hmb4 hbr' hmA hmA1 hmA2 hmB hgA u0 u1 v0 v1 ok4 hmuch HTK hszA
            have hbc := fun (p : Nat) (o : Nat) (h : p < w4.heap.size) => hbr6.cell (p := ⟨p, o, none⟩) h
            by_cases hz : j = 0
            · have r0 : decide ((0 : Int) < (j : Int)) = false := by rw [decide_eq_false_iff_not]; omega
              have r2 : (0 < j) = False := eq_false (by omega)
              clear hbc HPV hz
              go_wp2_with fail
              clear lk0 up0 up1 lk2 s1 hmm hsf e0 e1 e2 hgB hg hsg hsc b4 HLG HLC HZG HZC ON hsl hlm0 hlm1 hlg hlc
              refine wp_region_quiet_lit (by kernel_rfl) (by kernel_rfl) ?_
              iterate 16 quiet_step (fail)
              quiet_step (exact Calls.quiet_of_same (HB1.out _))
              iterate 5 quiet_step (fail)
              iterate 9 go_big_quiet_skip
              iterate 2 go_big_quiet_step (fail)
              refine wpQuiet_nil ?_
              rintro _ ⟨nq, rfl⟩
              go_wp2_with fail
              go_roundw
              case rel => exact ⟨j + 1, by omega, by go_num, g0, g1, below_dN hbr6 _⟩
              case measure => simp [intOf]; omega
            · obtain ⟨i, rfl⟩ : ∃ i, j = i + 1 := ⟨j - 1, by omega⟩
              clear hz
              obtain ⟨pv, hpv, hpl, hpd⟩ := HPV.out i rfl
              have hpv6 : w6.cell? ⟨g8, o8 + i * 3 + 2, none⟩ = some (.float .f64 pv) := by rw [hbc g8 _ hgl8]; exact hpv
              have HB2 := Lib.hid (fun W => before_c pv mc W hpl ok3)
              rw [decide_eq_false hpd] at HB2
              have r1 : IntKind.i64.wrap ((i : Int) + 1 - 1) = (i : Int) := by rw [Int.add_sub_cancel]; exact IntWalk.i64_in _ (by omega)
              have r2 : IntKind.i64.wrap (i : Int) = (i : Int) := IntWalk.i64_in _ (by omega)
              have r3 : (0 : Int) < (i : Int) + 1 := by omega
              have r4 : (0 : Int) ≤ (i : Int) := by omega
              have r5 : (i : Int) < out.length := by omega
              clear hbc HPV hpv hpl hpd
              go_wp2_with fail
              clear lk0 up0 up1 lk2 s1 hmm hsf e0 e1 e2 hgB hg hsg hsc b4 HLG HLC HZG HZC ON hsl hlm0 hlm1 hlg hlc
              refine wp_region_quiet_lit (by kernel_rfl) (by kernel_rfl) ?_
              iterate 16 quiet_step (fail)
              quiet_step (exact Calls.quiet_of_same (HB1.out _))
              iterate 13 quiet_step (fail)
              quiet_step (exact Calls.quiet_of_same (HB2.out _))
              iterate 2 quiet_step (fail)
              refine wpQuiet_nil ?_
              rintro _ ⟨nq, rfl⟩
              go_wp2_with fail
              go_roundw
              case rel => exact ⟨i + 1 + 1, by omega, by go_num, g0, g1, below_dN hbr6 _⟩
              case measure => simp [intOf]; omega
          · have hjj : ¬ (j : Int) < out.length := by omega
            have hjo : j = out.length := by omega
            rw [hjo, List.take_length] at hm0 hm1
            rw [hjo]
            have ho0 : ¬ (out.length : Int) < out.length := by omega
            clear hjj hjo hjl hj
            go_wp2_with fail
            have ML0 : MapI wr w4.heap.size out.length (cntS out) := hm0
            have hb4r := b4.trans (hbr.mono b4.size)
            go_loopw [96] (fun iv wi => ∃ i : Nat, i ≤ gone.length ∧ iv = .int .i64 i ∧ MapI wi w4.heap.size out.length (cntS out) ∧ MapI wi (w4.heap.size + 1) out.length (cntD out) ∧ RowKit.Below w.heap.size w wi) (fun iv _ => gone.length - (intOf iv).toNat)
            case atStart => exact ⟨0, by omega, rfl, hm0, hm1, hb4r⟩
            case round =>
              clear hm0 hm1 hbr ML0 hb4r
              obtain ⟨i, hi, rfl, hm0, hm1, hb⟩ := hrel
              obtain ⟨wo, rfl⟩ : ∃ wo : World, wo = wr := ⟨_, rfl⟩
              by_cases hig : i < gone.length
              · obtain ⟨ba, oa, rfl, hal, hap, ada, ca, hac, hsa⟩ := hsg.at hig
                have hap' : wo.cell? ⟨ba, oa + i * 2, none⟩ = some (.string gone[i].path) := by rw [hb.cell (p := ⟨ba, _, none⟩) hal]; exact hap
                have hac' : wo.cell? ⟨ba, oa + i * 2 + 1, none⟩ = some (.slice ada gone[i].lines.length ca) := by rw [hb.cell (p := ⟨ba, _, none⟩) hal]; exact hac
                have hii : (i : Int) < gone.length := by omega
                have hii0 : (0 : Int) ≤ i := by omega
                have hza1 := HZG.out _ (List.getElem_mem hig)
                have hza2 := HLG.out _ (List.getElem_mem hig)
                have HRE := Lib.hid (fun b hb' => ON.out.rest _ (List.getElem_mem hig) b hb')
                generalize gone[i] = ta at *
                have hap2 : (wo.alloc (.cells #[.string ta.path, .slice ada ta.lines.length ca] 48)).heap[wo.heap.size]? = some (.cells #[.string ta.path, .slice ada ta.lines.length ca] 48 (0, 0)) := (Go.MapKept.heap_alloc wo _).1
                have hb2 := hb.alloc hb.size (.cells #[.string ta.path, .slice ada ta.lines.length ca] 48)
                have hm02 := hm0.alloc (.cells #[.string ta.path, .slice ada ta.lines.length ca] 48)
                have hm12 := hm1.alloc (.cells #[.string ta.path, .slice ada ta.lines.length ca] 48)
                go_wp2_with fail
                go_loopw [102] (fun kv wi => ∃ k : Nat, k ≤ come.length ∧ kv = .int .i64 k ∧ MapI wi w4.heap.size out.length (cntS out) ∧ MapI wi (w4.heap.size + 1) out.length (cntD out) ∧ wi.heap[wo.heap.size]? = some (.cells #[.string ta.path, .slice ada ta.lines.length ca] 48 (0, 0)) ∧ RowKit.Below w.heap.size w wi) (fun kv _ => come.length - (intOf kv).toNat)
                case atStart => exact ⟨0, by omega, rfl, hm02, hm12, hap2, hb2⟩
                case round =>
                  clear hm02 hm12 hap2 hb2 hap' hac' hap hac hm0 hm1
                  obtain ⟨k, hk, rfl, hm0, hm1, hpa, hbi⟩ := hrel
                  by_cases hkc : k < come.length
                  · obtain ⟨bb, ob, rfl, hbl, hbp, adb, cb, hbc, hsb⟩ := hsc.at hkc
                    have hbp' : wr.cell? ⟨bb, ob + k * 2, none⟩ = some (.string come[k].path) := by rw [hbi.cell (p := ⟨bb, _, none⟩) hbl]; exact hbp
                    have hbc' : wr.cell? ⟨bb, ob + k * 2 + 1, none⟩ = some (.slice adb come[k].lines.length cb) := by rw [hbi.cell (p := ⟨bb, _, none⟩) hbl]; exact hbc
                    have hkk : (k : Int) < come.length := by omega
                    have hkk0 : (0 : Int) ≤ k := by omega
                    have hzb1 := HZC.out _ (List.getElem_mem hkc)
                    have hzb2 := HLC.out _ (List.getElem_mem hkc)
                    have HRB := Lib.hid (HRE.out _ (List.getElem_mem hkc))
                    generalize come[k] = tb at *
                    have hpc1 : wr.cell? ⟨wo.heap.size, 1, none⟩ = some (.slice ada ta.lines.length ca) := by rw [blk_cell hpa]; rfl
                    have hpl : wo.heap.size < wr.heap.size := (Array.getElem?_eq_some_iff.1 hpa).1
                    have hpb2 : (wr.alloc (.cells #[.string tb.path, .slice adb tb.lines.length cb] 48)).heap[wr.heap.size]? = some (.cells #[.string tb.path, .slice adb tb.lines.length cb] 48 (0, 0)) := (Go.MapKept.heap_alloc wr _).1
                    have hpa2 : (wr.alloc (.cells #[.string tb.path, .slice adb tb.lines.length cb] 48)).heap[wo.heap.size]? = some (.cells #[.string ta.path, .slice ada ta.lines.length ca] 48 (0, 0)) := by
                      rw [(World.grownBy_alloc wr _ none).block wo.heap.size hpl (by simp)]; exact hpa
                    have hb2 := hbi.alloc hbi.size (.cells #[.string tb.path, .slice adb tb.lines.length cb] 48)
                    have hm02 := hm0.alloc (.cells #[.string tb.path, .slice adb tb.lines.length cb] 48)
                    have hm12 := hm1.alloc (.cells #[.string tb.path, .slice adb tb.lines.length cb] 48)
                    have hsz2 : (wr.alloc (.cells #[.string tb.path, .slice adb tb.lines.length cb] 48)).heap.size = wr.heap.size + 1 := by simp
                    have hsa2 := hsa.below hb2
                    have hsb2 := hsb.below hb2
                    have hmul : ta.lines.length * tb.lines.length ≤ 1048576 := Nat.le_trans (Nat.mul_le_mul hza2 hzb2) (by decide)
                    have hl0 := hm02.lt
                    have hl1 := hm12.lt
                    clear hpa hbi hm0 hm1
                    go_wp2_with fail
                    refine (alike_c ada adb ca cb ta.lines tb.lines _ hsa2 hsb2 (by omega) (by omega)).mono ?_
                    rw [if_pos hmul]
                    rintro e w7 ⟨rfl, hb7⟩
                    generalize wr.alloc (.cells #[.string tb.path, .slice adb tb.lines.length cb] 48) = W2 at *
                    have hpa3 := (hb7.block wo.heap.size (by omega)).trans hpa2
                    have hpb3 := (hb7.block wr.heap.size (by omega)).trans hpb2
                    have hm03 := hm02.below hb7 hl0
                    have hm13 := hm12.below hb7 hl1
                    have hca0 : w7.cell? ⟨wo.heap.size, 0, none⟩ = some (.string ta.path) := by rw [blk_cell hpa3]; rfl
                    have hcb0 : w7.cell? ⟨wr.heap.size, 0, none⟩ = some (.string tb.path) := by rw [blk_cell hpb3]; rfl
                    have hbw3 : RowKit.Below w.heap.size w w7 := hb2.trans (hb7.mono hb2.size)
                    have hs64 : alw ta.lines tb.lines < 2 ^ 64 := rt_lt _ _
                    have lkA := hm03.look ta.path (by omega)
                    have lkB := hm13.look tb.path (by omega)
                    have b0 := cntS_bnd out ta.path
                    have b1 := cntD_bnd out tb.path
                    clear hb2 hm02 hm12 hpa2 hpb2 hsa2 hsb2 hb7 hmul hpc1 hbp hbc hbp' hbc' hpb3
                    generalize alw ta.lines tb.lines = sc at *
                    by_cases hz : cntS out ta.path = 0 ∧ cntD out tb.path = 0
                    · have hlt := HRB.out hz.1 hz.2
                      have HBF := Lib.hid (before_c sc least w7 hs64 hl)
                      rw [decide_eq_true hlt] at HBF
                      rw [hz.1] at lkA
                      rw [hz.2] at lkB
                      clear hz hlt b0 b1 HRB
                      go_wp2_with fail
                      refine HBF.out.mono ?_
                      rintro e w8 ⟨rfl, rfl⟩
                      go_wp2_with fail
                      go_roundw
                      case rel => exact ⟨k + 1, by omega, by go_num, hm03, hm13, hpa3, hbw3⟩
                      case measure => simp [intOf]; omega
                    · have hw : IntKind.i64.wrap (cntS out ta.path + cntD out tb.path) = cntS out ta.path + cntD out tb.path := IntWalk.i64_in _ (by omega)
                      have hne : (cntS out ta.path + cntD out tb.path == 0) = false := by rw [beq_eq_false_iff_ne]; omega
                      generalize cntS out ta.path = c0 at *
                      generalize cntD out tb.path = c1 at *
                      clear hz b0 b1 HRB
                      go_wp2_with fail
                      go_roundw
                      case rel => exact ⟨k + 1, by omega, by go_num, hm03, hm13, hpa3, hbw3⟩
                      case measure => simp [intOf]; omega
                  · have hkk : ¬ (k : Int) < come.length := by omega
                    go_wp2_with fail
                    go_roundw
                    case rel => exact ⟨i + 1, by omega, by go_num, hm0, hm1, hbi⟩
                    case measure => simp [intOf]; omega
              · have hii : ¬ (i : Int) < gone.length := by omega
                go_wp2_with fail
                go_ret
                exact ⟨rfl, hb⟩
    · rw [decide_eq_false hs2]
      go_wp2_with fail
      go_ret
      exact ⟨rfl, b3⟩
  · rw [decide_eq_false hs1]
    go_wp2_with fail
    go_ret
    exact ⟨rfl, b2⟩
end Go.Proofs.YtlnifigbnpdemaaDoor
