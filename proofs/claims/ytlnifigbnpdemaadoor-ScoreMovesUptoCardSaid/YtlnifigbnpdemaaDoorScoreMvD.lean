/- Walk: the reference's moves, collected. -/
import Derived.Test.YtlnifigbnpdemaaDoorScoreMvC
import Derived.Test.YtlnifigbnpdemaaDoorKitS
namespace Go.Proofs.YtlnifigbnpdemaaDoor
open Go Go.RowKit Go.Sort Go.Maps

theorem rmvElem : Elem Tryd.prog 37 44 (.agg #[.string ByteArray.empty, .string ByteArray.empty, .float .f64 0]) 3 40 := ⟨by kernel_rfl, by kernel_rfl⟩

set_option maxRecDepth 100000 in
theorem ref_moves_long (ag ac : Option Addr) (cg cc ng nc least : Nat) (w : World) (h : 64 < ng ∨ 64 < nc) :
    Calls Tryd.prog 14 #[.slice ag ng cg, .slice ac nc cc, .float .f64 least] w fun e w' => e = .returned (.tuple #[.slice none 0 0, .int .i64 2]) ∧ w' = w := by
  by_cases h1 : 64 < ng
  · have h1' : (64 : Int) < ng := by omega
    go_enter Tryd.func14, Tryd.ntmps14
    go_wp2_with fail
    go_ret2
    exact ⟨rfl, rfl⟩
  · have h1' : ¬ (64 : Int) < ng := by omega
    have h2' : (64 : Int) < nc := by omega
    go_enter Tryd.func14, Tryd.ntmps14
    go_wp2_with fail
    go_ret2
    exact ⟨rfl, rfl⟩

theorem ref_alike_s (aa ab : Option Addr) (ca cb : Nat) (a b : List ByteArray) (w : World) (ha : Sl w aa (a.map Value.string)) (hb : Sl w ab (b.map Value.string)) (hla : a.length ≤ 1000) (hlb : b.length ≤ 1000) :
    Calls Tryd.prog 10 #[.slice aa a.length ca, .slice ab b.length cb] w fun e w' => e = .returned (.tuple #[.float .f64 (alw a b), .int .i64 0]) ∧ RowKit.Below w.heap.size w w' := by
  have h := ref_alike_c aa ab ca cb a b w ha hb (by omega) (by omega)
  rw [if_pos (Nat.le_trans (Nat.mul_le_mul hla hlb) (by decide))] at h
  exact h

theorem ahead_s (x y : Mv) (w : World) (hx : okM x) (hy : okM y) :
    Calls Tryd.prog 29 #[.agg #[.string x.src, .string x.dst, .float .f64 x.sc], .agg #[.string y.src, .string y.dst, .float .f64 y.sc]] w fun e w' => e = .returned (.bool (decide (ordI x y < 0))) ∧ RowKit.Below w.heap.size w w' := ahead_c x y w hx hy

/-- A slice's length. -/
def lenV : Value → Nat
  | .slice _ n _ => n
  | _ => 0

theorem mrow_snoc (l : List Mv) (m : Mv) : mrow (l ++ [m]) = mrow l ++ encM m := by simp [mrow]

theorem Rem.ok {R all out : List Mv} (h : Rem R all out) : ∀ x ∈ all, okM x := by obtain ⟨_, _, _, _, _, h⟩ := h; exact h

set_option maxRecDepth 100000 in
set_option maxHeartbeats 4000000 in
theorem ref_moves_c (ag ac : Option Addr) (cg cc : Nat) (gone come : List Tx) (least : Nat) (w : World) (hsg : TxS w ag gone) (hsc : TxS w ac come) (hlg : gone.length ≤ 64) (hlc : come.length ≤ 64)
    (hzg : ∀ t ∈ gone, t.path.size ≤ 10000000 ∧ t.lines.length ≤ 1000) (hzc : ∀ t ∈ come, t.path.size ≤ 10000000 ∧ t.lines.length ≤ 1000) (hl : least < 2 ^ 64) (l' : List Mv) (hp : l'.Perm (allM gone come least)) (hs : l'.Pairwise (fun x y => ¬ ordI y x < 0)) :
    Calls Tryd.prog 14 #[.slice ag gone.length cg, .slice ac come.length cc, .float .f64 least] w fun e w' => ∃ v, e = .returned (.tuple #[v, .int .i64 0]) ∧
      w'.ownsRow w.heap.size 44 3 v (grd [] l').length (mrow (grd [] l')) ∧ RowKit.Below w.heap.size w w' := by
  have hle : (allM gone come least).length ≤ 4096 := Nat.le_trans (allM_le _ _ _) (Nat.mul_le_mul hlg hlc)
  have HRem := Lib.hid (Rem.start hp hs (allM_ok (least := least) (fun t h => (hzg t h).1) (fun t h => (hzc t h).1)))
  have HZG := Lib.hid hzg
  have HZC := Lib.hid hzc
  have HT := Lib.hid (fun k (hk : k < gone.length) => allM_take least gone come k hk)
  have HALL : Hid (allM (gone.take gone.length) come least = allM gone come least) := by show _ = _; rw [List.take_length]
  have HLE := Lib.hid (fun k => (Nat.le_trans (allM_le least (gone.take k) come) (Nat.mul_le_mul (by simp; omega) hlc) : (allM (gone.take k) come least).length ≤ 64 * 64))
  generalize grd [] l' = R at *
  have h1 : ¬ (64 : Int) < gone.length := by omega
  have h2 : ¬ (64 : Int) < come.length := by omega
  clear hzg hzc hp hs
  go_enter Tryd.func14, Tryd.ntmps14
  go_wp2_with fail
  go_loopw [8, 9] (fun v iv wr => ∃ i : Nat, i ≤ gone.length ∧ iv = .int .i64 i ∧ wr.ownsRow w.heap.size 44 3 v (allM (gone.take i) come least).length (mrow (allM (gone.take i) come least)) ∧ RowKit.Below w.heap.size w wr) (fun _ iv _ => gone.length - (intOf iv).toNat)
  case atStart => exact ⟨0, by omega, rfl, by rw [List.take_zero]; exact World.ownsRow_nil _ _ _ _, RowKit.Below.refl _ _⟩
  case round =>
    obtain ⟨i, hi, rfl, hown, hb⟩ := hrel
    by_cases hig : i < gone.length
    · obtain ⟨ba, oa, rfl, hal, hap, ada, ca, hac, hsa⟩ := hsg.at hig
      have hii : (i : Int) < gone.length := by omega
      have hii0 : (0 : Int) ≤ i := by omega
      have HTi := Lib.hid (HT.out i hig)
      have hle1 := HLE.out i
      obtain ⟨hza1, hza2⟩ := HZG.out _ (List.getElem_mem hig)
      generalize allM (gone.take i) come least = A at *
      generalize gone[i] = ta at *
      have hA0 : Hid (A ++ mvRow least ta (come.take 0) = A) := by show _ = _; simp [mvRow]
      have hMR := Lib.hid (fun k (hk : k < come.length) => mvRow_take least ta come k hk)
      have hML := Lib.hid (fun k => (Nat.le_trans (mvRow_le least ta (come.take k)) (by simp; omega) : (mvRow least ta (come.take k)).length ≤ 64))
      have hMA : Hid (mvRow least ta (come.take come.length) = mvRow least ta come) := by show _ = _; rw [List.take_length]
      go_wp2_with fail
      go_loopw [8, 10] (fun v kv wi => ∃ k : Nat, k ≤ come.length ∧ kv = .int .i64 k ∧ wi.ownsRow w.heap.size 44 3 v (A ++ mvRow least ta (come.take k)).length (mrow (A ++ mvRow least ta (come.take k))) ∧ RowKit.Below w.heap.size w wi) (fun _ kv _ => come.length - (intOf kv).toNat)
      case atStart => exact ⟨0, by omega, rfl, by rw [hA0.out]; exact hown, hb⟩
      case round =>
        clear hown hb
        obtain ⟨k, hk, rfl, hown, hbi⟩ := hrel
        by_cases hkc : k < come.length
        · obtain ⟨bb, ob, rfl, hbl, hbp, adb, cb, hbc, hsb⟩ := hsc.at hkc
          have hac' : wr.cell? ⟨ba, oa + i * 2 + 1, none⟩ = some (.slice ada ta.lines.length ca) := by rw [hbi.cell (p := ⟨ba, _, none⟩) hal]; exact hac
          have hbc' : wr.cell? ⟨bb, ob + k * 2 + 1, none⟩ = some (.slice adb come[k].lines.length cb) := by rw [hbi.cell (p := ⟨bb, _, none⟩) hbl]; exact hbc
          have hkk : (k : Int) < come.length := by omega
          have hkk0 : (0 : Int) ≤ k := by omega
          have hMRk := Lib.hid (hMR.out k hkc)
          have hMLk := hML.out k
          obtain ⟨hzb1, hzb2⟩ := HZC.out _ (List.getElem_mem hkc)
          generalize mvRow least ta (come.take k) = M at *
          generalize come[k] = tb at *
          have HAL := Lib.hid (ref_alike_s ada adb ca cb ta.lines tb.lines wr.drew (Sl.drew (hsa.below hbi)) (Sl.drew (hsb.below hbi)) hza2 hzb2)
          have HV : Hid (mv1 least ta tb = if fkey (alw ta.lines tb.lines) < fkey least then [] else [⟨ta.path, tb.path, alw ta.lines tb.lines⟩]) := rfl
          have hs64 : alw ta.lines tb.lines < 2 ^ 64 := rt_lt _ _
          have hlen : (A ++ M).length ≤ 5000 := by rw [List.length_append]; omega
          generalize alw ta.lines tb.lines = sc at *
          go_wp2_with fail
          go_region_held3 (fun w' => w'.cell? ⟨ba, oa + i * 2 + 1, none⟩ = some (.slice ada ta.lines.length ca) ∧ w'.cell? ⟨bb, ob + k * 2 + 1, none⟩ = some (.slice adb tb.lines.length cb)) (first | exact ⟨cell_later hb' (by assumption), cell_later hb' (by assumption)⟩ | go_keep)
            (first | (go_at_call 10; refine HAL.out.mono ?_; rintro e w' ⟨rfl, hb'⟩))
          have hbw3 : RowKit.Below w.heap.size w w' := hbi.drew.trans (hb'.mono hbi.drew.size)
          have hown3 := own_below (own_dN hown 1) hb'
          clear hb' hown hbi hac' hbc' HAL
          generalize w' = w3 at *
          by_cases hlt : fkey sc < fkey least
          · have HN : Hid (A ++ M = A ++ mvRow least ta (come.take (k + 1))) := by show _ = _; rw [hMRk.out, HV.out, if_pos hlt, List.append_nil]
            rw [HN.out] at hown3
            have HCM := Lib.hid (before_c sc least w3 hs64 hl)
            rw [decide_eq_true hlt] at HCM
            clear hlt
            go_wp2_with fail
            refine HCM.out.mono ?_
            rintro e w4 ⟨rfl, rfl⟩
            go_wp2_with fail
            go_roundw
            case rel => exact ⟨k + 1, by omega, by go_num, hown3, hbw3⟩
            case measure => simp [intOf]; omega
          · have HN : Hid ((A ++ M) ++ [⟨ta.path, tb.path, sc⟩] = A ++ mvRow least ta (come.take (k + 1))) := by show _ = _; rw [hMRk.out, HV.out, if_neg hlt, List.append_assoc]
            have HCM := Lib.hid (before_c sc least w3 hs64 hl)
            rw [decide_eq_false hlt] at HCM
            have hap' : w3.cell? ⟨ba, oa + i * 2, none⟩ = some (.string ta.path) := by rw [hbw3.cell (p := ⟨ba, _, none⟩) hal]; exact hap
            have hbp' : w3.cell? ⟨bb, ob + k * 2, none⟩ = some (.string tb.path) := by rw [hbw3.cell (p := ⟨bb, _, none⟩) hbl]; exact hbp
            clear hlt
            go_wp2_with fail
            refine HCM.out.mono ?_
            rintro e w4 ⟨rfl, rfl⟩
            go_wp2_with fail
            go_region_held3 (fun w' => w'.cell? ⟨ba, oa + i * 2, none⟩ = some (.string ta.path) ∧ w'.cell? ⟨bb, ob + k * 2, none⟩ = some (.string tb.path)) (first | exact ⟨(hb5.cell (p := ⟨ba, _, none⟩) hal).trans hap', (hb5.cell (p := ⟨bb, _, none⟩) hbl).trans hbp'⟩ | exact ⟨hap', hbp'⟩ | go_keep)
              (first | (refine step_appN (news := encM ⟨ta.path, tb.path, sc⟩) rfl _ _ _ rfl rmvElem rfl (by decide) rfl (own_dN hown3 1) rfl rfl (by simp [encM, Value.oneCell']) (by omega) (by simp [maxLen]; omega) (hbw3.drew.size) ?_; intro v' w5 hown5 hg5 hb5))
            have hbw4 := below_dN hbw3 1
            have hown6 : w5.ownsRow w.heap.size 44 3 v' (A ++ mvRow least ta (come.take (k + 1))).length (mrow (A ++ mvRow least ta (come.take (k + 1)))) := by
              rw [← HN.out, List.length_append, mrow, List.flatMap_append]; simpa [mrow, encM] using hown5
            go_wp2_with fail
            go_roundw
            case rel => exact ⟨k + 1, by omega, by go_num, hown6, hbw4.trans hb5⟩
            case measure => simp [intOf]; omega
        · have HN : Hid (A ++ mvRow least ta (come.take k) = allM (gone.take (i + 1)) come least) := by
            show _ = _; rw [HTi.out, show k = come.length by omega, hMA.out]
          have hkk : ¬ (k : Int) < come.length := by omega
          rw [HN.out] at hown
          go_wp2_with fail
          go_roundw
          case rel => exact ⟨i + 1, by omega, by go_num, hown, hbi⟩
          case measure => simp [intOf]; omega
    · have hii : ¬ (i : Int) < gone.length := by omega
      have HA : Hid (allM (gone.take i) come least = allM gone come least) := by show _ = _; rw [← HALL.out, show i = gone.length by omega]
      rw [HA.out] at hown
      clear HA HALL HLE HT HZG HZC hsg hsc
      generalize allM gone come least = al at *
      go_wp2_with fail
      obtain ⟨hb0, -⟩ : RowKit.Below w.heap.size w wr ∧ True := ⟨hb, trivial⟩
      go_loopw [8, 13] (fun av ov wr => ∃ all out : List Mv, wr.ownsRow w.heap.size 44 3 av all.length (mrow all) ∧ wr.ownsRow w.heap.size 44 3 ov out.length (mrow out) ∧ (av.ownBlock = none ∨ av.ownBlock ≠ ov.ownBlock) ∧ Hid (Rem R all out) ∧ all.length + out.length ≤ 4096 ∧ RowKit.Below w.heap.size w wr) (fun av _ _ => lenV av)
      case atStart => exact ⟨al, [], hown, World.ownsRow_nil _ _ _ _, by cases hown.2 with | inl h => exact .inl (by rw [h.1]; rfl) | inr h => (obtain ⟨g, cap, cur, h, _⟩ := h; exact .inr (by rw [h]; simp [Value.ownBlock])), HRem, by simpa using hle, hb⟩
      case round =>
        clear hown hb hb0 HRem hle
        obtain ⟨all, out, hown, hout, hne, HR, hlen, hb⟩ := hrel
        obtain ⟨a8, c8, rfl, hsl⟩ := own_slN hown
        by_cases h0 : 0 < all.length
        · have h0i : (0 : Int) < all.length := by omega
          have HB1 := Lib.hid (Best.one h0)
          have HOK := Lib.hid (fun i (hi : i < all.length) => HR.out.ok _ (List.getElem_mem hi))
          obtain ⟨g8, o8, rfl, hgl8, hc8⟩ := hsl.at (k := 0) (by rw [mrow_len]; omega)
          have HG := Lib.hid (mrow_get (w := wr) (g := g8) (o := o8) (l := all) (fun i u hu => by
            obtain ⟨hi', hu'⟩ := List.getElem?_eq_some_iff.1 hu
            rw [hc8 i hi', hu']))
          obtain ⟨wo, rfl⟩ : ∃ wo : World, wo = wr := ⟨_, rfl⟩
          clear hc8
          go_wp2_with fail
          go_loopw [14, 15] (fun bv iv wi => ∃ b j : Nat, 1 ≤ j ∧ j ≤ all.length ∧ bv = .int .i64 b ∧ iv = .int .i64 j ∧ Hid (Best all j b) ∧ RowKit.Below wo.heap.size wo wi) (fun _ iv _ => all.length - (intOf iv).toNat)
          case atStart => exact ⟨0, 1, by omega, by omega, rfl, rfl, HB1, RowKit.Below.refl _ _⟩
          case round =>
            clear HB1
            obtain ⟨b, j, hj1, hj, rfl, rfl, HB, hbi⟩ := hrel
            have hbl : b < all.length := HB.out.2.1
            obtain ⟨x0, x1, x2⟩ := HG.out b hbl
            have y0 : wr.cell? ⟨g8, o8 + b * 3, none⟩ = some (.string all[b].src) := (hbi.cell (p := ⟨g8, _, none⟩) hgl8).trans x0
            have y1 : wr.cell? ⟨g8, o8 + b * 3 + 1, none⟩ = some (.string all[b].dst) := (hbi.cell (p := ⟨g8, _, none⟩) hgl8).trans x1
            have y2 : wr.cell? ⟨g8, o8 + b * 3 + 2, none⟩ = some (.float .f64 all[b].sc) := (hbi.cell (p := ⟨g8, _, none⟩) hgl8).trans x2
            have hb0 : (0 : Int) ≤ b := by omega
            have hb1 : (b : Int) < all.length := by omega
            clear x0 x1 x2
            by_cases hjl : j < all.length
            · obtain ⟨x0, x1, x2⟩ := HG.out j hjl
              have z0 : wr.cell? ⟨g8, o8 + j * 3, none⟩ = some (.string all[j].src) := (hbi.cell (p := ⟨g8, _, none⟩) hgl8).trans x0
              have z1 : wr.cell? ⟨g8, o8 + j * 3 + 1, none⟩ = some (.string all[j].dst) := (hbi.cell (p := ⟨g8, _, none⟩) hgl8).trans x1
              have z2 : wr.cell? ⟨g8, o8 + j * 3 + 2, none⟩ = some (.float .f64 all[j].sc) := (hbi.cell (p := ⟨g8, _, none⟩) hgl8).trans x2
              have hj0 : (0 : Int) ≤ j := by omega
              have hji : (j : Int) < all.length := by omega
              have HA := Lib.hid (ahead_s all[j] all[b] wr.drew (HOK.out j hjl) (HOK.out b hbl))
              have HUP := Lib.hid (fun (h : ordI (all[j]'hjl) (all[b]'hbl) < 0) => HB.out.up hjl h)
              have HKE := Lib.hid (fun (h : ¬ ordI (all[j]'hjl) (all[b]'hbl) < 0) => HB.out.keep hjl h)
              clear x0 x1 x2 HB
              generalize all[j] = xj at *
              generalize hxb : all[b] = xb at *
              clear hxb
              by_cases hlt : ordI xj xb < 0
              · rw [decide_eq_true hlt] at HA
                have HN := Lib.hid (HUP.out hlt)
                clear hlt HUP HKE
                go_wp2_with fail
                go_region_held3 (fun w' => (w'.cell? ⟨g8, o8 + j * 3, none⟩ = some (.string xj.src) ∧ w'.cell? ⟨g8, o8 + j * 3 + 1, none⟩ = some (.string xj.dst) ∧ w'.cell? ⟨g8, o8 + j * 3 + 2, none⟩ = some (.float .f64 xj.sc)) ∧ w'.cell? ⟨g8, o8 + b * 3, none⟩ = some (.string xb.src) ∧ w'.cell? ⟨g8, o8 + b * 3 + 1, none⟩ = some (.string xb.dst) ∧ w'.cell? ⟨g8, o8 + b * 3 + 2, none⟩ = some (.float .f64 xb.sc)) (first | exact ⟨⟨cell_later hb' z0, cell_later hb' z1, cell_later hb' z2⟩, cell_later hb' y0, cell_later hb' y1, cell_later hb' y2⟩ | exact ⟨⟨z0, z1, z2⟩, y0, y1, y2⟩ | go_keep)
                  (first | (go_at_call 29; refine HA.out.mono ?_; rintro e w' ⟨rfl, hb'⟩))
                go_wp2_with fail
                go_roundw
                case rel => exact ⟨j, j + 1, by omega, by omega, rfl, by go_num, HN, hbi.drew.trans (hb'.mono hbi.drew.size)⟩
                case measure => simp [intOf]; omega
              · rw [decide_eq_false hlt] at HA
                have HN := Lib.hid (HKE.out hlt)
                clear hlt HUP HKE
                go_wp2_with fail
                go_region_held3 (fun w' => (w'.cell? ⟨g8, o8 + j * 3, none⟩ = some (.string xj.src) ∧ w'.cell? ⟨g8, o8 + j * 3 + 1, none⟩ = some (.string xj.dst) ∧ w'.cell? ⟨g8, o8 + j * 3 + 2, none⟩ = some (.float .f64 xj.sc)) ∧ w'.cell? ⟨g8, o8 + b * 3, none⟩ = some (.string xb.src) ∧ w'.cell? ⟨g8, o8 + b * 3 + 1, none⟩ = some (.string xb.dst) ∧ w'.cell? ⟨g8, o8 + b * 3 + 2, none⟩ = some (.float .f64 xb.sc)) (first | exact ⟨⟨cell_later hb' z0, cell_later hb' z1, cell_later hb' z2⟩, cell_later hb' y0, cell_later hb' y1, cell_later hb' y2⟩ | exact ⟨⟨z0, z1, z2⟩, y0, y1, y2⟩ | go_keep)
                  (first | (go_at_call 29; refine HA.out.mono ?_; rintro e w' ⟨rfl, hb'⟩))
                go_wp2_with fail
                go_roundw
                case rel => exact ⟨b, j + 1, by omega, by omega, rfl, by go_num, HN, hbi.drew.trans (hb'.mono hbi.drew.size)⟩
                case measure => simp [intOf]; omega
            · have hji : ¬ (j : Int) < all.length := by omega
              have hall := hbi
              have hmin := HB.out
              rw [show j = all.length by omega] at hmin
              have HRS := Lib.hid (HR.out.step (List.getElem_mem hbl) hmin.done)
              have hless := off_less (List.getElem_mem hbl)
              have HTK := Lib.hid (fun k (hk : k < all.length) => off_take all[b] all k hk)
              have hout2 := own_below hout hbi
              have hown2 := own_below hown hbi
              have hb2 := hb.trans (hbi.mono hb.size)
              clear hmin HB HOK hout hown hj hj1
              obtain ⟨m, hm⟩ : ∃ m, m = all[b] := ⟨_, rfl⟩
              rw [← hm] at y0 y1 y2 HRS hless HTK
              clear hm
              have hpm : (wr.alloc (.cells #[.string m.src, .string m.dst, .float .f64 m.sc] 44)).heap[wr.heap.size]? = some (.cells #[.string m.src, .string m.dst, .float .f64 m.sc] 44 (0, 0)) := (Go.MapKept.heap_alloc wr _).1
              have hout3 := hout2.alloc (.cells #[.string m.src, .string m.dst, .float .f64 m.sc] 44)
              have hown3 := hown2.alloc (.cells #[.string m.src, .string m.dst, .float .f64 m.sc] 44)
              have hb3 := hb2.alloc hb2.size (.cells #[.string m.src, .string m.dst, .float .f64 m.sc] 44)
              have hsf := fun (W : World) (p : Addr) (m : Mode) (b : Nat) => run_storef Tryd.prog W p m .f64 b
              have hnm : some wr.heap.size ≠ u13.ownBlock := fun e => by have := (hout2.lt _ e.symm).2; omega
              clear hout2 hown2
              go_wp2_with (at_builtin; (refine wp_appN (news := encM m) rfl _ _ _ rfl rmvElem rfl (by decide) rfl hout3 ?hx rfl ?h1 ?h2 ?h3 hb3.size ?hh); (case hx => first | rfl | (show Value.slice (some ⟨wr.heap.size + 1, 0, none⟩) 1 1 = Value.slice (some ⟨(wr.alloc _).heap.size, 0, none⟩) 1 1; simp)); (case h1 => simp [encM, Value.oneCell']); (case h2 => omega); (case h3 => simp [maxLen]; omega))
              intro v' w5 hown5 hg5 hb5
              have hpm5 := (hg5.block _ (Array.getElem?_eq_some_iff.1 hpm).1 hnm).trans hpm
              have hall5 := hown3.kept hg5 hne
              have hout5 : w5.ownsRow w.heap.size 44 3 v' (out ++ [m]).length (mrow (out ++ [m])) := by
                rw [List.length_append, mrow_snoc]; exact hown5
              have hb05 := hb3.trans hb5
              obtain ⟨p, hp⟩ : ∃ p, p = wr.heap.size := ⟨_, rfl⟩
              rw [← hp] at hpm5
              have hp5 : p < w5.heap.size := (Array.getElem?_eq_some_iff.1 hpm5).1
              obtain ⟨a9, c9, e9, hsl5⟩ := own_slN hall5
              injection e9 with e9 _ _
              have HG5 := Lib.hid (fun j (hj : j < all.length) => mrow_get (w := w5) (g := g8) (o := o8) (l := all) (fun i u hu => by
                rcases hsl5 with h | ⟨b', o', h1, h2, h3⟩
                · rw [h] at hu; cases hu
                · rw [← e9] at h1; injection h1 with h1; injection h1 with h1 h1'; subst h1 h1'; exact h3 i u hu) j hj)
              have hg8 : g8 < w5.heap.size := (hall5.lt g8 rfl).2
              have HV5 := Lib.hid (fun k hk => (hout5.lt k hk).2)
              clear hpm hall hown3 hout3 hb3 hg5 hb5 hown5 hall5 hsl5 e9 hne hnm HG hsl y0 y1 y2 hbi hb2 hb HR h0i hb0 hb1 hji
              have HF0 : Hid ((all.take 0).filter (offB m) = []) := by show _ = _; rw [List.take_zero]; rfl
              rw [← hp]
              clear hp
              go_wp2_with fail
              go_loopw [17, 18] (fun lv iv wi => ∃ (i : Nat) (left : List Mv), i ≤ all.length ∧ iv = .int .i64 i ∧ Hid ((all.take i).filter (offB m) = left) ∧ left.length ≤ i ∧ wi.ownsRow w5.heap.size 44 3 lv left.length (mrow left) ∧ RowKit.Below w5.heap.size w5 wi) (fun _ iv _ => all.length - (intOf iv).toNat)
              case atStart => exact ⟨0, [], by omega, rfl, HF0, Nat.le_refl _, World.ownsRow_nil _ _ _ _, RowKit.Below.refl _ _⟩
              case round =>
                obtain ⟨i, left, hi, rfl, HF, hll, hown, hbi⟩ := hrel
                by_cases hil : i < all.length
                · obtain ⟨x0, x1, x2⟩ := HG5.out i hil
                  have z0 : wr.cell? ⟨g8, o8 + i * 3, none⟩ = some (.string all[i].src) := (hbi.cell (p := ⟨g8, _, none⟩) hg8).trans x0
                  have z1 : wr.cell? ⟨g8, o8 + i * 3 + 1, none⟩ = some (.string all[i].dst) := (hbi.cell (p := ⟨g8, _, none⟩) hg8).trans x1
                  have z2 : wr.cell? ⟨g8, o8 + i * 3 + 2, none⟩ = some (.float .f64 all[i].sc) := (hbi.cell (p := ⟨g8, _, none⟩) hg8).trans x2
                  have hpmr := (hbi.block p hp5).trans hpm5
                  have m0 : wr.cell? ⟨p, 0, none⟩ = some (.string m.src) := by rw [blk_cell hpmr]; rfl
                  have m1 : wr.cell? ⟨p, 1, none⟩ = some (.string m.dst) := by rw [blk_cell hpmr]; rfl
                  have hi0 : (0 : Int) ≤ i := by omega
                  have hi1 : (i : Int) < all.length := by omega
                  have HTi := Lib.hid (HTK.out i hil)
                  have HO : Hid (offB m all[i] = (!decide (all[i].src = m.src) && !decide (all[i].dst = m.dst))) := rfl
                  clear x0 x1 x2 hpmr
                  generalize all[i] = x at *
                  by_cases hsr : x.src = m.src
                  · have d1 : (x.src.toList == m.src.toList) = true := by rw [hsr]; simp
                    have HN : Hid ((all.take (i + 1)).filter (offB m) = left) := by
                      show _ = _; rw [HTi.out, HO.out, hsr]; simp [HF.out]
                    clear hsr HO HTi
                    go_wp2_with fail
                    go_quiet (fail)
                    go_wp2_with fail
                    go_roundw
                    case rel => exact ⟨i + 1, left, by omega, by go_num, HN, by omega, own_dN hown _, below_dN hbi _⟩
                    case measure => simp [intOf]; omega
                  · have d1 : (x.src.toList == m.src.toList) = false := by rw [beq_eq_false_iff_ne, Lib.toList_data, Lib.toList_data]; exact fun h => hsr (ScoreS.ba_ext h)
                    by_cases hds : x.dst = m.dst
                    · have d2 : (x.dst.toList == m.dst.toList) = true := by rw [hds]; simp
                      have HN : Hid ((all.take (i + 1)).filter (offB m) = left) := by
                        show _ = _; rw [HTi.out, HO.out, hds]; simp [HF.out]
                      clear hsr hds HO HTi
                      go_wp2_with fail
                      go_quiet (fail)
                      go_wp2_with fail
                      go_roundw
                      case rel => exact ⟨i + 1, left, by omega, by go_num, HN, by omega, own_dN hown _, below_dN hbi _⟩
                      case measure => simp [intOf]; omega
                    · have d2 : (x.dst.toList == m.dst.toList) = false := by rw [beq_eq_false_iff_ne, Lib.toList_data, Lib.toList_data]; exact fun h => hds (ScoreS.ba_ext h)
                      have HN : Hid ((all.take (i + 1)).filter (offB m) = left ++ [x]) := by
                        show _ = _; rw [HTi.out, HO.out, HF.out, decide_eq_false hsr, decide_eq_false hds]; simp
                      clear hsr hds HO HTi
                      go_wp2_with fail
                      go_quiet (fail)
                      have hown9 := own_dN hown nq
                      have hbi9 := below_dN hbi nq
                      go_wp2_with (at_builtin; refine wp_appN (news := encM x) rfl _ _ _ rfl rmvElem rfl (by decide) rfl hown9 rfl rfl (by simp [encM, Value.oneCell']) (by omega) (by simp [maxLen]; omega) hbi9.size ?_)
                      intro v8 w8 hown8 _ hb8
                      have hown88 : w8.ownsRow w5.heap.size 44 3 v8 (left ++ [x]).length (mrow (left ++ [x])) := by
                        rw [List.length_append, mrow_snoc]; exact hown8
                      go_wp2_with fail
                      go_roundw
                      case rel => exact ⟨i + 1, left ++ [x], by omega, by go_num, HN, by simp; omega, hown88, hbi9.trans hb8⟩
                      case measure => simp [intOf]; omega
                · have hi1 : ¬ (i : Int) < all.length := by omega
                  have HL : Hid (all.filter (offB m) = left) := by show _ = _; rw [← HF.out, List.take_of_length_le (by omega)]
                  have hll2 : left.length < all.length := by rw [← HL.out]; exact hless
                  have HRN : Hid (Rem R left (out ++ [m])) := by show Rem _ _ _; rw [← HL.out]; exact HRS.out
                  have hnn : u17.ownBlock = none ∨ u17.ownBlock ≠ v'.ownBlock := by
                    cases hq : u17.ownBlock with
                    | none => exact .inl rfl
                    | some k =>
                      refine .inr fun e => ?_
                      have h1 := (hown.lt k hq).1
                      have h2 := HV5.out k e.symm
                      omega
                  have hout6 := own_below hout5 hbi
                  have hown6 := own_base hown hb05.size
                  have hb06 := hb05.trans (hbi.mono hb05.size)
                  obtain ⟨al, cl, rfl, -⟩ := own_slN hown
                  have hls : left.length + (out ++ [m]).length ≤ 4096 := by simp; omega
                  clear HL HRS HF hless HTK HG5 hown hout5 hbi hb05 HV5 hpm5
                  go_wp2_with fail
                  go_roundw
                  case rel => exact ⟨left, out ++ [m], hown6, hout6, hnn, HRN, hls, hb06⟩
                  case measure => simp [lenV]; omega
        · have h0i : ¬ (0 : Int) < all.length := by omega
          have hall : all = [] := List.eq_nil_of_length_eq_zero (by omega)
          subst hall
          have HE := Lib.hid HR.out.done
          rw [HE.out] at hout
          clear HR HE hlen
          go_wp2_with fail
          go_ret2
          exact ⟨_, rfl, hout, hb⟩
end Go.Proofs.YtlnifigbnpdemaaDoor
