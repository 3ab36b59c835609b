/- The walk of the reference's Sorted. -/
import Derived.Test.YtmcdfikkokbffaaDoorPathRefB
import Derived.Test.YtmcdfikkokbffaaDoorPathSortSpec
import Derived.Deep.RegionHeld3
import Derived.Laws.AppendOwnNone
namespace Go.Proofs.YtmcdfikkokbffaaDoor
open Go Go.RowKit

/-- 'append(s, x...)', s the call's own, x any slice of one-cell elements. -/
theorem wp_appS {P : Program} {ops : Array Oper} {rest : List Oper} {o : Oper} {a : Act} {Q : Exit → Act → World → Prop} {w : World} (hgd : o.guard = none) (s x : Operand) (t : TypeId)
    (ho : o.op = .call { callee := .builtin .append, args := #[s, x], argTypes := #[t, t] })
    {e : TypeId} {z : Value} {bytes : Nat} (E : Elem P t e z 1 bytes) (hz : z.oneCell' = true) {base : Nat} {v : Value} {n : Nat} {xs : List Value} {ad : Option Addr} {m c : Nat} {news : List Value}
    (hs : a.eval s = v) (hown : w.ownsRow base e 1 v n xs) (hx : a.eval x = .slice ad m c) (hm : news.length = m) (hsl : Sl w ad news) (h1 : ∀ u ∈ news, u.oneCell' = true)
    (hn : (n + m) * bytes ≤ 140737488355328) (h63 : n + m ≤ maxLen) (hbase : base ≤ w.heap.size) (hc0 : ad = none → c = 0)
    (h : ∀ v' w', w'.ownsRow base e 1 v' (n + m) (xs ++ news) → w.grownBy w' v.ownBlock → Below base w w' → wpList P ops Q rest (a.put o.dst v') w') :
    wpList P ops Q (o :: rest) a w := by
  obtain ⟨i, hi, g1, g2, g3⟩ := info_parts E.info
  have hzs : z.cells.size = 1 := by cases z <;> first | rfl | cases hz
  have hfin : ∀ v' w', w'.ownsRow base e 1 v' (n + m) (xs ++ news) → w.grownBy w' v.ownBlock → wpList P ops Q rest (a.put o.dst v') w' := fun v' w' h4 h5 => h v' w' h4 h5 (below_of_grown hown h5 hbase)
  cases ad with
  | some a0 =>
    refine wpList_append_own _ hgd s x t ho base e i z 1 bytes E.under hi g1 g2 g3 hzs (by decide) v n xs hs hown a0 m c news hx (by omega) ?_ h1 h63 hn hbase fun v' w' h4 h5 _ => hfin v' w' h4 h5
    rcases hsl with hh | ⟨b, o', ha, hlt, hc⟩
    · subst hh; intro j u hj; simp at hj
    · cases ha
      intro j u hj
      have := hc j u hj
      rwa [Addr.add_lit]
  | none =>
    have hnil : news = [] := by
      rcases hsl with hh | ⟨b, o', ha, hlt, hc⟩
      · exact hh
      · cases ha
    subst hnil
    simp at hm
    subst hm
    obtain rfl := hc0 rfl
    refine wpList_append_own_none hgd s x t ho base e i 1 E.under hi v n xs hs hown hx ?_
    have := hfin v w (by simpa using hown) (World.grownBy.refl _ _)
    exact this

theorem str_one (l : List ByteArray) : ∀ u ∈ l.map Value.string, u.oneCell' = true := by
  intro u hu; obtain ⟨s, _, rfl⟩ := List.mem_map.1 hu; rfl

/-- A slice's end, from i on. -/
theorem Sl.tail {w : World} {b o : Nat} {xs : List Value} (h : Sl w (some ⟨b, o, none⟩) xs) (i : Nat) : Sl w (some ⟨b, o + i, none⟩) (xs.drop i) := by
  have := h.part i xs.length
  rwa [List.take_length] at this

set_option maxRecDepth 100000 in
set_option maxHeartbeats 2000000 in
theorem ref_sorted (a : Option Addr) (c : Nat) (l : List ByteArray) (w : World) (hs : Sl w a (l.map Value.string)) (hl : l.length ≤ 10000000) (hz : ∀ s ∈ l, s.size ≤ 10000000) :
    Calls Tryd.prog 13 #[.slice a l.length c] w fun e w' => ∃ v, e = .returned v ∧ w'.ownsRow w.heap.size 9 1 v l.length ((PathS.sortTo l l.length).map Value.string) ∧ Below w.heap.size w w' := by
  have HZ := Lib.hid hz
  have HM := Lib.hid (fun y k (hk : k ≤ l.length) => PathS.sortTo_mem l y k hk)
  clear hz
  go_enter Tryd.func13, Tryd.ntmps13
  go_wp2_with fail
  go_loopw [3, 4] (fun out i wr => ∃ k : Nat, k ≤ l.length ∧ i = .int .i64 k ∧ wr.ownsRow w.heap.size 9 1 out k ((PathS.sortTo l k).map Value.string) ∧ Below w.heap.size w wr ∧ out ≠ .slice none 0 0) (fun _ i _ => l.length - (intOf i).toNat)
  case atStart => exact ⟨0, by omega, rfl, World.ownsRow_made w #[] 0 (Nat.le_refl _) (by simp [maxLen]) rfl, (Below.refl _ _).alloc (Nat.le_refl _) _, by simp⟩
  case round =>
    obtain ⟨k, hk, rfl, hown, hb, hnn⟩ := hrel
    have hlk := PathS.sortTo_length l k
    have HK : Hid (∀ y ∈ PathS.sortTo l k, y.size ≤ 10000000) := by
      intro y hy; exact HZ.out y (List.mem_of_mem_take ((HM.out y k hk).1 hy))
    by_cases hlt : k < l.length
    · obtain ⟨b, o, rfl, hbl, hc⟩ := hs.at (k := k) (by simpa using hlt)
      have hcell : wr.cell? ⟨b, o + k, none⟩ = some (.string l[k]) := by rw [hb.cell (p := ⟨b, o + k, none⟩) hbl, hc k (by simpa using hlt), List.getElem_map]
      clear hc
      have hsx := HZ.out _ (List.getElem_mem hlt)
      have HS : Hid (PathS.sortTo l (k + 1) = PathS.ins l[k] (PathS.sortTo l k)) := by
        show _ = _; rw [PathS.sortTo, List.getD_eq_getElem?_getD, List.getElem?_eq_getElem hlt]; rfl
      generalize PathS.sortTo l k = out at *
      have hil := PathS.insPos_le l[k] out out.length
      generalize l[k] = x at *
      obtain ⟨g, cv, rfl, hcv, hgb, hgl, hso⟩ := own_some hown hnn
      clear hnn
      have HL := Lib.hid hlk
      have hil2 : PathS.insPos x out out.length ≤ k := by omega
      clear hlk hil
      have HQ : Hid (PathS.insPos x out out.length = PathS.insPos x out out.length) := by show _ = _; rfl
      obtain ⟨wo, rfl⟩ : ∃ wo : World, wo = wr := ⟨_, rfl⟩
      go_wp2_with fail
      go_loopw [5] (fun t wi => ∃ j : Nat, j ≤ k ∧ t = .int .i64 j ∧ Below wo.heap.size wo wi ∧ Hid (PathS.insPos x out out.length = PathS.insPos x out j)) (fun t _ => (intOf t).toNat)
      case atStart => exact ⟨k, by omega, rfl, Below.refl _ _, by show _ = _; rw [HL.out]⟩
      case round =>
        obtain ⟨j, hj, rfl, hbi, HP⟩ := hrel
        clear HQ
        have hstep : (j = 0 ∨ ∃ j', j = j' + 1 ∧ ¬ PathS.cmp x (out.getD j' ByteArray.empty) < 0) ∨ ∃ j', j = j' + 1 ∧ PathS.cmp x (out.getD j' ByteArray.empty) < 0 := by
          rcases j with _ | j'
          · exact .inl (.inl rfl)
          · by_cases h : PathS.cmp x (out.getD j' ByteArray.empty) < 0
            · exact .inr ⟨j', rfl, h⟩
            · exact .inl (.inr ⟨j', rfl, h⟩)
        have hbw := hb.trans (hbi.mono hb.size)
        rcases hstep with hend | ⟨j', rfl, hlt0⟩
        · have HJ : Hid (PathS.insPos x out out.length = j) := by
            show _ = _
            rw [HP.out]
            rcases hend with rfl | ⟨j', rfl, h⟩
            · rfl
            · rw [PathS.insPos, if_neg h]
          rcases hend with hj0 | ⟨j', hj0, hge⟩
          · clear HP
            have h00 : decide (0 < j) = false := by simp; omega
            clear hj0
            go_wp2_with fail
            go_quiet (fail)
            rename_i nq
            have hbX0 := below_dN hbi nq
            generalize wr.drewN nq = WX at hbX0 ⊢
            have hown := own_below hown hbX0
            have hsoX := hso.below hbX0
            have hgx : g < WX.heap.size := Nat.lt_of_lt_of_le hgl (hbX0).size
            have hbX := hb.trans ((hbX0).mono hb.size)
            have hcellX : WX.cell? ⟨b, o + k, none⟩ = some (.string x) := by rw [(hbX0).cell (p := ⟨b, o + k, none⟩) (by have := hb.size; show b < _; omega)]; exact hcell
            have hjk : j ≤ k := by omega
            have h1 : Sl (WX.alloc (.cells #[] 9)) (some ⟨g, 0, none⟩) ((out.take j).map Value.string) := by
              have := (hsoX.below ((Below.refl _ _).alloc (Nat.le_refl _) (.cells #[] 9))).part 0 j
              simpa [List.map_take] using this
            go_wp2_with (at_builtin; refine wp_appS (base := WX.heap.size) rfl _ _ _ rfl ES rfl rfl (World.ownsRow_made _ #[] 0 (Nat.le_refl _) (by simp [maxLen]) rfl) rfl (by simp [HL.out]; omega) h1 (str_one _) (by omega) (by simp [maxLen]; omega) (by simp) (fun h => by cases h) ?_)
            intro v1 w1 hown1 _ hb1
            have hbb1 : Below WX.heap.size WX w1 := ((Below.refl _ _).alloc (Nat.le_refl _) _).trans hb1
            have hcell1 : w1.cell? ⟨b, o + k, none⟩ = some (.string x) := by rw [hbb1.cell (p := ⟨b, o + k, none⟩) (by have := hbX.size; show b < _; omega)]; exact hcellX
            have hso1 := hsoX.below hbb1
            have hsz1 := hbb1.size
            clear hb1
            go_wp2_with (at_builtin; refine wp_app1 rfl _ _ _ rfl ES rfl rfl hown1 rfl rfl (by omega) (by simp [maxLen]; omega) hsz1 ?_)
            intro v2 w2 hown2 _ hb2
            have hbb2 := hbb1.trans hb2
            have hso2 := hsoX.below hbb2
            have hsz2 := hbb2.size
            have h3 : ∀ ad : Option Addr, ad = (if cv = j then some ⟨g, 0, none⟩ else some ⟨g, j, none⟩) → Sl w2 ad ((out.drop j).map Value.string) := by
              rintro ad rfl
              split
              · rename_i h
                have : out.drop j = [] := List.drop_eq_nil_of_le (by rw [HL.out]; omega)
                rw [this]; exact .nil _ _
              · have := hso2.tail j
                rw [Nat.zero_add] at this
                rwa [List.map_drop]
            go_wp2_with (at_builtin; refine wp_appS rfl _ _ _ rfl ES rfl rfl hown2 rfl (by simp [HL.out]) (h3 _ (by split <;> rfl)) (str_one _) (by omega) (by simp [maxLen]; omega) hsz2 (by split <;> (intro h; cases h)) ?_)
            all_goals
              intro v3 w3 hown3 _ hb3
              have hbb3 := hbb2.trans hb3
              have HE : Hid (PathS.sortTo l (k + 1) = out.take j ++ [x] ++ out.drop j) := by show _ = _; rw [HS.out, PathS.ins, HJ.out]
              have hown3 : w3.ownsRow w.heap.size 9 1 v3 (k + 1) ((PathS.sortTo l (k + 1)).map Value.string) := by
                have h := World.ownsRow.mono hown3 (show w.heap.size ≤ WX.heap.size from hbX.size)
                rw [show j + 1 + (k - j) = k + 1 by omega] at h
                rw [HE.out]
                simpa using h
              have hnn3 : v3 ≠ .slice none 0 0 := by
                rintro rfl
                rcases hown3.2 with ⟨_, h⟩ | ⟨_, _, _, h, _⟩
                · omega
                · cases h
              clear HE
              go_wp2_with fail
              go_roundw
              case rel => exact ⟨k + 1, by omega, by go_num, hown3, hbX.trans (hbb3.mono hbX.size), hnn3⟩
              case measure => simp [intOf]; omega
          · have hd : out.getD j' ByteArray.empty = out[j']'(by rw [HL.out]; omega) := by rw [List.getD_eq_getElem?_getD, List.getElem?_eq_getElem (by rw [HL.out]; omega)]; rfl
            have hsy : (out.getD j' ByteArray.empty).size ≤ 10000000 := by rw [hd]; exact HK.out _ (List.getElem_mem _)
            have hcell2 : wr.cell? ⟨g, j', none⟩ = some (.string (out.getD j' ByteArray.empty)) := by
              obtain ⟨b2, o2, hb2, hlt2, hc2⟩ := hso.at (k := j') (by simp [HL.out]; omega)
              cases hb2
              have := hc2 j' (by simp [HL.out]; omega)
              rw [Nat.zero_add, List.getElem_map] at this
              rw [hbi.cell (p := ⟨g, j', none⟩) hgl, this, hd]
            have hcell1 : wr.cell? ⟨b, o + k, none⟩ = some (.string x) := by rw [hbi.cell (p := ⟨b, o + k, none⟩) (by have := hb.size; show b < _; omega)]; exact hcell
            clear hd HP
            generalize out.getD j' ByteArray.empty = y at *
            have d1 : decide (PathS.cmp x y < 0) = false := by simp; omega
            clear hge
            have d2 : decide (0 < j) = true := by simp; omega
            have hw1 : IntKind.i64.wrap ((j : Int) - 1) = j' := by rw [IntWalk.i64_in _ (by omega)]; omega
            have hj0' : (0 : Int) ≤ j' := by omega
            have hjk' : (j' : Int) < k := by omega
            have HJ0 := Lib.hid hj0
            clear hj0
            go_wp2_with fail
            go_region_held3 (fun w' => w'.cell? ⟨b, o + k, none⟩ = some (.string x) ∧ w'.cell? ⟨g, j', none⟩ = some (.string y)) (first | exact ⟨cell_later hb' (by assumption), cell_later hb' (by assumption)⟩ | go_keep)
              (first | (go_at_call 25; refine (ref_cmp x y _ hsx hsy).mono ?_; rintro e w' ⟨rfl, hb'⟩))
            have hbX0 : Below wo.heap.size wo w' := hbi.drew.trans (hb'.mono (show wo.heap.size ≤ wr.drew.heap.size from hbi.size))
            clear hb'
            generalize w' = WX at *
            have hown := own_below hown hbX0
            have hsoX := hso.below hbX0
            have hgx : g < WX.heap.size := Nat.lt_of_lt_of_le hgl (hbX0).size
            have hbX := hb.trans ((hbX0).mono hb.size)
            have hcellX : WX.cell? ⟨b, o + k, none⟩ = some (.string x) := by rw [(hbX0).cell (p := ⟨b, o + k, none⟩) (by have := hb.size; show b < _; omega)]; exact hcell
            have hjk : j ≤ k := by omega
            have h1 : Sl (WX.alloc (.cells #[] 9)) (some ⟨g, 0, none⟩) ((out.take j).map Value.string) := by
              have := (hsoX.below ((Below.refl _ _).alloc (Nat.le_refl _) (.cells #[] 9))).part 0 j
              simpa [List.map_take] using this
            go_wp2_with (at_builtin; refine wp_appS (base := WX.heap.size) rfl _ _ _ rfl ES rfl rfl (World.ownsRow_made _ #[] 0 (Nat.le_refl _) (by simp [maxLen]) rfl) rfl (by simp [HL.out]; omega) h1 (str_one _) (by omega) (by simp [maxLen]; omega) (by simp) (fun h => by cases h) ?_)
            intro v1 w1 hown1 _ hb1
            have hbb1 : Below WX.heap.size WX w1 := ((Below.refl _ _).alloc (Nat.le_refl _) _).trans hb1
            have hcell1 : w1.cell? ⟨b, o + k, none⟩ = some (.string x) := by rw [hbb1.cell (p := ⟨b, o + k, none⟩) (by have := hbX.size; show b < _; omega)]; exact hcellX
            have hso1 := hsoX.below hbb1
            have hsz1 := hbb1.size
            clear hb1
            go_wp2_with (at_builtin; refine wp_app1 rfl _ _ _ rfl ES rfl rfl hown1 rfl rfl (by omega) (by simp [maxLen]; omega) hsz1 ?_)
            intro v2 w2 hown2 _ hb2
            have hbb2 := hbb1.trans hb2
            have hso2 := hsoX.below hbb2
            have hsz2 := hbb2.size
            have h3 : ∀ ad : Option Addr, ad = (if cv = j then some ⟨g, 0, none⟩ else some ⟨g, j, none⟩) → Sl w2 ad ((out.drop j).map Value.string) := by
              rintro ad rfl
              split
              · rename_i h
                have : out.drop j = [] := List.drop_eq_nil_of_le (by rw [HL.out]; omega)
                rw [this]; exact .nil _ _
              · have := hso2.tail j
                rw [Nat.zero_add] at this
                rwa [List.map_drop]
            go_wp2_with (at_builtin; refine wp_appS rfl _ _ _ rfl ES rfl rfl hown2 rfl (by simp [HL.out]) (h3 _ (by split <;> rfl)) (str_one _) (by omega) (by simp [maxLen]; omega) hsz2 (by split <;> (intro h; cases h)) ?_)
            all_goals
              intro v3 w3 hown3 _ hb3
              have hbb3 := hbb2.trans hb3
              have HE : Hid (PathS.sortTo l (k + 1) = out.take j ++ [x] ++ out.drop j) := by show _ = _; rw [HS.out, PathS.ins, HJ.out]
              have hown3 : w3.ownsRow w.heap.size 9 1 v3 (k + 1) ((PathS.sortTo l (k + 1)).map Value.string) := by
                have h := World.ownsRow.mono hown3 (show w.heap.size ≤ WX.heap.size from hbX.size)
                rw [show j + 1 + (k - j) = k + 1 by omega] at h
                rw [HE.out]
                simpa using h
              have hnn3 : v3 ≠ .slice none 0 0 := by
                rintro rfl
                rcases hown3.2 with ⟨_, h⟩ | ⟨_, _, _, h, _⟩
                · omega
                · cases h
              clear HE
              go_wp2_with fail
              go_roundw
              case rel => exact ⟨k + 1, by omega, by go_num, hown3, hbX.trans (hbb3.mono hbX.size), hnn3⟩
              case measure => simp [intOf]; omega
        · have hd : out.getD j' ByteArray.empty = out[j']'(by rw [HL.out]; omega) := by rw [List.getD_eq_getElem?_getD, List.getElem?_eq_getElem (by rw [HL.out]; omega)]; rfl
          have HD := Lib.hid hd
          have hsy : (out.getD j' ByteArray.empty).size ≤ 10000000 := by rw [hd]; exact HK.out _ (List.getElem_mem _)
          have hcell2 : wr.cell? ⟨g, j', none⟩ = some (.string (out.getD j' ByteArray.empty)) := by
            obtain ⟨b2, o2, hb2, hlt2, hc2⟩ := hso.at (k := j') (by simp [HL.out]; omega)
            cases hb2
            have := hc2 j' (by simp [HL.out]; omega)
            rw [Nat.zero_add, List.getElem_map] at this
            rw [hbi.cell (p := ⟨g, j', none⟩) hgl, this, hd]
          have hcell1 : wr.cell? ⟨b, o + k, none⟩ = some (.string x) := by rw [hbi.cell (p := ⟨b, o + k, none⟩) (by have := hb.size; show b < _; omega)]; exact hcell
          have HIJ : Hid (PathS.insPos x out (j' + 1) = PathS.insPos x out j') := by show _ = _; rw [PathS.insPos, if_pos hlt0]
          clear hd
          generalize out.getD j' ByteArray.empty = y at *
          have d1 : decide (PathS.cmp x y < 0) = true := by simpa using hlt0
          have HLT := Lib.hid hlt0
          clear hlt0
          go_wp2_with fail
          have hw : IntKind.i64.wrap (j' : Int) = j' := IntWalk.i64_in _ (by omega)
          have hw1 : IntKind.i64.wrap ((j' : Int) + 1 - 1) = j' := by rw [Int.add_sub_cancel]; exact hw
          have hj0 : (0 : Int) ≤ j' := by omega
          have hjk : (j' : Int) < k := by omega
          go_region_held3 (fun w' => w'.cell? ⟨b, o + k, none⟩ = some (.string x) ∧ w'.cell? ⟨g, j', none⟩ = some (.string y)) (first | exact ⟨cell_later hb' (by assumption), cell_later hb' (by assumption)⟩ | go_keep)
            (first | (go_at_call 25; refine (ref_cmp x y _ hsx hsy).mono ?_; rintro e w' ⟨rfl, hb'⟩))
          go_wp2_with fail
          go_roundw
          case rel => exact ⟨j', by omega, by go_num, hbi.drew.trans (hb'.mono (show wo.heap.size ≤ wr.drew.heap.size from hbi.size)), by show _ = _; rw [HP.out, HIJ.out]⟩
          case measure => simp [intOf]
    · obtain rfl : k = l.length := by omega
      go_wp2_with fail
      go_ret
      exact ⟨_, rfl, hown, hb⟩
end Go.Proofs.YtmcdfikkokbffaaDoor
