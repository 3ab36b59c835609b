/- Texts of mine, joined: The walk of the reference's Sorted. | Walk: woven parts told as lines. -/
import Derived.Deep.RegionHeld3
import Derived.Laws.AppendOwnNone
import Derived.Test.YtpcipdkoncmdcaaGreatDoorYJoinMerges11
namespace Go.Proofs.YtpcipdkoncmdcaaGreatDoor
open Go Go.RowKit
/-- 'append(s, x...)', s the call's own, x any slice of one-cell elements. -/
theorem wp_appS {P : Program} {ops : Array Oper} {rest : List Oper} {o : Oper} {a : Act} {Q : Exit → Act → World → Prop} {w : World} (hgd : o.guard = none) (s x : Operand) (t : TypeId)
    (ho : o.op = .call { callee := .builtin .append, args := #[s, x], argTypes := #[t, t] })
    {e : TypeId} {z : Value} {bytes : Nat} (E : Elem P t e z 1 bytes) (hz : z.oneCell' = true) {base : Nat} {v : Value} {n : Nat} {xs : List Value} {ad : Option Addr} {m c : Nat} {news : List Value}
    (hs : a.eval s = v) (hown : w.ownsRow base e 1 v n xs) (hx : a.eval x = .slice ad m c) (hm : news.length = m) (hsl : Sl w ad news) (h1 : ∀ u ∈ news, u.oneCell' = true)
    (hn : (n + m) * bytes ≤ 140737488355328) (h63 : n + m ≤ maxLen) (hbase : base ≤ w.heap.size) (hc0 : ad = none → c = 0)
    (h : ∀ v' w', w'.ownsRow base e 1 v' (n + m) (xs ++ news) → w.grownBy w' v.ownBlock → Below base w w' → wpList P ops Q rest (a.put o.dst v') w') :
    wpList P ops Q (o :: rest) a w := by
  obtain ⟨i, hi, g1, g2, g3⟩ := info_parts E.info
  have hzs : z.cells.size = 1 := by cases z <;> first | rfl | cases hz
  have hfin : ∀ v' w', w'.ownsRow base e 1 v' (n + m) (xs ++ news) → w.grownBy w' v.ownBlock → wpList P ops Q rest (a.put o.dst v') w' := fun v' w' h4 h5 => h v' w' h4 h5 (below_of_grown hown h5 hbase)
  cases ad with
  | some a0 =>
    refine wpList_append_own _ hgd s x t ho base e i z 1 bytes E.under hi g1 g2 g3 hzs (by decide) v n xs hs hown a0 m c news hx (by omega) ?_ h1 h63 hn hbase fun v' w' h4 h5 _ => hfin v' w' h4 h5
    rcases hsl with hh | ⟨b, o', ha, hlt, hc⟩
    · subst hh; intro j u hj; simp at hj
    · cases ha
      intro j u hj
      have := hc j u hj
      rwa [Addr.add_lit]
  | none =>
    have hnil : news = [] := by
      rcases hsl with hh | ⟨b, o', ha, hlt, hc⟩
      · exact hh
      · cases ha
    subst hnil
    simp at hm
    subst hm
    obtain rfl := hc0 rfl
    refine wpList_append_own_none hgd s x t ho base e i 1 E.under hi v n xs hs hown hx ?_
    have := hfin v w (by simpa using hown) (World.grownBy.refl _ _)
    exact this

theorem str_one (l : List ByteArray) : ∀ u ∈ l.map Value.string, u.oneCell' = true := by
  intro u hu; obtain ⟨s, _, rfl⟩ := List.mem_map.1 hu; rfl

/-- A slice's end, from i on. -/
theorem Sl.tail {w : World} {b o : Nat} {xs : List Value} (h : Sl w (some ⟨b, o, none⟩) xs) (i : Nat) : Sl w (some ⟨b, o + i, none⟩) (xs.drop i) := by
  have := h.part i xs.length
  rwa [List.take_length] at this

set_option maxRecDepth 100000 in
set_option maxHeartbeats 2000000 in
theorem ref_sorted (a : Option Addr) (c : Nat) (l : List ByteArray) (w : World) (hs : Sl w a (l.map Value.string)) (hl : l.length ≤ 10000000) (hz : ∀ s ∈ l, s.size ≤ 10000000) :
    Calls Tryz.prog 31 #[.slice a l.length c] w fun e w' => ∃ v, e = .returned v ∧ w'.ownsRow w.heap.size 9 1 v l.length ((PathS.sortTo l l.length).map Value.string) ∧ Below w.heap.size w w' := by
  have HZ := Lib.hid hz
  have HM := Lib.hid (fun y k (hk : k ≤ l.length) => PathS.sortTo_mem l y k hk)
  clear hz
  go_enter Tryz.func31, Tryz.ntmps31
  go_wp2_with fail
  go_loopw [3, 4] (fun out i wr => ∃ k : Nat, k ≤ l.length ∧ i = .int .i64 k ∧ wr.ownsRow w.heap.size 9 1 out k ((PathS.sortTo l k).map Value.string) ∧ Below w.heap.size w wr ∧ out ≠ .slice none 0 0) (fun _ i _ => l.length - (intOf i).toNat)
  case atStart => exact ⟨0, by omega, rfl, World.ownsRow_made w #[] 0 (Nat.le_refl _) (by simp [maxLen]) rfl, (Below.refl _ _).alloc (Nat.le_refl _) _, by simp⟩
  case round =>
    obtain ⟨k, hk, rfl, hown, hb, hnn⟩ := hrel
    have hlk := PathS.sortTo_length l k
    have HK : Hid (∀ y ∈ PathS.sortTo l k, y.size ≤ 10000000) := by
      intro y hy; exact HZ.out y (List.mem_of_mem_take ((HM.out y k hk).1 hy))
    by_cases hlt : k < l.length
    · obtain ⟨b, o, rfl, hbl, hc⟩ := hs.at (k := k) (by simpa using hlt)
      have hcell : wr.cell? ⟨b, o + k, none⟩ = some (.string l[k]) := by rw [hb.cell (p := ⟨b, o + k, none⟩) hbl, hc k (by simpa using hlt), List.getElem_map]
      clear hc
      have hsx := HZ.out _ (List.getElem_mem hlt)
      have HS : Hid (PathS.sortTo l (k + 1) = PathS.ins l[k] (PathS.sortTo l k)) := by
        show _ = _; rw [PathS.sortTo, List.getD_eq_getElem?_getD, List.getElem?_eq_getElem hlt]; rfl
      generalize PathS.sortTo l k = out at *
      have hil := PathS.insPos_le l[k] out out.length
      generalize l[k] = x at *
      obtain ⟨g, cv, rfl, hcv, hgb, hgl, hso⟩ := own_some hown hnn
      clear hnn
      have HL := Lib.hid hlk
      have hil2 : PathS.insPos x out out.length ≤ k := by omega
      clear hlk hil
      have HQ : Hid (PathS.insPos x out out.length = PathS.insPos x out out.length) := by show _ = _; rfl
      obtain ⟨wo, rfl⟩ : ∃ wo : World, wo = wr := ⟨_, rfl⟩
      go_wp2_with fail
      go_loopw [5] (fun t wi => ∃ j : Nat, j ≤ k ∧ t = .int .i64 j ∧ Below wo.heap.size wo wi ∧ Hid (PathS.insPos x out out.length = PathS.insPos x out j)) (fun t _ => (intOf t).toNat)
      case atStart => exact ⟨k, by omega, rfl, Below.refl _ _, by show _ = _; rw [HL.out]⟩
      case round =>
        obtain ⟨j, hj, rfl, hbi, HP⟩ := hrel
        clear HQ
        have hstep : (j = 0 ∨ ∃ j', j = j' + 1 ∧ ¬ PathS.cmp x (out.getD j' ByteArray.empty) < 0) ∨ ∃ j', j = j' + 1 ∧ PathS.cmp x (out.getD j' ByteArray.empty) < 0 := by
          rcases j with _ | j'
          · exact .inl (.inl rfl)
          · by_cases h : PathS.cmp x (out.getD j' ByteArray.empty) < 0
            · exact .inr ⟨j', rfl, h⟩
            · exact .inl (.inr ⟨j', rfl, h⟩)
        have hbw := hb.trans (hbi.mono hb.size)
        rcases hstep with hend | ⟨j', rfl, hlt0⟩
        · have HJ : Hid (PathS.insPos x out out.length = j) := by
            show _ = _
            rw [HP.out]
            rcases hend with rfl | ⟨j', rfl, h⟩
            · rfl
            · rw [PathS.insPos, if_neg h]
          rcases hend with hj0 | ⟨j', hj0, hge⟩
          · clear HP
            have h00 : decide (0 < j) = false := by simp; omega
            clear hj0
            go_wp2_with fail
            go_quiet (fail)
            rename_i nq
            have hbX0 := below_dN hbi nq
            generalize wr.drewN nq = WX at hbX0 ⊢
            have hown := own_below hown hbX0
            have hsoX := hso.below hbX0
            have hgx : g < WX.heap.size := Nat.lt_of_lt_of_le hgl (hbX0).size
            have hbX := hb.trans ((hbX0).mono hb.size)
            have hcellX : WX.cell? ⟨b, o + k, none⟩ = some (.string x) := by rw [(hbX0).cell (p := ⟨b, o + k, none⟩) (by have := hb.size; show b < _; omega)]; exact hcell
            have hjk : j ≤ k := by omega
            have h1 : Sl (WX.alloc (.cells #[] 9)) (some ⟨g, 0, none⟩) ((out.take j).map Value.string) := by
              have := (hsoX.below ((Below.refl _ _).alloc (Nat.le_refl _) (.cells #[] 9))).part 0 j
              simpa [List.map_take] using this
            go_wp2_with (at_builtin; refine wp_appS (base := WX.heap.size) rfl _ _ _ rfl ES rfl rfl (World.ownsRow_made _ #[] 0 (Nat.le_refl _) (by simp [maxLen]) rfl) rfl (by simp [HL.out]; omega) h1 (str_one _) (by omega) (by simp [maxLen]; omega) (by simp) (fun h => by cases h) ?_)
            intro v1 w1 hown1 _ hb1
            have hbb1 : Below WX.heap.size WX w1 := ((Below.refl _ _).alloc (Nat.le_refl _) _).trans hb1
            have hcell1 : w1.cell? ⟨b, o + k, none⟩ = some (.string x) := by rw [hbb1.cell (p := ⟨b, o + k, none⟩) (by have := hbX.size; show b < _; omega)]; exact hcellX
            have hso1 := hsoX.below hbb1
            have hsz1 := hbb1.size
            clear hb1
            go_wp2_with (at_builtin; refine wp_app1 rfl _ _ _ rfl ES rfl rfl hown1 rfl rfl (by omega) (by simp [maxLen]; omega) hsz1 ?_)
            intro v2 w2 hown2 _ hb2
            have hbb2 := hbb1.trans hb2
            have hso2 := hsoX.below hbb2
            have hsz2 := hbb2.size
            have h3 : ∀ ad : Option Addr, ad = (if cv = j then some ⟨g, 0, none⟩ else some ⟨g, j, none⟩) → Sl w2 ad ((out.drop j).map Value.string) := by
              rintro ad rfl
              split
              · rename_i h
                have : out.drop j = [] := List.drop_eq_nil_of_le (by rw [HL.out]; omega)
                rw [this]; exact .nil _ _
              · have := hso2.tail j
                rw [Nat.zero_add] at this
                rwa [List.map_drop]
            go_wp2_with (at_builtin; refine wp_appS rfl _ _ _ rfl ES rfl rfl hown2 rfl (by simp [HL.out]) (h3 _ (by split <;> rfl)) (str_one _) (by omega) (by simp [maxLen]; omega) hsz2 (by split <;> (intro h; cases h)) ?_)
            all_goals
              intro v3 w3 hown3 _ hb3
              have hbb3 := hbb2.trans hb3
              have HE : Hid (PathS.sortTo l (k + 1) = out.take j ++ [x] ++ out.drop j) := by show _ = _; rw [HS.out, PathS.ins, HJ.out]
              have hown3 : w3.ownsRow w.heap.size 9 1 v3 (k + 1) ((PathS.sortTo l (k + 1)).map Value.string) := by
                have h := World.ownsRow.mono hown3 (show w.heap.size ≤ WX.heap.size from hbX.size)
                rw [show j + 1 + (k - j) = k + 1 by omega] at h
                rw [HE.out]
                simpa using h
              have hnn3 : v3 ≠ .slice none 0 0 := by
                rintro rfl
                rcases hown3.2 with ⟨_, h⟩ | ⟨_, _, _, h, _⟩
                · omega
                · cases h
              clear HE
              go_wp2_with fail
              go_roundw
              case rel => exact ⟨k + 1, by omega, by go_num, hown3, hbX.trans (hbb3.mono hbX.size), hnn3⟩
              case measure => simp [intOf]; omega
          · have hd : out.getD j' ByteArray.empty = out[j']'(by rw [HL.out]; omega) := by rw [List.getD_eq_getElem?_getD, List.getElem?_eq_getElem (by rw [HL.out]; omega)]; rfl
            have hsy : (out.getD j' ByteArray.empty).size ≤ 10000000 := by rw [hd]; exact HK.out _ (List.getElem_mem _)
            have hcell2 : wr.cell? ⟨g, j', none⟩ = some (.string (out.getD j' ByteArray.empty)) := by
              obtain ⟨b2, o2, hb2, hlt2, hc2⟩ := hso.at (k := j') (by simp [HL.out]; omega)
              cases hb2
              have := hc2 j' (by simp [HL.out]; omega)
              rw [Nat.zero_add, List.getElem_map] at this
              rw [hbi.cell (p := ⟨g, j', none⟩) hgl, this, hd]
            have hcell1 : wr.cell? ⟨b, o + k, none⟩ = some (.string x) := by rw [hbi.cell (p := ⟨b, o + k, none⟩) (by have := hb.size; show b < _; omega)]; exact hcell
            clear hd HP
            generalize out.getD j' ByteArray.empty = y at *
            have d1 : decide (PathS.cmp x y < 0) = false := by simp; omega
            clear hge
            have d2 : decide (0 < j) = true := by simp; omega
            have hw1 : IntKind.i64.wrap ((j : Int) - 1) = j' := by rw [IntWalk.i64_in _ (by omega)]; omega
            have hj0' : (0 : Int) ≤ j' := by omega
            have hjk' : (j' : Int) < k := by omega
            have HJ0 := Lib.hid hj0
            clear hj0
            go_wp2_with fail
            go_region_held3 (fun w' => w'.cell? ⟨b, o + k, none⟩ = some (.string x) ∧ w'.cell? ⟨g, j', none⟩ = some (.string y)) (first | exact ⟨cell_later hb' (by assumption), cell_later hb' (by assumption)⟩ | go_keep)
              (first | (go_at_call 57; refine (ref_cmp x y _ hsx hsy).mono ?_; rintro e w' ⟨rfl, hb'⟩))
            have hbX0 : Below wo.heap.size wo w' := hbi.drew.trans (hb'.mono (show wo.heap.size ≤ wr.drew.heap.size from hbi.size))
            clear hb'
            generalize w' = WX at *
            have hown := own_below hown hbX0
            have hsoX := hso.below hbX0
            have hgx : g < WX.heap.size := Nat.lt_of_lt_of_le hgl (hbX0).size
            have hbX := hb.trans ((hbX0).mono hb.size)
            have hcellX : WX.cell? ⟨b, o + k, none⟩ = some (.string x) := by rw [(hbX0).cell (p := ⟨b, o + k, none⟩) (by have := hb.size; show b < _; omega)]; exact hcell
            have hjk : j ≤ k := by omega
            have h1 : Sl (WX.alloc (.cells #[] 9)) (some ⟨g, 0, none⟩) ((out.take j).map Value.string) := by
              have := (hsoX.below ((Below.refl _ _).alloc (Nat.le_refl _) (.cells #[] 9))).part 0 j
              simpa [List.map_take] using this
            go_wp2_with (at_builtin; refine wp_appS (base := WX.heap.size) rfl _ _ _ rfl ES rfl rfl (World.ownsRow_made _ #[] 0 (Nat.le_refl _) (by simp [maxLen]) rfl) rfl (by simp [HL.out]; omega) h1 (str_one _) (by omega) (by simp [maxLen]; omega) (by simp) (fun h => by cases h) ?_)
            intro v1 w1 hown1 _ hb1
            have hbb1 : Below WX.heap.size WX w1 := ((Below.refl _ _).alloc (Nat.le_refl _) _).trans hb1
            have hcell1 : w1.cell? ⟨b, o + k, none⟩ = some (.string x) := by rw [hbb1.cell (p := ⟨b, o + k, none⟩) (by have := hbX.size; show b < _; omega)]; exact hcellX
            have hso1 := hsoX.below hbb1
            have hsz1 := hbb1.size
            clear hb1
            go_wp2_with (at_builtin; refine wp_app1 rfl _ _ _ rfl ES rfl rfl hown1 rfl rfl (by omega) (by simp [maxLen]; omega) hsz1 ?_)
            intro v2 w2 hown2 _ hb2
            have hbb2 := hbb1.trans hb2
            have hso2 := hsoX.below hbb2
            have hsz2 := hbb2.size
            have h3 : ∀ ad : Option Addr, ad = (if cv = j then some ⟨g, 0, none⟩ else some ⟨g, j, none⟩) → Sl w2 ad ((out.drop j).map Value.string) := by
              rintro ad rfl
              split
              · rename_i h
                have : out.drop j = [] := List.drop_eq_nil_of_le (by rw [HL.out]; omega)
                rw [this]; exact .nil _ _
              · have := hso2.tail j
                rw [Nat.zero_add] at this
                rwa [List.map_drop]
            go_wp2_with (at_builtin; refine wp_appS rfl _ _ _ rfl ES rfl rfl hown2 rfl (by simp [HL.out]) (h3 _ (by split <;> rfl)) (str_one _) (by omega) (by simp [maxLen]; omega) hsz2 (by split <;> (intro h; cases h)) ?_)
            all_goals
              intro v3 w3 hown3 _ hb3
              have hbb3 := hbb2.trans hb3
              have HE : Hid (PathS.sortTo l (k + 1) = out.take j ++ [x] ++ out.drop j) := by show _ = _; rw [HS.out, PathS.ins, HJ.out]
              have hown3 : w3.ownsRow w.heap.size 9 1 v3 (k + 1) ((PathS.sortTo l (k + 1)).map Value.string) := by
                have h := World.ownsRow.mono hown3 (show w.heap.size ≤ WX.heap.size from hbX.size)
                rw [show j + 1 + (k - j) = k + 1 by omega] at h
                rw [HE.out]
                simpa using h
              have hnn3 : v3 ≠ .slice none 0 0 := by
                rintro rfl
                rcases hown3.2 with ⟨_, h⟩ | ⟨_, _, _, h, _⟩
                · omega
                · cases h
              clear HE
              go_wp2_with fail
              go_roundw
              case rel => exact ⟨k + 1, by omega, by go_num, hown3, hbX.trans (hbb3.mono hbX.size), hnn3⟩
              case measure => simp [intOf]; omega
        · have hd : out.getD j' ByteArray.empty = out[j']'(by rw [HL.out]; omega) := by rw [List.getD_eq_getElem?_getD, List.getElem?_eq_getElem (by rw [HL.out]; omega)]; rfl
          have HD := Lib.hid hd
          have hsy : (out.getD j' ByteArray.empty).size ≤ 10000000 := by rw [hd]; exact HK.out _ (List.getElem_mem _)
          have hcell2 : wr.cell? ⟨g, j', none⟩ = some (.string (out.getD j' ByteArray.empty)) := by
            obtain ⟨b2, o2, hb2, hlt2, hc2⟩ := hso.at (k := j') (by simp [HL.out]; omega)
            cases hb2
            have := hc2 j' (by simp [HL.out]; omega)
            rw [Nat.zero_add, List.getElem_map] at this
            rw [hbi.cell (p := ⟨g, j', none⟩) hgl, this, hd]
          have hcell1 : wr.cell? ⟨b, o + k, none⟩ = some (.string x) := by rw [hbi.cell (p := ⟨b, o + k, none⟩) (by have := hb.size; show b < _; omega)]; exact hcell
          have HIJ : Hid (PathS.insPos x out (j' + 1) = PathS.insPos x out j') := by show _ = _; rw [PathS.insPos, if_pos hlt0]
          clear hd
          generalize out.getD j' ByteArray.empty = y at *
          have d1 : decide (PathS.cmp x y < 0) = true := by simpa using hlt0
          have HLT := Lib.hid hlt0
          clear hlt0
          go_wp2_with fail
          have hw : IntKind.i64.wrap (j' : Int) = j' := IntWalk.i64_in _ (by omega)
          have hw1 : IntKind.i64.wrap ((j' : Int) + 1 - 1) = j' := by rw [Int.add_sub_cancel]; exact hw
          have hj0 : (0 : Int) ≤ j' := by omega
          have hjk : (j' : Int) < k := by omega
          go_region_held3 (fun w' => w'.cell? ⟨b, o + k, none⟩ = some (.string x) ∧ w'.cell? ⟨g, j', none⟩ = some (.string y)) (first | exact ⟨cell_later hb' (by assumption), cell_later hb' (by assumption)⟩ | go_keep)
            (first | (go_at_call 57; refine (ref_cmp x y _ hsx hsy).mono ?_; rintro e w' ⟨rfl, hb'⟩))
          go_wp2_with fail
          go_roundw
          case rel => exact ⟨j', by omega, by go_num, hbi.drew.trans (hb'.mono (show wo.heap.size ≤ wr.drew.heap.size from hbi.size)), by show _ = _; rw [HP.out, HIJ.out]⟩
          case measure => simp [intOf]
    · obtain rfl : k = l.length := by omega
      go_wp2_with fail
      go_ret
      exact ⟨_, rfl, hown, hb⟩
end Go.Proofs.YtpcipdkoncmdcaaGreatDoor
namespace Go.Proofs.YtpcipdkoncmdcaaGreatDoor
open Go Go.RowKit
open JoinS (emit tellAll clean closed kindOf)
/-- Lines put together in a row of the call's own, beside a block b that stays. -/
structure OT (w W : World) (b : Nat) (cs : Array Value) (e : TypeId) (v : Value) (L : List ByteArray) : Prop where
  own : OwnG W 9 1 v L.length (lrow L)
  nw : ∀ k, v.ownBlock = some k → w.heap.size ≤ k ∧ k ≠ b
  below : Below w.heap.size w W
  blk : W.heap[b]? = some (.cells cs e (0, 0))
section
variable {w W : World} {b : Nat} {cs : Array Value} {e : TypeId} {v : Value} {L l : List ByteArray}
theorem OT.cell (h : OT w W b cs e v L) {j : Nat} {u : Value} (hu : cs[j]? = some u) : W.cell? ⟨b, j, none⟩ = some u := by simp only [World.cell?, h.blk]; exact hu
theorem OT.grow (h : OT w W b cs e v L) {W' : World} (hb : Below W.heap.size W W') : OT w W' b cs e v L :=
  ⟨h.own.below hb, h.nw, h.below.trans (hb.mono h.below.size), (hb.block b (Array.getElem?_eq_some_iff.1 h.blk).1).trans h.blk⟩
theorem OT.app {ops : Array Oper} {rest : List Oper} {op : Oper} {a : Act} {Q : Exit → Act → World → Prop} (h : OT w W b cs e v L) (hgd : op.guard = none) (s x : Operand)
    (ho : op.op = .call { callee := .builtin .append, args := #[s, x], argTypes := #[82, 82] }) {xv : Value}
    (hs : a.eval s = v) (hx : a.eval x = xv) (hT : Tl W xv l) (hn : L.length + l.length ≤ 1000000000)
    (K : ∀ v' W', OT w W' b cs e v' (L ++ l) → wpList Tryz.prog ops Q rest (a.put op.dst v') W') : wpList Tryz.prog ops Q (op :: rest) a W := by
  have hbl := (Array.getElem?_eq_some_iff.1 h.blk).1
  refine wp_appG hgd s x _ _ ho ES rfl hs h.own hx (src_tl hT) (by simp [maxLen]; omega) (by omega) fun v' W' h4 h5 h6 => K v' W' ⟨by rw [lrow_app, List.length_append]; exact h4, fun k hk => ?_, ?_, ?_⟩
  · rcases h6 k hk with e | e
    · exact h.nw k e
    · have := h.below.size; exact ⟨by omega, by omega⟩
  · exact h.below.grown h5 h.below.size fun k hk => (h.nw k hk).1
  · exact (h5.block b hbl (fun e => (h.nw b e.symm).2 rfl)).trans h.blk
theorem OT.app1 {ops : Array Oper} {rest : List Oper} {op : Oper} {a : Act} {Q : Exit → Act → World → Prop} (h : OT w W b cs e v L) (hgd : op.guard = none) (s x : Operand)
    (ho : op.op = .call { callee := .builtin .append, args := #[s, x], argTypes := #[82, 82] }) {t : ByteArray}
    (hs : a.eval s = v) (hx : a.eval x = .slice (some ⟨W.heap.size, 0, none⟩) 1 1) (hn : L.length + 1 ≤ 1000000000)
    (K : ∀ v' W', OT w W' b cs e v' (L ++ [t]) → wpList Tryz.prog ops Q rest (a.put op.dst v') W') : wpList Tryz.prog ops Q (op :: rest) a (W.alloc (.cells #[.string t] 9)) := by
  have hb : Below W.heap.size W (W.alloc (.cells #[.string t] 9)) := (Below.refl _ W).alloc (Nat.le_refl _) _
  exact (h.grow hb).app (l := [t]) hgd s x ho hs hx ⟨some ⟨W.heap.size, 0, none⟩, 1, rfl, Nat.le_refl _, by simp [maxLen], (fun h => nomatch h), .inr ⟨W.heap.size, 0, rfl, by simp, fun i u hu => by
    rw [World.cell?_alloc_at _ _ _ _ rfl]
    simpa [lrow] using hu⟩⟩ hn K
end
theorem kind_le (p : JoinS.Pt ByteArray) : kindOf p ≤ 4 := by
  unfold kindOf
  repeat' split
  all_goals omega
theorem closed_len (l : List ByteArray) : (closed l).length = l.length := by
  unfold closed
  cases h : l.getLast? with
  | none => rw [List.getLast?_eq_none_iff.1 h]
  | some x =>
    simp only
    split
    · rfl
    · have := congrArg List.length (JoinS.dl_last h)
      simp only [List.length_append, List.length_singleton] at this ⊢; omega
theorem pvR_get : ∀ (xs : List PtV) (k : Nat) (hk : k < xs.length) (j : Nat), j < 4 → (pvR xs)[k * 4 + j]? = (pvC xs[k])[j]?
  | x :: xs, 0, _, j, hj => by
    show (pvC x ++ pvR xs)[0 * 4 + j]? = _
    rw [Nat.zero_mul, Nat.zero_add, List.getElem?_append_left (by simp [pvC]; omega)]; rfl
  | x :: xs, k + 1, hk, j, hj => by
    show (pvC x ++ pvR xs)[(k + 1) * 4 + j]? = _
    have hl : (pvC x).length = 4 := rfl
    rw [List.getElem?_append_right (by rw [hl]; omega), hl, show (k + 1) * 4 + j - 4 = k * 4 + j by omega]
    exact pvR_get xs k (by simpa using hk) j hj
theorem tell_succ (u v : ByteArray) (xs : List PtV) (k : Nat) (hk : k < xs.length) : tellAll u v ((xs.map (·.p)).take (k + 1)) = tellAll u v ((xs.map (·.p)).take k) ++ emit u v xs[k].p ∧ clean ((xs.map (·.p)).take (k + 1)) = (clean ((xs.map (·.p)).take k) && decide (kindOf xs[k].p ≠ 4)) := by
  have e : (xs.map (·.p)).take (k + 1) = (xs.map (·.p)).take k ++ [xs[k].p] := by
    rw [List.take_succ_eq_append_getElem (by simpa using hk), List.getElem_map]
  rw [e]
  constructor
  · simp [tellAll]
  · simp [clean]

set_option maxRecDepth 100000 in
set_option maxHeartbeats 4000000 in
theorem text_c {w : World} {pv : Value} {xs : List PtV} (h : PR w pv xs) (u v : ByteArray) (hu : u.size ≤ 1000) (hv : v.size ≤ 1000) (hN : ∀ k, (tellAll u v ((xs.map (·.p)).take k)).length ≤ 100000000) (hx : ∀ x ∈ xs, x.p.b.length ≤ 10000000 ∧ x.p.o.length ≤ 10000000 ∧ x.p.t.length ≤ 10000000)
    (hz : ∀ x ∈ xs, (∀ s ∈ x.p.b, s.size ≤ 100000000) ∧ (∀ s ∈ x.p.o, s.size ≤ 100000000) ∧ ∀ s ∈ x.p.t, s.size ≤ 100000000) :
    Calls Tryz.prog 88 #[pv, .string u, .string v] w fun e w' => ∃ tv, e = .returned (.tuple #[tv, .bool (clean (xs.map (·.p)))]) ∧ Tl w' tv (tellAll u v (xs.map (·.p))) ∧ Below w.heap.size w w' := by
  have hn := h.n
  have HPR := Lib.hid h
  have HN := Lib.hid hN
  have HX := Lib.hid hx
  have HZ := Lib.hid hz
  obtain ⟨a, c, (e0 : pv = .slice a xs.length c), hlc, -, hsl⟩ := h.row.form
  subst e0
  have HSL := Lib.hid hsl
  clear h hN hx hz hsl
  go_enter Tryz.func88, Tryz.ntmps88
  go_wp2_with fail
  go_loopw [8, 9, 11, 14] (fun ov cv _ iv wx => ∃ k : Nat, k ≤ xs.length ∧ iv = .int .i64 k ∧ (∃ z, cv = .bool z ∧ Hid (clean ((xs.map (·.p)).take k) = z)) ∧ (∃ L, Hid (tellAll u v ((xs.map (·.p)).take k) = L) ∧ OwnG wx 9 1 ov L.length (lrow L) ∧ ∀ b, ov.ownBlock = some b → w.heap.size ≤ b) ∧ Below w.heap.size w wx) (fun _ _ _ iv _ => (xs.length - intOf iv).toNat)
  case atStart => exact ⟨0, Nat.zero_le _, rfl, ⟨true, rfl, rfl⟩, ⟨[], rfl, OwnG.nil _ _ _, fun b hb => nomatch hb⟩, Below.refl _ _⟩
  case round =>
    obtain ⟨k, hk, rfl, ⟨z, rfl, HCL⟩, ⟨L, HL, hown, hnew⟩, hb⟩ := hrel
    by_cases hlt : k < xs.length
    · have d1 : decide ((k : Int) < (xs.length : Int)) = true := decide_eq_true (by omega)
      have d2 : decide (k < xs.length) = true := decide_eq_true hlt
      have dw : IntKind.i64.wrap ((k : Int) + 1) = ((k + 1 : Nat) : Int) := IntWalk.i64_in _ (by omega)
      obtain ⟨g, o, cap, (e1 : Value.slice a xs.length c = .slice (some ⟨g, o, none⟩) xs.length cap), -, hgl, hcs, -⟩ := (HPR.out.row.below hb).place (by omega)
      injection e1 with e1 _ e2
      subst e1 e2
      obtain ⟨t1, t2⟩ := tell_succ u v xs k hlt
      obtain ⟨x, hxe⟩ : ∃ x, xs[k] = x := ⟨_, rfl⟩
      have hxm : x ∈ xs := by rw [← hxe]; exact List.getElem_mem hlt
      rw [hxe] at t1 t2
      have hra : wr.rangeAt g (o + k * 4) (pvC x) := fun j vv hv => by
        have hj : j < 4 := (List.getElem?_eq_some_iff.1 hv).1
        rw [Nat.add_assoc]
        exact hcs _ _ (by rw [pvR_get xs k hlt j hj, hxe]; exact hv)
      obtain ⟨q1, q2, q3⟩ := (HPR.out.below hb).rd x hxm
      have fb : x.b.oneCell' = true := by obtain ⟨_, _, e, -⟩ := q1; rw [e]; rfl
      have fo : x.o.oneCell' = true := by obtain ⟨_, _, e, -⟩ := q2; rw [e]; rfl
      have ft : x.t.oneCell' = true := by obtain ⟨_, _, e, -⟩ := q3; rw [e]; rfl
      have h1c : (pvC x).toArray.all (·.oneCell') = true := by simp [pvC, fb, fo, ft]; rfl
      have HRA := Lib.hid hra
      have Hq1 := Lib.hid q1
      have Hq2 := Lib.hid q2
      have Hq3 := Lib.hid q3
      have Hown := Lib.hid hown
      have Hb := Lib.hid hb
      have H1C := Lib.hid h1c
      clear hra q1 q2 q3 hown hb h1c
      go_upto_region 6 with (first
        | (refine wpList_load_mid rfl 182 _ rfl g (o + k * 4) rfl (pvC x) _ HRA.out Tryz.underlying182 rfl (by kernel_rfl) ?_)
        | (refine wp_storeB rfl 182 _ _ rfl wr.heap.size (pvC x).toArray rfl rfl (old := #[.int .i64 0, .slice none 0 0, .slice none 0 0, .slice none 0 0]) Array.getElem?_push_size rfl (by kernel_rfl) H1C.out ?_; intro W5 hb5 hg5))
      have hba : Below wr.heap.size wr (wr.alloc (.cells #[.int .i64 0, .slice none 0 0, .slice none 0 0, .slice none 0 0] 182 (0, 0))) := (Below.refl _ wr).alloc (Nat.le_refl _) _
      have hB5 : Below wr.heap.size wr W5 := hba.grown hg5 hba.size fun k hk => by injection hk with hk; omega
      have hOT : OT w W5 wr.heap.size (pvC x).toArray 182 u8 L := ⟨Hown.out.below hB5, fun k hk => ⟨hnew k hk, by have := Hown.out.lt hk; omega⟩, Hb.out.trans (hB5.mono Hb.out.size), hb5⟩
      have c0 := hOT.cell (j := 0) (u := .int .i64 (kindOf x.p)) rfl
      have c1 := hOT.cell (j := 1) (u := x.b) rfl
      have c2 := hOT.cell (j := 2) (u := x.o) rfl
      have c3 := hOT.cell (j := 3) (u := x.t) rfl
      have HOT := Lib.hid hOT
      have hRX := (HPR.out.rd x hxm)
      have Q1 := Lib.hid hRX.1
      have Q2 := Lib.hid hRX.2.1
      have Q3 := Lib.hid hRX.2.2
      have T1 := Lib.hid t1
      have T2 := Lib.hid t2
      have hLn : L.length ≤ 100000000 := by rw [← HL.out]; exact HN.out k
      have hxl := HX.out x hxm
      have hzl := Lib.hid (HZ.out x hxm)
      clear hba hb5 hg5 hB5 t1 t2 hcs fb fo ft hOT hRX hnew Hown Hb Hq1 Hq2 Hq3 H1C HRA
      obtain ⟨kd, hkd⟩ : ∃ kd, kindOf x.p = kd := ⟨_, rfl⟩
      have hk5 := kind_le x.p
      rw [hkd] at c0 hk5
      have HKD := Lib.hid hkd
      clear hkd
      have hk1 : k + 1 ≤ xs.length := hlt
      have hcase : (kd = 0 ∨ kd = 1 ∨ kd = 3) ∨ kd = 2 ∨ kd = 4 := by omega
      rcases hcase with hc | hc | hc
      · have HE : Hid (emit u v x.p = x.p.o) := by
          show _ = _; unfold emit; rw [HKD.out, if_neg (by omega), if_neg (by omega)]
        have HC4 : Hid (decide (kindOf x.p ≠ 4) = true) := by show _ = _; rw [HKD.out]; exact decide_eq_true (by omega)
        have HEL : Hid (tellAll u v ((xs.map (·.p)).take (k + 1)) = L ++ x.p.o) := by show _ = _; rw [T1.out, HL.out, HE.out]
        have HCC : Hid (clean ((xs.map (·.p)).take (k + 1)) = z) := by show _ = _; rw [T2.out, HCL.out, HC4.out, Bool.and_true]
        clear T1 T2 HL HCL HE HC4 hk5 HKD
        rcases hc with rfl | rfl | rfl
        all_goals
          go_wp2_with (at_builtin; refine HOT.out.app rfl _ _ rfl rfl rfl (Q2.out.below HOT.out.below) (by omega) ?_; intro v' w' hot)
          go_roundw
          case rel => exact ⟨k + 1, hk1, by go_num, ⟨z, rfl, HCC⟩, ⟨_, HEL, hot.own, fun b hb => (hot.nw b hb).1⟩, hot.below⟩
          case measure => simp [intOf]; omega
      · subst hc
        have HE : Hid (emit u v x.p = x.p.t) := by
          show _ = _; unfold emit; rw [HKD.out, if_neg (by omega), if_pos rfl]
        have HC4 : Hid (decide (kindOf x.p ≠ 4) = true) := by show _ = _; rw [HKD.out]; rfl
        have HEL : Hid (tellAll u v ((xs.map (·.p)).take (k + 1)) = L ++ x.p.t) := by show _ = _; rw [T1.out, HL.out, HE.out]
        have HCC : Hid (clean ((xs.map (·.p)).take (k + 1)) = z) := by show _ = _; rw [T2.out, HCL.out, HC4.out, Bool.and_true]
        clear T1 T2 HL HCL HE HC4 hk5 HKD
        go_wp2_with (at_builtin; refine HOT.out.app rfl _ _ rfl rfl rfl (Q3.out.below HOT.out.below) (by omega) ?_; intro v' w' hot)
        go_roundw
        case rel => exact ⟨k + 1, hk1, by go_num, ⟨z, rfl, HCC⟩, ⟨_, HEL, hot.own, fun b hb => (hot.nw b hb).1⟩, hot.below⟩
        case measure => simp [intOf]; omega
      · subst hc
        have HE : Hid (emit u v x.p = [JoinS.m1 u] ++ closed x.p.o ++ [JoinS.m2] ++ closed x.p.b ++ [JoinS.m3] ++ closed x.p.t ++ [JoinS.m4 v]) := by
          show _ = _; unfold emit; rw [HKD.out, if_pos rfl]
        have HC4 : Hid (decide (kindOf x.p ≠ 4) = false) := by show _ = _; rw [HKD.out]; rfl
        have HEL : Hid (tellAll u v ((xs.map (·.p)).take (k + 1)) = L ++ ([JoinS.m1 u] ++ closed x.p.o ++ [JoinS.m2] ++ closed x.p.b ++ [JoinS.m3] ++ closed x.p.t ++ [JoinS.m4 v])) := by show _ = _; rw [T1.out, HL.out, HE.out]
        have HCC : Hid (clean ((xs.map (·.p)).take (k + 1)) = false) := by show _ = _; rw [T2.out, HCL.out, HC4.out, Bool.and_false]
        have HO : Hid (∀ W, Below w.heap.size w W → Calls Tryz.prog 113 #[x.o] W fun e w' => ∃ v', e = .returned v' ∧ w'.ownsRow W.heap.size 9 1 v' (closed x.p.o).length (lrow (closed x.p.o)) ∧ Below W.heap.size W w') := Lib.hid fun W hW => closed_c (Q2.out.below hW) hxl.2.1 hzl.out.2.1
        have HBc : Hid (∀ W, Below w.heap.size w W → Calls Tryz.prog 113 #[x.b] W fun e w' => ∃ v', e = .returned v' ∧ w'.ownsRow W.heap.size 9 1 v' (closed x.p.b).length (lrow (closed x.p.b)) ∧ Below W.heap.size W w') := Lib.hid fun W hW => closed_c (Q1.out.below hW) hxl.1 hzl.out.1
        have HTc : Hid (∀ W, Below w.heap.size w W → Calls Tryz.prog 113 #[x.t] W fun e w' => ∃ v', e = .returned v' ∧ w'.ownsRow W.heap.size 9 1 v' (closed x.p.t).length (lrow (closed x.p.t)) ∧ Below W.heap.size W w') := Lib.hid fun W hW => closed_c (Q3.out.below hW) hxl.2.2 hzl.out.2.2
        have lo := closed_len x.p.o
        have lb := closed_len x.p.b
        have lt := closed_len x.p.t
        clear T1 T2 HL HCL HE HC4 hk5 HKD Q1 Q2 Q3
        go_wp2_with (first
          | (go_at_call 113; refine (HO.out _ HOT.out.below).mono ?_; rintro e W6 ⟨cv, rfl, hc, hbc⟩; clear HO; have HOT := Lib.hid (HOT.out.grow hbc); have hT := Tl.of_own hc; clear hc hbc; have c1 := HOT.out.cell (j := 1) (u := x.b) rfl; have c2 := HOT.out.cell (j := 2) (u := x.o) rfl; have c3 := HOT.out.cell (j := 3) (u := x.t) rfl)
          | (go_at_call 113; refine (HBc.out _ HOT.out.below).mono ?_; rintro e W6 ⟨cv, rfl, hc, hbc⟩; clear HBc; have HOT := Lib.hid (HOT.out.grow hbc); have hT := Tl.of_own hc; clear hc hbc; have c1 := HOT.out.cell (j := 1) (u := x.b) rfl; have c2 := HOT.out.cell (j := 2) (u := x.o) rfl; have c3 := HOT.out.cell (j := 3) (u := x.t) rfl)
          | (go_at_call 113; refine (HTc.out _ HOT.out.below).mono ?_; rintro e W6 ⟨cv, rfl, hc, hbc⟩; clear HTc; have HOT := Lib.hid (HOT.out.grow hbc); have hT := Tl.of_own hc; clear hc hbc; have c1 := HOT.out.cell (j := 1) (u := x.b) rfl; have c2 := HOT.out.cell (j := 2) (u := x.o) rfl; have c3 := HOT.out.cell (j := 3) (u := x.t) rfl)
          | (at_builtin; refine HOT.out.app rfl _ _ rfl rfl rfl hT (by (try simp only [List.length_append, List.length_singleton]); omega) ?_; clear hT; intro v' w' hot; have HOT := Lib.hid hot; clear hot; have c1 := HOT.out.cell (j := 1) (u := x.b) rfl; have c2 := HOT.out.cell (j := 2) (u := x.o) rfl; have c3 := HOT.out.cell (j := 3) (u := x.t) rfl)
          | (at_builtin; refine HOT.out.app1 rfl _ _ rfl rfl rfl (by (try simp only [List.length_append, List.length_singleton]); omega) ?_; intro v' w' hot; have HOT := Lib.hid hot; clear hot; have c1 := HOT.out.cell (j := 1) (u := x.b) rfl; have c2 := HOT.out.cell (j := 2) (u := x.o) rfl; have c3 := HOT.out.cell (j := 3) (u := x.t) rfl))
        go_roundw
        case rel => exact ⟨k + 1, hk1, by go_num, ⟨false, rfl, HCC⟩, ⟨_, by show _ = _; rw [HEL.out]; simp only [← List.append_assoc]; rfl, HOT.out.own, fun b hb => (HOT.out.nw b hb).1⟩, HOT.out.below⟩
        case measure => simp [intOf]; omega
    · have d1 : decide ((k : Int) < (xs.length : Int)) = false := decide_eq_false (by omega)
      have d2 : decide (k < xs.length) = false := decide_eq_false hlt
      have HB := Lib.hid hb
      have HO := Lib.hid hown
      have e3 : (xs.map (·.p)).take k = xs.map (·.p) := List.take_of_length_le (by simp; omega)
      rw [e3] at HL HCL
      have HL2 := HL
      have HCL2 := HCL
      clear hown hb
      go_wp2_with fail
      go_ret2
      have g1 := HCL2.out
      have g2 := HL2.out
      subst g1 g2
      exact ⟨_, rfl, tl_own HO.out, HB.out⟩
end Go.Proofs.YtpcipdkoncmdcaaGreatDoor
