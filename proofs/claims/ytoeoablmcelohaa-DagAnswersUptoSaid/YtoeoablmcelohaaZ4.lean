/- Texts of mine, joined: Walks over the document's answer: a text more among texts in order. | Walks over the document's answer: a node more. | A result that lies in memory as a whole block; arrays of numbers as functions. Of every program. -/
import Derived.Sort.Walk0
import Derived.BigQuiet
import Derived.Deep.Cut
import Derived.Deep.CutRange
import Derived.Test.YtoeoablmcelohaaZ3
namespace Go.Proofs.Ytoeoablmcelohaa
open Go Go.RowKit
open DagS (Nd nm pars par ids Wf withS atS)
open Classical

/-- A row as a source of what is appended. -/
theorem src_ownG {P : Program} {tx e' : TypeId} (hk : P.underlying tx = some (.slice e')) {w : World} {e : TypeId} {size : Nat} {v : Value} {n : Nat} {xs : List Value} (h : OwnG w e size v n xs) (h1 : ∀ u ∈ xs, u.oneCell' = true) : Src P size tx v n xs w := by
  have hl := h.1
  rcases h.2 with ⟨rfl, rfl⟩ | ⟨g, o, cap, cur, rfl, hg, hn, hc, hs, ht⟩
  · rw [Nat.zero_mul] at hl
    obtain rfl := List.eq_nil_of_length_eq_zero hl
    exact Src.ofNil w hk 0
  · exact Src.ofSlice w hk _ n cap xs hl (fun j u hu => by rw [Addr.add_lit]; simp [World.cell?, hg, ht j u hu]) h1

/-- An empty slice of a new block. -/
theorem OwnG.empty (w : World) (e : TypeId) (size : Nat) : OwnG (w.alloc (.cells #[] e)) e size (.slice (some ⟨w.heap.size, 0, none⟩) 0 0) 0 [] :=
  ⟨by simp, .inr ⟨w.heap.size, 0, 0, #[], rfl, Array.getElem?_push_size, Nat.le_refl _, Nat.zero_le _, by simp, fun j u hu => by cases hu⟩⟩

theorem textElem : Elem Try.prog 32 9 (.string ByteArray.empty) 1 16 := ⟨by kernel_rfl, by kernel_rfl⟩
theorem less_iff (a b : ByteArray) : Op.bytesLess a.toList b.toList = decide (DagS.less a b) := by
  rw [bytesLess_eq, Lib.toList_data, Lib.toList_data]; exact decide_eq_decide.2 Iff.rfl
theorem trow_take (l : List ByteArray) (j : Nat) : (trow l).take (j * 1) = trow (l.take j) := by rw [Nat.mul_one]; exact List.map_take.symm
theorem trow_drop (l : List ByteArray) (j : Nat) : (trow l).drop (j * 1) = trow (l.drop j) := by rw [Nat.mul_one]; exact List.map_drop.symm

theorem withS_le (l : List ByteArray) (s : ByteArray) : (withS l s).length ≤ l.length + 1 := by
  unfold withS
  split
  · omega
  · have := DagS.atS_le l s l.length
    simp
    omega
theorem with_own {w : World} {v : Value} {l : List ByteArray} {s : ByteArray} {k : Nat} (hn : s ∉ l) (HK : atS l s l.length = k) (hk : k ≤ l.length)
    (h : OwnG w 9 1 v (0 + k + 1 + (l.length - k)) ([] ++ trow (l.take k) ++ [Value.string s] ++ trow (l.drop k))) : OwnG w 9 1 v (withS l s).length (trow (withS l s)) := by
  have e : withS l s = l.take k ++ [s] ++ l.drop k := by unfold withS; rw [if_neg hn, HK]
  have el : (withS l s).length = 0 + k + 1 + (l.length - k) := by rw [e]; simp; omega
  rw [el, e, trow_append, trow_append]
  exact h

theorem refc_below {w2 W w3 w4 : World} {o1 o2 : Obj} {v3 v4 : Value} (hbW : Below w2.heap.size w2 W) (hg3 : (W.alloc o1).grownBy w3 (some W.heap.size)) (hv3 : ∀ k, v3.ownBlock = some k → (some W.heap.size : Option Nat) = some k ∨ (W.alloc o1).heap.size ≤ k)
    (hg4 : (w3.alloc o2).grownBy w4 v3.ownBlock) (hv4 : ∀ k, v4.ownBlock = some k → v3.ownBlock = some k ∨ (w3.alloc o2).heap.size ≤ k) : Below w2.heap.size w2 w4 ∧ (∀ j, v4.ownBlock = some j → w2.heap.size ≤ j) := by
  have h1 : Below w2.heap.size w2 w3 := (hbW.alloc hbW.size _).grown hg3 (by have := hbW.size; simp; omega) (fun k e => by injection e with e; have := hbW.size; omega)
  have h2 : ∀ k, v3.ownBlock = some k → w2.heap.size ≤ k := fun k hk => by
    have := hbW.size
    rcases hv3 k hk with e | e
    · injection e with e; omega
    · simp at e; omega
  refine ⟨(h1.alloc h1.size _).grown hg4 (by have := h1.size; simp; omega) h2, fun k hk => ?_⟩
  rcases hv4 k hk with e | e
  · exact h2 k e
  · have := h1.size; simp at e; omega

set_option maxRecDepth 100000 in
set_option maxHeartbeats 2000000 in
theorem with_c {w : World} {v : Value} {l : List ByteArray} (h : OwnG w 9 1 v l.length (trow l)) (hl : l.length ≤ 10000000) (s : ByteArray) :
    Calls Try.prog 45 #[v, .string s] w fun e w' => ∃ v', e = .returned v' ∧ OwnG w' 9 1 v' (withS l s).length (trow (withS l s)) ∧ (∀ k, v'.ownBlock = some k → v.ownBlock = some k ∨ w.heap.size ≤ k) ∧ Below w.heap.size w w' := by
  obtain ⟨a, c, rfl, hcl, hcm, hs⟩ := h.form
  have HIN := Lib.hid (in_c (c := c) hs (by omega) s)
  obtain ⟨t, ht⟩ : ∃ t, decide (s ∈ l) = t := ⟨_, rfl⟩
  rw [ht] at HIN
  have HT := Lib.hid ht
  clear ht
  go_enter Try.func45, Try.ntmps45
  cases t with
  | true =>
    have HW : Hid (withS l s = l) := by show _ = _; unfold withS; exact if_pos (of_decide_eq_true HT.out)
    go_wp2_with (go_at_call 44; refine HIN.out.mono ?_; rintro e w' ⟨rfl, hw⟩; obtain rfl := hw.symm)
    go_ret
    rw [HW.out]
    exact ⟨_, rfl, h, fun k hk => .inl hk, Below.refl _ _⟩
  | false =>
    have HN : Hid (s ∉ l) := of_decide_eq_false HT.out
    go_upto_region 3 with (go_at_call 44; refine HIN.out.mono ?_; rintro e w' ⟨rfl, hw⟩; obtain rfl := hw.symm)
    clear HIN HT
    have HO := Lib.hid h
    clear h
    go_wp2_with fail
    go_loop [5] (fun iv => ∃ k : Nat, k ≤ l.length ∧ iv = .int .i64 k ∧ Hid (atS l s l.length = atS l s k)) (fun iv => (intOf iv).toNat)
    case atStart => exact ⟨_, Nat.le_refl _, rfl, Lib.hid rfl⟩
    case round =>
      obtain ⟨k, hk, rfl, HI⟩ := hrel
      have hat : ∀ m, atS l s (m + 1) = if DagS.less s (l.getD m ByteArray.empty) then atS l s m else m + 1 := fun m => rfl
      by_cases ht : 0 < k ∧ DagS.less s (l.getD (k - 1) ByteArray.empty)
      · obtain ⟨h1, h2⟩ := ht
        obtain ⟨m, hm⟩ : ∃ m, k = m + 1 := ⟨k - 1, by omega⟩
        have hml : m < l.length := by omega
        rw [hm, show m + 1 - 1 = m by omega] at h2
        have HK : Hid (atS l s l.length = atS l s m) := by show _ = _; rw [HI.out, hm, hat, if_pos h2]
        rw [List.getD_eq_getElem?_getD, List.getElem?_eq_getElem hml, Option.getD_some] at h2
        obtain ⟨b, o, rfl, hbl, hcel⟩ := hs.at (k := m) (by rw [trow_len]; omega)
        have r2 := hcel m (by rw [trow_len]; omega)
        rw [trow_at] at r2
        have hdm : decide ((k : Int) > 0) = true := decide_eq_true (by omega)
        have hdm2 : decide ((0 : Int) < (k : Int)) = true := decide_eq_true (by omega)
        have hwm : IntKind.i64.wrap ((k : Int) - 1) = (m : Int) := by rw [show (k : Int) - 1 = (m : Int) by omega]; exact IntWalk.i64_in _ (by omega)
        have hm0 : (0 : Int) ≤ m := by omega
        have hm1 : (m : Int) < l.length := by omega
        have hmk : m < k := by omega
        have hls : Op.bytesLess s.toList l[m].toList = true := by rw [less_iff]; exact decide_eq_true h2
        generalize l[m] = x at *
        clear h2 hat hcel hm HI
        go_wp2_with fail
        go_round
        case rel => exact ⟨m, by omega, rfl, HK⟩
        case measure => simp [intOf]; omega
      · have HK : Hid (atS l s l.length = k) := by
          show _ = _
          rw [HI.out]
          cases k with
          | zero => rfl
          | succ m =>
            rw [hat, if_neg]
            intro h2
            exact ht ⟨by omega, by rwa [show m + 1 - 1 = m by omega]⟩
        clear hat HI
        have hk0 : (0 : Int) ≤ (k : Int) := by omega
        have hkc : (k : Int) ≤ c := by omega
        have hkn : (k : Int) ≤ l.length := by omega
        have hkn' : (l.length : Int) ≤ c := by omega
        have hot := HO.out.take k c hk (by omega) (Nat.le_refl _)
        rw [trow_take] at hot
        have hmx : 0 + k ≤ maxLen := by rw [show maxLen = 9223372036854775807 from rfl]; omega
        have hby : (0 + k) * 16 ≤ 140737488355328 := by omega
        have hmx2 : 0 + k + 1 ≤ maxLen := by rw [show maxLen = 9223372036854775807 from rfl]; omega
        have hby2 : (0 + k + 1) * 16 ≤ 140737488355328 := by omega
        have hmx3 : 0 + k + 1 + (l.length - k) ≤ maxLen := by rw [show maxLen = 9223372036854775807 from rfl]; omega
        have hby3 : (0 + k + 1 + (l.length - k)) * 16 ≤ 140737488355328 := by omega
        have hs1 := src_ownG (P := Try.prog) (tx := 32) Try.underlying32 (hot.alloc (.cells #[] 9)) (trow_one _)
        have HA1 : Hid (∀ w4 : World, Below w.heap.size w w4 → c = k → Src Try.prog 1 32 (.slice a 0 0) (l.length - k) (trow (l.drop k)) w4) := fun w4 hb e => by
          have := (HO.out.below hb).rest1 k hk e
          rw [trow_drop, show Value.slice a (l.length - k) 0 = Value.slice a 0 0 by rw [show l.length - k = 0 by omega]] at this
          exact src_ownG Try.underlying32 this (trow_one _)
        have HA2 : Hid (∀ w4 : World, Below w.heap.size w w4 → Src Try.prog 1 32 (.slice (Option.map (fun x => x.add (k * 1)) a) (l.length - k) (c - k)) (l.length - k) (trow (l.drop k)) w4) := fun w4 hb => by
          have := (HO.out.below hb).rest2 k hk
          rw [trow_drop] at this
          exact src_ownG Try.underlying32 this (trow_one _)
        have HA3 : Hid (∀ w4 : World, Below w.heap.size w w4 → Src Try.prog 1 32 (.slice (Option.map (fun x => x.add k) a) (l.length - k) (c - k)) (l.length - k) (trow (l.drop k)) w4) := fun w4 hb => by
          have := HA2.out w4 hb
          rwa [Nat.mul_one] at this
        have hbW := Below.refl w.heap.size w
        clear hot
        have hdd : (decide ((k : Int) > 0) = false ∧ decide ((0 : Int) < (k : Int)) = false ∧ k = 0) ∨ ∃ m x b o, k = m + 1 ∧ a = some ⟨b, o, none⟩ ∧ decide ((k : Int) > 0) = true ∧ decide ((0 : Int) < (k : Int)) = true ∧ w.cell? ⟨b, o + m, none⟩ = some (.string x) ∧ Op.bytesLess s.toList x.toList = false ∧ IntKind.i64.wrap ((k : Int) - 1) = (m : Int) := by
          cases k with
          | zero => exact .inl ⟨decide_eq_false (by omega), decide_eq_false (by omega), rfl⟩
          | succ m =>
            have hml : m < l.length := by omega
            obtain ⟨b, o, e, hbl, hcel⟩ := hs.at (k := m) (by rw [trow_len]; omega)
            have r2 := hcel m (by rw [trow_len]; omega)
            rw [trow_at] at r2
            refine .inr ⟨m, l[m], b, o, rfl, e, decide_eq_true (by omega), decide_eq_true (by omega), r2, ?_, ?_⟩
            · rw [less_iff]
              refine decide_eq_false fun h2 => ht ⟨by omega, ?_⟩
              rw [show m + 1 - 1 = m by omega, List.getD_eq_getElem?_getD, List.getElem?_eq_getElem hml, Option.getD_some]
              exact h2
            · rw [show ((m + 1 : Nat) : Int) - 1 = (m : Int) by omega]; exact IntWalk.i64_in _ (by omega)
        clear hs ht
        have hmm : ∀ m : Nat, k = m + 1 → (0 : Int) ≤ m ∧ (m : Int) < l.length := fun m h => by omega
        rcases hdd with ⟨h1, h2, hkz⟩ | ⟨m, x, b, o, hkm, ha, h1, h2, r2, hls, hwm⟩
        · have h3 : ¬ ((0 : Int) < (k : Int)) := by omega
          have h4 : ¬ (0 < k) := by omega
          clear hkz hmm
          go_upto_region 6 with fail
          rcases Decidable.em (c = k) with hck | hck
          · subst hck
            have HA4 := Lib.hid (fun w4 hb => HA1.out w4 hb rfl)
            clear HA1
            go_wp2_with (first
              | (at_builtin; refine wp_appG rfl _ _ _ _ rfl textElem rfl rfl (OwnG.empty _ _ _) rfl hs1 hmx hby ?_; intro v3 w3 ho3 hg3 hv3)
              | (at_builtin; refine wp_appG rfl _ _ _ _ rfl textElem rfl rfl (ho3.alloc _) rfl (Src.ofNew (P := Try.prog) (w := w3) (tx := 32) (e := 9) Try.underlying32 (show [Value.string s].length = 1 from rfl) (by intro u hu; simp at hu; subst hu; rfl)) hmx2 hby2 ?_; intro v4 w4 ho4 hg4 hv4; obtain ⟨hb24, hv24⟩ := refc_below hbW hg3 hv3 hg4 hv4)
              | (at_builtin; (refine wp_appG rfl _ _ _ _ rfl textElem rfl rfl ho4 rfl (by first | exact HA2.out w4 hb24 | exact HA3.out w4 hb24 | exact HA4.out w4 hb24) hmx3 hby3 ?_); intro v5 w5 ho5 hg5 hv5))
            go_ret
            refine ⟨_, rfl, with_own HN.out HK.out hk ho5, fun q hq => ?_, hb24.grown hg5 hb24.size hv24⟩
            right
            rcases hv5 q hq with e | e
            · exact hv24 q e
            · have := hb24.size
              omega
          · have hck := Lib.hid hck
            go_wp2_with (first
              | (at_builtin; refine wp_appG rfl _ _ _ _ rfl textElem rfl rfl (OwnG.empty _ _ _) rfl hs1 hmx hby ?_; intro v3 w3 ho3 hg3 hv3)
              | (at_builtin; refine wp_appG rfl _ _ _ _ rfl textElem rfl rfl (ho3.alloc _) rfl (Src.ofNew (P := Try.prog) (w := w3) (tx := 32) (e := 9) Try.underlying32 (show [Value.string s].length = 1 from rfl) (by intro u hu; simp at hu; subst hu; rfl)) hmx2 hby2 ?_; intro v4 w4 ho4 hg4 hv4; obtain ⟨hb24, hv24⟩ := refc_below hbW hg3 hv3 hg4 hv4)
              | (at_builtin; (refine wp_appG rfl _ _ _ _ rfl textElem rfl rfl ho4 rfl (by first | exact HA2.out w4 hb24 | exact HA3.out w4 hb24 | exact HA4.out w4 hb24) hmx3 hby3 ?_); intro v5 w5 ho5 hg5 hv5))
            go_ret
            refine ⟨_, rfl, with_own HN.out HK.out hk ho5, fun q hq => ?_, hb24.grown hg5 hb24.size hv24⟩
            right
            rcases hv5 q hq with e | e
            · exact hv24 q e
            · have := hb24.size
              omega
        · have h3 : (0 : Int) < (k : Int) := by omega
          have h4 : 0 < k := by omega
          obtain ⟨hm0, hm1⟩ := hmm m hkm
          subst ha
          clear hkm hmm
          go_upto_region 6 with fail
          clear r2 hls hwm
          generalize (some ⟨b, o, none⟩ : Option Addr) = a at *
          rcases Decidable.em (c = k) with hck | hck
          · subst hck
            have HA4 := Lib.hid (fun w4 hb => HA1.out w4 hb rfl)
            clear HA1
            go_wp2_with (first
              | (at_builtin; refine wp_appG rfl _ _ _ _ rfl textElem rfl rfl (OwnG.empty _ _ _) rfl hs1 hmx hby ?_; intro v3 w3 ho3 hg3 hv3)
              | (at_builtin; refine wp_appG rfl _ _ _ _ rfl textElem rfl rfl (ho3.alloc _) rfl (Src.ofNew (P := Try.prog) (w := w3) (tx := 32) (e := 9) Try.underlying32 (show [Value.string s].length = 1 from rfl) (by intro u hu; simp at hu; subst hu; rfl)) hmx2 hby2 ?_; intro v4 w4 ho4 hg4 hv4; obtain ⟨hb24, hv24⟩ := refc_below hbW hg3 hv3 hg4 hv4)
              | (at_builtin; (refine wp_appG rfl _ _ _ _ rfl textElem rfl rfl ho4 rfl (by first | exact HA2.out w4 hb24 | exact HA3.out w4 hb24 | exact HA4.out w4 hb24) hmx3 hby3 ?_); intro v5 w5 ho5 hg5 hv5))
            go_ret
            refine ⟨_, rfl, with_own HN.out HK.out hk ho5, fun q hq => ?_, hb24.grown hg5 hb24.size hv24⟩
            right
            rcases hv5 q hq with e | e
            · exact hv24 q e
            · have := hb24.size
              omega
          · have hck := Lib.hid hck
            go_wp2_with (first
              | (at_builtin; refine wp_appG rfl _ _ _ _ rfl textElem rfl rfl (OwnG.empty _ _ _) rfl hs1 hmx hby ?_; intro v3 w3 ho3 hg3 hv3)
              | (at_builtin; refine wp_appG rfl _ _ _ _ rfl textElem rfl rfl (ho3.alloc _) rfl (Src.ofNew (P := Try.prog) (w := w3) (tx := 32) (e := 9) Try.underlying32 (show [Value.string s].length = 1 from rfl) (by intro u hu; simp at hu; subst hu; rfl)) hmx2 hby2 ?_; intro v4 w4 ho4 hg4 hv4; obtain ⟨hb24, hv24⟩ := refc_below hbW hg3 hv3 hg4 hv4)
              | (at_builtin; (refine wp_appG rfl _ _ _ _ rfl textElem rfl rfl ho4 rfl (by first | exact HA2.out w4 hb24 | exact HA3.out w4 hb24 | exact HA4.out w4 hb24) hmx3 hby3 ?_); intro v5 w5 ho5 hg5 hv5))
            go_ret
            refine ⟨_, rfl, with_own HN.out HK.out hk ho5, fun q hq => ?_, hb24.grown hg5 hb24.size hv24⟩
            right
            rcases hv5 q hq with e | e
            · exact hv24 q e
            · have := hb24.size
              omega
end Go.Proofs.Ytoeoablmcelohaa
namespace Go.Proofs.Ytoeoablmcelohaa
open Go Go.RowKit
open DagS (Nd nm pars par ids Wf withS withA)
open Classical

/-- v is the document's graph g, in a row of its own. -/
def GV (w : World) (v : Value) (g : List Nd) : Prop :=
  ∃ ps : List (Option Addr × Nat), ps.length = g.length ∧ OwnG w 36 2 v g.length (gcells g ps) ∧ ∀ (i : Nat) (hi : i < g.length) (hi' : i < ps.length), Sl w ps[i].1 (trow g[i].pars)
theorem GV.nil (w : World) : GV w (.slice none 0 0) [] := ⟨[], rfl, OwnG.nil _ _ _, fun _ h => (nomatch h)⟩
theorem GV.below {w w' : World} {v : Value} {g : List Nd} (h : GV w v g) (hb : Below w.heap.size w w') : GV w' v g := by
  obtain ⟨ps, h1, h2, h3⟩ := h
  exact ⟨ps, h1, h2.below hb, fun i hi hi' => (h3 i hi hi').below hb⟩
theorem GV.form {w : World} {v : Value} {g : List Nd} (h : GV w v g) : ∃ a c, v = .slice a g.length c ∧ GR w a g := by
  obtain ⟨ps, h1, h2, h3⟩ := h
  obtain ⟨a, c, e, -, -, hs⟩ := h2.form
  exact ⟨a, c, e, ps, h1, hs, h3⟩

theorem nodeElem : Elem Try.prog 26 36 (.agg #[.string ByteArray.empty, .slice none 0 0]) 2 40 := ⟨by kernel_rfl, by kernel_rfl⟩
theorem gcells_one : ∀ (g : List Nd) (ps : List (Option Addr × Nat)), ∀ u ∈ gcells g ps, u.oneCell' = true
  | [], _, u, h => by cases h
  | _ :: _, [], u, h => by cases h
  | x :: g, p :: ps, u, h => by
    rw [gcells, List.mem_cons, List.mem_cons] at h
    rcases h with rfl | rfl | h
    · rfl
    · rfl
    · exact gcells_one g ps u h
theorem withA_len (out : List ByteArray) : ∀ l : List ByteArray, (withA out l).length ≤ out.length + l.length := by
  intro l
  induction l generalizing out with
  | nil => exact Nat.le_refl _
  | cons s l ih =>
    have h1 : (withA out (s :: l)).length ≤ _ := ih (withS out s)
    have h2 := withS_le out s
    rw [List.length_cons]
    omega
theorem withA_snoc (out l : List ByteArray) (s : ByteArray) : withA out (l ++ [s]) = withS (withA out l) s := by
  unfold withA; rw [List.foldl_append]; rfl
theorem nix_neg {o : Option Nat} : nix o < 0 ↔ o = none := by
  cases o with
  | none => exact ⟨fun _ => rfl, fun _ => by show (-1 : Int) < 0; omega⟩
  | some k => exact ⟨fun h => by have : (k : Int) < 0 := h; omega, fun h => nomatch h⟩

/-- What Add tells. -/
def RAddP (w : World) (g : List Nd) (s : ByteArray) (l : List ByteArray) (e : Ending) (w' : World) : Prop :=
  ∃ v', e = .returned (.tuple #[v', .int .i64 (DagS.add g s l).2]) ∧ GV w' v' (DagS.add g s l).1 ∧ Below w.heap.size w w'

set_option maxRecDepth 100000 in
set_option maxHeartbeats 1000000 in
theorem radd_c {w : World} {v : Value} {g : List Nd} (h : GV w v g) (hl : g.length ≤ 1000) (s : ByteArray) {pa : Option Addr} {pc : Nat} {l : List ByteArray} (hp : Sl w pa (trow l)) (hpl : l.length ≤ 9000000) :
    Calls Try.prog 27 #[v, .string s, .slice pa l.length pc] w (RAddP w g s l) := by
  obtain ⟨a, c, rfl, hr⟩ := h.form
  have HV := Lib.hid h
  have HR := Lib.hid hr
  have HF := Lib.hid (find_c (c := c) hr (by omega) s)
  clear h hr
  go_enter Try.func27, Try.ntmps27
  by_cases h1 : DagS.find g s = none
  case neg =>
    have HA : Hid (DagS.add g s l = (g, 5)) := by
      show _ = _
      unfold DagS.add
      rw [if_pos]
      cases e : DagS.find g s with
      | none => exact absurd e h1
      | some k => rfl
    have hd : decide (nix (DagS.find g s) ≥ 0) = true := decide_eq_true (by have := mt nix_neg.1 h1; omega)
    have hd' : decide (0 ≤ nix (DagS.find g s)) = true := hd
    generalize nix (DagS.find g s) = z at *
    clear h1
    go_wp2_with (go_at_call 11; refine HF.out.mono ?_; rintro e w' ⟨rfl, hw⟩; obtain rfl := hw.symm)
    refine bodyPost_ret (results_tmp2 rfl _ _ _) rfl ?_
    unfold RAddP
    rw [HA.out]
    exact ⟨_, rfl, HV.out, Below.refl _ _⟩
  case pos =>
    have hd : decide (nix (DagS.find g s) ≥ 0) = false := decide_eq_false (by have := nix_neg.2 h1; omega)
    have hd' : decide (0 ≤ nix (DagS.find g s)) = false := hd
    have H1 := Lib.hid h1
    generalize nix (DagS.find g s) = z at *
    clear h1
    go_upto_region 3 with (go_at_call 11; refine HF.out.mono ?_; rintro e w' ⟨rfl, hw⟩; obtain rfl := hw.symm)
    clear hd hd' HF
    go_wp2_with fail
    go_loopw [8, 9] (fun lv iv wx => ∃ j : Nat, j ≤ l.length ∧ iv = .int .i64 j ∧ Below w.heap.size w wx ∧ OwnG wx 9 1 lv (withA [] (l.take j)).length (trow (withA [] (l.take j))) ∧ ∀ p ∈ l.take j, DagS.find g p ≠ none) (fun _ iv _ => (l.length - intOf iv).toNat)
    case atStart => exact ⟨0, Nat.zero_le _, rfl, Below.refl _ _, OwnG.nil _ _ _, fun p hp => (nomatch hp)⟩
    case round =>
      obtain ⟨j, hj, rfl, hb, ho, hall⟩ := hrel
      have HALL := Lib.hid hall
      have HB := Lib.hid hb
      have HO := Lib.hid ho
      obtain ⟨la, lc, rfl, -, -, hls⟩ := ho.form
      have hwl := withA_len [] (l.take j)
      rw [List.length_take] at hwl
      have HLS := Lib.hid hls
      clear hall hb ho hls
      by_cases hjl : j < l.length
      · have hd : decide ((j : Int) < (l.length : Int)) = true := decide_eq_true (by omega)
        obtain ⟨b, o, rfl, hbl, hcel⟩ := hp.at (k := j) (by rw [trow_len]; exact hjl)
        have q0 := (HB.out.cell (p := ⟨b, o + j, none⟩) hbl).trans (hcel j (by rw [trow_len]; exact hjl))
        rw [trow_at] at q0
        have hmem := List.getElem_mem hjl
        have htk : l.take (j + 1) = l.take j ++ [l[j]] := by rw [List.take_add_one, List.getElem?_eq_getElem hjl]; rfl
        have HTK := Lib.hid htk
        have HM := Lib.hid hmem
        clear hcel htk hmem
        generalize l[j] = x at *
        have hw : IntKind.i64.wrap ((j : Int) + 1) = ((j + 1 : Nat) : Int) := IntWalk.i64_in _ (by omega)
        have hji : (j : Int) < l.length := by omega
        have hj0 : (0 : Int) ≤ j := by omega
        have HF := Lib.hid (find_c (c := c) (HR.out.below HB.out) (by omega) x)
        by_cases hx : DagS.find g x = none
        · have HA : Hid (DagS.add g s l = (g, 4)) := by
            show _ = _
            unfold DagS.add
            rw [H1.out, if_neg (by simp), if_pos ⟨x, HM.out, hx⟩]
          have hd2 : decide (nix (DagS.find g x) < 0) = true := decide_eq_true (nix_neg.2 hx)
          generalize nix (DagS.find g x) = z at *
          clear hx
          go_wp2_with (go_at_call 11; refine HF.out.mono ?_; rintro e w' ⟨rfl, hw⟩; obtain rfl := hw.symm)
          refine bodyPost_ret (results_tmp2 rfl _ _ _) rfl ?_
          unfold RAddP
          rw [HA.out]
          exact ⟨_, rfl, HV.out.below HB.out, HB.out⟩
        · have hd2 : decide (nix (DagS.find g x) < 0) = false := decide_eq_false (mt nix_neg.1 hx)
          have HX := Lib.hid hx
          generalize nix (DagS.find g x) = z at *
          clear hx
          have HW := Lib.hid (with_c HO.out (by have : ([] : List ByteArray).length = 0 := rfl; omega) x)
          go_wp2_with (first
            | (go_at_call 11; refine HF.out.mono ?_; rintro e w' ⟨rfl, hw⟩; obtain rfl := hw.symm)
            | (go_at_call 45; refine HW.out.mono ?_; rintro e w2 ⟨v2, rfl, ho2, -, hb2⟩))
          go_roundw
          case rel =>
            refine ⟨j + 1, by omega, by first | rfl | go_num, HB.out.trans (hb2.mono HB.out.size), ?_, fun p hp => ?_⟩
            · rw [HTK.out, withA_snoc]; exact ho2
            · rw [HTK.out] at hp
              rcases List.mem_append.1 hp with hp | hp
              · exact HALL.out p hp
              · rw [List.mem_singleton] at hp; subst hp; exact HX.out
          case measure => simp [intOf]; omega
      · obtain rfl : j = l.length := by omega
        have hd : decide ((l.length : Int) < (l.length : Int)) = false := decide_eq_false (by omega)
        have HA : Hid (DagS.add g s l = (g ++ [⟨s, withA [] l⟩], 0)) := by
          show _ = _
          unfold DagS.add
          rw [H1.out, if_neg (by simp), if_neg (fun ⟨p, h3, h4⟩ => HALL.out p (by rw [List.take_length]; exact h3) h4), if_neg (by omega)]
        have hd3 : decide ((g.length : Int) ≥ 65536) = false := decide_eq_false (by omega)
        have hd3' : decide ((65536 : Int) ≤ (g.length : Int)) = false := decide_eq_false (by omega)
        rw [List.take_length] at HLS hwl
        obtain ⟨ps, hpl1, hog, hpar⟩ := HV.out.below HB.out
        have HPAR := Lib.hid hpar
        have HPL := Lib.hid hpl1
        have hgl : 0 + g.length ≤ maxLen := by rw [show maxLen = 9223372036854775807 from rfl]; omega
        have hgb : (0 + g.length) * 40 ≤ 140737488355328 := by omega
        have hgl2 : 0 + g.length + 1 ≤ maxLen := by rw [show maxLen = 9223372036854775807 from rfl]; omega
        have hgb2 : (0 + g.length + 1) * 40 ≤ 140737488355328 := by omega
        have hs1 := src_ownG (P := Try.prog) (tx := 26) Try.underlying26 (hog.alloc (.cells #[] 36)) (gcells_one _ _)
        generalize hW : withA [] (l.take l.length) = W at *
        rw [List.take_length] at hW
        have HWW := Lib.hid hW
        clear hpar hog hW hpl1 HO
        go_wp2_with (first
          | (at_builtin; refine wp_appG rfl _ _ _ _ rfl nodeElem rfl rfl (OwnG.empty _ _ _) rfl hs1 hgl hgb ?_; intro v3 w3 ho3 hg3 hv3)
          | (at_builtin; refine wp_appG rfl _ _ _ _ rfl nodeElem rfl rfl (ho3.alloc _) rfl (Src.ofNew (P := Try.prog) (w := w3) (tx := 26) (e := 36) Try.underlying26 (show [Value.string s, .slice la W.length lc].length = 2 from rfl) (by intro u hu; simp at hu; rcases hu with rfl | rfl <;> rfl)) hgl2 hgb2 ?_; intro v4 w4 ho4 hg4 hv4))
        obtain ⟨hb24, -⟩ := refc_below (Below.refl _ wr) hg3 hv3 hg4 hv4
        refine bodyPost_ret (results_tmp2 rfl _ _ _) rfl ?_
        unfold RAddP
        rw [HA.out]
        refine ⟨_, rfl, ⟨ps ++ [(la, lc)], by simp [HPL.out], ?_, fun i hi hi' => ?_⟩, HB.out.trans (hb24.mono HB.out.size)⟩
        · rw [gcells_append _ _ _ _ HPL.out, List.length_append, List.length_singleton]
          rw [← HWW.out] at ho4
          have : 0 + g.length + 1 = g.length + 1 := by omega
          rw [this] at ho4
          exact ho4
        · by_cases hig : i < g.length
          · have := (HPAR.out i hig (by rw [HPL.out]; exact hig)).below hb24
            rw [List.getElem_append_left (by rw [HPL.out]; exact hig), List.getElem_append_left hig]
            exact this
          · have : i = g.length := by simp at hi; omega
            subst this
            rw [List.getElem_append_right (by rw [HPL.out]; omega), List.getElem_append_right (by omega)]
            simp only [HPL.out, Nat.sub_self, List.getElem_cons_zero]
            exact HLS.out.below hb24
end Go.Proofs.Ytoeoablmcelohaa
namespace Go.Proofs.Ytoeoablmcelohaa
open Go Go.RowKit

section
variable {P : Program} {w w' : World}

/-- A function's result is a whole block. -/
theorem results_cell {fn : Func} {t : Tmp} {ty : TypeId} (h : fn.results = #[.cell t ty]) {tmps : Array Value} {b : Nat} (ht : tmps.getD t undef = .pointer (some ⟨b, 0, none⟩)) {cs : Array Value} {e : TypeId} {fr : Nat × Nat} (hb : w.heap[b]? = some (.cells cs e fr)) {d : TypeDesc}
    (hu : P.underlying ty = some d) (hd : d.isRow = true) (hi : (P.info? ty).map (·.size) = some cs.toList.length) : (results fn tmps).run P w = .ok (.agg cs) w := by
  have hl := run_loadVar_mid (P := P) w b 0 ty cs.toList d (fun j v hj => by
    rw [Nat.zero_add]; simp only [World.cell?, hb]; rw [← Array.getElem?_toList]; exact hj) hu hd hi
  have ht' : tmps[t]?.getD undef = .pointer (some ⟨b, 0, none⟩) := by rw [← ht]; simp [Array.getD_eq_getD_getElem?]
  simp [results, h, ht', asAddr]
  exact hl

/-- 'x[i]' of an array by value, of one-cell elements. -/
theorem run_index_agg {t e : TypeId} {n : Nat} (h : P.underlying t = some (.array n e)) (hs : (P.info? e).map (·.size) = some 1) (ha : ∀ w : World, (isAgg e).run P w = .ok false w) {cs : Array Value} {k : IntKind} {i : Nat} (hi : i < n) {v : Value} (hv : cs[i]? = some v) (w : World) : (Instr.index t (.agg cs) (.int k i)).run P w = .ok v w := by
  obtain ⟨info, hq, h1⟩ := Option.map_eq_some_iff.1 hs
  simp [Instr.index, run_underlying h, asIntOf, hi, part, sizeOf, typeInfo, hq, h1, hv, ha]

theorem set_blk {w : World} {p : Nat} {cs : Array Value} {e : TypeId} {fr : Nat × Nat} (h : w.heap[p]? = some (.cells cs e fr)) (j : Nat) (v : Value) :
    (w.setCell ⟨p, j, none⟩ v).heap[p]? = some (.cells (cs.setIfInBounds j v) e fr) ∧ w.grownBy (w.setCell ⟨p, j, none⟩ v) (some p) := by
  refine ⟨by simp [World.setCell, Array.getElem?_modify, h], rfl, rfl, rfl, by simp [World.setCell], fun k hk hne => ?_⟩
  simp only [World.setCell]
  rw [Array.getElem?_modify, if_neg (fun e1 => hne (by rw [e1]))]

/-- An array of numbers: the i-th one is f i. -/
structure ArrF (w : World) (b : Nat) (e : TypeId) (k : IntKind) (n : Nat) (cs : Array Value) (f : Nat → Nat) : Prop where
  h : w.heap[b]? = some (.cells cs e (0, 0))
  sz : cs.size = n
  at_ : ∀ i, i < n → cs[i]? = some (.int k (f i))

theorem ArrF.lt {b : Nat} {e : TypeId} {k : IntKind} {n : Nat} {cs : Array Value} {f : Nat → Nat} (h : ArrF w b e k n cs f) : b < w.heap.size := (Array.getElem?_eq_some_iff.1 h.h).1
theorem ArrF.c {b : Nat} {e : TypeId} {k : IntKind} {n : Nat} {cs : Array Value} {f : Nat → Nat} (h : ArrF w b e k n cs f) (i : Nat) (hi : i < n) : w.cell? ⟨b, i, none⟩ = some (.int k (f i)) := by
  simp only [World.cell?, h.h]; exact h.at_ i hi
theorem ArrF.fz {b : Nat} {e : TypeId} {k : IntKind} {n : Nat} {cs : Array Value} {f : Nat → Nat} (h : ArrF w b e k n cs f) (i : Nat) : w.frozen? ⟨b, i, none⟩ = false := by simp [World.frozen?, h.h]
theorem ArrF.one {b : Nat} {e : TypeId} {k : IntKind} {n : Nat} {cs : Array Value} {f : Nat → Nat} (h : ArrF w b e k n cs f) : cs.all (·.oneCell') = true := by
  rw [Array.all_eq_true]
  intro i hi
  have := h.at_ i (by rw [← h.sz]; exact hi)
  rw [Array.getElem?_eq_getElem hi] at this
  injection this with this
  rw [this]; rfl
theorem ArrF.block {b : Nat} {e : TypeId} {k : IntKind} {n : Nat} {cs : Array Value} {f : Nat → Nat} (h : ArrF w b e k n cs f) (hb : w'.heap[b]? = w.heap[b]?) : ArrF w' b e k n cs f := ⟨hb.trans h.h, h.sz, h.at_⟩
theorem ArrF.below {b : Nat} {e : TypeId} {k : IntKind} {n : Nat} {cs : Array Value} {f : Nat → Nat} (h : ArrF w b e k n cs f) (hb : Below w.heap.size w w') : ArrF w' b e k n cs f := h.block (hb.block b h.lt)
theorem ArrF.kept {b : Nat} {e : TypeId} {k : IntKind} {n : Nat} {cs : Array Value} {f : Nat → Nat} {row : Option Nat} (h : ArrF w b e k n cs f) (hg : w.grownBy w' row) (hne : some b ≠ row) : ArrF w' b e k n cs f := h.block (hg.block b h.lt hne)
theorem ArrF.congr {b : Nat} {e : TypeId} {k : IntKind} {n : Nat} {cs : Array Value} {f g : Nat → Nat} (h : ArrF w b e k n cs f) (hfg : ∀ i, i < n → f i = g i) : ArrF w b e k n cs g := ⟨h.h, h.sz, fun i hi => by rw [← hfg i hi]; exact h.at_ i hi⟩
theorem ArrF.set {b : Nat} {e : TypeId} {k : IntKind} {n : Nat} {cs : Array Value} {f : Nat → Nat} (h : ArrF w b e k n cs f) (j : Nat) (v : Nat) :
    ArrF (w.setCell ⟨b, j, none⟩ (.int k v)) b e k n (cs.setIfInBounds j (.int k v)) (fun i => if i = j then v else f i) ∧ w.grownBy (w.setCell ⟨b, j, none⟩ (.int k v)) (some b) := by
  obtain ⟨s, g⟩ := set_blk h.h j (.int k v)
  refine ⟨⟨s, by simp [h.sz], fun i hi => ?_⟩, g⟩
  rw [Array.getElem?_setIfInBounds]
  by_cases hij : j = i
  · subst hij
    rw [if_pos rfl, if_pos (by rw [h.sz]; exact hi)]
    simp only [if_pos]
  · rw [if_neg hij]
    simp only [if_neg (fun e => hij e.symm : ¬ i = j)]
    exact h.at_ i hi
end
end Go.Proofs.Ytoeoablmcelohaa
