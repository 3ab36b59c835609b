/- Texts of mine, joined: Walks over the document's answer: names behind a change. -/
import Derived.Sort.Walk0
import Derived.BigQuiet
import Derived.Test.YtfoamcobpfflbaaDoorZ27
namespace Go.Proofs.YtfoamcobpfflbaaDoor
open Go Go.RowKit
open VfsS (File Chg Nm St find doL)

/-- A row as a source of what is appended. -/
theorem src_ownG {P : Program} {tx e' : TypeId} (hk : P.underlying tx = some (.slice e')) {w : World} {e : TypeId} {size : Nat} {v : Value} {n : Nat} {xs : List Value} (h : OwnG w e size v n xs) (h1 : ∀ u ∈ xs, u.oneCell' = true) : Src P size tx v n xs w := by
  have hl := h.1
  rcases h.2 with ⟨rfl, rfl⟩ | ⟨g, o, cap, cur, rfl, hg, hn, hc, hs, ht⟩
  · rw [Nat.zero_mul] at hl
    obtain rfl := List.eq_nil_of_length_eq_zero hl
    exact Src.ofNil w hk 0
  · exact Src.ofSlice w hk _ n cap xs hl (fun j u hu => by rw [Addr.add_lit]; simp [World.cell?, hg, ht j u hu]) h1

theorem one_names (l : Nm) : ∀ u ∈ nrow l, u.oneCell' = true := fun u hu => by
  obtain ⟨p, _, hp⟩ := List.mem_flatMap.1 hu
  simp at hp
  rcases hp with rfl | rfl <;> rfl

/-- An empty slice of a new block. -/
theorem OwnG.empty (w : World) (e : TypeId) (size : Nat) : OwnG (w.alloc (.cells #[] e)) e size (.slice (some ⟨w.heap.size, 0, none⟩) 0 0) 0 [] :=
  ⟨by simp, .inr ⟨w.heap.size, 0, 0, #[], rfl, Array.getElem?_push_size, Nat.le_refl _, Nat.zero_le _, by simp, fun j u hu => by cases hu⟩⟩

theorem insAt_le (l : Nm) (s : ByteArray) : ∀ k, VfsS.insAt l s k ≤ k
  | 0 => Nat.le_refl _
  | k + 1 => by
    unfold VfsS.insAt
    split
    · exact Nat.le_succ_of_le (insAt_le l s k)
    · exact Nat.le_refl _

theorem less_iff (a b : ByteArray) : Op.bytesLess a.toList b.toList = decide (VfsS.less a b) := by
  rw [bytesLess_eq, Lib.toList_data, Lib.toList_data]; rfl

theorem ins_le (l : Nm) (s : ByteArray) (i : Nat) : (VfsS.ins l s i).length = l.length + 1 := by
  have := insAt_le l s l.length
  unfold VfsS.ins; simp; omega

/-- The file of a change as the document writes it. -/
def fileI : Option Nat → Int
  | none => -1
  | some i => i

theorem ins_own {w : World} {v : Value} {l : Nm} {s : ByteArray} {i k : Nat} (HK : VfsS.insAt l s l.length = k) (hk : k ≤ l.length)
    (h : OwnG w 152 2 v (0 + k + 1 + (l.length - k)) ([] ++ nrow (l.take k) ++ [Value.string s, Value.int .i64 (i : Int)] ++ nrow (l.drop k))) : OwnG w 152 2 v (VfsS.ins l s i).length (nrow (VfsS.ins l s i)) := by
  rw [ins_le, show nrow (VfsS.ins l s i) = [] ++ nrow (l.take k) ++ [Value.string s, Value.int .i64 (i : Int)] ++ nrow (l.drop k) by unfold VfsS.ins; rw [HK, nrow_append, nrow_append]; rfl, show l.length + 1 = 0 + k + 1 + (l.length - k) by omega]
  exact h

theorem refc_below {w2 W w3 w4 : World} {o1 o2 : Obj} {v3 v4 : Value} (hbW : Below w2.heap.size w2 W) (hg3 : (W.alloc o1).grownBy w3 (some W.heap.size)) (hv3 : ∀ k, v3.ownBlock = some k → (some W.heap.size : Option Nat) = some k ∨ (W.alloc o1).heap.size ≤ k)
    (hg4 : (w3.alloc o2).grownBy w4 v3.ownBlock) (hv4 : ∀ k, v4.ownBlock = some k → v3.ownBlock = some k ∨ (w3.alloc o2).heap.size ≤ k) : Below w2.heap.size w2 w4 ∧ (∀ j, v4.ownBlock = some j → w2.heap.size ≤ j) := by
  have h1 : Below w2.heap.size w2 w3 := (hbW.alloc hbW.size _).grown hg3 (by have := hbW.size; simp; omega) (fun k e => by injection e with e; have := hbW.size; omega)
  have h2 : ∀ k, v3.ownBlock = some k → w2.heap.size ≤ k := fun k hk => by
    have := hbW.size
    rcases hv3 k hk with e | e
    · injection e with e; omega
    · simp at e; omega
  refine ⟨(h1.alloc h1.size _).grown hg4 (by have := h1.size; simp; omega) h2, fun k hk => ?_⟩
  rcases hv4 k hk with e | e
  · exact h2 k e
  · have := h1.size; simp at e; omega

set_option maxRecDepth 100000 in
set_option maxHeartbeats 2000000 in
theorem rdo_c {w : World} {v : Value} {l : Nm} (h : OwnG w 152 2 v l.length (nrow l)) (hl : l.length ≤ 90000000) (ch : Chg) (hi : ∀ i, ch.file = some i → i ≤ 100000000) :
    Calls Tryd.prog 87 #[v, .agg #[.string ch.src, .string ch.dst, .int .i64 (fileI ch.file)]] w fun e w' => ∃ v', e = .returned v' ∧ OwnG w' 152 2 v' (doL l ch).length (nrow (doL l ch)) ∧ (∀ k, v'.ownBlock = some k → v.ownBlock = some k ∨ w.heap.size ≤ k) ∧ Below w.heap.size w w' := by
  obtain ⟨src, dst, file⟩ := ch
  have hcell : (w.alloc (.cells #[.string src, .string dst, .int .i64 (fileI file)] 122)).heap[w.heap.size]? = some (.cells #[.string src, .string dst, .int .i64 (fileI file)] 122 (0, 0)) := Array.getElem?_push_size
  have hb0 : Below w.heap.size w (w.alloc (.cells #[.string src, .string dst, .int .i64 (fileI file)] 122)) := (Below.refl _ w).alloc (Nat.le_refl _) _
  have ho0 := h.alloc (.cells #[.string src, .string dst, .int .i64 (fileI file)] 122)
  have HD : Hid (∀ i, file = some i → i ≤ 100000000) := hi
  have q0 : (w.alloc (.cells #[.string src, .string dst, .int .i64 (fileI file)] 122)).cell? ⟨w.heap.size, 0, none⟩ = some (.string src) := by rw [cell_of hcell]; rfl
  clear hi
  show Calls _ _ #[v, .agg #[.string src, .string dst, .int .i64 (fileI file)]] _ _
  generalize hf : fileI file = fz at *
  go_enter Tryd.func87, Tryd.ntmps87
  by_cases he : src.size = 0
  · have e1 : src.toList.isEmpty = true := by rw [isEmpty_iff]; simpa using he
    have hg : ∃ l1, l1 = (if src.size = 0 then l else VfsS.without l src) ∧ l1.length ≤ 90000000 ∧ OwnG (w.alloc (.cells #[.string src, .string dst, .int .i64 fz] 122)) 152 2 v l1.length (nrow l1) := ⟨l, (if_pos he).symm, hl, ho0⟩
    obtain ⟨l1, hl1, hll1, ho1⟩ := hg
    have hc1 := hcell
    have hb1 := hb0
    have hk1 : ∀ k, v.ownBlock = some k → v.ownBlock = some k ∨ w.heap.size ≤ k := fun k h => .inl h
    clear he ho0 hcell hb0 hl
    go_upto_region 3 with fail
    cases file with
    | none =>
      obtain rfl : fz = -1 := hf.symm
      have HL : Hid (doL l ⟨src, dst, none⟩ = l1) := hl1.symm
      have q2n : (w.alloc (.cells #[.string src, .string dst, .int .i64 (-1)] 122)).cell? ⟨w.heap.size, 2, none⟩ = some (.int .i64 (-1)) := by rw [cell_of hc1]; rfl
      go_wp2_with fail
      go_ret
      rw [HL.out]
      exact ⟨_, rfl, ho1, hk1, hb1⟩
    | some i =>
      obtain rfl : fz = (i : Int) := hf.symm
      have hdi : decide ((i : Int) < 0) = false := decide_eq_false (by omega)
      have HL : Hid (doL l ⟨src, dst, some i⟩ = VfsS.ins (VfsS.without l1 dst) dst i) := by show _ = _; rw [hl1]; rfl
      have q1 : (w.alloc (.cells #[.string src, .string dst, .int .i64 (i : Int)] 122)).cell? ⟨w.heap.size, 1, none⟩ = some (.string dst) := by rw [cell_of hc1]; rfl
      have q2 : (w.alloc (.cells #[.string src, .string dst, .int .i64 (i : Int)] 122)).cell? ⟨w.heap.size, 2, none⟩ = some (.int .i64 (i : Int)) := by rw [cell_of hc1]; rfl
      clear hl1
      have HW := Lib.hid (rwithout_c ho1 (by omega) dst)
      go_wp2_with (go_at_call 99; refine HW.out.mono ?_; rintro e w2 ⟨v2, rfl, ho2, hk2, hb2⟩; obtain ⟨a2, c2, rfl, hcc, hcm, hs2⟩ := ho2.form)
      have hll2 := Nat.le_trans (without_le l1 dst) hll1
      generalize VfsS.without l1 dst = l2 at *
      have hc2 := (hb2.block _ (Array.getElem?_eq_some_iff.1 hc1).1).trans hc1
      have hb12 := hb1.trans (hb2.mono hb1.size)
      clear HW q1 q2 ho1 hk1
      go_loopw [5] (fun iv wx => ∃ k q : Nat, k ≤ l2.length ∧ iv = .int .i64 k ∧ Hid (VfsS.insAt l2 dst l2.length = VfsS.insAt l2 dst k) ∧ wx = w2.drewN q) (fun iv _ => (intOf iv).toNat)
      case atStart => exact ⟨_, 0, Nat.le_refl _, rfl, Lib.hid rfl, rfl⟩
      case round =>
        obtain ⟨k, q, hk, rfl, HI, rfl⟩ := hrel
        have p1 : w2.cell? ⟨w.heap.size, 1, none⟩ = some (.string dst) := by rw [cell_of hc2]; rfl
        have p2 : w2.cell? ⟨w.heap.size, 2, none⟩ = some (.int .i64 (i : Int)) := by rw [cell_of hc2]; rfl
        have hins : ∀ m, m < l2.length → VfsS.insAt l2 dst (m + 1) = if VfsS.less dst (l2.getD m (ByteArray.empty, 0)).1 then VfsS.insAt l2 dst m else m + 1 := fun m _ => rfl
        by_cases hkz : k = 0
        · have HK : Hid (VfsS.insAt l2 dst l2.length = k) := by show _ = _; rw [HI.out, hkz]; rfl
          have hdk : decide ((k : Int) > 0) = false := decide_eq_false (by omega)
          have hdk2 : decide ((0 : Int) < (k : Int)) = false := decide_eq_false (by omega)
          have hdk3 : ¬ ((0 : Int) < (k : Int)) := by omega
          have hdk4 : ¬ (0 < k) := by omega
          clear hkz
          go_wp2_with fail
          go_quiet (fail)
          have hk0 : (0 : Int) ≤ (k : Int) := by omega
          have hkc : (k : Int) ≤ c2 := by omega
          have hkn : (k : Int) ≤ l2.length := by omega
          have hkn' : (l2.length : Int) ≤ c2 := by omega
          have hot := ho2.take k c2 hk (by omega) (Nat.le_refl _)
          rw [nrow_take] at hot
          have hbW : Below w2.heap.size w2 ((w2.drewN q).drewN nq) := below_dN (below_dN (Below.refl _ _) q) nq
          have hcW : ((w2.drewN q).drewN nq).heap[w.heap.size]? = some (.cells #[.string src, .string dst, .int .i64 (i : Int)] 122 (0, 0)) := hc2
          generalize (w2.drewN q).drewN nq = W at hbW hcW ⊢
          have hwlt := (Array.getElem?_eq_some_iff.1 hcW).1
          have hmx : 0 + k ≤ maxLen := by rw [show maxLen = 9223372036854775807 from rfl]; omega
          have hby : (0 + k) * 24 ≤ 140737488355328 := by omega
          have hmx2 : 0 + k + 1 ≤ maxLen := by rw [show maxLen = 9223372036854775807 from rfl]; omega
          have hby2 : (0 + k + 1) * 24 ≤ 140737488355328 := by omega
          have hmx3 : 0 + k + 1 + (l2.length - k) ≤ maxLen := by rw [show maxLen = 9223372036854775807 from rfl]; omega
          have hby3 : (0 + k + 1 + (l2.length - k)) * 24 ≤ 140737488355328 := by omega
          have hs1 := src_ownG (P := Tryd.prog) (tx := 33) Tryd.underlying33 ((hot.below hbW).alloc (.cells #[] 152)) (one_names _)
          have ho1' : {v : Value} → v = .slice (some ⟨W.heap.size, 0, none⟩) 0 0 → OwnG (W.alloc (.cells #[] 152)) 152 2 v 0 [] := fun e => by rw [e]; exact OwnG.empty _ _ _
          have HA1 : Hid (∀ w4 : World, Below w2.heap.size w2 w4 → c2 = k → Src Tryd.prog 2 33 (.slice a2 0 0) (l2.length - k) (nrow (l2.drop k)) w4) := fun w4 hb e => by
            have := (ho2.below hb).rest1 k hk e
            rw [nrow_drop, show Value.slice a2 (l2.length - k) 0 = Value.slice a2 0 0 by rw [show l2.length - k = 0 by omega]] at this
            exact src_ownG Tryd.underlying33 this (one_names _)
          have HA2 : Hid (∀ w4 : World, Below w2.heap.size w2 w4 → Src Tryd.prog 2 33 (.slice (Option.map (fun x => x.add (k * 2)) a2) (l2.length - k) (c2 - k)) (l2.length - k) (nrow (l2.drop k)) w4) := fun w4 hb => by
            have := (ho2.below hb).rest2 k hk
            rw [nrow_drop] at this
            exact src_ownG Tryd.underlying33 this (one_names _)
          have HB12 := Lib.hid hb12
          have HO2 := Lib.hid ho2
          clear ho2 hot hs2 hb12 hk2 hb2 hb1 hc1 hc2 HI
          rcases Decidable.em (c2 = k) with rfl | hck
          all_goals go_wp2_with (first
            | (at_builtin; refine wp_appG rfl _ _ _ _ rfl nameElem rfl rfl (OwnG.empty _ _ _) rfl hs1 hmx hby ?_; intro v3 w3 ho3 hg3 hv3; have hc3 := (hg3.block w.heap.size (by simp; omega) (fun e => by have e : some w.heap.size = some W.heap.size := e; injection e with e; omega)).trans (((World.grownBy_alloc W (.cells #[] 152) none).block _ hwlt (by simp)).trans hcW); have p3 : w3.cell? ⟨w.heap.size, 1, none⟩ = some (.string dst) := (by rw [cell_of hc3]; rfl); have p4 : w3.cell? ⟨w.heap.size, 2, none⟩ = some (.int .i64 (i : Int)) := (by rw [cell_of hc3]; rfl))
            | (at_builtin; refine wp_appG rfl _ _ _ _ rfl nameElem rfl rfl (ho3.alloc _) rfl (Src.ofNew (P := Tryd.prog) (w := w3) (tx := 33) (e := 152) Tryd.underlying33 (show [Value.string dst, Value.int .i64 (i : Int)].length = 2 from rfl) (by intro u hu; simp at hu; rcases hu with rfl | rfl <;> rfl)) hmx2 hby2 ?_; intro v4 w4 ho4 hg4 hv4; have hbk : Below w2.heap.size w2 w4 ∧ (∀ j, v4.ownBlock = some j → w2.heap.size ≤ j) := (refc_below hbW hg3 hv3 hg4 hv4); obtain ⟨hb24, hv24⟩ := hbk)
            | (at_builtin; (refine wp_appG rfl _ _ _ _ rfl nameElem rfl rfl ho4 rfl (by first | exact HA2.out w4 hb24 | exact HA1.out w4 hb24 rfl) hmx3 hby3 ?_); intro v5 w5 ho5 hg5 hv5))
          all_goals
            go_ret
            have hbW5 : Below w2.heap.size w2 w5 := hb24.grown hg5 hb24.size hv24
            refine ⟨_, rfl, ?_, fun q hq => ?_, HB12.out.trans (hbW5.mono HB12.out.size)⟩
            · rw [HL.out]; exact ins_own HK.out hk ho5
            · right
              have := HB12.out.size
              rcases hv5 q hq with e | e
              · have := hv24 q e; omega
              · have := hb24.size; omega
        · obtain ⟨m, hm⟩ : ∃ m, k = m + 1 := ⟨k - 1, by omega⟩
          have hml : m < l2.length := by omega
          rw [hm] at HI
          have hIm := hins m hml
          rw [List.getD_eq_getElem?_getD, List.getElem?_eq_getElem hml, Option.getD_some] at hIm
          obtain ⟨b, o, rfl, hbl, hcel⟩ := hs2.at (k := m * 2) (by rw [nrow_len]; omega)
          obtain ⟨r0, r1⟩ := nrow_at l2 m hml
          have r2 : w2.cell? ⟨b, o + m * 2, none⟩ = some (.string l2[m].1) := by
            obtain ⟨hi, e⟩ := List.getElem?_eq_some_iff.1 r0
            rw [hcel _ hi, e]
          have hdm : decide ((k : Int) > 0) = true := decide_eq_true (by omega)
          have hdm2 : decide ((0 : Int) < (k : Int)) = true := decide_eq_true (by omega)
          have hdm3 : (0 : Int) < (k : Int) := by omega
          have hdm4 : 0 < k := by omega
          have hwm : IntKind.i64.wrap ((k : Int) - 1) = (m : Int) := by rw [show (k : Int) - 1 = (m : Int) by omega]; exact IntWalk.i64_in _ (by omega)
          have hm0 : (0 : Int) ≤ m := by omega
          have hm1 : (m : Int) < l2.length := by omega
          have hmk : m < k := by omega
          have hls := less_iff dst l2[m].1
          generalize l2[m].1 = nm at *
          by_cases hle : VfsS.less dst nm
          · have hlt : Op.bytesLess dst.toList nm.toList = true := by rw [hls]; exact decide_eq_true hle
            have HK : Hid (VfsS.insAt l2 dst l2.length = VfsS.insAt l2 dst m) := by show _ = _; rw [HI.out, hIm, if_pos hle]
            clear hcel r0 r1 hls hIm hle hm hkz
            go_wp2_with fail
            go_quiet (fail)
            go_wp2_with fail
            go_roundw
            case rel => exact ⟨m, _, by omega, rfl, HK, rfl⟩
            case measure => simp [intOf]; omega
          · have hlt : Op.bytesLess dst.toList nm.toList = false := by rw [hls]; exact decide_eq_false hle
            have HK : Hid (VfsS.insAt l2 dst l2.length = k) := by show _ = _; rw [HI.out, hIm, if_neg hle, hm]
            clear hcel r0 r1 hls hIm hle hm hkz
            go_wp2_with fail
            go_quiet (fail)
            generalize (some ⟨b, o, none⟩ : Option Addr) = a2 at *
            have hk0 : (0 : Int) ≤ (k : Int) := by omega
            have hkc : (k : Int) ≤ c2 := by omega
            have hkn : (k : Int) ≤ l2.length := by omega
            have hkn' : (l2.length : Int) ≤ c2 := by omega
            have hot := ho2.take k c2 hk (by omega) (Nat.le_refl _)
            rw [nrow_take] at hot
            have hbW : Below w2.heap.size w2 ((w2.drewN q).drewN nq) := below_dN (below_dN (Below.refl _ _) q) nq
            have hcW : ((w2.drewN q).drewN nq).heap[w.heap.size]? = some (.cells #[.string src, .string dst, .int .i64 (i : Int)] 122 (0, 0)) := hc2
            generalize (w2.drewN q).drewN nq = W at hbW hcW ⊢
            have hwlt := (Array.getElem?_eq_some_iff.1 hcW).1
            have hmx : 0 + k ≤ maxLen := by rw [show maxLen = 9223372036854775807 from rfl]; omega
            have hby : (0 + k) * 24 ≤ 140737488355328 := by omega
            have hmx2 : 0 + k + 1 ≤ maxLen := by rw [show maxLen = 9223372036854775807 from rfl]; omega
            have hby2 : (0 + k + 1) * 24 ≤ 140737488355328 := by omega
            have hmx3 : 0 + k + 1 + (l2.length - k) ≤ maxLen := by rw [show maxLen = 9223372036854775807 from rfl]; omega
            have hby3 : (0 + k + 1 + (l2.length - k)) * 24 ≤ 140737488355328 := by omega
            have hs1 := src_ownG (P := Tryd.prog) (tx := 33) Tryd.underlying33 ((hot.below hbW).alloc (.cells #[] 152)) (one_names _)
            have ho1' : {v : Value} → v = .slice (some ⟨W.heap.size, 0, none⟩) 0 0 → OwnG (W.alloc (.cells #[] 152)) 152 2 v 0 [] := fun e => by rw [e]; exact OwnG.empty _ _ _
            have HA1 : Hid (∀ w4 : World, Below w2.heap.size w2 w4 → c2 = k → Src Tryd.prog 2 33 (.slice a2 0 0) (l2.length - k) (nrow (l2.drop k)) w4) := fun w4 hb e => by
              have := (ho2.below hb).rest1 k hk e
              rw [nrow_drop, show Value.slice a2 (l2.length - k) 0 = Value.slice a2 0 0 by rw [show l2.length - k = 0 by omega]] at this
              exact src_ownG Tryd.underlying33 this (one_names _)
            have HA2 : Hid (∀ w4 : World, Below w2.heap.size w2 w4 → Src Tryd.prog 2 33 (.slice (Option.map (fun x => x.add (k * 2)) a2) (l2.length - k) (c2 - k)) (l2.length - k) (nrow (l2.drop k)) w4) := fun w4 hb => by
              have := (ho2.below hb).rest2 k hk
              rw [nrow_drop] at this
              exact src_ownG Tryd.underlying33 this (one_names _)
            have HB12 := Lib.hid hb12
            have HO2 := Lib.hid ho2
            clear ho2 hot hs2 hb12 hk2 hb2 hb1 hc1 hc2 HI
            rcases Decidable.em (c2 = k) with rfl | hck
            all_goals go_wp2_with (first
              | (at_builtin; refine wp_appG rfl _ _ _ _ rfl nameElem rfl rfl (OwnG.empty _ _ _) rfl hs1 hmx hby ?_; intro v3 w3 ho3 hg3 hv3; have hc3 := (hg3.block w.heap.size (by simp; omega) (fun e => by have e : some w.heap.size = some W.heap.size := e; injection e with e; omega)).trans (((World.grownBy_alloc W (.cells #[] 152) none).block _ hwlt (by simp)).trans hcW); have p3 : w3.cell? ⟨w.heap.size, 1, none⟩ = some (.string dst) := (by rw [cell_of hc3]; rfl); have p4 : w3.cell? ⟨w.heap.size, 2, none⟩ = some (.int .i64 (i : Int)) := (by rw [cell_of hc3]; rfl))
              | (at_builtin; refine wp_appG rfl _ _ _ _ rfl nameElem rfl rfl (ho3.alloc _) rfl (Src.ofNew (P := Tryd.prog) (w := w3) (tx := 33) (e := 152) Tryd.underlying33 (show [Value.string dst, Value.int .i64 (i : Int)].length = 2 from rfl) (by intro u hu; simp at hu; rcases hu with rfl | rfl <;> rfl)) hmx2 hby2 ?_; intro v4 w4 ho4 hg4 hv4; have hbk : Below w2.heap.size w2 w4 ∧ (∀ j, v4.ownBlock = some j → w2.heap.size ≤ j) := (refc_below hbW hg3 hv3 hg4 hv4); obtain ⟨hb24, hv24⟩ := hbk)
              | (at_builtin; (refine wp_appG rfl _ _ _ _ rfl nameElem rfl rfl ho4 rfl (by first | exact HA2.out w4 hb24 | exact HA1.out w4 hb24 rfl) hmx3 hby3 ?_); intro v5 w5 ho5 hg5 hv5))
            all_goals
              go_ret
              have hbW5 : Below w2.heap.size w2 w5 := hb24.grown hg5 hb24.size hv24
              refine ⟨_, rfl, ?_, fun q hq => ?_, HB12.out.trans (hbW5.mono HB12.out.size)⟩
              · rw [HL.out]; exact ins_own HK.out hk ho5
              · right
                have := HB12.out.size
                rcases hv5 q hq with e | e
                · have := hv24 q e; omega
                · have := hb24.size; omega
  · have e1 : src.toList.isEmpty = false := by rw [isEmpty_iff]; simpa using he
    have HW0 := Lib.hid (rwithout_c ho0 (by omega) src)
    obtain ⟨l1, hl1, hl1'⟩ : ∃ l1, l1 = (if src.size = 0 then l else VfsS.without l src) ∧ l1 = VfsS.without l src := ⟨_, rfl, if_neg he⟩
    have hll1 : l1.length ≤ 90000000 := by rw [hl1']; exact Nat.le_trans (without_le l src) hl
    rw [← hl1'] at HW0
    clear he ho0 hl1'
    go_upto_region 3 with (go_at_call 99; refine HW0.out.mono ?_; rintro e wr ⟨v1, rfl, ho1, hk1', hbr⟩)
    have hc1 := (hbr.block _ (Array.getElem?_eq_some_iff.1 hcell).1).trans hcell
    have hb1 := hb0.trans (hbr.mono hb0.size)
    have hk1 : ∀ k, v1.ownBlock = some k → v.ownBlock = some k ∨ w.heap.size ≤ k := fun k h => .inr (Nat.le_trans hb0.size (hk1' k h))
    clear hcell hb0 hl q0 HW0 hk1' hbr
    cases file with
    | none =>
      obtain rfl : fz = -1 := hf.symm
      have HL : Hid (doL l ⟨src, dst, none⟩ = l1) := hl1.symm
      have q2n : wr.cell? ⟨w.heap.size, 2, none⟩ = some (.int .i64 (-1)) := by rw [cell_of hc1]; rfl
      go_wp2_with fail
      go_ret
      rw [HL.out]
      exact ⟨_, rfl, ho1, hk1, hb1⟩
    | some i =>
      obtain rfl : fz = (i : Int) := hf.symm
      have hdi : decide ((i : Int) < 0) = false := decide_eq_false (by omega)
      have HL : Hid (doL l ⟨src, dst, some i⟩ = VfsS.ins (VfsS.without l1 dst) dst i) := by show _ = _; rw [hl1]; rfl
      have q1 : wr.cell? ⟨w.heap.size, 1, none⟩ = some (.string dst) := by rw [cell_of hc1]; rfl
      have q2 : wr.cell? ⟨w.heap.size, 2, none⟩ = some (.int .i64 (i : Int)) := by rw [cell_of hc1]; rfl
      clear hl1
      have HW := Lib.hid (rwithout_c ho1 (by omega) dst)
      go_wp2_with (go_at_call 99; refine HW.out.mono ?_; rintro e w2 ⟨v2, rfl, ho2, hk2, hb2⟩; obtain ⟨a2, c2, rfl, hcc, hcm, hs2⟩ := ho2.form)
      have hll2 := Nat.le_trans (without_le l1 dst) hll1
      generalize VfsS.without l1 dst = l2 at *
      have hc2 := (hb2.block _ (Array.getElem?_eq_some_iff.1 hc1).1).trans hc1
      have hb12 := hb1.trans (hb2.mono hb1.size)
      clear HW q1 q2 ho1 hk1
      go_loopw [5] (fun iv wx => ∃ k q : Nat, k ≤ l2.length ∧ iv = .int .i64 k ∧ Hid (VfsS.insAt l2 dst l2.length = VfsS.insAt l2 dst k) ∧ wx = w2.drewN q) (fun iv _ => (intOf iv).toNat)
      case atStart => exact ⟨_, 0, Nat.le_refl _, rfl, Lib.hid rfl, rfl⟩
      case round =>
        obtain ⟨k, q, hk, rfl, HI, rfl⟩ := hrel
        have p1 : w2.cell? ⟨w.heap.size, 1, none⟩ = some (.string dst) := by rw [cell_of hc2]; rfl
        have p2 : w2.cell? ⟨w.heap.size, 2, none⟩ = some (.int .i64 (i : Int)) := by rw [cell_of hc2]; rfl
        have hins : ∀ m, m < l2.length → VfsS.insAt l2 dst (m + 1) = if VfsS.less dst (l2.getD m (ByteArray.empty, 0)).1 then VfsS.insAt l2 dst m else m + 1 := fun m _ => rfl
        by_cases hkz : k = 0
        · have HK : Hid (VfsS.insAt l2 dst l2.length = k) := by show _ = _; rw [HI.out, hkz]; rfl
          have hdk : decide ((k : Int) > 0) = false := decide_eq_false (by omega)
          have hdk2 : decide ((0 : Int) < (k : Int)) = false := decide_eq_false (by omega)
          have hdk3 : ¬ ((0 : Int) < (k : Int)) := by omega
          have hdk4 : ¬ (0 < k) := by omega
          clear hkz
          go_wp2_with fail
          go_quiet (fail)
          have hk0 : (0 : Int) ≤ (k : Int) := by omega
          have hkc : (k : Int) ≤ c2 := by omega
          have hkn : (k : Int) ≤ l2.length := by omega
          have hkn' : (l2.length : Int) ≤ c2 := by omega
          have hot := ho2.take k c2 hk (by omega) (Nat.le_refl _)
          rw [nrow_take] at hot
          have hbW : Below w2.heap.size w2 ((w2.drewN q).drewN nq) := below_dN (below_dN (Below.refl _ _) q) nq
          have hcW : ((w2.drewN q).drewN nq).heap[w.heap.size]? = some (.cells #[.string src, .string dst, .int .i64 (i : Int)] 122 (0, 0)) := hc2
          generalize (w2.drewN q).drewN nq = W at hbW hcW ⊢
          have hwlt := (Array.getElem?_eq_some_iff.1 hcW).1
          have hmx : 0 + k ≤ maxLen := by rw [show maxLen = 9223372036854775807 from rfl]; omega
          have hby : (0 + k) * 24 ≤ 140737488355328 := by omega
          have hmx2 : 0 + k + 1 ≤ maxLen := by rw [show maxLen = 9223372036854775807 from rfl]; omega
          have hby2 : (0 + k + 1) * 24 ≤ 140737488355328 := by omega
          have hmx3 : 0 + k + 1 + (l2.length - k) ≤ maxLen := by rw [show maxLen = 9223372036854775807 from rfl]; omega
          have hby3 : (0 + k + 1 + (l2.length - k)) * 24 ≤ 140737488355328 := by omega
          have hs1 := src_ownG (P := Tryd.prog) (tx := 33) Tryd.underlying33 ((hot.below hbW).alloc (.cells #[] 152)) (one_names _)
          have ho1' : {v : Value} → v = .slice (some ⟨W.heap.size, 0, none⟩) 0 0 → OwnG (W.alloc (.cells #[] 152)) 152 2 v 0 [] := fun e => by rw [e]; exact OwnG.empty _ _ _
          have HA1 : Hid (∀ w4 : World, Below w2.heap.size w2 w4 → c2 = k → Src Tryd.prog 2 33 (.slice a2 0 0) (l2.length - k) (nrow (l2.drop k)) w4) := fun w4 hb e => by
            have := (ho2.below hb).rest1 k hk e
            rw [nrow_drop, show Value.slice a2 (l2.length - k) 0 = Value.slice a2 0 0 by rw [show l2.length - k = 0 by omega]] at this
            exact src_ownG Tryd.underlying33 this (one_names _)
          have HA2 : Hid (∀ w4 : World, Below w2.heap.size w2 w4 → Src Tryd.prog 2 33 (.slice (Option.map (fun x => x.add (k * 2)) a2) (l2.length - k) (c2 - k)) (l2.length - k) (nrow (l2.drop k)) w4) := fun w4 hb => by
            have := (ho2.below hb).rest2 k hk
            rw [nrow_drop] at this
            exact src_ownG Tryd.underlying33 this (one_names _)
          have HB12 := Lib.hid hb12
          have HO2 := Lib.hid ho2
          clear ho2 hot hs2 hb12 hk2 hb2 hb1 hc1 hc2 HI
          rcases Decidable.em (c2 = k) with rfl | hck
          all_goals go_wp2_with (first
            | (at_builtin; refine wp_appG rfl _ _ _ _ rfl nameElem rfl rfl (OwnG.empty _ _ _) rfl hs1 hmx hby ?_; intro v3 w3 ho3 hg3 hv3; have hc3 := (hg3.block w.heap.size (by simp; omega) (fun e => by have e : some w.heap.size = some W.heap.size := e; injection e with e; omega)).trans (((World.grownBy_alloc W (.cells #[] 152) none).block _ hwlt (by simp)).trans hcW); have p3 : w3.cell? ⟨w.heap.size, 1, none⟩ = some (.string dst) := (by rw [cell_of hc3]; rfl); have p4 : w3.cell? ⟨w.heap.size, 2, none⟩ = some (.int .i64 (i : Int)) := (by rw [cell_of hc3]; rfl))
            | (at_builtin; refine wp_appG rfl _ _ _ _ rfl nameElem rfl rfl (ho3.alloc _) rfl (Src.ofNew (P := Tryd.prog) (w := w3) (tx := 33) (e := 152) Tryd.underlying33 (show [Value.string dst, Value.int .i64 (i : Int)].length = 2 from rfl) (by intro u hu; simp at hu; rcases hu with rfl | rfl <;> rfl)) hmx2 hby2 ?_; intro v4 w4 ho4 hg4 hv4; have hbk : Below w2.heap.size w2 w4 ∧ (∀ j, v4.ownBlock = some j → w2.heap.size ≤ j) := (refc_below hbW hg3 hv3 hg4 hv4); obtain ⟨hb24, hv24⟩ := hbk)
            | (at_builtin; (refine wp_appG rfl _ _ _ _ rfl nameElem rfl rfl ho4 rfl (by first | exact HA2.out w4 hb24 | exact HA1.out w4 hb24 rfl) hmx3 hby3 ?_); intro v5 w5 ho5 hg5 hv5))
          all_goals
            go_ret
            have hbW5 : Below w2.heap.size w2 w5 := hb24.grown hg5 hb24.size hv24
            refine ⟨_, rfl, ?_, fun q hq => ?_, HB12.out.trans (hbW5.mono HB12.out.size)⟩
            · rw [HL.out]; exact ins_own HK.out hk ho5
            · right
              have := HB12.out.size
              rcases hv5 q hq with e | e
              · have := hv24 q e; omega
              · have := hb24.size; omega
        · obtain ⟨m, hm⟩ : ∃ m, k = m + 1 := ⟨k - 1, by omega⟩
          have hml : m < l2.length := by omega
          rw [hm] at HI
          have hIm := hins m hml
          rw [List.getD_eq_getElem?_getD, List.getElem?_eq_getElem hml, Option.getD_some] at hIm
          obtain ⟨b, o, rfl, hbl, hcel⟩ := hs2.at (k := m * 2) (by rw [nrow_len]; omega)
          obtain ⟨r0, r1⟩ := nrow_at l2 m hml
          have r2 : w2.cell? ⟨b, o + m * 2, none⟩ = some (.string l2[m].1) := by
            obtain ⟨hi, e⟩ := List.getElem?_eq_some_iff.1 r0
            rw [hcel _ hi, e]
          have hdm : decide ((k : Int) > 0) = true := decide_eq_true (by omega)
          have hdm2 : decide ((0 : Int) < (k : Int)) = true := decide_eq_true (by omega)
          have hdm3 : (0 : Int) < (k : Int) := by omega
          have hdm4 : 0 < k := by omega
          have hwm : IntKind.i64.wrap ((k : Int) - 1) = (m : Int) := by rw [show (k : Int) - 1 = (m : Int) by omega]; exact IntWalk.i64_in _ (by omega)
          have hm0 : (0 : Int) ≤ m := by omega
          have hm1 : (m : Int) < l2.length := by omega
          have hmk : m < k := by omega
          have hls := less_iff dst l2[m].1
          generalize l2[m].1 = nm at *
          by_cases hle : VfsS.less dst nm
          · have hlt : Op.bytesLess dst.toList nm.toList = true := by rw [hls]; exact decide_eq_true hle
            have HK : Hid (VfsS.insAt l2 dst l2.length = VfsS.insAt l2 dst m) := by show _ = _; rw [HI.out, hIm, if_pos hle]
            clear hcel r0 r1 hls hIm hle hm hkz
            go_wp2_with fail
            go_quiet (fail)
            go_wp2_with fail
            go_roundw
            case rel => exact ⟨m, _, by omega, rfl, HK, rfl⟩
            case measure => simp [intOf]; omega
          · have hlt : Op.bytesLess dst.toList nm.toList = false := by rw [hls]; exact decide_eq_false hle
            have HK : Hid (VfsS.insAt l2 dst l2.length = k) := by show _ = _; rw [HI.out, hIm, if_neg hle, hm]
            clear hcel r0 r1 hls hIm hle hm hkz
            go_wp2_with fail
            go_quiet (fail)
            generalize (some ⟨b, o, none⟩ : Option Addr) = a2 at *
            have hk0 : (0 : Int) ≤ (k : Int) := by omega
            have hkc : (k : Int) ≤ c2 := by omega
            have hkn : (k : Int) ≤ l2.length := by omega
            have hkn' : (l2.length : Int) ≤ c2 := by omega
            have hot := ho2.take k c2 hk (by omega) (Nat.le_refl _)
            rw [nrow_take] at hot
            have hbW : Below w2.heap.size w2 ((w2.drewN q).drewN nq) := below_dN (below_dN (Below.refl _ _) q) nq
            have hcW : ((w2.drewN q).drewN nq).heap[w.heap.size]? = some (.cells #[.string src, .string dst, .int .i64 (i : Int)] 122 (0, 0)) := hc2
            generalize (w2.drewN q).drewN nq = W at hbW hcW ⊢
            have hwlt := (Array.getElem?_eq_some_iff.1 hcW).1
            have hmx : 0 + k ≤ maxLen := by rw [show maxLen = 9223372036854775807 from rfl]; omega
            have hby : (0 + k) * 24 ≤ 140737488355328 := by omega
            have hmx2 : 0 + k + 1 ≤ maxLen := by rw [show maxLen = 9223372036854775807 from rfl]; omega
            have hby2 : (0 + k + 1) * 24 ≤ 140737488355328 := by omega
            have hmx3 : 0 + k + 1 + (l2.length - k) ≤ maxLen := by rw [show maxLen = 9223372036854775807 from rfl]; omega
            have hby3 : (0 + k + 1 + (l2.length - k)) * 24 ≤ 140737488355328 := by omega
            have hs1 := src_ownG (P := Tryd.prog) (tx := 33) Tryd.underlying33 ((hot.below hbW).alloc (.cells #[] 152)) (one_names _)
            have ho1' : {v : Value} → v = .slice (some ⟨W.heap.size, 0, none⟩) 0 0 → OwnG (W.alloc (.cells #[] 152)) 152 2 v 0 [] := fun e => by rw [e]; exact OwnG.empty _ _ _
            have HA1 : Hid (∀ w4 : World, Below w2.heap.size w2 w4 → c2 = k → Src Tryd.prog 2 33 (.slice a2 0 0) (l2.length - k) (nrow (l2.drop k)) w4) := fun w4 hb e => by
              have := (ho2.below hb).rest1 k hk e
              rw [nrow_drop, show Value.slice a2 (l2.length - k) 0 = Value.slice a2 0 0 by rw [show l2.length - k = 0 by omega]] at this
              exact src_ownG Tryd.underlying33 this (one_names _)
            have HA2 : Hid (∀ w4 : World, Below w2.heap.size w2 w4 → Src Tryd.prog 2 33 (.slice (Option.map (fun x => x.add (k * 2)) a2) (l2.length - k) (c2 - k)) (l2.length - k) (nrow (l2.drop k)) w4) := fun w4 hb => by
              have := (ho2.below hb).rest2 k hk
              rw [nrow_drop] at this
              exact src_ownG Tryd.underlying33 this (one_names _)
            have HB12 := Lib.hid hb12
            have HO2 := Lib.hid ho2
            clear ho2 hot hs2 hb12 hk2 hb2 hb1 hc1 hc2 HI
            rcases Decidable.em (c2 = k) with rfl | hck
            all_goals go_wp2_with (first
              | (at_builtin; refine wp_appG rfl _ _ _ _ rfl nameElem rfl rfl (OwnG.empty _ _ _) rfl hs1 hmx hby ?_; intro v3 w3 ho3 hg3 hv3; have hc3 := (hg3.block w.heap.size (by simp; omega) (fun e => by have e : some w.heap.size = some W.heap.size := e; injection e with e; omega)).trans (((World.grownBy_alloc W (.cells #[] 152) none).block _ hwlt (by simp)).trans hcW); have p3 : w3.cell? ⟨w.heap.size, 1, none⟩ = some (.string dst) := (by rw [cell_of hc3]; rfl); have p4 : w3.cell? ⟨w.heap.size, 2, none⟩ = some (.int .i64 (i : Int)) := (by rw [cell_of hc3]; rfl))
              | (at_builtin; refine wp_appG rfl _ _ _ _ rfl nameElem rfl rfl (ho3.alloc _) rfl (Src.ofNew (P := Tryd.prog) (w := w3) (tx := 33) (e := 152) Tryd.underlying33 (show [Value.string dst, Value.int .i64 (i : Int)].length = 2 from rfl) (by intro u hu; simp at hu; rcases hu with rfl | rfl <;> rfl)) hmx2 hby2 ?_; intro v4 w4 ho4 hg4 hv4; have hbk : Below w2.heap.size w2 w4 ∧ (∀ j, v4.ownBlock = some j → w2.heap.size ≤ j) := (refc_below hbW hg3 hv3 hg4 hv4); obtain ⟨hb24, hv24⟩ := hbk)
              | (at_builtin; (refine wp_appG rfl _ _ _ _ rfl nameElem rfl rfl ho4 rfl (by first | exact HA2.out w4 hb24 | exact HA1.out w4 hb24 rfl) hmx3 hby3 ?_); intro v5 w5 ho5 hg5 hv5))
            all_goals
              go_ret
              have hbW5 : Below w2.heap.size w2 w5 := hb24.grown hg5 hb24.size hv24
              refine ⟨_, rfl, ?_, fun q hq => ?_, HB12.out.trans (hbW5.mono HB12.out.size)⟩
              · rw [HL.out]; exact ins_own HK.out hk ho5
              · right
                have := HB12.out.size
                rcases hv5 q hq with e | e
                · have := hv24 q e; omega
                · have := hb24.size; omega
end Go.Proofs.YtfoamcobpfflbaaDoor
