/- Texts of mine, joined: The order of paths in plain Lean. No program in sight. | The reference's insertion sort of paths. No program in sight. | Walk: slices.Clone over texts. | A struct that fills a block: loaded and stored whole. Of every program. | A region that draws its order, walked by a list of moves: an operation that yields in whatever world is taken first; a block of quiet ones in the order of the text; those that stand in one order, one behind the other. Of every program. | Walks: lists of lines held against one another, cut, closed. | Walk: lines taken off a list. | A result that lies in memory as a whole block; arrays of numbers as functions. Of every program. | A drawn region whose callees lay blocks: the class of all worlds that have nothing old turned. Of every program. | A region that draws its order: a load may be taken first although the last store hits its cell: that store waits for it. Of every program. | A region that draws its order and makes one block ('s, ok := m[k]' with s a struct): the block may be made at any time, the others only read; then a forced tail. Of every program. | A region that draws its order: what only reads is taken first under S, S is shown behind every operation of a forced rest. Of every program. | A region that draws its order, walked by a list of moves: what reads alone is taken under S; what turns the world stands in one order, and S is shown behind it. Of every program. | A region that draws its order, walked by a tree of moves: as KitMv, with branches where one of two operations may come first. Of every program. -/
import Derived.Deep.MidRow
import Derived.RegionTactic
import Derived.OrdersHeld
import Derived.BigCall
import Derived.Test.YtpcipdkoncmdcaaGreatDoorYJoinApart4
namespace Go.Proofs.YtpcipdkoncmdcaaGreatDoor
namespace PathS
open Go
/-- A three-way comparing that is an order. -/
structure Tw {α : Type} (f : α → α → Int) : Prop where
  rng : ∀ a b, f a b = -1 ∨ f a b = 0 ∨ f a b = 1
  eq0 : ∀ a b, f a b = 0 ↔ a = b
  anti : ∀ a b, f b a = -f a b
  tr : ∀ a b c, f a b < 0 → f b c < 0 → f a c < 0

theorem Tw.le {α : Type} {f : α → α → Int} (h : Tw f) (a b c : α) (h1 : f a b ≤ 0) (h2 : f b c ≤ 0) : f a c ≤ 0 := by
  by_cases e1 : f a b = 0
  · rw [(h.eq0 a b).1 e1]; exact h2
  · by_cases e2 : f b c = 0
    · rw [← (h.eq0 b c).1 e2]; exact h1
    · have := h.tr a b c (by omega) (by omega); omega

theorem cmpB_tw : Tw cmpB where
  rng a b := by unfold cmpB; split; exact .inl rfl; split; exact .inr (.inl rfl); exact .inr (.inr rfl)
  eq0 a b := by
    unfold cmpB
    constructor
    · intro h
      split at h
      · cases h
      · split at h
        · exact ba_ext ‹_›
        · cases h
    · intro h; subst h; rw [if_neg (List.lt_irrefl _), if_pos rfl]
  anti a b := by
    unfold cmpB
    by_cases h1 : a.data.toList < b.data.toList
    · rw [if_pos h1, if_neg (List.lt_asymm h1), if_neg]
      · rfl
      · intro e; rw [e] at h1; exact List.lt_irrefl _ h1
    · by_cases h2 : a.data.toList = b.data.toList
      · rw [h2, if_neg (List.lt_irrefl _), if_pos rfl]; rfl
      · have h3 : b.data.toList < a.data.toList := by
          by_cases h3 : b.data.toList < a.data.toList
          · exact h3
          · exact absurd (List.le_antisymm (List.not_lt.1 h3) (List.not_lt.1 h1)) h2
        rw [if_pos h3, if_neg h1, if_neg h2]
  tr a b c := by
    unfold cmpB
    intro h1 h2
    have e1 : a.data.toList < b.data.toList := by
      by_cases h : a.data.toList < b.data.toList
      · exact h
      · rw [if_neg h] at h1; split at h1 <;> omega
    have e2 : b.data.toList < c.data.toList := by
      by_cases h : b.data.toList < c.data.toList
      · exact h
      · rw [if_neg h] at h2; split at h2 <;> omega
    rw [if_pos (List.lt_trans e1 e2)]; omega

theorem cmpL_rng : ∀ x y, cmpL x y = -1 ∨ cmpL x y = 0 ∨ cmpL x y = 1
  | [], [] => .inr (.inl rfl)
  | [], _ :: _ => .inl rfl
  | _ :: _, [] => .inr (.inr rfl)
  | a :: x, b :: y => by
    unfold cmpL
    split
    · exact cmpL_rng x y
    · exact cmpB_tw.rng a b

theorem cmpL_eq0 : ∀ x y, cmpL x y = 0 ↔ x = y
  | [], [] => by simp [cmpL]
  | [], _ :: _ => by simp [cmpL]
  | _ :: _, [] => by simp [cmpL]
  | a :: x, b :: y => by
    unfold cmpL
    split
    · rename_i h
      rw [cmpL_eq0 x y, (cmpB_tw.eq0 a b).1 h]; simp
    · rename_i h
      constructor
      · intro e; exact absurd e h
      · intro e; injection e with e1 e2; exact absurd ((cmpB_tw.eq0 a b).2 e1) h

theorem cmpL_anti : ∀ x y, cmpL y x = -cmpL x y
  | [], [] => rfl
  | [], _ :: _ => rfl
  | _ :: _, [] => rfl
  | a :: x, b :: y => by
    unfold cmpL
    have h := cmpB_tw.anti a b
    by_cases h0 : cmpB a b = 0
    · rw [if_pos h0, if_pos (by omega), cmpL_anti x y]
    · rw [if_neg h0, if_neg (by omega), h]

theorem cmpL_tr : ∀ x y z, cmpL x y < 0 → cmpL y z < 0 → cmpL x z < 0
  | [], [], z => by intro h; simp [cmpL] at h
  | _ :: _, [], z => by intro h; simp [cmpL] at h
  | x, _ :: _, [] => by intro _ h; simp [cmpL] at h
  | [], _ :: _, _ :: _ => by intro _ _; simp [cmpL]
  | a :: x, b :: y, c :: z => by
    unfold cmpL
    intro h1 h2
    by_cases e1 : cmpB a b = 0
    · rw [if_pos e1] at h1
      have := (cmpB_tw.eq0 a b).1 e1
      subst this
      by_cases e2 : cmpB a c = 0
      · rw [if_pos e2] at h2 ⊢
        exact cmpL_tr x y z h1 h2
      · rw [if_neg e2] at h2 ⊢
        exact h2
    · rw [if_neg e1] at h1
      by_cases e2 : cmpB b c = 0
      · have := (cmpB_tw.eq0 b c).1 e2
        subst this
        rw [if_neg e1]; exact h1
      · rw [if_neg e2] at h2
        have := cmpB_tw.tr a b c h1 h2
        rw [if_neg (by omega)]; exact this

/-- Pieces put together again. -/
def joinL : List (List UInt8) → List UInt8
  | [] => []
  | [a] => a
  | a :: b :: l => a ++ 47 :: joinL (b :: l)

theorem piecesA_ne (cur l : List UInt8) : piecesA cur l ≠ [] := by
  induction l generalizing cur with
  | nil => simp [piecesA]
  | cons c l ih => unfold piecesA; split; simp; exact ih _

theorem joinL_piecesA : ∀ (l cur : List UInt8), joinL (piecesA cur l) = cur ++ l
  | [], cur => by simp [piecesA, joinL]
  | c :: l, cur => by
    unfold piecesA
    split
    · rename_i h
      subst h
      obtain ⟨b, r, hb⟩ := List.exists_cons_of_ne_nil (piecesA_ne [] l)
      have := joinL_piecesA l []
      rw [hb] at this ⊢
      rw [joinL, this]; simp
    · rw [joinL_piecesA l _]; simp

def pl (s : ByteArray) : List (List UInt8) := if s.size = 0 then [] else piecesA [] s.data.toList

theorem spl_map (s : ByteArray) : spl s = (pl s).map mkB := by unfold spl pl; split <;> simp [pcs]

theorem joinL_pl (s : ByteArray) : joinL (pl s) = s.data.toList := by
  unfold pl
  split
  · rename_i h
    rw [List.eq_nil_of_length_eq_zero (l := s.data.toList) (by rw [← Lib.size_eq]; exact h)]; rfl
  · rw [joinL_piecesA]; rfl

theorem mkB_inj {a b : List UInt8} (h : mkB a = mkB b) : a = b := by rw [← data_mkB a, ← data_mkB b, h]

theorem pl_inj {a b : ByteArray} (h : pl a = pl b) : a = b := ba_ext (by rw [← joinL_pl a, ← joinL_pl b, h])

theorem spl_inj {a b : ByteArray} (h : spl a = spl b) : a = b := by
  rw [spl_map, spl_map] at h
  exact pl_inj (List.map_inj_right (fun _ _ e => mkB_inj e) |>.1 h)

theorem cmp_eq (a b : ByteArray) : cmp a b = cmpL (spl a) (spl b) := by rw [cmp, split_spl, split_spl]

theorem cmp_tw : Tw cmp where
  rng a b := by rw [cmp_eq]; exact cmpL_rng _ _
  eq0 a b := by
    rw [cmp_eq, cmpL_eq0]
    exact ⟨spl_inj, fun h => by rw [h]⟩
  anti a b := by rw [cmp_eq, cmp_eq]; exact cmpL_anti _ _
  tr a b c := by rw [cmp_eq, cmp_eq, cmp_eq]; exact cmpL_tr _ _ _

end PathS
end Go.Proofs.YtpcipdkoncmdcaaGreatDoor
namespace Go.Proofs.YtpcipdkoncmdcaaGreatDoor
namespace PathS
/-- Where x is put into out, searched from place k down. -/
def insPos (x : ByteArray) (out : List ByteArray) : Nat → Nat
  | 0 => 0
  | k + 1 => if cmp x (out.getD k ByteArray.empty) < 0 then insPos x out k else k + 1

def ins (x : ByteArray) (out : List ByteArray) : List ByteArray := out.take (insPos x out out.length) ++ [x] ++ out.drop (insPos x out out.length)

def sortTo (l : List ByteArray) : Nat → List ByteArray
  | 0 => []
  | k + 1 => ins (l.getD k ByteArray.empty) (sortTo l k)

theorem insPos_le (x : ByteArray) (out : List ByteArray) : ∀ k, insPos x out k ≤ k
  | 0 => Nat.le_refl _
  | k + 1 => by unfold insPos; split; have := insPos_le x out k; omega; omega

theorem ins_length (x : ByteArray) (out : List ByteArray) : (ins x out).length = out.length + 1 := by
  have := insPos_le x out out.length
  simp [ins]; omega

theorem sortTo_length (l : List ByteArray) : ∀ k, (sortTo l k).length = k
  | 0 => rfl
  | k + 1 => by rw [sortTo, ins_length, sortTo_length]

theorem insPos_below (x : ByteArray) (out : List ByteArray) : ∀ k, insPos x out k = 0 ∨ ¬ cmp x (out.getD (insPos x out k - 1) ByteArray.empty) < 0
  | 0 => .inl rfl
  | k + 1 => by
    unfold insPos
    split
    · exact insPos_below x out k
    · exact .inr (by rw [Nat.add_sub_cancel]; assumption)

theorem insPos_above (x : ByteArray) (out : List ByteArray) : ∀ k j, insPos x out k ≤ j → j < k → cmp x (out.getD j ByteArray.empty) < 0
  | 0, j, _, h => by omega
  | k + 1, j, h1, h2 => by
    unfold insPos at h1
    split at h1
    · by_cases e : j = k
      · subst e; assumption
      · exact insPos_above x out k j h1 (by omega)
    · omega

def le (a b : ByteArray) : Prop := cmp a b ≤ 0

theorem le_trans {a b c : ByteArray} (h1 : le a b) (h2 : le b c) : le a c := cmp_tw.le a b c h1 h2

theorem getD_at (l : List ByteArray) (k : Nat) (h : k < l.length) : l.getD k ByteArray.empty = l[k] := by rw [List.getD_eq_getElem?_getD, List.getElem?_eq_getElem h]; rfl

theorem ins_sorted (x : ByteArray) (out : List ByteArray) (h : out.Pairwise le) : (ins x out).Pairwise le := by
  have hle := insPos_le x out out.length
  have hb := insPos_below x out out.length
  have ha := insPos_above x out out.length
  unfold ins
  generalize insPos x out out.length = p at *
  have hp := List.pairwise_iff_getElem.1 h
  have h1 : ∀ a ∈ out.take p, le a x := by
    intro a hm
    obtain ⟨i, hi, rfl⟩ := List.getElem_of_mem hm
    rw [List.length_take] at hi
    rw [List.getElem_take]
    rcases hb with h0 | h0
    · omega
    · rw [getD_at _ _ (by omega)] at h0
      have h2 : le out[p - 1] x := by
        unfold le
        have := cmp_tw.anti out[p - 1] x
        omega
      by_cases e : i = p - 1
      · subst e; exact h2
      · exact le_trans (hp i (p - 1) (by omega) (by omega) (by omega)) h2
  have h2 : ∀ b ∈ out.drop p, le x b := by
    intro b hm
    obtain ⟨i, hi, rfl⟩ := List.getElem_of_mem hm
    rw [List.length_drop] at hi
    rw [List.getElem_drop]
    have := ha (p + i) (by omega) (by omega)
    rw [getD_at _ _ (by omega)] at this
    unfold le; omega
  have h3 : ∀ a ∈ out.take p, ∀ b ∈ out.drop p, le a b := fun a h4 b h5 => le_trans (h1 a h4) (h2 b h5)
  rw [List.append_assoc, List.pairwise_append]
  refine ⟨h.sublist (List.take_sublist _ _), ?_, ?_⟩
  · rw [List.singleton_append, List.pairwise_cons]
    exact ⟨h2, h.sublist (List.drop_sublist _ _)⟩
  · intro a h4 b h5
    rw [List.singleton_append, List.mem_cons] at h5
    rcases h5 with rfl | h5
    · exact h1 a h4
    · exact h3 a h4 b h5

theorem sortTo_sorted (l : List ByteArray) : ∀ k, (sortTo l k).Pairwise le
  | 0 => .nil
  | k + 1 => ins_sorted _ _ (sortTo_sorted l k)

end PathS
end Go.Proofs.YtpcipdkoncmdcaaGreatDoor
namespace Go.Proofs.YtpcipdkoncmdcaaGreatDoor
open Go Go.RowKit
theorem clone_c (a : Option Addr) (c : Nat) (l : List ByteArray) (w : World) (hs : Sl w a (l.map Value.string)) (hc0 : a = none → c = 0) (hl : l.length ≤ 10000000) :
    Calls Tryz.prog 128 #[.slice a l.length c] w fun e w' => ∃ v', e = .returned v' ∧ w'.ownsRow w.heap.size 9 1 v' l.length (l.map Value.string) ∧ Below w.heap.size w w' := by
  by_cases h0 : l = []
  · subst h0
    cases a with
    | none =>
      refine (Tryz.slices_Clone_string_nil 0 c w).mono ?_
      rintro e w' ⟨rfl, rfl⟩
      exact ⟨_, rfl, World.ownsRow_nil _ _ _ _, Below.refl _ _⟩
    | some ad =>
      refine (Tryz.slices_Clone_string_zero ad c w).mono ?_
      rintro e w' ⟨v', rfl, h1, _, h2⟩
      exact ⟨_, rfl, h1, h2⟩
  · obtain ⟨b, o, rfl, hlt, hcell⟩ := hs.at (k := 0) (by simpa using List.length_pos_iff.2 h0)
    refine (Tryz.slices_Clone_string b o l.length c l w (Nat.le_refl _) (by omega) (fun j hj => by rw [hcell j (by simpa using hj), List.getElem_map, PathS.getD_at l j hj])).mono ?_
    rintro e w' ⟨v', rfl, h1, _, h2⟩
    rw [List.take_length] at h1
    exact ⟨_, rfl, h1, h2⟩
end Go.Proofs.YtpcipdkoncmdcaaGreatDoor
namespace Go.Proofs.YtpcipdkoncmdcaaGreatDoor
open Go Go.RowKit
section
variable {P : Program} {ops : Array Oper} {rest : List Oper} {op : Oper} {a : Act} {w : World} {Q : Exit → Act → World → Prop}
/-- The whole block is loaded. -/
theorem wp_loadB (hgd : op.guard = none) (ty : TypeId) (x : Operand) (ho : op.op = .load ty x) (b : Nat) (hx : a.eval x = .pointer (some ⟨b, 0, none⟩)) {cs : Array Value} {e : TypeId} {fr : Nat × Nat} (hb : w.heap[b]? = some (.cells cs e fr)) (d : TypeDesc)
    (hu : P.underlying ty = some d) (hd : d.isRow = true) (hi : (P.info? ty).map (·.size) = some cs.toList.length) (h : wpList P ops Q rest (a.put op.dst (.agg cs)) w) : wpList P ops Q (op :: rest) a w :=
  wpList_load_mid hgd ty x ho b 0 hx cs.toList d (fun j v hj => by
    rw [Nat.zero_add]; simp only [World.cell?, hb]; rw [← Array.getElem?_toList]; exact hj) hu hd hi h

/-- The whole block is stored. -/
theorem wp_storeB (hgd : op.guard = none) (ty : TypeId) (x y : Operand) (ho : op.op = .store ty x y) (b : Nat) (new : Array Value) (hx : a.eval x = .pointer (some ⟨b, 0, none⟩)) (hy : a.eval y = .agg new) {old : Array Value} {e : TypeId} (hb : w.heap[b]? = some (.cells old e (0, 0)))
    (hsz : old.size = new.size) (hi : (P.info? ty).map (·.size) = some new.size) (h1 : new.all (·.oneCell') = true)
    (h : ∀ w' : World, w'.heap[b]? = some (.cells new e (0, 0)) → w.grownBy w' (some b) → wpList P ops Q rest (a.put op.dst undef) w') : wpList P ops Q (op :: rest) a w := by
  refine wpList_store_mid hgd ty x y ho b 0 new hx hy (fun j hj => ⟨?_, ?_⟩) hi h1 ?_
  · simp only [World.cell?, hb, Nat.zero_add]
    rw [Array.getElem?_eq_getElem (by omega)]; rfl
  · simp [World.frozen?, hb]
  · obtain ⟨cur', c1, c2, c3⟩ := setCells_block b new.toList 0 w old e (0, 0) hb (by simp; omega)
    have : cur' = new := by
      apply Array.ext_getElem?
      intro i
      rw [c3]
      by_cases hi : i < new.size
      · rw [if_pos (by simp; omega), Nat.sub_zero, Array.getElem?_toList]
      · rw [if_neg (by simp; omega), Array.getElem?_eq_none (by omega), Array.getElem?_eq_none (by omega)]
    subst this
    exact h _ c1 (setCells_grown w b 0 _)
end
end Go.Proofs.YtpcipdkoncmdcaaGreatDoor
namespace Go.Proofs.YtpcipdkoncmdcaaGreatDoor
open Go
inductive Mv where
  | take (i : Nat)
  | blk (is : List Nat)
  | frc (is : List Nat)

section
variable {P : Program} {ops : Array Oper} {md : Region.Mode}
def restOf (ops : Array Oper) (is : List Nat) (up : Array Bool) : List Nat := (List.range ops.size).filter fun j => !up.getD j true && !is.contains j
structure BInv (md : Region.Mode) (ops : Array Oper) (is : List Nat) (up0 up : Array Bool) : Prop where
  size : up.size = ops.size
  closed : ∀ j oj, ops[j]? = some oj → up.getD j false = true → ∀ e ∈ oj.after, Region.binds md e = true → up.getD e.on false = true
  rest : ∀ t ∈ restOf ops is up0, up.getD t true = false
  old : ∀ j, up0.getD j true = true → up.getD j true = true

theorem getD_set_true' {up : Array Bool} {i j : Nat} (h : up.getD j true = true) : (up.setIfInBounds i true).getD j true = true := by
  by_cases hij : i = j
  · subst hij
    simp only [Array.getD_eq_getD_getElem?, Array.getElem?_setIfInBounds_self] at h ⊢
    split
    · rfl
    · rename_i h'
      rw [Array.getElem?_eq_none (by omega)] at h
      exact h
  · rw [getD_set_ne true hij]; exact h

theorem BInv.set {is : List Nat} {up0 up : Array Bool} {i : Nat} (inv : BInv md ops is up0 up) (hi : i ∈ Region.ready md ops up) (hin : i ∈ is) : BInv md ops is up0 (up.setIfInBounds i true) := by
  obtain ⟨_, oi, hoi, hall⟩ := mem_ready.1 hi
  refine ⟨by simp [inv.size], fun j oj hj hl e he hb => ?_, fun t ht => ?_, fun j hj => getD_set_true' (inv.old j hj)⟩
  · by_cases hij : i = j
    · subst hij
      have : oj = oi := Option.some.inj (hj.symm.trans hoi)
      subst this
      exact getD_set_true (hall e he hb)
    · rw [getD_set_ne false hij] at hl
      exact getD_set_true (inv.closed j oj hj hl e he hb)
  · have hne : i ≠ t := fun e => by
      subst e
      have := (List.mem_filter.1 ht).2
      simp only [Bool.and_eq_true, Bool.not_eq_true', List.contains_iff_mem, ← Bool.not_eq_true] at this
      exact this.2 (by simpa using hin)
    rw [getD_set_ne true hne]; exact inv.rest t ht

theorem letsOut_then {N : Act → World → Prop} {Q : Exit → Act → World → Prop} (h : LetsOut (Exit.then N Q)) : LetsOut Q := h

theorem wpOp_then {N : Act → World → Prop} {Q : Exit → Act → World → Prop} {i : Nat} {K : Act → World → Prop} {a : Act} {w : World} (h : wpOp P ops (Exit.then N Q) i K a w) : wpOp P ops Q i K a w := by
  unfold wpOp at *
  split
  · rename_i ho; simp only [ho] at h; exact h
  · rename_i o ho
    simp only [ho] at h
    split
    · rename_i hw
      simp only [hw, if_true] at h
      rcases h with h | ⟨h1, h2⟩
      · refine .inl ?_
        unfold Oper.wp at *
        generalize (execOp a.eval o).run P w = r at *
        cases r with
        | ok n w' =>
          cases n <;> simp only [Oper.upon] at h ⊢ <;> first
            | exact h
            | exact h.mono fun e _ he => by cases e <;> exact he
        | halt x w' => cases x <;> simp only [Oper.upon] at h ⊢ <;> exact h
      · exact .inr ⟨h1, letsOut_then h2⟩
    · rename_i hw; simp only [hw] at h; exact h

def DN (w w' : World) : Prop := ∃ q, w' = w.drewN q
theorem DN.refl (w : World) : DN w w := ⟨0, rfl⟩

variable {Q : Exit → Act → World → Prop} {C : World → World → Prop} {ss : List Mv} {a : Act} {w : World}
end
end Go.Proofs.YtpcipdkoncmdcaaGreatDoor
namespace Go.Proofs.YtpcipdkoncmdcaaGreatDoor
open Go Go.RowKit
/-- slices.Equal over texts. -/
theorem teq_c {w : World} {v1 v2 : Value} {l1 l2 : List ByteArray} (h1 : Tl w v1 l1) (h2 : Tl w v2 l2) (hl1 : l1.length ≤ 100000000) (hl2 : l2.length ≤ 100000000) : Calls Tryz.prog 137 #[v1, v2] w fun e w' => e = .returned (.bool (decide (l1 = l2))) ∧ ∃ q, w' = w.drewN q := by
  by_cases hn : l1.length = l2.length
  · by_cases h0 : l1 = []
    · subst h0
      have : l2 = [] := List.eq_nil_of_length_eq_zero hn.symm
      subst this
      obtain ⟨a1, c1, rfl, -⟩ := h1
      obtain ⟨a2, c2, rfl, -⟩ := h2
      exact (Tryz.slices_Equal_string_empty a1 a2 c1 0 c2 w (by omega)).mono fun e w' ⟨he, hw⟩ => ⟨he, 0, hw⟩
    · have h0' : l2 ≠ [] := fun e => h0 (List.eq_nil_of_length_eq_zero (by rw [hn, e]; rfl))
      obtain ⟨b1, o1, c1, rfl, -, -, -, g1⟩ := h1.some_ h0
      obtain ⟨b2, o2, c2, rfl, -, -, -, g2⟩ := h2.some_ h0'
      refine (Tryz.slices_Equal_string b1 o1 l1.length c1 b2 o2 l2.length c2 l1 l2 w (Nat.le_refl _) (Nat.le_refl _) (by omega) (by omega) (fun j hj => by rw [g1 j hj, PathS.getD_at l1 j hj]) (fun j hj => by rw [g2 j hj, PathS.getD_at l2 j hj])).mono ?_
      rintro e w' ⟨he, hq⟩
      rw [List.take_length, List.take_length] at he
      exact ⟨he, hq⟩
  · obtain ⟨a1, c1, rfl, -⟩ := h1
    obtain ⟨a2, c2, rfl, -⟩ := h2
    refine (Tryz.slices_Equal_string_lens a1 a2 l1.length c1 l2.length c2 w hn).mono ?_
    rintro e w' ⟨he, hw⟩
    refine ⟨?_, 0, hw⟩
    rw [he, decide_eq_false (fun e => hn (by rw [e]))]

theorem tclone_c {w : World} {v : Value} {l : List ByteArray} (h : Tl w v l) (hl : l.length ≤ 10000000) : Calls Tryz.prog 128 #[v] w fun e w' => ∃ v', e = .returned v' ∧ w'.ownsRow w.heap.size 9 1 v' l.length (lrow l) ∧ Below w.heap.size w w' := by
  obtain ⟨a, c, rfl, -, -, h4, h5⟩ := h
  exact clone_c a c l w h5 h4 hl

theorem Tl.drewN {w : World} {v : Value} {l : List ByteArray} (h : Tl w v l) (q : Nat) : Tl (w.drewN q) v l := h.below (below_dN (Below.refl _ w) q)

set_option maxRecDepth 100000 in
set_option maxHeartbeats 1000000 in
theorem kind_c {w : World} {vb vo vt : Value} {p : JoinS.Pt ByteArray} (hb : Tl w vb p.b) (ho : Tl w vo p.o) (ht : Tl w vt p.t) (lb : p.b.length ≤ 100000000) (lo : p.o.length ≤ 100000000) (lt : p.t.length ≤ 100000000) :
    Calls Tryz.prog 127 #[vb, vo, vt] w fun e w' => e = .returned (.int .i64 (JoinS.kindOf p)) ∧ ∃ q, w' = w.drewN q := by
  have hall : ∀ (v1 v2 : Value) (l1 l2 : List ByteArray) (W : World), Tl w v1 l1 → Tl w v2 l2 → l1.length ≤ 100000000 → l2.length ≤ 100000000 → DN w W → Calls Tryz.prog 137 #[v1, v2] W fun e W' => e = .returned (.bool (decide (l1 = l2))) ∧ DN w W' := by
    rintro v1 v2 l1 l2 W g1 g2 k1 k2 ⟨q, rfl⟩
    refine (teq_c (g1.drewN q) (g2.drewN q) k1 k2).mono ?_
    rintro e W' ⟨he, q2, rfl⟩
    exact ⟨he, q + q2, by rw [World.drewN_drewN]⟩
  have H1 := Lib.hid (fun W => hall vo vb p.o p.b W ho hb lo lb)
  have H2 := Lib.hid (fun W => hall vt vb p.t p.b W ht hb lt lb)
  have H3 := Lib.hid (fun W => hall vo vt p.o p.t W ho ht lo lt)
  clear hall
  have hd := DN.refl w
  have HK : Hid (∀ a b c : Bool, decide (p.o = p.b) = a → decide (p.t = p.b) = b → decide (p.o = p.t) = c → JoinS.kindOf p = if a && b then 0 else if b then 1 else if a then 2 else if c then 3 else 4) := by
    intro a b c e1 e2 e3
    unfold JoinS.kindOf
    rw [← e1, ← e2, ← e3]
    by_cases g1 : p.o = p.b <;> by_cases g2 : p.t = p.b <;> by_cases g3 : p.o = p.t <;> simp [g1, g2, g3]
  clear hb ho ht lb lo lt
  obtain ⟨a, ea⟩ : ∃ a, decide (p.o = p.b) = a := ⟨_, rfl⟩
  obtain ⟨b, eb⟩ : ∃ a, decide (p.t = p.b) = a := ⟨_, rfl⟩
  obtain ⟨c, ec⟩ : ∃ a, decide (p.o = p.t) = a := ⟨_, rfl⟩
  have HK2 := Lib.hid (HK.out a b c ea eb ec)
  rw [ea] at H1
  rw [eb] at H2
  rw [ec] at H3
  clear ea eb ec HK
  go_enter Tryz.func127, Tryz.ntmps127
  cases a <;> cases b <;> (try cases c)
  all_goals
    go_wp2_with (first
      | (go_at_call 137; refine (H1.out _ hd).mono ?_; rintro e w1 ⟨rfl, hd⟩; clear H1)
      | (go_at_call 137; refine (H2.out _ hd).mono ?_; rintro e w2 ⟨rfl, hd⟩; clear H2)
      | (go_at_call 137; refine (H3.out _ hd).mono ?_; rintro e w3 ⟨rfl, hd⟩))
    go_ret
    exact ⟨ret_i64 (by rw [HK2.out]; rfl), hd⟩

theorem last_get {l : List ByteArray} {k : Nat} (h : l.length = k + 1) : l.getLast? = some (l[k]'(by omega)) := by
  have e : l.length - 1 = k := by omega
  rw [List.getLast?_eq_getElem?, show l[l.length - 1]? = l[k]? from congrArg (fun n => l[n]?) e, List.getElem?_eq_getElem (by omega)]
theorem set_last {l : List ByteArray} {k : Nat} (h : l.length = k + 1) (y : ByteArray) : l.set k y = l.dropLast ++ [y] := by
  have h2 : l = l.dropLast ++ [l[k]'(by omega)] := (JoinS.dl_last (last_get h)).symm
  have h3 : l.dropLast.length = k := by rw [List.length_dropLast, h]; rfl
  conv => lhs; rw [h2]
  rw [List.set_append_right _ _ (by omega), h3, Nat.sub_self]; rfl

set_option maxRecDepth 100000 in
set_option maxHeartbeats 1000000 in
theorem closed_c {w : World} {v : Value} {l : List ByteArray} (h : Tl w v l) (hl : l.length ≤ 10000000) (hz : ∀ s ∈ l, s.size ≤ 100000000) : Calls Tryz.prog 113 #[v] w fun e w' => ∃ v', e = .returned v' ∧ w'.ownsRow w.heap.size 9 1 v' (JoinS.closed l).length (lrow (JoinS.closed l)) ∧ Below w.heap.size w w' := by
  have HCL := Lib.hid (tclone_c h hl)
  clear h
  go_enter Tryz.func113, Tryz.ntmps113
  go_upto_region 2 with (go_at_call 128; refine HCL.out.mono ?_; rintro e w1 ⟨v1, rfl, ho, hb⟩)
  rcases hk : l.length with _ | k
  · have e0 : l = [] := List.eq_nil_of_length_eq_zero hk
    subst e0
    have HO := Lib.hid ho
    have HB := Lib.hid hb
    obtain ⟨a, c, rfl, -⟩ := Tl.of_own ho
    clear ho hb HCL hk
    go_wp2_with fail
    go_ret
    exact ⟨_, rfl, HO.out, HB.out⟩
  · rw [hk] at ho
    obtain ⟨g, c, rfl, hc, hbg, hgl, hs⟩ := own_some ho (own_ne ho (by omega))
    have hcell : w1.cell? ⟨g, k, none⟩ = some (.string (l[k]'(by omega))) := by
      rw [ho.cellAt k (by omega)]
      unfold lrow
      rw [List.getElem?_map, List.getElem?_eq_getElem (by omega)]; rfl
    have hfz := ho.frozenAt k
    have hsz := hz _ (List.getElem_mem (by omega : k < l.length))
    have HST := Lib.hid (ho.stored k (.string ((l[k]'(by omega)) ++ ⟨#[10]⟩)))
    have HCD : Hid (JoinS.closed l = if Lib.hasSuffix (l[k]'(by omega)).data.toList [10] then l else l.set k ((l[k]'(by omega)) ++ ⟨#[10]⟩)) := by
      show _ = _
      unfold JoinS.closed
      rw [last_get hk, set_last hk]; rfl
    have HO := Lib.hid ho
    have HB := Lib.hid hb
    clear ho hb hs HCL hc
    have HK := Lib.hid hk
    have hkb : k < 10000000 := by omega
    have hle : k + 1 ≤ 100000000 := by omega
    have d1 : decide ((k : Int) + 1 > 0) = true := decide_eq_true (by omega)
    have d2 : decide (0 < k + 1) = true := decide_eq_true (by omega)
    have d3 : IntKind.i64.wrap ((k : Int) + 1 - 1) = (k : Int) := by rw [show (k : Int) + 1 - 1 = (k : Int) by omega]; exact IntWalk.i64_in _ (by omega)
    have hk0 : (0 : Int) ≤ (k : Int) := by omega
    have hk1 : (k : Int) < (k : Int) + 1 := by omega
    generalize l[k]'(by omega) = x at *
    clear hk
    have HSF := Lib.hid (Tryz.strings_HasSuffix x ⟨#[10]⟩ w1 (by omega))
    obtain ⟨z, hz2⟩ : ∃ z, Lib.hasSuffix x.data.toList (⟨#[10]⟩ : ByteArray).data.toList = z := ⟨_, rfl⟩
    have HZ : Hid (Lib.hasSuffix x.data.toList [10] = z) := hz2
    rw [hz2] at HSF
    clear hz2
    cases z
    · go_wp2_with (go_at_call 129; refine HSF.out.mono ?_; rintro e w2 ⟨rfl, hw⟩; obtain rfl := hw.symm; clear hw)
      go_ret
      rw [HCD.out, HZ.out, if_neg (by simp)]
      refine ⟨_, rfl, ?_, HB.out.trans (below_of_grown HO.out HST.out.2 HB.out.size)⟩
      rw [List.length_set, HK.out]
      have : lrow (l.set k (x ++ ⟨#[10]⟩)) = (lrow l).set k (.string (x ++ ⟨#[10]⟩)) := by unfold lrow; rw [List.map_set]
      rw [this]
      exact HST.out.1
    · go_wp2_with (go_at_call 129; refine HSF.out.mono ?_; rintro e w2 ⟨rfl, hw⟩; obtain rfl := hw.symm; clear hw)
      go_ret
      rw [HCD.out, HZ.out, if_pos rfl, HK.out]
      exact ⟨_, rfl, HO.out, HB.out⟩
end Go.Proofs.YtpcipdkoncmdcaaGreatDoor
namespace Go.Proofs.YtpcipdkoncmdcaaGreatDoor
open Go Go.RowKit
theorem Tl.to {w : World} {a : Option Addr} {c n : Nat} {l : List ByteArray} (h : Tl w (.slice a l.length c) l) (hn : n ≤ l.length) : Tl w (.slice a n c) (l.take n) := by
  obtain ⟨a', c', e, h2, h3, h4, h5⟩ := h
  injection e with e1 _ e2
  subst e1 e2
  exact ⟨_, _, by rw [List.length_take, Nat.min_eq_left hn], by rw [List.length_take]; omega, h3, h4, by rw [lrow_take]; exact h5.take n⟩

set_option maxRecDepth 100000 in
set_option maxHeartbeats 1000000 in
theorem cut_c {w : World} {q i n : Nat} {v : Value} {l : List ByteArray} (hc : w.cell? ⟨q, i, none⟩ = some v) (hf : w.frozen? ⟨q, i, none⟩ = false) {F : Nat → Prop} (h : Tn w F v l) (hn : n ≤ l.length) (hl : l.length ≤ 10000000) :
    Calls Tryz.prog 126 #[.pointer (some ⟨q, i, none⟩), .int .i64 n] w fun e w' => ∃ v' v2 w1, e = .returned v' ∧ w1.ownsRow w.heap.size 9 1 v' n (lrow (l.take n)) ∧ Tn w F v2 (l.drop n) ∧ Below w.heap.size w w1 ∧ w' = w1.setCell ⟨q, i, none⟩ v2 := by
  have hqb : q < w.heap.size := World.block_lt_of_cell? w _ hc
  have hT := h.tl
  obtain ⟨a, c, rfl, h2, h3, h4, hF⟩ := h
  have h5 : Sl w a (lrow l) := hF.imp id fun ⟨b, o, g1, _, g3, g4⟩ => ⟨b, o, g1, g3, g4⟩
  have hto : ∀ W, (Instr.slice 82 (.slice a l.length c) none (some (.int .i64 n)) none).run Tryz.prog W = .ok (.slice a n c) W := fun W => sl_to strs_elem strs_one (by omega) h4 W
  obtain ⟨A, C, hC1, hC2, hC3, hAs, hfrom, hsame⟩ := sl_from2 strs_elem strs_one (c := c) h5 (by rw [lrow_len]; exact h2) h4 (k := n) (by rw [lrow_len]; exact hn)
  rw [lrow_len] at hC1 hfrom
  have HT2 : Hid (Tn w F (.slice A (l.length - n) C) (l.drop n)) := Lib.hid ⟨A, C, by rw [List.length_drop], by rw [List.length_drop]; exact hC1, by omega, hC3, by
    rw [lrow_drop]
    rcases hAs with h | ⟨b, o, g1, g3, g4⟩
    · exact .inl h
    · rcases hF with h | ⟨b', o', e1, e2, -, -⟩
      · exact .inl (by rw [h]; exact List.drop_nil)
      · obtain ⟨o2, sp2, e3⟩ := hsame b o g1
        rw [e1] at e3
        injection e3 with e3
        injection e3 with e3
        subst e3
        exact .inr ⟨b', o, g1, e2, g3, g4⟩⟩
  have HCL := tclone_c (hT.to hn) (by rw [List.length_take]; omega)
  rw [List.length_take, Nat.min_eq_left hn] at HCL
  have HCL := Lib.hid HCL
  have HC := Lib.hid hc
  have HF := Lib.hid hf
  clear h5 hT hAs hF hsame
  go_enter Tryz.func126, Tryz.ntmps126
  go_upto_region 2 with (go_at_call 128; refine HCL.out.mono ?_; rintro e w1 ⟨v1, rfl, ho, hb⟩)
  have hc1 := (hb.cell (p := ⟨q, i, none⟩) hqb).trans hc
  have hf1 : w1.frozen? ⟨q, i, none⟩ = false := by rw [← hf]; simp only [World.frozen?, hb.block q hqb]
  have HO := Lib.hid ho
  have HB := Lib.hid hb
  clear ho hb HCL hto hc hf
  go_wp2_with fail
  go_ret
  exact ⟨_, _, w1, rfl, HO.out, HT2.out, HB.out, rfl⟩
end Go.Proofs.YtpcipdkoncmdcaaGreatDoor
namespace Go.Proofs.YtpcipdkoncmdcaaGreatDoor
open Go Go.RowKit
section
variable {P : Program} {w w' : World}
/-- 'x[i]' of an array by value, of one-cell elements. -/
theorem run_index_agg {t e : TypeId} {n : Nat} (h : P.underlying t = some (.array n e)) (hs : (P.info? e).map (·.size) = some 1) (ha : ∀ w : World, (isAgg e).run P w = .ok false w) {cs : Array Value} {k : IntKind} {i : Nat} (hi : i < n) {v : Value} (hv : cs[i]? = some v) (w : World) : (Instr.index t (.agg cs) (.int k i)).run P w = .ok v w := by
  obtain ⟨info, hq, h1⟩ := Option.map_eq_some_iff.1 hs
  simp [Instr.index, run_underlying h, asIntOf, hi, part, sizeOf, typeInfo, hq, h1, hv, ha]

theorem set_blk {w : World} {p : Nat} {cs : Array Value} {e : TypeId} {fr : Nat × Nat} (h : w.heap[p]? = some (.cells cs e fr)) (j : Nat) (v : Value) :
    (w.setCell ⟨p, j, none⟩ v).heap[p]? = some (.cells (cs.setIfInBounds j v) e fr) ∧ w.grownBy (w.setCell ⟨p, j, none⟩ v) (some p) := by
  refine ⟨by simp [World.setCell, Array.getElem?_modify, h], rfl, rfl, rfl, by simp [World.setCell], fun k hk hne => ?_⟩
  simp only [World.setCell]
  rw [Array.getElem?_modify, if_neg (fun e1 => hne (by rw [e1]))]

/-- An array of numbers: the i-th one is f i. -/
structure ArrF (w : World) (b : Nat) (e : TypeId) (k : IntKind) (n : Nat) (cs : Array Value) (f : Nat → Nat) : Prop where
  h : w.heap[b]? = some (.cells cs e (0, 0))
  sz : cs.size = n
  at_ : ∀ i, i < n → cs[i]? = some (.int k (f i))

theorem ArrF.lt {b : Nat} {e : TypeId} {k : IntKind} {n : Nat} {cs : Array Value} {f : Nat → Nat} (h : ArrF w b e k n cs f) : b < w.heap.size := (Array.getElem?_eq_some_iff.1 h.h).1
theorem ArrF.c {b : Nat} {e : TypeId} {k : IntKind} {n : Nat} {cs : Array Value} {f : Nat → Nat} (h : ArrF w b e k n cs f) (i : Nat) (hi : i < n) : w.cell? ⟨b, i, none⟩ = some (.int k (f i)) := by
  simp only [World.cell?, h.h]; exact h.at_ i hi
theorem ArrF.fz {b : Nat} {e : TypeId} {k : IntKind} {n : Nat} {cs : Array Value} {f : Nat → Nat} (h : ArrF w b e k n cs f) (i : Nat) : w.frozen? ⟨b, i, none⟩ = false := by simp [World.frozen?, h.h]
theorem ArrF.one {b : Nat} {e : TypeId} {k : IntKind} {n : Nat} {cs : Array Value} {f : Nat → Nat} (h : ArrF w b e k n cs f) : cs.all (·.oneCell') = true := by
  rw [Array.all_eq_true]
  intro i hi
  have := h.at_ i (by rw [← h.sz]; exact hi)
  rw [Array.getElem?_eq_getElem hi] at this
  injection this with this
  rw [this]; rfl
theorem ArrF.block {b : Nat} {e : TypeId} {k : IntKind} {n : Nat} {cs : Array Value} {f : Nat → Nat} (h : ArrF w b e k n cs f) (hb : w'.heap[b]? = w.heap[b]?) : ArrF w' b e k n cs f := ⟨hb.trans h.h, h.sz, h.at_⟩
theorem ArrF.below {b : Nat} {e : TypeId} {k : IntKind} {n : Nat} {cs : Array Value} {f : Nat → Nat} (h : ArrF w b e k n cs f) (hb : Below w.heap.size w w') : ArrF w' b e k n cs f := h.block (hb.block b h.lt)
theorem ArrF.kept {b : Nat} {e : TypeId} {k : IntKind} {n : Nat} {cs : Array Value} {f : Nat → Nat} {row : Option Nat} (h : ArrF w b e k n cs f) (hg : w.grownBy w' row) (hne : some b ≠ row) : ArrF w' b e k n cs f := h.block (hg.block b h.lt hne)
theorem ArrF.congr {b : Nat} {e : TypeId} {k : IntKind} {n : Nat} {cs : Array Value} {f g : Nat → Nat} (h : ArrF w b e k n cs f) (hfg : ∀ i, i < n → f i = g i) : ArrF w b e k n cs g := ⟨h.h, h.sz, fun i hi => by rw [← hfg i hi]; exact h.at_ i hi⟩
theorem ArrF.set {b : Nat} {e : TypeId} {k : IntKind} {n : Nat} {cs : Array Value} {f : Nat → Nat} (h : ArrF w b e k n cs f) (j : Nat) (v : Nat) :
    ArrF (w.setCell ⟨b, j, none⟩ (.int k v)) b e k n (cs.setIfInBounds j (.int k v)) (fun i => if i = j then v else f i) ∧ w.grownBy (w.setCell ⟨b, j, none⟩ (.int k v)) (some b) := by
  obtain ⟨s, g⟩ := set_blk h.h j (.int k v)
  refine ⟨⟨s, by simp [h.sz], fun i hi => ?_⟩, g⟩
  rw [Array.getElem?_setIfInBounds]
  by_cases hij : j = i
  · subst hij
    rw [if_pos rfl, if_pos (by rw [h.sz]; exact hi)]
    simp only [if_pos]
  · rw [if_neg hij]
    simp only [if_neg (fun e => hij e.symm : ¬ i = j)]
    exact h.at_ i hi
end
end Go.Proofs.YtpcipdkoncmdcaaGreatDoor
namespace Go.Proofs.YtpcipdkoncmdcaaGreatDoor
open Go Go.RowKit
/-- How far a world is from another one: the draws, the new blocks. -/
structure BW where
  d : Nat
  os : Array Obj
  deriving Inhabited

def bw (w : World) (p : BW) : World := { w with heap := w.heap ++ p.os, drawn := p.d }

theorem bw_of {w w' : World} (hb : Below w.heap.size w w') : ∃ p : BW, w' = bw w p := by
  refine ⟨⟨w'.drawn, w'.heap.extract w.heap.size w'.heap.size⟩, ?_⟩
  have hh : w'.heap = w.heap ++ w'.heap.extract w.heap.size w'.heap.size := by
    apply Array.ext_getElem?
    intro i
    rw [Array.getElem?_append]
    split
    · rename_i hi; exact hb.block i hi
    · rename_i hi
      rw [Array.getElem?_extract]
      split
      · congr 1; omega
      · rename_i h2
        have := hb.size
        rw [Array.getElem?_eq_none (by omega)]
  cases w
  cases w'
  obtain ⟨h1, h2, h3, h4, h5⟩ := hb
  simp only at h1 h2 h3 hh
  subst h1 h2 h3
  simp only [bw]
  congr 1

/-- The class, by moves. -/
def CB (w w' : World) : Prop := ∃ p : BW, w' = bw w p
theorem CB.refl (w : World) : CB w w := bw_of (Below.refl _ w)
end Go.Proofs.YtpcipdkoncmdcaaGreatDoor
namespace Go.Proofs.YtpcipdkoncmdcaaGreatDoor
open Go Go.RowKit
section
variable {P : Program} {ops : Array Oper} {md : Region.Mode} {Q : Exit → Act → World → Prop} {S : World → Prop}
theorem waits_false {i j : Nat} {oj : Oper} (hj : ops[j]? = some oj) (h : ∀ e ∈ oj.after, Region.binds md e = true → e.on ≠ i) : Region.waitsFor md ops j i = false := by
  cases e : Region.waitsFor md ops j i with
  | false => rfl
  | true =>
    obtain ⟨o', h1, x, h2, h3, h4⟩ := Region.waitsFor_spec e
    rw [hj] at h1
    injection h1 with h1
    subst h1
    exact absurd h4 (h x h2 h3)

end
end Go.Proofs.YtpcipdkoncmdcaaGreatDoor
namespace Go.Proofs.YtpcipdkoncmdcaaGreatDoor
open Go Go.RowKit
section
variable {P : Program} {ops ops' : Array Oper} {md : Region.Mode} {i : Nat} {oi oi' : Oper} {ptr : Value} {w0 w1 : World} {C : World → Prop}
/-- The region whose making operation yields the known address. -/
structure Alike2 (ops ops' : Array Oper) (i : Nat) (oi oi' : Oper) : Prop where
  hi : ops[i]? = some oi
  hi' : ops'[i]? = some oi'
  oth : ∀ j, j ≠ i → ops'[j]? = ops[j]?
  size : ops'.size = ops.size
  aft : oi'.after = oi.after
  dst : oi'.dst = oi.dst
  g : oi.guard = none
  g' : oi'.guard = none

theorem Alike2.ready (A : Alike2 ops ops' i oi oi') (up : Array Bool) : Region.ready md ops' up = Region.ready md ops up := by
  unfold Region.ready
  rw [A.size]
  apply List.filter_congr
  intro j _
  congr 1
  by_cases e : j = i
  · subst e; rw [A.hi, A.hi']; simp only [Option.map_some, A.aft]
  · rw [A.oth j e]
end
end Go.Proofs.YtpcipdkoncmdcaaGreatDoor
namespace Go.Proofs.YtpcipdkoncmdcaaGreatDoor
open Go Go.RowKit
section
variable {P : Program} {ops : Array Oper} {md : Region.Mode} {Q : Exit → Act → World → Prop} {S : World → Prop}
end
end Go.Proofs.YtpcipdkoncmdcaaGreatDoor
namespace Go.Proofs.YtpcipdkoncmdcaaGreatDoor
open Go Go.RowKit
/-- tk: taken under S; fc: the one that is ready. -/
inductive HM where
  | tk (i : Nat)
  | fc (i : Nat)

section
variable {P : Program} {ops : Array Oper} {md : Region.Mode} {Q : Exit → Act → World → Prop} {S : World → Prop}
end
end Go.Proofs.YtpcipdkoncmdcaaGreatDoor
namespace Go.Proofs.YtpcipdkoncmdcaaGreatDoor
open Go Go.RowKit
/-- tk: taken under S; fc: the one that is ready; br: one of two. -/
inductive HT where
  | nil
  | tk (i : Nat) (t : HT)
  | fc (i : Nat) (t : HT)
  | br (i : Nat) (ti : HT) (j : Nat) (tj : HT)

section
variable {P : Program} {ops : Array Oper} {md : Region.Mode} {Q : Exit → Act → World → Prop} {S : World → Prop}
def okT (md : Region.Mode) (ops : Array Oper) : HT → Nat → Array Bool → Bool
  | .nil, n, up => decide (n = 0) && decide (Region.ready md ops up = [])
  | .tk k t, n + 1, up => (Region.ready md ops up).contains k && Region.free md ops up k && okT md ops t n (up.setIfInBounds k true)
  | .fc k t, n + 1, up => decide (Region.ready md ops up = [k]) && okT md ops t n (up.setIfInBounds k true)
  | .br i ti j tj, n + 1, up => decide (Region.ready md ops up = [i, j]) && okT md ops ti n (up.setIfInBounds i true) && okT md ops tj n (up.setIfInBounds j true)
  | _, 0, _ => false

theorem wpT_one {T : Act → World → Prop} {k : Nat} {a : Act} {w : World} (h : ∃ o, ops[k]? = some o ∧ wpList P ops (Exit.then T Q) [o] a w) : wpOp P ops Q k T a w := by
  obtain ⟨o, ho, h⟩ := h
  have hw : wpOp P ops (Exit.then T Q) k (wpList P ops (Exit.then T Q) []) a w := by unfold wpOp; simp only [ho]; exact h
  exact wpOp_mono (fun _ _ h => h) (wpOp_then hw)

variable {k : Nat} {t : HT} {o : Oper} {T : Array Value} {D : List Deferred} {w : World}
theorem then_then {N R : Act → World → Prop} : Exit.then N (Exit.then R Q) = Exit.then N Q := by
  funext e a w; cases e <;> rfl
theorem wpList1_mono {T T' : Act → World → Prop} (hT : ∀ a w, T a w → T' a w) {o : Oper} {a : Act} {w : World} (h : wpList P ops (Exit.then T Q) [o] a w) : wpList P ops (Exit.then T' Q) [o] a w := by
  unfold wpList at h ⊢
  split at h
  · rename_i hw
    rw [if_pos hw]
    rcases h with h | ⟨h1, h2⟩
    · refine .inl ?_
      unfold Oper.wp at *
      generalize (execOp a.eval o).run P w = r at *
      cases r with
      | ok n w' =>
        cases n <;> simp only [Oper.upon] at h ⊢ <;> first
          | exact hT _ _ h
          | exact h.mono fun e _ he => by cases e <;> first | exact hT _ _ he | exact he
          | exact h.mono fun _ _ he => hT _ _ he
      | halt x w' => cases x <;> simp only [Oper.upon] at h ⊢ <;> exact h
    · exact .inr ⟨h1, h2⟩
  · rename_i hw
    rw [if_neg hw]
    exact hT _ _ h
/-- The whole block is stored, as an equation. -/
theorem run_storeB {w : World} {ty e : TypeId} {b : Nat} {old new : Array Value} (hb : w.heap[b]? = some (.cells old e (0, 0))) (hsz : old.size = new.size) (hi : (P.info? ty).map (·.size) = some new.size) (h1 : new.all (·.oneCell') = true) :
    ∃ w' : World, (Instr.storeAt ty (.pointer (some ⟨b, 0, none⟩)) (.agg new)).run P w = .ok () w' ∧ w'.heap[b]? = some (.cells new e (0, 0)) ∧ w.grownBy w' (some b) := by
  refine ⟨_, run_storeAt_mid (P := P) w b 0 ty new (fun j hj => ⟨?_, ?_⟩) hi h1, ?_, setCells_grown w b 0 _⟩
  · simp only [World.cell?, hb, Nat.zero_add]
    rw [Array.getElem?_eq_getElem (by omega)]; rfl
  · simp [World.frozen?, hb]
  · obtain ⟨cur', c1, c2, c3⟩ := setCells_block b new.toList 0 w old e (0, 0) hb (by simp; omega)
    have : cur' = new := by
      apply Array.ext_getElem?
      intro i
      rw [c3]
      by_cases hi : i < new.size
      · rw [if_pos (by simp; omega), Nat.sub_zero, Array.getElem?_toList]
      · rw [if_neg (by simp; omega), Array.getElem?_eq_none (by omega), Array.getElem?_eq_none (by omega)]
    subst this
    exact c1
end
end Go.Proofs.YtpcipdkoncmdcaaGreatDoor
