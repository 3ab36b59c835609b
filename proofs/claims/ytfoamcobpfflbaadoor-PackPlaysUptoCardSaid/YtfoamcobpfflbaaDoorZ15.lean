/- Texts of mine, joined: Walks: a record's head. | A drawn region whose callees lay blocks: the class of all worlds that have nothing old turned. Of every program. | Walks: a record's frame. | Ids: arrays of 32 bytes as values, as keys of maps, held against one another. -/
import Derived.DeepKeys4
import Derived.Test.YtfoamcobpfflbaaDoorZ14
namespace Go.Proofs.YtfoamcobpfflbaaDoor
open Go Go.RowKit

theorem bits_or_i64 (a b : Nat) (ha : a < 9223372036854775808) (hb : b < 9223372036854775808) : bits .or .i64 (a : Int) (b : Int) = ((a ||| b : Nat) : Int) := by
  have h1 : (BitVec.ofInt 64 (a : Int)).toNat = a := by
    rw [BitVec.ofInt_natCast, BitVec.toNat_ofNat]; exact Nat.mod_eq_of_lt (by omega)
  have h2 : (BitVec.ofInt 64 (b : Int)).toNat = b := by
    rw [BitVec.ofInt_natCast, BitVec.toNat_ofNat]; exact Nat.mod_eq_of_lt (by omega)
  have ho : a ||| b < 2 ^ 63 := Nat.or_lt_two_pow (by omega) (by omega)
  show IntKind.i64.wrap ((BitVec.ofInt 64 (a : Int) ||| BitVec.ofInt 64 (b : Int)).toNat : Int) = _
  rw [BitVec.toNat_or, h1, h2, IntWalk.i64_in _ (by omega)]

theorem OwnG.new0 (w : World) (e : TypeId) (size : Nat) : OwnG (w.alloc (.cells #[] e)) e size (.slice (some ⟨w.heap.size, 0, none⟩) 0 0) 0 [] :=
  ⟨by simp, .inr ⟨_, 0, 0, #[], rfl, (Go.MapKept.heap_alloc w _).1, Nat.le_refl _, Nat.zero_le _, by simp, fun j u hu => by cases hu⟩⟩

/-- A byte row of the call's own, new since w. -/
structure NB (w wx : World) (v : Value) (L : List Nat) : Prop where
  b : Below w.heap.size w wx
  r : OwnG wx 5 1 v L.length (nb L)
  new : ∀ k, v.ownBlock = some k → w.heap.size ≤ k
theorem NB.nil (w : World) : NB w w (.slice none 0 0) [] := ⟨Below.refl _ _, OwnG.nil _ _ _, fun k h => by cases h⟩
theorem NB.alloc {w wx : World} {v : Value} {L : List Nat} (h : NB w wx v L) (o : Obj) : NB w (wx.alloc o) v L := ⟨h.b.alloc h.b.size o, h.r.alloc o, h.new⟩
theorem NB.below {w wx w' : World} {v : Value} {L : List Nat} (h : NB w wx v L) (hb : Below wx.heap.size wx w') : NB w w' v L := ⟨h.b.trans (hb.mono h.b.size), h.r.below hb, h.new⟩
theorem NB.app {w wx w' : World} {v v' : Value} {L X : List Nat} (h : NB w wx v L) (ho : OwnG w' 5 1 v' (L.length + X.length) (nb L ++ nb X)) (hg : wx.grownBy w' v.ownBlock) (hv : ∀ k, v'.ownBlock = some k → v.ownBlock = some k ∨ wx.heap.size ≤ k) : NB w w' v' (L ++ X) := by
  have := h.b.size
  exact ⟨h.b.grown hg h.b.size (fun k e => h.new k e), by rw [List.length_append, nb_append]; exact ho, fun k hk => (hv k hk).elim (h.new k) (fun h => by omega)⟩

set_option maxRecDepth 100000 in
theorem number_c {w : World} (n : Nat) (_hn : n < 4294967296) :
    Calls Tryd.prog 89 #[.int .i64 n] w fun e w' => ∃ v, e = .returned v ∧ NB w w' v (PackS.be4 n) := by
  go_enter Tryd.func89, Tryd.ntmps89
  go_wp2_with fail
  have h0 := NB.nil w
  go_loopw [3, 4] (fun rv iv wx => ∃ (c : Nat) (i : Int), c ≤ 4 ∧ i = 24 - 8 * (c : Int) ∧ iv = .int .i64 i ∧ NB w wx rv ((List.range c).map fun i => n / 256 ^ (3 - i) % 256)) (fun rv _ _ => 5 - slLen rv)
  case atStart => exact ⟨0, 24, by omega, by omega, rfl, h0⟩
  case round =>
    clear h0
    obtain ⟨c, i, hc, hi, rfl, hM⟩ := hrel
    have hlen : ((List.range c).map fun i => n / 256 ^ (3 - i) % 256).length = c := by simp
    by_cases hc8 : c < 4
    · obtain ⟨s, rfl⟩ : ∃ s : Nat, i = s := ⟨24 - 8 * c, by omega⟩
      have hd : decide ((s : Int) ≥ 0) = true := decide_eq_true (by omega)
      have hd' : decide ((0 : Int) ≤ (s : Int)) = true := decide_eq_true (by omega)
      have s0 : (0 : Int) ≤ (s : Int) := by omega
      have s1 : (s : Int) ≤ 64 := by omega
      have hs8 : s = 8 * (3 - c) := by omega
      have hby : ((n : Int) / 2 ^ s % 256) = ((n / 256 ^ (3 - c) % 256 : Nat) : Int) := by
        rw [hs8, show (256 : Nat) ^ (3 - c) = 2 ^ (8 * (3 - c)) by rw [Nat.pow_mul], Int.natCast_emod, Int.natCast_ediv, Int.natCast_pow]
        simp
      have hyl : n / 256 ^ (3 - c) % 256 < 256 := Nat.mod_lt _ (by omega)
      have HY : Hid ((List.range (c + 1)).map (fun i => n / 256 ^ (3 - i) % 256) = (List.range c).map (fun i => n / 256 ^ (3 - i) % 256) ++ [n / 256 ^ (3 - c) % 256]) := by
        show _ = _
        rw [List.range_succ, List.map_append]; rfl
      have HI := Lib.hid hi
      generalize n / 256 ^ (3 - c) % 256 = y at *
      generalize (List.range c).map (fun i => n / 256 ^ (3 - i) % 256) = L at *
      have h63 : L.length + 1 ≤ maxLen := by simp [maxLen]; omega
      have h47 : (L.length + 1) * 1 ≤ 140737488355328 := by omega
      have HL := Lib.hid hlen
      obtain ⟨ra, rc, rfl, hrc, hrm, -⟩ := hM.r.form
      have hM1 := hM.alloc (.cells #[.int .u8 y] 5)
      have hsrc : Src Tryd.prog 1 43 (.slice (some ⟨wr.heap.size, 0, none⟩) 1 1) 1 (nb [y]) (wr.alloc (.cells #[.int .u8 y] 5)) := Src.ofNew (e := 5) (news := nb [y]) Tryd.underlying43 rfl (nb_one _)
      have hMr := hM1.r
      have HM1 := Lib.hid hM1
      have hw8 : IntKind.i64.wrap ((s : Int) - 8) = (s : Int) - 8 := IntWalk.i64_in _ (by omega)
      clear hM hM1 hyl hrm hi hs8 hlen
      go_wp2_with (at_builtin; refine wp_appG rfl _ _ _ _ rfl byteElem rfl rfl hMr rfl hsrc h63 h47 ?_; intro v2 w2 ho2 hg2 hv2; have HM2 := Lib.hid (HM1.out.app (X := [y]) ho2 hg2 hv2))
      obtain ⟨rb, rcb, rfl, -, -, -⟩ := HM2.out.r.form
      go_roundw
      case rel => exact ⟨c + 1, (s : Int) - 8, by omega, by have := HI.out; omega, rfl, by rw [HY.out]; exact HM2.out⟩
      case measure =>
        have := HL.out
        show 5 - (L ++ [y]).length < 5 - L.length
        rw [List.length_append]; simp; omega
    · have hd : decide (i ≥ 0) = false := decide_eq_false (by omega)
      have hd' : decide (0 ≤ i) = false := decide_eq_false (by omega)
      have hc4 : c = 4 := by omega
      subst hc4
      have hbe : (List.range 4).map (fun i => n / 256 ^ (3 - i) % 256) = PackS.be4 n := by
        show [n / 256 ^ 3 % 256, n / 256 ^ 2 % 256, n / 256 ^ 1 % 256, n / 256 ^ 0 % 256] = _
        simp [PackS.be4]
      rw [hbe] at hM
      have hM2 := hM
      clear hM hlen hi
      go_wp2_with fail
      go_ret
      exact ⟨_, rfl, hM2⟩

theorem val_snoc (l : List Nat) (x : Nat) : PackS.val (l ++ [x]) = PackS.val l * 256 + x := by simp [PackS.val]
theorem val_lt : ∀ (l : List Nat), (∀ x ∈ l, x < 256) → l.length ≤ 4 → PackS.val l < 4294967296 := by
  intro l h hl
  match l, hl with
  | [], _ => decide
  | [a], _ => have := h a (by simp); simp only [PackS.val, List.foldl_cons, List.foldl_nil]; omega
  | [a, b], _ => have := h a (by simp); have := h b (by simp); simp only [PackS.val, List.foldl_cons, List.foldl_nil]; omega
  | [a, b, c], _ => have := h a (by simp); have := h b (by simp); have := h c (by simp); simp only [PackS.val, List.foldl_cons, List.foldl_nil]; omega
  | [a, b, c, d], _ => have := h a (by simp); have := h b (by simp); have := h c (by simp); have := h d (by simp); simp only [PackS.val, List.foldl_cons, List.foldl_nil]; omega

set_option maxRecDepth 100000 in
theorem pread_c {w : World} {a : Option Addr} {l : List Nat} {c : Nat} (hl : Sl w a (nb l)) (h4 : l.length ≤ 4) (hb : ∀ x ∈ l, x < 256) :
    Calls Tryd.prog 90 #[.slice a l.length c] w fun e w' => e = .returned (.int .i64 (PackS.val l)) ∧ w' = w := by
  go_enter Tryd.func90, Tryd.ntmps90
  go_wp2_with fail
  go_loopw [3, 8] (fun nv iv wx => ∃ i : Nat, i ≤ l.length ∧ iv = .int .i64 i ∧ nv = .int .i64 (PackS.val (l.take i)) ∧ wx = w) (fun _ iv _ => (l.length - intOf iv).toNat)
  case atStart => exact ⟨0, by omega, rfl, rfl, rfl⟩
  case round =>
    obtain ⟨i, hi, rfl, rfl, rfl⟩ := hrel
    by_cases hi2 : i < l.length
    · have hd : decide ((i : Int) < (l.length : Int)) = true := decide_eq_true (by omega)
      have hd' : decide (i < l.length) = true := decide_eq_true hi2
      obtain ⟨g, o, rfl, hg, hcel⟩ := hl.at (k := i) (by rw [nb_len]; exact hi2)
      have hby := hb l[i] (List.getElem_mem hi2)
      have hc : wr.cell? ⟨g, o + i, none⟩ = some (.int .u8 (l[i] : Nat)) := by
        have := hcel i (by rw [nb_len]; exact hi2)
        rw [this]; simp [nb]
      have hv := val_lt (l.take i) (fun x hx => hb x (List.mem_of_mem_take hx)) (by rw [List.length_take]; omega)
      have hv2 := val_lt (l.take (i + 1)) (fun x hx => hb x (List.mem_of_mem_take hx)) (by rw [List.length_take]; omega)
      have HS : Hid (PackS.val (l.take (i + 1)) = PackS.val (l.take i) * 256 + l[i]) := by
        show _ = _
        rw [List.take_succ_eq_append_getElem hi2, val_snoc]
      rw [HS.out] at hv2
      generalize hv0 : PackS.val (l.take i) = v at *
      generalize l[i] = y at *
      obtain ⟨v2, hv3⟩ : ∃ v2, v2 = v * 256 := ⟨_, rfl⟩
      obtain ⟨v4, hv5⟩ : ∃ v4, v4 = v * 256 + y := ⟨_, rfl⟩
      have hsh : (v : Int) * 256 = (v2 : Int) := by omega
      have hor : bits .or .i64 (v2 : Int) (y : Int) = (v4 : Int) := by
        rw [bits_or_i64 _ _ (by omega) (by omega), hv3, show v * 256 = 2 ^ 8 * v by omega, ← Nat.two_pow_add_eq_or_of_lt (by omega)]
        congr 1; omega
      have hw2 : IntKind.i64.wrap (v2 : Int) = (v2 : Int) := IntWalk.i64_in _ (by omega)
      have HV := Lib.hid hv5
      have hw1 : IntKind.i64.wrap ((i : Int) + 1) = (i : Int) + 1 := IntWalk.i64_in _ (by omega)
      clear hv hv2 hv3 hv5 hv0 hcel
      go_wp2_with fail
      go_roundw
      case rel => exact ⟨i + 1, by omega, by go_num, by rw [HS.out, HV.out], trivial⟩
      case measure => simp [intOf]; omega
    · have hd : decide ((i : Int) < (l.length : Int)) = false := decide_eq_false (by omega)
      have hd' : decide (i < l.length) = false := decide_eq_false hi2
      obtain rfl : i = l.length := by omega
      go_wp2_with fail
      go_ret
      exact ⟨by rw [List.take_length]; rfl, rfl⟩
end Go.Proofs.YtfoamcobpfflbaaDoor
namespace Go.Proofs.YtfoamcobpfflbaaDoor
open Go Go.RowKit

/-- How far a world is from another one: the draws, the new blocks. -/
structure BW where
  d : Nat
  os : Array Obj
  deriving Inhabited

def bw (w : World) (p : BW) : World := { w with heap := w.heap ++ p.os, drawn := p.d }

theorem bw_below (w : World) (p : BW) : Below w.heap.size w (bw w p) :=
  ⟨rfl, rfl, rfl, by show w.heap.size ≤ (w.heap ++ p.os).size; rw [Array.size_append]; omega, fun k hk => by show (w.heap ++ p.os)[k]? = w.heap[k]?; rw [Array.getElem?_append_left hk]⟩

theorem bw_of {w w' : World} (hb : Below w.heap.size w w') : ∃ p : BW, w' = bw w p := by
  refine ⟨⟨w'.drawn, w'.heap.extract w.heap.size w'.heap.size⟩, ?_⟩
  have hh : w'.heap = w.heap ++ w'.heap.extract w.heap.size w'.heap.size := by
    apply Array.ext_getElem?
    intro i
    rw [Array.getElem?_append]
    split
    · rename_i hi; exact hb.block i hi
    · rename_i hi
      rw [Array.getElem?_extract]
      split
      · congr 1; omega
      · rename_i h2
        have := hb.size
        rw [Array.getElem?_eq_none (by omega)]
  cases w
  cases w'
  obtain ⟨h1, h2, h3, h4, h5⟩ := hb
  simp only at h1 h2 h3 hh
  subst h1 h2 h3
  simp only [bw]
  congr 1

theorem bw_cell {w : World} {a : Addr} {v : Value} (hb : a.block < w.heap.size) (h : w.cell? a = some v) (p : BW) : (bw w p).cell? a = some v := ((bw_below w p).cell hb).trans h

/-- A callee that turns nothing old, met in a world of the class. -/
theorem calls_bw {P : Program} {f : FuncId} {args : Array Value} {w : World} {p : BW} {v : Value}
    (h : Calls P f args (bw w p) fun e w' => e = .returned v ∧ Below (bw w p).heap.size (bw w p) w') : Calls P f args (bw w p) fun e w'' => e = .returned v ∧ ∃ q : BW, w'' = bw w q :=
  h.mono fun _ _ ⟨he, hb⟩ => ⟨he, bw_of ((bw_below w p).trans (hb.mono (bw_below w p).size))⟩

theorem wp_region_bw {P : Program} {id : Nat} {Q : Exit → Act → World → Prop} {a : Act} {w : World} {l : List Oper} (hm : P.follows .mixedOrders = true) (hB : Region.lexB .any l.toArray = true)
    (h : wpQuiet P l.toArray (fun w' => ∃ p : BW, w' = bw w p) (fun a' => ∀ w', (∃ p : BW, w' = bw w p) → Q .normal a' w') l a) : (Code.region id l.toArray true).wp P Q a w :=
  wp_region_quiet (C := fun w' => ∃ p : BW, w' = bw w p) hm hB ⟨⟨w.drawn + 1, #[]⟩, by simp [bw]⟩ (by simpa using h)

theorem wp_region_bw_tail {P : Program} {id : Nat} {Q : Exit → Act → World → Prop} {a : Act} {w : World} {l : List Oper} (n : Nat) (hm : P.follows .mixedOrders = true) (hB : Region.lexTailB .any l.toArray n = true)
    (h : wpQuiet P l.toArray (fun w' => ∃ p : BW, w' = bw w p) (fun a' => ∀ w', (∃ p : BW, w' = bw w p) → wpList P l.toArray Q (l.drop n) a' w') (l.take n) a) : (Code.region id l.toArray true).wp P Q a w :=
  wp_region_tail (C := fun w' => ∃ p : BW, w' = bw w p) n hm hB ⟨⟨w.drawn + 1, #[]⟩, by simp [bw]⟩ h

/-- The class, by moves. -/
def CB (w w' : World) : Prop := ∃ p : BW, w' = bw w p
theorem CB.refl (w : World) : CB w w := bw_of (Below.refl _ w)
theorem wp_region_cb {P : Program} {id : Nat} {Q : Exit → Act → World → Prop} {a : Act} {w : World} {l : List Oper} (ss : List Mv) (hm : P.follows .mixedOrders = true)
    (hB : (Region.noSelect l.toArray && okB .any l.toArray ss (Array.replicate l.toArray.size false) && decide (fuelOf ss = l.toArray.size)) = true)
    (hQ : ∀ (d : Tmp) (v : Value) c a w, Q (.panic c) (a.put (some d) v) w → Q (.panic c) a w) (h : goS P l.toArray Q CB ss a { w with drawn := w.drawn + 1 }) : (Code.region id l.toArray true).wp P Q a w :=
  wp_region_mv CB ss hm hB CB.refl hQ h
theorem goS_cb {P : Program} {ops : Array Oper} {Q : Exit → Act → World → Prop} {ss : List Mv} {a : Act} {w : World} {is : List Nat}
    (h : wpQuiet P ops (fun w' => ∃ p : BW, w' = bw w p) (fun a' => ∀ w', (∃ p : BW, w' = bw w p) → goS P ops Q CB ss a' w') (opsAt ops is) a) : goS P ops Q CB (.blk is :: ss) a { w with drawn := w.drawn + 1 } := h
end Go.Proofs.YtfoamcobpfflbaaDoor
namespace Go.Proofs.YtfoamcobpfflbaaDoor
open Go Go.RowKit

theorem sum1_c {w : World} {a : Option Addr} {c : Nat} {l : List Nat} (hl : Sl w a (nb l)) (hb : ∀ x ∈ l, x < 256) (hn : l.length ≤ 100000000) :
    Calls Tryd.prog 43 #[.slice (some ⟨w.heap.size, 0, none⟩) 1 1] (w.alloc (.cells #[.slice a l.length c] 43)) fun e w' => e = .returned (.agg (nums .u8 (Sha.sum l))) ∧ Below w.heap.size w w' := by
  have hB : Below w.heap.size w (w.alloc (.cells #[.slice a l.length c] 43)) := (Below.refl _ w).alloc (Nat.le_refl _) _
  have h := sum_c (w := w.alloc (.cells #[.slice a l.length c] 43)) (pa := some ⟨w.heap.size, 0, none⟩) (pc := 1) [(a, c, l)] (.inr ⟨w.heap.size, 0, rfl, by simp, fun i u hu => by rw [Nat.zero_add]; simp only [World.cell?, (Go.MapKept.heap_alloc w _).1]; simpa using hu⟩) (fun q hq => by
    rw [List.mem_singleton] at hq; subst hq
    exact ⟨hl.below hB, hb⟩) (by simp) (by simpa using hn)
  refine h.mono ?_
  rintro e w' ⟨rfl, h2⟩
  exact ⟨by simp, hB.trans (h2.mono hB.size)⟩

/-- An id's block. -/
theorem id_arr {w : World} {b : Nat} {l : List Nat} (h : w.heap[b]? = some (.cells (nums .u8 l) 47 (0, 0))) : Sl w (some ⟨b, 0, none⟩) (nb l) :=
  .inr ⟨b, 0, rfl, (Array.getElem?_eq_some_iff.1 h).1, fun i u hu => by
    simp only [World.cell?, h, Nat.zero_add]
    unfold nums
    rw [List.getElem?_toArray]; exact hu⟩
theorem nums_size (k : IntKind) (l : List Nat) : (nums k l).size = l.length := by simp [nums]
theorem nums_one (k : IntKind) (l : List Nat) : (nums k l).all (·.oneCell') = true := by
  rw [Array.all_eq_true]
  intro i hi
  simp [nums]
  rfl

theorem NB.from {w wX w' : World} {v : Value} {L : List Nat} (hb : Below w.heap.size w wX) (h : NB wX w' v L) : NB w w' v L :=
  ⟨hb.trans (h.b.mono hb.size), h.r, fun k hk => Nat.le_trans hb.size (h.new k hk)⟩

set_option maxRecDepth 100000 in
theorem frame_c {w : World} {a : Option Addr} {c : Nat} {l : List Nat} (hl : Sl w a (nb l)) (hb : ∀ x ∈ l, x < 256) (hn : l.length ≤ 10000000) :
    Calls Tryd.prog 65 #[.slice a l.length c] w fun e w' => ∃ v, e = .returned v ∧ NB w w' v (PackS.frame l) := by
  have HS := Lib.hid (sum1_c (c := c) hl hb (by omega))
  go_enter Tryd.func65, Tryd.ntmps65
  go_upto_region 2 with (first
    | (go_at_call 43; refine HS.out.mono ?_; rintro e w1 ⟨rfl, hb1⟩; have hI : (w1.alloc (.cells #[Value.int .u8 0, Value.int .u8 0, Value.int .u8 0, Value.int .u8 0, Value.int .u8 0, Value.int .u8 0, Value.int .u8 0, Value.int .u8 0, Value.int .u8 0, Value.int .u8 0, Value.int .u8 0, Value.int .u8 0, Value.int .u8 0, Value.int .u8 0, Value.int .u8 0, Value.int .u8 0, Value.int .u8 0, Value.int .u8 0, Value.int .u8 0, Value.int .u8 0, Value.int .u8 0, Value.int .u8 0, Value.int .u8 0, Value.int .u8 0, Value.int .u8 0, Value.int .u8 0, Value.int .u8 0, Value.int .u8 0, Value.int .u8 0, Value.int .u8 0, Value.int .u8 0, Value.int .u8 0] 47)).heap[w1.heap.size]? = some (.cells #[Value.int .u8 0, Value.int .u8 0, Value.int .u8 0, Value.int .u8 0, Value.int .u8 0, Value.int .u8 0, Value.int .u8 0, Value.int .u8 0, Value.int .u8 0, Value.int .u8 0, Value.int .u8 0, Value.int .u8 0, Value.int .u8 0, Value.int .u8 0, Value.int .u8 0, Value.int .u8 0, Value.int .u8 0, Value.int .u8 0, Value.int .u8 0, Value.int .u8 0, Value.int .u8 0, Value.int .u8 0, Value.int .u8 0, Value.int .u8 0, Value.int .u8 0, Value.int .u8 0, Value.int .u8 0, Value.int .u8 0, Value.int .u8 0, Value.int .u8 0, Value.int .u8 0, Value.int .u8 0] 47 (0, 0)) := Array.getElem?_push_size)
    | (refine wp_storeB rfl 47 _ _ rfl w1.heap.size (nums .u8 (Sha.sum l)) rfl rfl hI (by rw [nums_size, PackS.sum_len]; kernel_rfl) (by rw [nums_size, PackS.sum_len]; kernel_rfl) (nums_one _ _) ?_; intro w2 h2 g2))
  have hB2 : Below w.heap.size w w2 := ((hb1.alloc hb1.size _).grown g2 (hb1.alloc hb1.size _).size (fun k e => by injection e with e; have := hb1.size; omega))
  have hId := id_arr h2
  have hId8 : Sl w2 (some ⟨w1.heap.size, 0, none⟩) (nb (PackS.id8 l)) := by
    have := hId.take 8
    rw [show (nb (Sha.sum l)).take 8 = nb (PackS.id8 l) by unfold nb PackS.id8; rw [List.map_take]] at this
    exact this
  have hlw2 := hl.below hB2
  clear hI hb1 HS g2 h2 hId
  generalize w1.heap.size = bi at *
  have hB3 := below_dN hB2 1
  have hId3 : Sl (w2.drewN 1) (some ⟨bi, 0, none⟩) (nb (PackS.id8 l)) := hId8
  have hl3 : Sl (w2.drewN 1) a (nb l) := hlw2
  clear hB2 hId8 hlw2
  refine wp_region_dn [.take 3, .take 5, .frc [0, 1, 2], .frc [4], .frc [6, 7]] (by kernel_rfl) (by kernel_rfl) (fun _ _ _ _ _ h => h) ?_
  refine goS_take (v := .slice (some ⟨bi, 0, none⟩) 8 32) rfl rfl (fun _ => by simp [go_sem]) ?_
  refine goS_take (v := .slice a l.length c) rfl rfl (fun _ => rfl) ?_
  refine goS_frc ?_
  simp only [opsAt, List.filterMap_cons, List.filterMap_nil, List.getElem?_toArray, List.getElem?_cons_zero, List.getElem?_cons_succ]
  generalize w2.drewN 1 = W at *
  have hsm : (PackS.be4 l.length).length = 4 := rfl
  have h63 : 4 + 8 ≤ maxLen := by simp [maxLen]
  have h63' : 4 + 8 + l.length ≤ maxLen := by simp [maxLen]; omega
  have H8 : ∀ w3, Below W.heap.size W w3 → Src Tryd.prog 1 43 (.slice (some ⟨bi, 0, none⟩) 8 32) 8 (nb (PackS.id8 l)) w3 := fun w3 hb => by
    have := src_nb (c := 32) (hId3.below hb)
    rwa [PackS.id8_len] at this
  have HL : ∀ w3, Below W.heap.size W w3 → Src Tryd.prog 1 43 (.slice a l.length c) l.length (nb l) w3 := fun w3 hb => src_nb (c := c) (hl3.below hb)
  have HH8 := Lib.hid H8
  have HHL := Lib.hid HL
  have HI8 := Lib.hid (PackS.id8_len l)
  clear H8 HL hsm hId3 hl3 hl
  go_wp2_with (go_at_call 89; refine (number_c l.length (by omega)).mono ?_; rintro e w3 ⟨v3, rfl, hN⟩)
  have HS8 := HH8.out w3 hN.b
  have hNr : OwnG w3 5 1 v3 4 (nb (PackS.be4 l.length)) := hN.r
  refine goS_frc ?_
  simp only [opsAt, List.filterMap_cons, List.filterMap_nil, List.getElem?_toArray, List.getElem?_cons_zero, List.getElem?_cons_succ]
  refine wp_appG rfl _ _ _ _ rfl byteElem rfl rfl hNr rfl HS8 h63 (by omega) ?_
  intro v4 w4 ho4 hg4 hv4
  have hN4 := hN.app (X := PackS.id8 l) (by rw [HI8.out]; exact ho4) hg4 hv4
  have HS9 := HHL.out w4 hN4.b
  clear hN hNr HS8 hg4 hv4
  refine goS_last ?_
  simp only [opsAt, List.filterMap_cons, List.filterMap_nil, List.getElem?_toArray, List.getElem?_cons_zero, List.getElem?_cons_succ]
  refine wp_appG rfl _ _ _ _ rfl byteElem rfl rfl ho4 rfl HS9 h63' (by omega) ?_
  intro v5 w5 ho5 hg5 hv5
  have HN5 := Lib.hid (hN4.app (X := l) (by rw [List.length_append, HI8.out, nb_append]; exact ho5) hg5 hv5)
  clear hN4 ho4 HS9 ho5 hg5 hv5 HH8 HHL
  go_wp2_with fail
  go_ret
  exact ⟨_, rfl, NB.from hB3 HN5.out⟩
end Go.Proofs.YtfoamcobpfflbaaDoor
namespace Go.Proofs.YtfoamcobpfflbaaDoor
open Go Go.RowKit Go.Maps

/-- An id's bytes. -/
def OkId (x : List Nat) : Prop := x.length = 32 ∧ ∀ b ∈ x, b < 256
def idLs (x : List Nat) : List Lit := x.map fun b : Nat => Lit.int .u8 b
def idLit (x : List Nat) : Lit := .string (keyBytes (idLs x))
theorem okId_sum (d : List Nat) : OkId (Sha.sum d) := ⟨PackS.sum_len d, PackS.sum_lt d⟩

theorem id_under : Tryd.prog.underlying 47 = some (.array 32 5) := Tryd.underlying47
theorem id_type : Tryd.prog.keyTypeAt 2 47 = true := by kernel_rfl
theorem id_ktype : Tryd.prog.keyType 47 = true := by kernel_rfl
theorem id_tiled : Tryd.prog.tiled 2 47 = true := by kernel_rfl
section
variable {P : Program} {k : TypeId} {n : Nat} {e : TypeId}
theorem keyed_arr (h : P.underlying k = some (.array n e)) (hk : P.keyTypeAt 2 k = true) (ht : P.tiled 2 k = true) : Keyed P k := Keyed.of_law (deep_law (m := 2) (by decide) hk ht (by rw [h]))
theorem equal_arr (w : World) (h : P.underlying k = some (.array n e)) (hk : P.keyTypeAt 2 k = true) {x y : Value} {lx ly : Lit} (hx : keyOf P k x = some lx) (hy : keyOf P k y = some ly) : ∃ r : Bool, (Op.equal k x y).run P w = .ok r w ∧ (r = true ↔ lx = ly) :=
  run_equal_deep w (m := 2) (by decide) hk (by rw [h]) hx hy
theorem top_arr (h : P.underlying k = some (.array n e)) {v : Value} {l : Lit} (hv : keyOf P k v = some l) : ∃ (xs : Array Value) (L : List Lit), v = .agg xs ∧ P.keyLits (P.types.size + 1) k xs.toList = some L ∧ l = .string (keyBytes L) :=
  keyOf_top (by rw [h]) hv
theorem binop_eql {w : World} {I J : Array Value} {r : Bool} (h1 : (Op.equal k (.agg I) (.agg J)).run P w = .ok r w) : (binOp .eql k (.agg I) (.agg J)).run P w = .ok (.bool r) w := by
  simp [binOp, h1, Result.andThen]
theorem binop_neq {w : World} {I J : Array Value} {r : Bool} (h1 : (Op.equal k (.agg I) (.agg J)).run P w = .ok r w) : (binOp .neq k (.agg I) (.agg J)).run P w = .ok (.bool (!r)) w := by
  simp [binOp, h1, Result.andThen]
end
theorem id_keyed : Keyed Tryd.prog 47 := keyed_arr id_under id_type id_tiled
theorem id_cells : Tryd.prog.cellsOf 47 = 32 := by kernel_rfl
theorem u8_cells : Tryd.prog.cellsOf 5 = 1 := by kernel_rfl

theorem u8_wf (n : Int) : (Lit.int .u8 n).wf = true ↔ 0 ≤ n ∧ n < 256 := by
  have h1 : IntKind.u8.min = 0 := rfl
  have h2 : IntKind.u8.max = 255 := rfl
  simp only [Lit.wf, h1, h2, Bool.and_eq_true, decide_eq_true_eq]
  omega

theorem lits_u8 (d : Nat) (cs : List Value) (l : List Lit) (h : Tryd.prog.keyLits d 5 cs = some l) : ∃ n : Nat, n < 256 ∧ cs = [.int .u8 n] ∧ l = [.int .u8 n] := by
  obtain ⟨n, h1, h2⟩ := keyLits_int' Tryd.underlying5 h
  have h3 := keyLits_wf h (.int .u8 n) (by rw [h2]; simp)
  have h3 := (u8_wf n).1 h3
  obtain ⟨m, rfl⟩ : ∃ m : Nat, n = m := ⟨n.toNat, by omega⟩
  exact ⟨m, by omega, h1, h2⟩

theorem lits_rev (f : Nat → Option (List Lit)) (hf : ∀ i a, f i = some a → ∃ n : Nat, n < 256 ∧ a = [.int .u8 n]) : ∀ (is : List Nat) (xs : List (List Lit)), is.mapM f = some xs → ∃ x : List Nat, x.length = is.length ∧ (∀ b ∈ x, b < 256) ∧ xs.flatten = idLs x
  | [], xs, h => by
    simp at h
    subst h
    exact ⟨[], rfl, by simp, rfl⟩
  | i :: is, xs, h => by
    rw [List.mapM_cons] at h
    cases h1 : f i with
    | none => rw [h1] at h; cases h
    | some a =>
      rw [h1] at h
      cases h2 : is.mapM f with
      | none => rw [h2] at h; cases h
      | some ys =>
        rw [h2] at h
        injection h with h
        subst h
        obtain ⟨n, hn, rfl⟩ := hf i a h1
        obtain ⟨x, e1, e2, e3⟩ := lits_rev f hf is ys h2
        refine ⟨n :: x, by simp [e1], ?_, ?_⟩
        · intro b hb
          rcases List.mem_cons.1 hb with e | e
          · subst e; exact hn
          · exact e2 b e
        · rw [List.flatten_cons, e3]; rfl

theorem lits_map (f : Nat → Option (List Lit)) (g : Nat → List Lit) : ∀ (is : List Nat), (∀ i ∈ is, f i = some (g i)) → is.mapM f = some (is.map g)
  | [], _ => rfl
  | i :: is, h => by
    rw [List.mapM_cons, h i (by simp), lits_map f g is fun j hj => h j (by simp [hj])]; rfl

theorem flat_one {α β : Type} (g : α → β) : ∀ l : List α, (l.map fun i => [g i]).flatten = l.map g
  | [] => rfl
  | a :: l => by rw [List.map_cons, List.flatten_cons, flat_one g l]; rfl

theorem u8_lits (d : Nat) {n : Nat} (h : n < 256) : Tryd.prog.keyLits (d + 1) 5 [.int .u8 n] = some [.int .u8 n] := by
  have hw : (Lit.int .u8 (n : Int)).wf = true := (u8_wf _).2 ⟨by omega, by omega⟩
  simp [Program.keyLits, Tryd.underlying5, hw]

set_option maxRecDepth 100000 in
theorem id_lits (d : Nat) {x : List Nat} (h : OkId x) : Tryd.prog.keyLits (d + 2) 47 (nb x) = some (idLs x) := by
  have hl : (nb x).length = Tryd.prog.cellsOf 47 := by rw [nb_len, id_cells, h.1]
  have hm := lits_map (fun i => Tryd.prog.keyLits (d + 1) 5 (((nb x).drop (i * Tryd.prog.cellsOf 5)).take (Tryd.prog.cellsOf 5))) (fun i => [Lit.int .u8 (Sha.byteAt x i)]) (List.range 32) (fun i hi => by
    rw [List.mem_range] at hi
    rw [u8_cells, Nat.mul_one]
    have : ((nb x).drop i).take 1 = [.int .u8 (Sha.byteAt x i)] := by
      rw [List.take_one, List.head?_drop, nb_at (by rw [h.1]; exact hi)]; rfl
    rw [this]
    exact u8_lits d (Sha.byteAt_lt h.2 i))
  unfold Program.keyLits
  simp only [id_under]
  rw [if_pos hl, hm]
  show some _ = some _
  congr 1
  rw [flat_one]
  apply List.ext_getElem?
  intro i
  unfold idLs
  rw [List.getElem?_map, List.getElem?_map]
  by_cases hi : i < 32
  · rw [List.getElem?_range hi, List.getElem?_eq_getElem (by rw [h.1]; exact hi)]
    simp only [Option.map_some]
    unfold Sha.byteAt
    rw [List.getD_eq_getElem?_getD, List.getElem?_eq_getElem (by rw [h.1]; exact hi)]; rfl
  · rw [List.getElem?_eq_none (by simp; omega), List.getElem?_eq_none (by rw [h.1]; omega)]; rfl

theorem nums_nb (x : List Nat) : (nums .u8 x).toList = nb x := by simp [nums, nb]
theorem nums_inj {x y : List Nat} (h : nums .u8 x = nums .u8 y) : x = y := by
  have h2 : nb x = nb y := by rw [← nums_nb, ← nums_nb, h]
  unfold nb at h2
  exact (List.map_inj_right (fun a b h => by injection h with _ h; omega)).1 h2

set_option maxRecDepth 100000 in
theorem id_key {x : List Nat} (h : OkId x) : keyOf Tryd.prog 47 (.agg (nums .u8 x)) = some (idLit x) := by
  have hl := id_lits (Tryd.prog.types.size - 1) h
  have hsz : Tryd.prog.types.size - 1 + 2 = Tryd.prog.types.size + 1 := by
    have : 0 < Tryd.prog.types.size := of_decide_eq_true (by kernel_rfl)
    omega
  rw [hsz] at hl
  have hf : (Value.agg (nums .u8 x)).formed Tryd.prog 47 = true := by
    simp only [Value.formed, id_under, nums_size, h.1, id_cells]; rfl
  unfold keyOf
  simp only [id_under, id_ktype, hf]
  show Option.map _ (Tryd.prog.keyLits (Tryd.prog.types.size + 1) 47 (nums .u8 x).toList) = _
  rw [nums_nb, hl]; rfl

set_option maxRecDepth 100000 in
theorem id_inv {v : Value} {l : Lit} (h : keyOf Tryd.prog 47 v = some l) : ∃ x, v = .agg (nums .u8 x) ∧ l = idLit x ∧ OkId x := by
  obtain ⟨xs, L, rfl, hL, rfl⟩ := top_arr id_under h
  have hc := cells_of_lits 2 _ id_tiled _ _ _ hL
  have hk := hL
  unfold Program.keyLits at hk
  simp only [id_under] at hk
  split at hk
  · rename_i hlen
    rw [Option.map_eq_some_iff] at hk
    obtain ⟨ys, hm, hfl⟩ := hk
    obtain ⟨x, e1, e2, e3⟩ := lits_rev _ (fun i a hi => by
      obtain ⟨n, h1, _, h3⟩ := lits_u8 _ _ _ hi
      exact ⟨n, h1, h3⟩) _ _ hm
    rw [hfl] at e3
    rw [List.length_range] at e1
    refine ⟨x, ?_, by rw [e3]; rfl, e1, e2⟩
    congr 1
    apply Array.ext'
    rw [hc, e3, nums_nb]
    unfold idLs nb
    rw [List.map_map]; rfl
  · cases hk

theorem idLit_inj {x y : List Nat} (hx : OkId x) (hy : OkId y) (h : idLit x = idLit y) : x = y := by
  have h1 := id_key hx
  rw [h] at h1
  have := id_keyed.inj h1 (id_key hy)
  exact nums_inj (Value.agg.inj this)

theorem id_eqr {x y : List Nat} (hx : OkId x) (hy : OkId y) {r : Bool} (h2 : r = true ↔ idLit x = idLit y) : r = decide (x = y) := by
  rw [Bool.eq_iff_iff, h2, decide_eq_true_eq]
  exact ⟨idLit_inj hx hy, fun e => by rw [e]⟩
/-- Two ids held against one another. -/
theorem id_eql {x y : List Nat} (hx : OkId x) (hy : OkId y) (w : World) : (binOp .eql 47 (.agg (nums .u8 x)) (.agg (nums .u8 y))).run Tryd.prog w = .ok (.bool (decide (x = y))) w := by
  obtain ⟨r, h1, h2⟩ := equal_arr w id_under id_type (id_key hx) (id_key hy)
  rw [← id_eqr hx hy h2]
  exact binop_eql h1
theorem id_neq {x y : List Nat} (hx : OkId x) (hy : OkId y) (w : World) : (binOp .neq 47 (.agg (nums .u8 x)) (.agg (nums .u8 y))).run Tryd.prog w = .ok (.bool (!decide (x = y))) w := by
  obtain ⟨r, h1, h2⟩ := equal_arr w id_under id_type (id_key hx) (id_key hy)
  rw [← id_eqr hx hy h2]
  exact binop_neq h1
end Go.Proofs.YtfoamcobpfflbaaDoor
