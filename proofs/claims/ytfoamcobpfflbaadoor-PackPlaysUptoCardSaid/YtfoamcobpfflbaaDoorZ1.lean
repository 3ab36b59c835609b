/- Texts of mine, joined: Paths in plain Lean: no program in sight. | SHA-256 in plain Lean, over natural numbers. No program in sight. | Small laws for walks: readable slices, owned rows, one-element appends; each holds of every program. -/
import Derived.WalkKit
import Derived.WalkSpells
import Derived.WalkLawsBesides
import Derived.Lib.Hide
import Derived.Deep.AppendLies
import Derived.Deep.Onto
import Derived.Lib.Strings
import Derived.Sort.Grow
import Derived.Deep.Draws
namespace Go.Proofs.YtfoamcobpfflbaaDoor
namespace PathS

/-- Pieces so far, and where the next one begins (the reference's Split, k rounds). -/
def splitTo (s : ByteArray) : Nat → List ByteArray × Nat
  | 0 => ([], 0)
  | k + 1 => if k = s.size ∨ s[k]! = 47 then ((splitTo s k).1 ++ [s.extract (splitTo s k).2 k], k + 1) else splitTo s k

def split (s : ByteArray) : List ByteArray := if s.size = 0 then [] else (splitTo s (s.size + 1)).1

theorem splitTo_le (s : ByteArray) (k : Nat) : (splitTo s k).2 ≤ k := by
  induction k with
  | zero => simp [splitTo]
  | succ k ih => unfold splitTo; split <;> (try simp) <;> omega

theorem splitTo_len (s : ByteArray) (k : Nat) : (splitTo s k).1.length ≤ k := by
  induction k with
  | zero => simp [splitTo]
  | succ k ih => unfold splitTo; split <;> (try simp) <;> omega

def okB (c : UInt8) : Bool := !(decide (c < 32) || c == 127 || c == 47)

def nameL (l : List UInt8) : Bool := l != [] && l != [46] && l != [46, 46] && decide (l.length ≤ 64) && l.all okB

def name (s : ByteArray) : Bool := nameL s.data.toList

theorem nameL_no {l : List UInt8} (h : l = [] ∨ l = [46] ∨ l = [46, 46] ∨ 64 < l.length) : nameL l = false := by
  unfold nameL
  rcases h with h | h | h | h
  · simp [h]
  · simp [h]
  · simp [h]
  · have : decide (l.length ≤ 64) = false := by simpa using h
    rw [this]; simp

theorem nameL_rest {l : List UInt8} (h1 : ¬ l = []) (h2 : ¬ l = [46]) (h3 : ¬ l = [46, 46]) (h4 : l.length ≤ 64) : nameL l = (l.drop 0).all okB := by
  simp [nameL, h1, h2, h3, h4]

theorem name_no {s : ByteArray} (h : s.data.toList = [] ∨ s.data.toList = [46] ∨ s.data.toList = [46, 46] ∨ 64 < s.data.toList.length) : name s = false := nameL_no h
theorem name_rest {s : ByteArray} (h1 : ¬ s.data.toList = []) (h2 : ¬ s.data.toList = [46]) (h3 : ¬ s.data.toList = [46, 46]) (h4 : s.data.toList.length ≤ 64) : name s = (s.data.toList.drop 0).all okB := nameL_rest h1 h2 h3 h4

theorem drop_at (s : ByteArray) (k : Nat) (h : k < s.size) : s.data.toList.drop k = s[k] :: s.data.toList.drop (k + 1) := by
  rw [List.drop_eq_getElem_cons (by simpa using h)]; rfl

/-- Join: names with / between. -/
def joinTo (l : List ByteArray) : Nat → ByteArray
  | 0 => ByteArray.empty
  | k + 1 => (if 0 < k then joinTo l k ++ ⟨#[47]⟩ else joinTo l k) ++ l.getD k ByteArray.empty

def check (s : ByteArray) : Int := if 255 < s.size ∨ 16 < (split s).length then 2 else if (split s).all name then (if (split s).length = 0 then 50 else 0) else 50

def cmpB (a b : ByteArray) : Int := if a.data.toList < b.data.toList then -1 else if a.data.toList = b.data.toList then 0 else 1

def cmpL : List ByteArray → List ByteArray → Int
  | [], [] => 0
  | [], _ :: _ => -1
  | _ :: _, [] => 1
  | a :: x, b :: y => if cmpB a b = 0 then cmpL x y else cmpB a b

def cmp (a b : ByteArray) : Int := cmpL (split a) (split b)

def under (p f : ByteArray) : Bool := if f.size = 0 then decide (p.size ≠ 0) else (f.data.toList ++ [47]).isPrefixOf p.data.toList

def parent (s : ByteArray) : ByteArray := if (split s).length < 2 then ByteArray.empty else joinTo ((split s).dropLast) ((split s).length - 1)

end PathS
end Go.Proofs.YtfoamcobpfflbaaDoor
namespace Go.Proofs.YtfoamcobpfflbaaDoor
namespace Sha

def rotr (x n : Nat) : Nat := x / 2 ^ n + x % 2 ^ n * 2 ^ (32 - n)
def upd (f : Nat → Nat) (j v : Nat) : Nat → Nat := fun i => if i = j then v else f i

/-- The i-th word of a block's bytes, of which the first c are taken in. -/
def wrd (b : Nat → Nat) (i : Nat) : Nat → Nat
  | 0 => 0
  | c + 1 => wrd b i c * 256 + b (4 * i + c)

def sg0 (x : Nat) : Nat := rotr x 7 ^^^ rotr x 18 ^^^ x / 8
def sg1 (y : Nat) : Nat := rotr y 17 ^^^ rotr y 19 ^^^ y / 1024
def wnew (f : Nat → Nat) (j : Nat) : Nat := (f (j - 16) + f (j - 7) + sg0 (f (j - 15)) + sg1 (f (j - 2))) % 4294967296

/-- The schedule, its first n words made. -/
def sched (b : Nat → Nat) : Nat → Nat → Nat
  | 0 => fun _ => 0
  | n + 1 => upd (sched b n) n (if n < 16 then wrd b n 4 else wnew (sched b n) n)

def t1 (v : Nat → Nat) (k w : Nat) : Nat := v 7 + (rotr (v 4) 6 ^^^ rotr (v 4) 11 ^^^ rotr (v 4) 25) + ((v 4 &&& v 5) ^^^ ((4294967295 - v 4) &&& v 6)) + k + w
def t2 (v : Nat → Nat) : Nat := (rotr (v 0) 2 ^^^ rotr (v 0) 13 ^^^ rotr (v 0) 22) + ((v 0 &&& v 1) ^^^ (v 0 &&& v 2) ^^^ (v 1 &&& v 2))
def rnd (v : Nat → Nat) (k w : Nat) : Nat → Nat := fun i => if i = 0 then (t1 v k w + t2 v) % 4294967296 else if i = 4 then (v 3 + t1 v k w) % 4294967296 else v (i - 1)

def KS : List Nat := [1116352408, 1899447441, 3049323471, 3921009573, 961987163, 1508970993, 2453635748, 2870763221,
    3624381080, 310598401, 607225278, 1426881987, 1925078388, 2162078206, 2614888103, 3248222580,
    3835390401, 4022224774, 264347078, 604807628, 770255983, 1249150122, 1555081692, 1996064986,
    2554220882, 2821834349, 2952996808, 3210313671, 3336571891, 3584528711, 113926993, 338241895,
    666307205, 773529912, 1294757372, 1396182291, 1695183700, 1986661051, 2177026350, 2456956037,
    2730485921, 2820302411, 3259730800, 3345764771, 3516065817, 3600352804, 4094571909, 275423344,
    430227734, 506948616, 659060556, 883997877, 958139571, 1322822218, 1537002063, 1747873779,
    1955562222, 2024104815, 2227730452, 2361852424, 2428436474, 2756734187, 3204031479, 3329325298]
def HS : List Nat := [1779033703, 3144134277, 1013904242, 2773480762, 1359893119, 2600822924, 528734635, 1541459225]
def kk (i : Nat) : Nat := KS.getD i 0

/-- The rounds, n of them. -/
def rnds (v : Nat → Nat) (w : Nat → Nat) : Nat → Nat → Nat
  | 0 => v
  | n + 1 => rnd (rnds v w n) (kk n) (w n)

/-- A block taken in. -/
def blk (h : Nat → Nat) (b : Nat → Nat) : Nat → Nat := fun i => (h i + rnds h (sched b 64) 64 i) % 4294967296

/-- n blocks taken in, from a place on. -/
def blks (h : Nat → Nat) (b : Nat → Nat) : Nat → Nat → Nat
  | 0 => h
  | n + 1 => blk (blks h b n) (fun i => b (64 * n + i))

def start : Nat → Nat := fun i => HS.getD i 0

/-- The bytes with the end behind them. -/
def pad (s : List Nat) : List Nat := s ++ [128] ++ List.replicate ((119 - s.length % 64) % 64) 0 ++ (List.range 8).map fun i => s.length * 8 / 256 ^ (7 - i) % 256

def byteAt (l : List Nat) (i : Nat) : Nat := l.getD i 0

theorem byteAt_lt {l : List Nat} (h : ∀ x ∈ l, x < 256) (i : Nat) : byteAt l i < 256 := by
  unfold byteAt
  rw [List.getD_eq_getElem?_getD]
  cases e : l[i]? with
  | none => show 0 < _; omega
  | some x => exact h x (List.mem_of_getElem? e)

/-- The sum's bytes. -/
def out (h : Nat → Nat) (i : Nat) : Nat := h (i / 4) / 256 ^ (3 - i % 4) % 256
def sum (s : List Nat) : List Nat := (List.range 32).map (out (blks start (byteAt (pad s)) ((pad s).length / 64)))

/- Bounds. -/
theorem rotr_lt {x n : Nat} (h : x < 4294967296) (hn : n ≤ 32) : rotr x n < 4294967296 := by
  unfold rotr
  have h1 : 2 ^ n * 2 ^ (32 - n) = 4294967296 := by rw [← Nat.pow_add, show n + (32 - n) = 32 by omega]
  have h2 : x % 2 ^ n < 2 ^ n := Nat.mod_lt _ (Nat.two_pow_pos n)
  have h3 : x / 2 ^ n < 2 ^ (32 - n) := (Nat.div_lt_iff_lt_mul (Nat.two_pow_pos n)).2 (by rw [Nat.mul_comm, h1]; exact h)
  have h4 : (x % 2 ^ n + 1) * 2 ^ (32 - n) ≤ 2 ^ n * 2 ^ (32 - n) := Nat.mul_le_mul_right _ h2
  rw [Nat.succ_mul] at h4
  omega

theorem xor_lt {a b : Nat} (ha : a < 4294967296) (hb : b < 4294967296) : a ^^^ b < 4294967296 := Nat.xor_lt_two_pow (n := 32) ha hb
theorem and_lt {a b : Nat} (ha : a < 4294967296) : a &&& b < 4294967296 := Nat.lt_of_le_of_lt Nat.and_le_left ha
theorem sg0_lt {x : Nat} (h : x < 4294967296) : sg0 x < 4294967296 := xor_lt (xor_lt (rotr_lt h (by decide)) (rotr_lt h (by decide))) (by omega)
theorem sg1_lt {x : Nat} (h : x < 4294967296) : sg1 x < 4294967296 := xor_lt (xor_lt (rotr_lt h (by decide)) (rotr_lt h (by decide))) (by omega)

/-- All below 2^32. -/
def Bd (f : Nat → Nat) : Prop := ∀ i, f i < 4294967296
theorem Bd.upd {f : Nat → Nat} (h : Bd f) {j v : Nat} (hv : v < 4294967296) : Bd (upd f j v) := fun i => by unfold Sha.upd; split; exact hv; exact h i
theorem wrd_lt {b : Nat → Nat} (hb : ∀ i, b i < 256) (i : Nat) : ∀ c, wrd b i c < 256 ^ c
  | 0 => by simp [wrd]
  | c + 1 => by
    have h1 := wrd_lt hb i c
    have h2 := hb (4 * i + c)
    unfold wrd
    rw [Nat.pow_succ]
    omega
theorem sched_bd {b : Nat → Nat} (hb : ∀ i, b i < 256) : ∀ n, Bd (sched b n)
  | 0 => fun i => by show 0 < _; omega
  | n + 1 => by
    refine (sched_bd hb n).upd ?_
    split
    · exact wrd_lt hb n 4
    · exact Nat.mod_lt _ (by omega)
theorem rnd_bd {v : Nat → Nat} (h : Bd v) (k w : Nat) : Bd (rnd v k w) := fun i => by
  unfold rnd
  split
  · exact Nat.mod_lt _ (by omega)
  split
  · exact Nat.mod_lt _ (by omega)
  · exact h _
theorem rnds_bd {v : Nat → Nat} (h : Bd v) (w : Nat → Nat) : ∀ n, Bd (rnds v w n)
  | 0 => h
  | n + 1 => rnd_bd (rnds_bd h w n) _ _
theorem blk_bd (h b : Nat → Nat) : Bd (blk h b) := fun _ => Nat.mod_lt _ (by omega)
theorem kk_bd : Bd kk := fun i => by
  unfold kk
  have h : ∀ x ∈ KS, x < 4294967296 := by decide
  rw [List.getD_eq_getElem?_getD]
  cases e : KS[i]? with
  | none => show 0 < _; omega
  | some x => exact h x (List.mem_of_getElem? e)
theorem start_bd : Bd start := fun i => by
  unfold start
  have h : ∀ x ∈ HS, x < 4294967296 := by decide
  rw [List.getD_eq_getElem?_getD]
  cases e : HS[i]? with
  | none => show 0 < _; omega
  | some x => exact h x (List.mem_of_getElem? e)
theorem blks_bd {h : Nat → Nat} (hh : Bd h) (b : Nat → Nat) : ∀ n, Bd (blks h b n)
  | 0 => hh
  | _ + 1 => blk_bd _ _

/- The schedule's words stay as they were made. -/
theorem sched_same (b : Nat → Nat) (i : Nat) : ∀ n, i < n → sched b n i = sched b (i + 1) i
  | 0, h => by omega
  | n + 1, h => by
    by_cases e : i = n
    · subst e; rfl
    · show Sha.upd (sched b n) n _ i = _
      unfold Sha.upd
      rw [if_neg e]
      exact sched_same b i n (by omega)
theorem sched_zero (b : Nat → Nat) (i : Nat) : ∀ n, n ≤ i → sched b n i = 0
  | 0, _ => rfl
  | n + 1, h => by
    show Sha.upd (sched b n) n _ i = _
    unfold Sha.upd
    rw [if_neg (by omega)]
    exact sched_zero b i n (by omega)

/- Turned numbers, by shifts. -/
theorem rotl_or {x n : Nat} (hx : x < 4294967296) (hn : 0 < n ∧ n < 32) : (x * 2 ^ (32 - n) % 4294967296) ||| (x / 2 ^ n) = rotr x n := by
  have h1 : 2 ^ n * 2 ^ (32 - n) = 4294967296 := by rw [← Nat.pow_add, show n + (32 - n) = 32 by omega]
  have h3 : x / 2 ^ n < 2 ^ (32 - n) := (Nat.div_lt_iff_lt_mul (Nat.two_pow_pos n)).2 (by rw [Nat.mul_comm, h1]; exact hx)
  have h2 : x * 2 ^ (32 - n) % 4294967296 = 2 ^ (32 - n) * (x % 2 ^ n) := by
    rw [← h1, Nat.mul_mod_mul_right, Nat.mul_comm]
  rw [h2, ← Nat.two_pow_add_eq_or_of_lt h3]
  unfold rotr
  rw [Nat.mul_comm, Nat.add_comm]
end Sha
end Go.Proofs.YtfoamcobpfflbaaDoor
namespace Go.Proofs.YtfoamcobpfflbaaDoor
open Go Go.RowKit

/-- A slice's address a: behind it the list xs of one-cell values lies. -/
def Sl (w : World) (a : Option Addr) (xs : List Value) : Prop :=
  xs = [] ∨ ∃ b o, a = some ⟨b, o, none⟩ ∧ b < w.heap.size ∧ ∀ i u, xs[i]? = some u → w.cell? ⟨b, o + i, none⟩ = some u

theorem Sl.nil (w : World) (a : Option Addr) : Sl w a [] := .inl rfl

theorem Sl.below {w w' : World} {a : Option Addr} {xs : List Value} (h : Sl w a xs) (hb : Below w.heap.size w w') : Sl w' a xs := by
  rcases h with h | ⟨b, o, ha, hlt, hc⟩
  · exact .inl h
  · exact .inr ⟨b, o, ha, Nat.lt_of_lt_of_le hlt hb.size, fun i u hu => by rw [hb.cell (p := ⟨b, o + i, none⟩) hlt]; exact hc i u hu⟩

theorem Sl.drew {w : World} {a : Option Addr} {xs : List Value} (h : Sl w a xs) : Sl w.drew a xs := h

theorem Sl.at {w : World} {a : Option Addr} {xs : List Value} (h : Sl w a xs) {k : Nat} (hk : k < xs.length) :
    ∃ b o, a = some ⟨b, o, none⟩ ∧ b < w.heap.size ∧ ∀ i (hi : i < xs.length), w.cell? ⟨b, o + i, none⟩ = some xs[i] := by
  rcases h with h | ⟨b, o, ha, hlt, hc⟩
  · subst h; simp at hk
  · exact ⟨b, o, ha, hlt, fun i hi => hc i _ (List.getElem?_eq_getElem hi)⟩

/-- The part of a slice from i on up to j. -/
theorem Sl.part {w : World} {b o : Nat} {xs : List Value} (h : Sl w (some ⟨b, o, none⟩) xs) (i j : Nat) : Sl w (some ⟨b, o + i, none⟩) ((xs.take j).drop i) := by
  rcases h with h | ⟨b', o', ha, hlt, hc⟩
  · subst h; simp [Sl]
  · cases ha
    refine .inr ⟨b, o + i, rfl, hlt, fun k u hu => ?_⟩
    rw [Nat.add_assoc]
    refine hc (i + k) u ?_
    rw [List.getElem?_drop, List.getElem?_take] at hu
    split at hu
    · exact hu
    · cases hu

theorem Sl.take {w : World} {a : Option Addr} {xs : List Value} (h : Sl w a xs) (j : Nat) : Sl w a (xs.take j) := by
  rcases h with h | ⟨b, o, ha, hlt, hc⟩
  · subst h; simp [Sl]
  · refine .inr ⟨b, o, ha, hlt, fun i u hu => hc i u ?_⟩
    rw [List.getElem?_take] at hu
    split at hu
    · exact hu
    · cases hu

/-- What is owned can be read. -/
theorem own_sl {w : World} {base : Nat} {e : TypeId} {v : Value} {xs : List Value} {n : Nat} (h : w.ownsRow base e 1 v n xs) :
    ∃ a c, v = .slice a n c ∧ n = xs.length ∧ n ≤ c ∧ Sl w a xs := by
  have hl := h.1
  rcases h.2 with ⟨rfl, rfl⟩ | ⟨g, cap, cur, rfl, hb, hg, h1, h2, h3, h4⟩
  · have : xs = [] := List.eq_nil_of_length_eq_zero (by omega)
    subst this
    exact ⟨none, 0, rfl, rfl, Nat.le_refl _, .nil _ _⟩
  · refine ⟨_, cap, rfl, by omega, h1, .inr ⟨g, 0, rfl, (Array.getElem?_eq_some_iff.1 hg).1, fun i u hu => ?_⟩⟩
    have := h.cells (g := g) rfl i u hu
    rwa [show (⟨g, 0, none⟩ : Addr).add i = ⟨g, 0 + i, none⟩ from by unfold Addr.add; split <;> simp_all] at this

theorem own_some {w : World} {base : Nat} {e : TypeId} {v : Value} {xs : List Value} {n : Nat} (h : w.ownsRow base e 1 v n xs) (hv : v ≠ .slice none 0 0) :
    ∃ g c, v = .slice (some ⟨g, 0, none⟩) n c ∧ n ≤ c ∧ base ≤ g ∧ g < w.heap.size ∧ Sl w (some ⟨g, 0, none⟩) xs := by
  obtain ⟨a, c, rfl, _, hc, hs⟩ := own_sl h
  rcases h.2 with ⟨h1, _⟩ | ⟨g, cap, cur, h1, hb, hg, _⟩
  · exact absurd h1 hv
  · injection h1 with h1 h2 h3
    subst h1
    exact ⟨g, c, rfl, hc, hb, (Array.getElem?_eq_some_iff.1 hg).1, hs⟩

theorem own_ne {w : World} {base : Nat} {e : TypeId} {s : Nat} {v : Value} {xs : List Value} {n : Nat} (h : w.ownsRow base e s v n xs) (hn : 0 < n) : v ≠ .slice none 0 0 := by
  rintro rfl
  rcases h.2 with ⟨_, h0⟩ | ⟨_, _, _, h0, _⟩
  · omega
  · cases h0

theorem own_slc {w : World} {base : Nat} {e : TypeId} {v : Value} {xs : List Value} {n : Nat} (h : w.ownsRow base e 1 v n xs) :
    ∃ a c, v = .slice a n c ∧ n ≤ c ∧ (a = none → c = 0) ∧ Sl w a xs := by
  obtain ⟨a, c, rfl, _, hc, hs⟩ := own_sl h
  refine ⟨a, c, rfl, hc, ?_, hs⟩
  rintro rfl
  rcases h.2 with ⟨h1, _⟩ | ⟨_, _, _, h1, _⟩
  · injection h1
  · injection h1 with h1 _ _; cases h1

/-- An owned row stays owned where nothing below a later heap's end has turned. -/
theorem own_below {w w' : World} {base : Nat} {e : TypeId} {s : Nat} {v : Value} {n : Nat} {xs : List Value} (h : w.ownsRow base e s v n xs) (hb : Below w.heap.size w w') : w'.ownsRow base e s v n xs := by
  refine h.kept (row := none) ⟨hb.os, hb.tape, hb.output, hb.size, fun k hk _ => hb.block k hk⟩ ?_
  cases hv : v.ownBlock <;> simp

/-- An element type's row of the program's table, under one name. -/
structure Elem (P : Program) (t e : TypeId) (z : Value) (size bytes : Nat) : Prop where
  under : P.underlying t = some (.slice e)
  info : (P.info? e).map (fun i => (i.zero, i.size, i.bytes)) = some (some z, size, bytes)

theorem below_of_grown {w w' : World} {base : Nat} {v : Value} {row : List Value} {e : TypeId} {s n : Nat} (h : w.ownsRow base e s v n row) (hg : w.grownBy w' v.ownBlock) (hb : base ≤ w.heap.size) : Below base w w' :=
  (Below.refl base w).grown hg hb fun k hk => (h.lt k hk).1

/-- 'append(s, x)' of one element of one cell, s the call's own. -/
theorem wp_app1 {P : Program} {ops : Array Oper} {rest : List Oper} {o : Oper} {a : Act} {Q : Exit → Act → World → Prop} {w : World} (hgd : o.guard = none) (s x : Operand) (t : TypeId)
    (ho : o.op = .call { callee := .builtin .append, args := #[s, x], argTypes := #[t, t] })
    {e : TypeId} {z : Value} {bytes : Nat} (E : Elem P t e z 1 bytes) (hz : z.oneCell' = true) {base : Nat} {v : Value} {n : Nat} {xs : List Value} {u : Value}
    (hs : a.eval s = v) (hown : w.ownsRow base e 1 v n xs) (hx : a.eval x = .slice (some ⟨w.heap.size, 0, none⟩) 1 1) (hu : u.oneCell' = true)
    (hn : (n + 1) * bytes ≤ 140737488355328) (h63 : n + 1 ≤ maxLen) (hbase : base ≤ w.heap.size)
    (h : ∀ v' w', w'.ownsRow base e 1 v' (n + 1) (xs ++ [u]) → w.grownBy w' v.ownBlock → Below base w w' → wpList P ops Q rest (a.put o.dst v') w') :
    wpList P ops Q (o :: rest) a (w.alloc (.cells #[u] e)) := by
  obtain ⟨i, hi, h1, h2, h3⟩ := info_parts E.info
  refine wpList_append_own _ hgd s x t ho base e i z 1 bytes E.under hi h1 h2 h3 ?_ (by decide) v n xs hs (hown.alloc _) _ 1 1 [u] hx rfl (cell_one_new _ _ _) ?_ h63 hn ?_ ?_
  · cases z <;> first | rfl | cases hz
  · intro y hy
    rw [List.mem_singleton] at hy
    subst hy
    exact hu
  · have : (w.alloc (.cells #[u] e)).heap.size = w.heap.size + 1 := by simp
    omega
  · intro v' w' h4 h5 _
    have h6 : w.grownBy w' v.ownBlock := (World.grownBy_alloc w _ _).trans h5
    exact h v' w' h4 h6 (below_of_grown hown h6 hbase)

/-- Nothing old has turned, and no draw is taken back. -/
def Gr (w w' : World) : Prop := Below w.heap.size w w' ∧ w.drawn ≤ w'.drawn

theorem Gr.refl (w : World) : Gr w w := ⟨Below.refl _ _, Nat.le_refl _⟩
theorem Gr.trans {a b c : World} (h : Gr a b) (k : Gr b c) : Gr a c := ⟨h.1.trans (k.1.mono h.1.size), Nat.le_trans h.2 k.2⟩
theorem Gr.alloc {a w : World} (h : Gr a w) (o : Obj) : Gr a (w.alloc o) := ⟨h.1.alloc h.1.size o, h.2⟩
theorem Gr.drew {a w : World} (h : Gr a w) : Gr a w.drew := ⟨h.1.drew, Nat.le_trans h.2 (Nat.le_succ _)⟩

theorem Gr.form {w w' : World} (h : Gr w w') : ∃ q os', w' = Go.Sort.grow (w.drewN q) os' := by
  obtain ⟨hb, hd⟩ := h
  refine ⟨w'.drawn - w.drawn, w'.heap.extract w.heap.size w'.heap.size, ?_⟩
  have hh : w'.heap = w.heap ++ w'.heap.extract w.heap.size w'.heap.size := by
    apply Array.ext_getElem?
    intro i
    rw [Array.getElem?_append]
    split
    · rename_i hi; exact hb.block i hi
    · rename_i hi
      rw [Array.getElem?_extract]
      split
      · congr 1; omega
      · rename_i h2
        have := hb.size
        rw [Array.getElem?_eq_none (by omega)]
  cases w
  cases w'
  obtain ⟨h1, h2, h3, h4, h5⟩ := hb
  simp only at h1 h2 h3 hd hh
  subst h1 h2 h3
  simp only [Go.Sort.grow, World.drewN]
  congr 1
  omega

theorem below_dN {B : Nat} {a w : World} (h : Below B a w) (q : Nat) : Below B a (w.drewN q) := ⟨h.os, h.tape, h.output, h.size, h.block⟩

theorem isEmpty_iff (s : ByteArray) : s.toList.isEmpty = decide (s.size = 0) := by
  rw [Lib.toList_data, Lib.size_eq]
  cases s.data.toList <;> simp

theorem byte_eq (c : UInt8) (n : UInt8) : ((c.toNat : Int) == (n.toNat : Int)) = decide (c = n) := by
  rw [Bool.eq_iff_iff]
  simp [Int.ofNat_inj, UInt8.toNat_inj]

theorem ret_bool {a b : Bool} (h : b = a) : Ending.returned (.bool a) = .returned (.bool b) := by rw [h]
theorem ret_str {a b : ByteArray} (h : b = a) : Ending.returned (.string a) = .returned (.string b) := by rw [h]
theorem ret_i64 {k : IntKind} {a b : Int} (h : b = a) : Ending.returned (.int k a) = .returned (.int k b) := by rw [h]
theorem ret_pair {x : ByteArray × ByteArray} {a b : ByteArray} (h : x = (a, b)) : Ending.returned (.tuple #[.string a, .string b]) = .returned (.tuple #[.string x.1, .string x.2]) := by rw [h]
theorem ret_congr {a b : Value} (h : a = b) : Ending.returned a = .returned b := by rw [h]

end Go.Proofs.YtfoamcobpfflbaaDoor
