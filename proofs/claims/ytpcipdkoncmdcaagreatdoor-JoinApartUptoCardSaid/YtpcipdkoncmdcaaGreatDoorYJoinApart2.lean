/- Texts of mine, joined: Rows of the call's own whose block may bear a frozen pair behind the row ('[]byte(s)'). Of every program. | The longest common list of two lists: plain. No program in sight. | Paths in plain Lean: no program in sight. | Three lists of lines woven, texts cut into lines, in plain Lean. No program in sight. | Walks of the reference's path functions. | Paths in plain Lean, second part: cutting at '/'. No program in sight. | A text has a rune that no name has just if it has such a byte. No program in sight. -/
import Derived.Laws.IdiomStrings
import Derived.Lib.Hide
import Derived.Lib.Bytealg
import Derived.Test.YtpcipdkoncmdcaaGreatDoorRows
import Derived.Lib.Split
import Derived.Lib.SplitLaws
import Derived.Lib.CountLaws
import Derived.Lib.CutLaws
import Derived.Lib.Strings
import Derived.Lib.MapLaws
import Derived.Shelf.GgClosure.StringsIndexFunc
import Derived.Test.YtpcipdkoncmdcaaGreatDoorYJoinApart1
namespace Go.Proofs.YtpcipdkoncmdcaaGreatDoor
open Go Go.RowKit
def OwnF (w : World) (e : TypeId) (size : Nat) (v : Value) (n : Nat) (xs : List Value) : Prop :=
  xs.length = n * size ∧ ((v = .slice none 0 0 ∧ n = 0) ∨ ∃ g o cap cur lo hi, v = .slice (some ⟨g, o, none⟩) n cap ∧ w.heap[g]? = some (.cells cur e (lo, hi)) ∧ (∀ q, q < o + cap * size → ¬ (lo ≤ q ∧ q < hi)) ∧ n ≤ cap ∧ cap ≤ maxLen ∧ o + cap * size ≤ cur.size ∧ ∀ j u, xs[j]? = some u → cur[o + j]? = some u)

theorem OwnF.lt {w : World} {e : TypeId} {size : Nat} {v : Value} {n : Nat} {xs : List Value} (h : OwnF w e size v n xs) {k : Nat} (hk : v.ownBlock = some k) : k < w.heap.size := by
  rcases h.2 with ⟨rfl, _⟩ | ⟨g, o, cap, cur, lo, hi, rfl, hg, _⟩
  · cases hk
  · simp [Value.ownBlock] at hk; subst hk; exact (Array.getElem?_eq_some_iff.1 hg).1

theorem OwnF.form {w : World} {e : TypeId} {size : Nat} {v : Value} {n : Nat} {xs : List Value} (h : OwnF w e size v n xs) : ∃ a c, v = .slice a n c ∧ n ≤ c ∧ c ≤ maxLen ∧ Sl w a xs := by
  have hl := h.1
  rcases h.2 with ⟨rfl, rfl⟩ | ⟨g, o, cap, cur, lo, hi, rfl, hg, -, hn, hc, hs, ht⟩
  · rw [Nat.zero_mul] at hl
    exact ⟨none, 0, rfl, Nat.le_refl _, Nat.zero_le _, .inl (List.eq_nil_of_length_eq_zero hl)⟩
  · refine ⟨_, cap, rfl, hn, hc, .inr ⟨g, o, rfl, (Array.getElem?_eq_some_iff.1 hg).1, fun j u hu => ?_⟩⟩
    simp [World.cell?, hg, ht j u hu]

theorem OwnF.block {w w' : World} {e : TypeId} {size : Nat} {v : Value} {n : Nat} {xs : List Value} (h : OwnF w e size v n xs) (hk : ∀ k, v.ownBlock = some k → w'.heap[k]? = w.heap[k]?) : OwnF w' e size v n xs := by
  refine ⟨h.1, ?_⟩
  rcases h.2 with h2 | ⟨g, o, cap, cur, lo, hi, rfl, hg, hr⟩
  · exact .inl h2
  · exact .inr ⟨g, o, cap, cur, lo, hi, rfl, by rw [hk g rfl]; exact hg, hr⟩

theorem OwnF.kept {w w' : World} {e : TypeId} {size : Nat} {v : Value} {n : Nat} {xs : List Value} {row : Option Nat} (h : OwnF w e size v n xs) (hg : w.grownBy w' row) (hne : v.ownBlock = none ∨ v.ownBlock ≠ row) : OwnF w' e size v n xs :=
  h.block fun k hk => hg.block k (h.lt hk) (by
    rw [← hk]
    rcases hne with h1 | h1
    · rw [hk] at h1; cases h1
    · exact h1)

theorem OwnF.below {w w' : World} {e : TypeId} {size : Nat} {v : Value} {n : Nat} {xs : List Value} (h : OwnF w e size v n xs) (hb : Below w.heap.size w w') : OwnF w' e size v n xs :=
  h.block fun k hk => hb.block k (h.lt hk)

theorem OwnF.alloc {w : World} {e : TypeId} {size : Nat} {v : Value} {n : Nat} {xs : List Value} (h : OwnF w e size v n xs) (o : Obj) : OwnF (w.alloc o) e size v n xs := h.kept (World.grownBy_alloc w o none) (by cases v.ownBlock <;> simp)

theorem OwnF.drewN {w : World} {e : TypeId} {size : Nat} {v : Value} {n : Nat} {xs : List Value} (h : OwnF w e size v n xs) (q : Nat) : OwnF (w.drewN q) e size v n xs := h

/-- '[]byte(s)'. -/
theorem own_bytes {P : Program} (w : World) (src dst e : TypeId) (s : ByteArray) (hs : P.underlying src = some .string) (hd : P.underlying dst = some (.slice e)) (he : P.underlying e = some (.int .u8)) (hn : s.size ≤ maxLen) :
    ∃ c w', (convert src dst (.string s)).run P w = .ok (.slice (some ⟨w.heap.size, 0, none⟩) s.size c) w' ∧ OwnF w' e 1 (.slice (some ⟨w.heap.size, 0, none⟩) s.size c) s.size (s.data.toList.map fun b => Value.int .u8 b.toNat) ∧ Below w.heap.size w w' := by
  have hge := grownCap_ge w s.size 0 e
  have hcm := grownCap_le_maxLen w s.size 0 e hn
  have hsz : (bytesRow s (grownCap w s.size 0 e)).size = grownCap w s.size 0 e := by
    unfold bytesRow
    rw [Array.size_append, Array.size_map, Array.size_replicate, show s.data.size = s.size from rfl]; omega
  refine ⟨_, _, run_bytes_of_string w src dst e s hs hd he, ⟨by simp, .inr ⟨w.heap.size, 0, _, bytesRow s (grownCap w s.size 0 e), _, _, rfl, (Go.MapKept.heap_alloc w.drew _).1, fun q hq => by omega, hge, hcm, by omega, fun j u hu => ?_⟩⟩, (below_dN (Below.refl _ w) 1).alloc (Nat.le_refl _) _⟩
  have hj := (List.getElem?_eq_some_iff.1 hu).1
  rw [List.length_map, Array.length_toList] at hj
  unfold bytesRow
  rw [Nat.zero_add, Array.getElem?_append_left (by rw [Array.size_map]; exact hj), Array.getElem?_map]
  rw [List.getElem?_map, Array.getElem?_toList] at hu
  exact hu

/-- 'append(v, ..)': whatever is appended. -/
theorem OwnF.app {P : Program} {w : World} {t tx ty e : TypeId} {z : Value} {size bytes : Nat} (E : Elem P t e z size bytes) (hzs : z.cells.size = size) {v : Value} {n : Nat} {xs : List Value} (h : OwnF w e size v n xs)
    {x : Value} {m : Nat} {news : List Value} (hs : Src P size tx x m news w) (h63 : n + m ≤ maxLen) (hbytes : (n + m) * bytes ≤ 140737488355328) :
    ∃ v' w', (Builtin.append_ #[t, tx] ty #[v, x]).run P w = .ok v' w' ∧ OwnF w' e size v' (n + m) (xs ++ news) ∧ w.grownBy w' v.ownBlock ∧ (∀ k, v'.ownBlock = some k → v.ownBlock = some k ∨ w.heap.size ≤ k) := by
  obtain ⟨i, hi, g1, g2, g3⟩ := info_parts E.info
  subst g2 g3
  have hnl := hs.newsLen
  have hlen : (xs ++ news).length = (n + m) * i.size := by rw [List.length_append, h.1, hnl, Nat.add_mul]
  have hsmall : n + m ≤ 9223372036854775807 := by simp only [maxLen] at h63; omega
  have grow : ∀ (bs : Option Addr) (sc : Nat), v = .slice bs n sc → sc < n + m → (Builtin.firstCells i.size n (.slice bs n sc)).run P w.drew = .ok xs.toArray w.drew →
      ∃ v' w', (Builtin.append_ #[t, tx] ty #[v, x]).run P w = .ok v' w' ∧ OwnF w' e i.size v' (n + m) (xs ++ news) ∧ w.grownBy w' v.ownBlock ∧ (∀ k, v'.ownBlock = some k → v.ownBlock = some k ∨ w.heap.size ≤ k) := by
    rintro bs sc rfl hgt hold
    have hrun := run_append_grow_src (P := P) w t tx ty e i z E.under hi g1 bs n sc xs hold x m news hs hgt (by omega) (growslice_fits hgt hbytes)
    have hge := grownCap_ge w (n + m) sc e
    have hcm := grownCap_le_maxLen w (n + m) sc e h63
    refine ⟨_, _, hrun, ⟨hlen, .inr ⟨w.heap.size, 0, _, _, 0, 0, rfl, heap_alloc_new w.drew _, (fun q _ => by omega), hge, hcm, ?_, fun j u hu => ?_⟩⟩, ⟨rfl, rfl, rfl, by simp, fun k hk _ => Below.heap_alloc w.drew _ k hk⟩, fun k hk => .inr ?_⟩
    · rw [Array.size_append, List.size_toArray, hlen, size_zeroCells, hzs, ← Nat.add_mul, Nat.zero_add]
      apply Nat.mul_le_mul_right
      omega
    · rw [Nat.zero_add, Array.getElem?_append_left (by rw [List.size_toArray]; exact (List.getElem?_eq_some_iff.1 hu).1), List.getElem?_toArray]
      exact hu
    · simp [Value.ownBlock] at hk; omega
  rcases h.2 with ⟨h1, h2⟩ | ⟨g, o, cap, cur, lo, hi2, rfl, hg, hfz, hn, hcm, hcs, ht⟩
  · subst h1 h2
    have hx0 : xs = [] := List.eq_nil_of_length_eq_zero (by rw [h.1, Nat.zero_mul])
    subst hx0
    by_cases hm : m = 0
    · subst hm
      have hn0 : news = [] := List.eq_nil_of_length_eq_zero (by rw [hnl, Nat.zero_mul])
      subst hn0
      exact ⟨_, w, run_append_nothing w t tx ty e i E.under hi none 0 0 (Nat.le_refl _) x hs, ⟨by simp, .inl ⟨rfl, rfl⟩⟩, ⟨rfl, rfl, rfl, Nat.le_refl _, fun _ _ _ => rfl⟩, fun k hk => .inl hk⟩
    · exact grow none 0 rfl (by omega) (run_firstCells_none w.drew i.size 0 0 0)
  · by_cases hfit : n + m ≤ cap
    · have hmul : (n + m) * i.size ≤ cap * i.size := Nat.mul_le_mul_right _ hfit
      rw [Nat.add_mul] at hmul
      have hin : o + n * i.size + news.length ≤ cur.size := by rw [hnl]; omega
      obtain ⟨cur', c1, c2, c3⟩ := setCells_block g news (o + n * i.size) w cur e (lo, hi2) hg hin
      refine ⟨_, _, run_append_room_src w t tx ty e i E.under hi g o n cap x m news hs hfit (fun j hj => ?_) (fun j hj => ?_), ⟨hlen, .inr ⟨g, o, cap, cur', lo, hi2, rfl, c1, hfz, hfit, hcm, by rw [c2]; exact hcs, fun j u hu => ?_⟩⟩, setCells_grown w g _ news, fun k hk => .inl hk⟩
      · have : o + n * i.size + j < cur.size := by omega
        simp [World.cell?, hg, this]
      · have := hfz (o + n * i.size + j) (by omega)
        simp only [World.frozen?, hg]
        simp; omega
      · rw [c3]
        by_cases hj : j < xs.length
        · rw [List.getElem?_append_left hj] at hu
          rw [if_neg (by rw [h.1] at hj; omega)]
          exact ht j u hu
        · rw [List.getElem?_append_right (by omega)] at hu
          have hju := (List.getElem?_eq_some_iff.1 hu).1
          have hx1 := h.1
          rw [if_pos (by omega), show o + j - (o + n * i.size) = j - xs.length by omega]
          exact hu
    · exact grow _ cap rfl (by omega) (run_firstCells_some w.drew i.size n _ n cap xs h.1 (fun j u hu => by
        rw [Addr.add_lit]
        show w.cell? ⟨g, o + j, none⟩ = some u
        simp [World.cell?, hg, ht j u hu]))

theorem OwnG.cell {w : World} {e : TypeId} {size g n c : Nat} {xs : List Value} (h : OwnG w e size (.slice (some ⟨g, 0, none⟩) n c) n xs) {j : Nat} {u : Value} (hu : xs[j]? = some u) : w.cell? ⟨g, j, none⟩ = some u := by
  rcases h.2 with ⟨e, _⟩ | ⟨g', o, cap, cur, e, hg, -, -, -, ht⟩
  · cases e
  · injection e with e _ _
    injection e with e
    injection e with e1 e2
    subst e1 e2
    have := ht j u hu
    rw [Nat.zero_add] at this
    simp [World.cell?, hg, this]
end Go.Proofs.YtpcipdkoncmdcaaGreatDoor
namespace Go.Proofs.YtpcipdkoncmdcaaGreatDoor
namespace ScoreS
variable {β : Type} [DecidableEq β]
/-- How long the longest list is that stands in both. -/
def L : List β → List β → Nat
  | [], _ => 0
  | _ :: _, [] => 0
  | a :: x, b :: y => if a = b then L x y + 1 else max (L x (b :: y)) (L (a :: x) y)
termination_by x y => x.length + y.length

theorem L_nil (y : List β) : L [] y = 0 := by rw [L]
theorem L_nil' (x : List β) : L x [] = 0 := by cases x <;> rw [L]
theorem L_same (a : β) (x y : List β) : L (a :: x) (a :: y) = L x y + 1 := by rw [L, if_pos rfl]
theorem L_other {a b : β} (h : a ≠ b) (x y : List β) : L (a :: x) (b :: y) = max (L x (b :: y)) (L (a :: x) y) := by rw [L, if_neg h]

theorem L_symm : ∀ x y : List β, L x y = L y x
  | [], y => by rw [L_nil, L_nil']
  | a :: x, [] => by rw [L_nil, L_nil']
  | a :: x, b :: y => by
    by_cases h : a = b
    · subst h; rw [L_same, L_same, L_symm x y]
    · rw [L_other h, L_other (fun e => h e.symm), L_symm x (b :: y), L_symm (a :: x) y, Nat.max_comm]
termination_by x y => x.length + y.length

/-- A line more on the one side: at most one more. -/
theorem L_step : ∀ (a : β) (x y : List β), L x y ≤ L (a :: x) y ∧ L (a :: x) y ≤ L x y + 1
  | a, x, [] => by rw [L_nil', L_nil']; omega
  | a, [], b :: y => by
    have := L_step a [] y
    rw [L_nil] at this ⊢
    by_cases h : a = b
    · subst h; rw [L_same, L_nil]; omega
    · rw [L_other h, L_nil]; omega
  | a, c :: x, b :: y => by
    have h1 := L_step a (c :: x) y
    have h2 := L_step c x y
    have h3 := L_step c x (b :: y)
    have h4 : L (c :: x) y ≤ L (c :: x) (b :: y) ∧ L (c :: x) (b :: y) ≤ L (c :: x) y + 1 := by
      rw [L_symm (c :: x) y, L_symm (c :: x) (b :: y)]
      exact L_step b y (c :: x)
    by_cases h : a = b
    · subst h; rw [L_same]; omega
    · rw [L_other h]; omega
termination_by _ x y => x.length + y.length

theorem L_le : ∀ x y : List β, L x y ≤ x.length
  | [], y => by rw [L_nil]; exact Nat.zero_le _
  | a :: x, y => Nat.le_trans (L_step a x y).2 (by simpa using L_le x y)

/-- The places of a longest common list, from the places i, k on. -/
def P (i k : Nat) : List β → List β → List (Nat × Nat)
  | [], _ => []
  | _ :: _, [] => []
  | a :: x, b :: y => if a = b then (i, k) :: P (i + 1) (k + 1) x y else if L (a :: x) y ≤ L x (b :: y) then P (i + 1) k x (b :: y) else P i (k + 1) (a :: x) y
termination_by x y => x.length + y.length

end ScoreS
end Go.Proofs.YtpcipdkoncmdcaaGreatDoor
namespace Go.Proofs.YtpcipdkoncmdcaaGreatDoor
namespace PathS
/-- Pieces so far, and where the next one begins (the reference's Split, k rounds). -/
def splitTo (s : ByteArray) : Nat → List ByteArray × Nat
  | 0 => ([], 0)
  | k + 1 => if k = s.size ∨ s[k]! = 47 then ((splitTo s k).1 ++ [s.extract (splitTo s k).2 k], k + 1) else splitTo s k

def split (s : ByteArray) : List ByteArray := if s.size = 0 then [] else (splitTo s (s.size + 1)).1

theorem splitTo_le (s : ByteArray) (k : Nat) : (splitTo s k).2 ≤ k := by
  induction k with
  | zero => simp [splitTo]
  | succ k ih => unfold splitTo; split <;> (try simp) <;> omega

def okB (c : UInt8) : Bool := !(decide (c < 32) || c == 127 || c == 47)

def nameL (l : List UInt8) : Bool := l != [] && l != [46] && l != [46, 46] && decide (l.length ≤ 64) && l.all okB

def name (s : ByteArray) : Bool := nameL s.data.toList

theorem nameL_no {l : List UInt8} (h : l = [] ∨ l = [46] ∨ l = [46, 46] ∨ 64 < l.length) : nameL l = false := by
  unfold nameL
  rcases h with h | h | h | h
  · simp [h]
  · simp [h]
  · simp [h]
  · have : decide (l.length ≤ 64) = false := by simpa using h
    rw [this]; simp

theorem nameL_rest {l : List UInt8} (h1 : ¬ l = []) (h2 : ¬ l = [46]) (h3 : ¬ l = [46, 46]) (h4 : l.length ≤ 64) : nameL l = (l.drop 0).all okB := by
  simp [nameL, h1, h2, h3, h4]

theorem name_no {s : ByteArray} (h : s.data.toList = [] ∨ s.data.toList = [46] ∨ s.data.toList = [46, 46] ∨ 64 < s.data.toList.length) : name s = false := nameL_no h
theorem name_rest {s : ByteArray} (h1 : ¬ s.data.toList = []) (h2 : ¬ s.data.toList = [46]) (h3 : ¬ s.data.toList = [46, 46]) (h4 : s.data.toList.length ≤ 64) : name s = (s.data.toList.drop 0).all okB := nameL_rest h1 h2 h3 h4

theorem drop_at (s : ByteArray) (k : Nat) (h : k < s.size) : s.data.toList.drop k = s[k] :: s.data.toList.drop (k + 1) := by
  rw [List.drop_eq_getElem_cons (by simpa using h)]; rfl

def check (s : ByteArray) : Int := if 255 < s.size ∨ 16 < (split s).length then 2 else if (split s).all name then (if (split s).length = 0 then 50 else 0) else 50

def cmpB (a b : ByteArray) : Int := if a.data.toList < b.data.toList then -1 else if a.data.toList = b.data.toList then 0 else 1

def cmpL : List ByteArray → List ByteArray → Int
  | [], [] => 0
  | [], _ :: _ => -1
  | _ :: _, [] => 1
  | a :: x, b :: y => if cmpB a b = 0 then cmpL x y else cmpB a b

def cmp (a b : ByteArray) : Int := cmpL (split a) (split b)

def under (p f : ByteArray) : Bool := if f.size = 0 then decide (p.size ≠ 0) else (f.data.toList ++ [47]).isPrefixOf p.data.toList

end PathS
end Go.Proofs.YtpcipdkoncmdcaaGreatDoor
namespace Go.Proofs.YtpcipdkoncmdcaaGreatDoor
namespace JoinS
/-- The lines of bytes, those in front already taken. -/
def lnA (acc : List UInt8) : List UInt8 → List ByteArray
  | [] => if acc.isEmpty then [] else [⟨acc.toArray⟩]
  | c :: r => if c = 10 then ⟨(acc ++ [c]).toArray⟩ :: lnA [] r else lnA (acc ++ [c]) r
/-- A text's lines. -/
def lns (t : ByteArray) : List ByteArray := lnA [] t.data.toList
/-- Lines, one behind the other. -/
def cat (l : List ByteArray) : ByteArray := ⟨(l.flatMap fun b => b.data.toList).toArray⟩
def isText (t : ByteArray) : Bool := t.data.toList.all fun c => decide (c ≠ 0)

/-- How long the first line is. -/
def cutAt (l : List UInt8) : Nat := if Lib.indexByte l 10 + 1 = 0 then l.length else (Lib.indexByte l 10 + 1).toNat

theorem idx_none {c : UInt8} : ∀ {l : List UInt8}, c ∉ l → Lib.indexByte l c = -1
  | [], _ => rfl
  | b :: l, h => by
    have h1 : (b == c) = false := by
      rw [beq_eq_false_iff_ne]; intro e; exact h (by simp [e])
    have h2 := idx_none (fun hc => h (List.mem_cons_of_mem _ hc) : c ∉ l)
    unfold Lib.indexByte
    rw [h1, h2]; rfl
theorem idx_some {c : UInt8} : ∀ {l r : List UInt8}, c ∉ l → Lib.indexByte (l ++ c :: r) c = l.length
  | [], r, _ => by unfold Lib.indexByte; simp
  | b :: l, r, h => by
    have h1 : (b == c) = false := by
      rw [beq_eq_false_iff_ne]; intro e; exact h (by simp [e])
    have h2 := idx_some (r := r) (fun hc => h (List.mem_cons_of_mem _ hc) : c ∉ l)
    rw [List.cons_append]
    unfold Lib.indexByte
    rw [h1, h2]
    have : ((l.length : Int) == -1) = false := by rw [beq_eq_false_iff_ne]; omega
    rw [this]; simp
theorem idx_pos {c : UInt8} {l : List UInt8} : 0 ≤ Lib.indexByte l c ↔ c ∈ l := by
  by_cases h : c ∈ l
  · obtain ⟨a, b, rfl, ha⟩ := List.eq_append_cons_of_mem h
    rw [idx_some ha]; simp
  · rw [idx_none h]; simp [h]
theorem idx_lt {c : UInt8} {l : List UInt8} : Lib.indexByte l c < l.length := by
  by_cases h : c ∈ l
  · obtain ⟨a, b, rfl, ha⟩ := List.eq_append_cons_of_mem h
    rw [idx_some ha]; simp; omega
  · rw [idx_none h]; omega
theorem idx_ge {c : UInt8} {l : List UInt8} : -1 ≤ Lib.indexByte l c := by
  by_cases h : c ∈ l
  · have := idx_pos.2 h; omega
  · rw [idx_none h]; omega

theorem lnA_cons (acc : List UInt8) (c : UInt8) (r : List UInt8) : lnA acc (c :: r) = if c = 10 then ⟨(acc ++ [c]).toArray⟩ :: lnA [] r else lnA (acc ++ [c]) r := rfl
theorem lnA_none : ∀ {l acc : List UInt8}, 10 ∉ l → lnA acc l = if (acc ++ l).isEmpty then [] else [⟨(acc ++ l).toArray⟩]
  | [], acc, _ => by rw [List.append_nil]; rfl
  | b :: l, acc, h => by
    have h1 : ¬ b = 10 := fun e => h (by simp [e])
    unfold lnA
    rw [if_neg h1, lnA_none (fun hc => h (List.mem_cons_of_mem _ hc)), List.append_assoc]; rfl
theorem lnA_some : ∀ {l acc r : List UInt8}, 10 ∉ l → lnA acc (l ++ 10 :: r) = ⟨(acc ++ l ++ [10]).toArray⟩ :: lnA [] r
  | [], acc, r, _ => by rw [List.nil_append, lnA_cons, if_pos rfl, List.append_nil]
  | b :: l, acc, r, h => by
    have h1 : ¬ b = 10 := fun e => h (by simp [e])
    rw [List.cons_append, lnA_cons, if_neg h1, lnA_some (fun hc => h (List.mem_cons_of_mem _ hc))]
    simp
theorem cut_pos {l : List UInt8} (h : l ≠ []) : 0 < cutAt l ∧ cutAt l ≤ l.length := by
  have h0 : 0 < l.length := List.length_pos_iff.2 h
  unfold cutAt
  split
  · omega
  · have := idx_lt (c := 10) (l := l); have := idx_ge (c := 10) (l := l); omega
theorem lnA_cut {l : List UInt8} (h : l ≠ []) : lnA [] l = ⟨(l.take (cutAt l)).toArray⟩ :: lnA [] (l.drop (cutAt l)) := by
  by_cases hm : (10 : UInt8) ∈ l
  · obtain ⟨a, b, rfl, ha⟩ := List.eq_append_cons_of_mem hm
    have hc : cutAt (a ++ 10 :: b) = (a ++ [10]).length := by
      unfold cutAt; rw [idx_some ha, if_neg (by omega)]; simp
    rw [lnA_some ha, hc, show a ++ 10 :: b = (a ++ [10]) ++ b by simp, List.take_left, List.drop_left]; simp
  · have hc : cutAt l = l.length := by unfold cutAt; rw [idx_none hm]; rfl
    rw [lnA_none hm, hc, List.take_length, List.drop_length]
    cases l with
    | nil => exact absurd rfl h
    | cons c r => rfl
theorem lns_nil {t : ByteArray} (h : t.size = 0) : lns t = [] := by
  unfold lns
  have : t.data.toList = [] := List.eq_nil_of_length_eq_zero (by rw [← Lib.size_eq]; exact h)
  rw [this]; rfl
theorem lns_cut {t : ByteArray} (h : t.size ≠ 0) : lns t = t.extract 0 (cutAt t.data.toList) :: lns (t.extract (cutAt t.data.toList) t.size) := by
  have h0 : t.data.toList ≠ [] := fun e => h (by rw [Lib.size_eq, e]; rfl)
  unfold lns
  rw [lnA_cut h0]
  congr 1
  · apply ByteArray.ext; apply Array.toList_inj.1
    rw [Lib.extract_data]; simp
  · congr 1
    rw [Lib.extract_data]
    rw [List.take_of_length_le (by rw [List.length_drop, Lib.size_eq]; omega)]
theorem lns_len (t : ByteArray) : (lns t).length ≤ t.size := by
  suffices h : ∀ (l acc : List UInt8), (lnA acc l).length ≤ l.length + (if acc.isEmpty then 0 else 1) by
    have := h t.data.toList []
    rw [← Lib.size_eq] at this; simpa [lns] using this
  intro l
  induction l with
  | nil => intro acc; unfold lnA; split <;> simp_all
  | cons c r ih =>
    intro acc
    unfold lnA
    split
    · have := ih []; simp at this ⊢; omega
    · have := ih (acc ++ [c]); simp at this ⊢; split <;> omega
section
variable {β : Type} [DecidableEq β]
/-- Where both lists of pairs name one line of the base. -/
def meets : List (Nat × Nat) → List (Nat × Nat) → List (Nat × Nat × Nat)
  | x :: a, y :: b => if x.1 = y.1 then (x.1, x.2, y.2) :: meets a b else if x.1 < y.1 then meets a (y :: b) else meets (x :: a) b
  | _, _ => []
termination_by a b => a.length + b.length

/-- Lines of the three lists that stand at one place. -/
structure Pt (β : Type) where
  b : List β
  o : List β
  t : List β

def kindOf (p : Pt β) : Nat :=
  if p.o = p.b ∧ p.t = p.b then 0 else if p.t = p.b then 1 else if p.o = p.b then 2 else if p.o = p.t then 3 else 4

/-- The parts between the places where all three meet, and those places. -/
def raw (bs os ts : List β) (i j k : Nat) : List (Nat × Nat × Nat) → List (Pt β)
  | [] => [⟨bs, os, ts⟩]
  | (x, y, z) :: r => ⟨bs.take (x - i), os.take (y - j), ts.take (z - k)⟩ :: ⟨(bs.drop (x - i)).take 1, (os.drop (y - j)).take 1, (ts.drop (z - k)).take 1⟩ ::
      raw (bs.drop (x - i + 1)) (os.drop (y - j + 1)) (ts.drop (z - k + 1)) (x + 1) (y + 1) (z + 1) r
end
def nl : ByteArray := ⟨#[10]⟩
/-- The last line with an end. -/
def closed (l : List ByteArray) : List ByteArray :=
  match l.getLast? with
  | none => []
  | some x => if Lib.hasSuffix x.data.toList [10] then l else l.dropLast ++ [x ++ nl]
def m1 (s : ByteArray) : ByteArray := ⟨#[60, 60, 60, 60, 60, 60, 60, 32]⟩ ++ s ++ nl
def m2 : ByteArray := ⟨#[124, 124, 124, 124, 124, 124, 124, 32, 98, 97, 115, 101, 10]⟩
def m3 : ByteArray := ⟨#[61, 61, 61, 61, 61, 61, 61, 10]⟩
def m4 (s : ByteArray) : ByteArray := ⟨#[62, 62, 62, 62, 62, 62, 62, 32]⟩ ++ s ++ nl
/-- What a part tells. -/
def emit (u v : ByteArray) (p : Pt ByteArray) : List ByteArray :=
  if kindOf p = 4 then [m1 u] ++ closed p.o ++ [m2] ++ closed p.b ++ [m3] ++ closed p.t ++ [m4 v] else if kindOf p = 2 then p.t else p.o
def tellAll (u v : ByteArray) (l : List (Pt ByteArray)) : List ByteArray := l.flatMap (emit u v)
def clean (l : List (Pt ByteArray)) : Bool := l.all fun p => decide (kindOf p ≠ 4)
/-- The raw parts of three lists. -/
def parts (b o t : List ByteArray) : List (Pt ByteArray) := raw b o t 0 0 0 (meets (ScoreS.P 0 0 b o) (ScoreS.P 0 0 b t))

theorem dl_last {α : Type} : ∀ {l : List α} {q : α}, l.getLast? = some q → l.dropLast ++ [q] = l
  | [], _, h => by cases h
  | a :: l, q, h => by
    have h1 : (a :: l) ≠ [] := by simp
    rw [List.getLast?_eq_some_getLast h1] at h
    injection h with h
    rw [← h]; exact List.dropLast_concat_getLast h1
/-- A part put behind others; parts without a change are put together. -/
def join (l : List (Pt ByteArray)) (p : Pt ByteArray) : List (Pt ByteArray) :=
  if p.b.length + p.o.length + p.t.length = 0 then l else
  match l.getLast? with
  | some q => if kindOf p = 0 ∧ kindOf q = 0 then l.dropLast ++ [⟨q.b ++ p.b, q.o ++ p.o, q.t ++ p.t⟩] else l ++ [p]
  | none => l ++ [p]

theorem kind0 {p : Pt ByteArray} : kindOf p = 0 ↔ p.o = p.b ∧ p.t = p.b := by
  unfold kindOf
  constructor
  · intro h; split at h
    · assumption
    · repeat' split at h
      all_goals omega
  · intro h; rw [if_pos h]
/-- All parts, put together. -/
def joinAll (l : List (Pt ByteArray)) (r : List (Pt ByteArray)) : List (Pt ByteArray) := r.foldl join l
end JoinS
end Go.Proofs.YtpcipdkoncmdcaaGreatDoor
namespace Go.Proofs.YtpcipdkoncmdcaaGreatDoor
open Go Go.RowKit
theorem ES : Elem Tryz.prog 82 9 (.string ByteArray.empty) 1 16 := ⟨by kernel_rfl, by kernel_rfl⟩

end Go.Proofs.YtpcipdkoncmdcaaGreatDoor
namespace Go.Proofs.YtpcipdkoncmdcaaGreatDoor
namespace PathS
open Go
def mkB (l : List UInt8) : ByteArray := ⟨l.toArray⟩
theorem mkB_data (s : ByteArray) : mkB s.data.toList = s := by cases s; simp [mkB]
theorem data_mkB (l : List UInt8) : (mkB l).data.toList = l := by simp [mkB]
theorem ba_ext {a b : ByteArray} (h : a.data.toList = b.data.toList) : a = b := by rw [← mkB_data a, ← mkB_data b, h]

def piecesA (cur : List UInt8) : List UInt8 → List (List UInt8)
  | [] => [cur]
  | c :: l => if c = 47 then cur :: piecesA [] l else piecesA (cur ++ [c]) l

def pcs (s : ByteArray) : List ByteArray := (piecesA [] s.data.toList).map mkB
def spl (s : ByteArray) : List ByteArray := if s.size = 0 then [] else pcs s

theorem piecesA_none : ∀ (l cur : List UInt8), 47 ∉ l → piecesA cur l = [cur ++ l]
  | [], cur, _ => by simp [piecesA]
  | c :: l, cur, h => by
    simp only [List.mem_cons, not_or] at h
    rw [piecesA, if_neg (fun e => h.1 e.symm), piecesA_none l _ h.2]; simp

theorem piecesA_cut : ∀ (p q cur : List UInt8), 47 ∉ p → piecesA cur (p ++ 47 :: q) = (cur ++ p) :: piecesA [] q
  | [], q, cur, _ => by simp [piecesA]
  | c :: p, q, cur, h => by
    simp only [List.mem_cons, not_or] at h
    rw [List.cons_append, piecesA, if_neg (fun e => h.1 e.symm), piecesA_cut p q _ h.2]; simp

theorem index_none : ∀ {l : List UInt8}, Lib.index l [47] = -1 → 47 ∉ l
  | [], _ => by simp
  | c :: l, h => by
    unfold Lib.index at h
    have hp : List.isPrefixOf [47] (c :: l) = (47 == c) := by simp [List.isPrefixOf]
    rw [hp] at h
    by_cases hc : c = 47
    · subst hc; simp at h
    · have : ((47 : UInt8) == c) = false := by simp; exact fun e => hc e.symm
      rw [this] at h
      have hg := Lib.index_ge l [47]
      by_cases hl : Lib.index l [47] = -1
      · have := index_none hl
        simp only [List.mem_cons, not_or]
        exact ⟨fun e => hc e.symm, this⟩
      · have h2 : (Lib.index l [47] == -1) = false := by simpa using hl
        rw [h2] at h
        simp at h
        omega

theorem index_some : ∀ {l : List UInt8} {i : Nat}, Lib.index l [47] = i → 47 ∉ l.take i ∧ l = l.take i ++ 47 :: l.drop (i + 1)
  | [], i, h => by simp [Lib.index] at h
  | c :: l, i, h => by
    unfold Lib.index at h
    have hp : List.isPrefixOf [47] (c :: l) = (47 == c) := by simp [List.isPrefixOf]
    rw [hp] at h
    by_cases hc : c = 47
    · subst hc
      simp at h
      have : i = 0 := by omega
      subst this
      simp
    · have : ((47 : UInt8) == c) = false := by simp; exact fun e => hc e.symm
      rw [this] at h
      have hg := Lib.index_ge l [47]
      by_cases hl : Lib.index l [47] = -1
      · rw [hl] at h; simp at h
      · have h2 : (Lib.index l [47] == -1) = false := by simpa using hl
        rw [h2] at h
        simp at h
        obtain ⟨j, rfl⟩ : ∃ j, i = j + 1 := ⟨i - 1, by omega⟩
        obtain ⟨a, b⟩ := index_some (l := l) (i := j) (by omega)
        refine ⟨?_, ?_⟩
        · simp only [List.take_succ_cons, List.mem_cons, not_or]
          exact ⟨fun e => hc e.symm, a⟩
        · simp only [List.take_succ_cons, List.cons_append, List.drop_succ_cons]
          rw [← b]

theorem extract_list (s : ByteArray) (i j : Nat) : (s.extract i j).data.toList = (s.data.toList.take j).drop i := by
  rw [ByteArray.data_extract, Array.toList_extract, List.extract_eq_take_drop, ← List.drop_take]

theorem splitB_pcs : ∀ (n : Nat) (s : ByteArray), s.size ≤ n → Lib.splitB ⟨#[47]⟩ 0 (Lib.countB s ⟨#[47]⟩) s = pcs s := by
  intro n
  induction n with
  | zero =>
    intro s h
    have h0 : s.data.toList = [] := List.eq_nil_of_length_eq_zero (by rw [← Lib.size_eq]; omega)
    have hs : s = ByteArray.empty := ba_ext (by rw [h0]; rfl)
    subst hs
    rfl
  | succ n ih =>
    intro s h
    rcases Lib.indexB_cases s ⟨#[47]⟩ with h1 | ⟨i, h1, h2⟩
    · rw [Lib.splitB_miss _ _ _ _ h1]
      have : 47 ∉ s.data.toList := index_none h1
      rw [pcs, piecesA_none _ _ this]
      simp [mkB_data]
    · have hsz : (⟨#[47]⟩ : ByteArray).size = 1 := rfl
      rw [hsz] at h2
      rw [Lib.countB_hit s ⟨#[47]⟩ i (by rw [hsz]; omega) h1, Nat.add_comm 1, Lib.splitB]
      have hne : (Lib.indexB s ⟨#[47]⟩ == -1) = false := by rw [h1]; simp
      rw [hne, h1, hsz]
      simp only [Bool.false_eq_true, if_false, Int.toNat_natCast, Nat.add_zero]
      have hsz2 : (s.extract (i + 1) s.size).size ≤ n := by rw [Lib.size_eq, extract_list, List.length_drop, List.length_take, ← Lib.size_eq]; omega
      rw [ih _ hsz2]
      obtain ⟨a, b⟩ := index_some (l := s.data.toList) h1
      conv => rhs; rw [pcs, b]
      rw [piecesA_cut _ _ _ a]
      simp only [List.map_cons, List.nil_append, pcs]
      congr 1
      · apply ba_ext; rw [extract_list, data_mkB]; simp
      · congr 2
        rw [extract_list, List.take_of_length_le (by rw [← Lib.size_eq]; omega)]

theorem splitTo_pcs (s : ByteArray) : ∀ k, k ≤ s.size → piecesA [] s.data.toList = (splitTo s k).1.map (fun b => b.data.toList) ++ piecesA ((s.data.toList.take k).drop (splitTo s k).2) (s.data.toList.drop k) := by
  intro k
  induction k with
  | zero => intro _; simp [splitTo]
  | succ k ih =>
    intro hk
    have hlt : k < s.size := by omega
    rw [ih (by omega), drop_at s k hlt, piecesA]
    have hget : s[k]! = s[k] := getElem!_pos s k hlt
    have hle := splitTo_le s k
    have htake : s.data.toList.take (k + 1) = s.data.toList.take k ++ [s[k]] := by
      rw [List.take_succ_eq_append_getElem (by simpa using hlt)]; rfl
    by_cases hc : s[k] = 47
    · rw [if_pos hc]
      have : splitTo s (k + 1) = ((splitTo s k).1 ++ [s.extract (splitTo s k).2 k], k + 1) := by rw [splitTo, if_pos (.inr (by rw [hget]; exact hc))]
      rw [this]
      simp only [List.map_append, List.map_cons, List.map_nil, List.append_assoc, List.cons_append, List.nil_append, extract_list]
      rw [@List.drop_eq_nil_of_le _ (List.take (k + 1) s.data.toList) _ (by rw [List.length_take]; omega)]
    · rw [if_neg hc]
      have : splitTo s (k + 1) = splitTo s k := by rw [splitTo, if_neg (by rw [hget]; simp [hc]; omega)]
      rw [this, htake, List.drop_append_of_le_length (by rw [List.length_take, ← Lib.size_eq]; omega)]

theorem split_spl (s : ByteArray) : split s = spl s := by
  unfold split spl
  split
  · rfl
  · have h := splitTo_pcs s s.size (Nat.le_refl _)
    rw [splitTo, if_pos (.inl rfl)]
    simp only [pcs]
    rw [h, @List.drop_eq_nil_of_le _ s.data.toList _ (by rw [← Lib.size_eq]; omega)]
    simp only [piecesA, List.map_append, List.map_map, List.map_cons, List.map_nil]
    congr 1
    · have e : (mkB ∘ fun b => b.data.toList) = id := funext mkB_data
      rw [e, List.map_id]
    · rw [← extract_list, mkB_data]

end PathS
end Go.Proofs.YtpcipdkoncmdcaaGreatDoor
namespace Go.Proofs.YtpcipdkoncmdcaaGreatDoor
namespace PathS
open Go
def badR (r : Nat) : Bool := decide (r < 32) || r == 127 || r == 47

theorem okB_high (c : UInt8) (h : 128 ≤ c.toNat) : okB c = true := by
  unfold okB
  have h1 : ¬ c < 32 := by rw [UInt8.lt_iff_toNat_lt]; have : (32 : UInt8).toNat = 32 := rfl; omega
  have h2 : ¬ c = 127 := by intro e; subst e; simp at h
  have h3 : ¬ c = 47 := by intro e; subst e; simp at h
  simp [h2, h3]
  rw [UInt8.le_iff_toNat_le]; have : (32 : UInt8).toNat = 32 := rfl; omega

theorem okB_low (c : UInt8) : okB c = !badR c.toNat := by
  unfold okB badR
  have e1 : (c < 32) = (c.toNat < 32) := by rw [UInt8.lt_iff_toNat_lt]; rfl
  have e2 : (c == 127) = (c.toNat == 127) := by rw [Bool.eq_iff_iff]; simp [← UInt8.toNat_inj]
  have e3 : (c == 47) = (c.toNat == 47) := by rw [Bool.eq_iff_iff]; simp [← UInt8.toNat_inj]
  simp only [e1, e2, e3]

theorem get_bang (s : ByteArray) (i : Nat) (h : i < s.size) : s.get! i = s[i] := by
  have : s.get! i = s.data[i]! := rfl
  rw [this, getElem!_pos s.data i (by simpa using h)]; rfl

theorem all_step (s : ByteArray) (k : Nat) (h : k < s.size) : (s.data.toList.drop k).all okB = (okB (s.get! k) && (s.data.toList.drop (k + 1)).all okB) := by
  rw [drop_at s k h, List.all_cons, get_bang s k h]

theorem idx_all (s : ByteArray) : ∀ (f pos : Nat), s.size ≤ pos + f → (Lib.idxFuncFrom badR true s f pos = -1 ↔ (s.data.toList.drop pos).all okB = true) := by
  intro f
  induction f with
  | zero =>
    intro pos h
    have : s.data.toList.drop pos = [] := List.drop_eq_nil_of_le (by rw [← Lib.size_eq]; omega)
    simp [Lib.idxFuncFrom, this]
  | succ f ih =>
    intro pos h
    unfold Lib.idxFuncFrom
    by_cases hlt : pos < s.size
    · rw [if_pos hlt, Lib.decode_at, all_step s pos hlt]
      have g0 := UInt8.toNat_lt (s.get! pos)
      have g1 := UInt8.toNat_lt (s.get! (pos + 1))
      rcases Lib.decodeN_shape (s.size - pos) (s.get! pos).toNat (s.get! (pos + 1)).toNat (s.get! (pos + 2)).toNat (s.get! (pos + 3)).toNat with ⟨h1, e⟩ | ⟨h1, h2, h3, h4, e⟩ | ⟨h1, h2, h3, h4, h5, h6, e⟩ | ⟨h1, h2, h3, h4, h5, h6, h7, e⟩ | e
      · rw [e]
        simp only
        rw [okB_low]
        cases hb : badR (s.get! pos).toNat
        · simp only [Bool.false_eq_true, if_false, Bool.not_false, Bool.true_and]
          exact ih (pos + 1) (by omega)
        · simp
      · rw [e]
        have hb : badR ((s.get! pos).toNat % 32 * 64 + (s.get! (pos + 1)).toNat % 64) = false := by simp [badR]; omega
        simp only [hb, Bool.false_eq_true, if_false]
        rw [ih (pos + 2) (by omega), okB_high _ (by omega), all_step s (pos + 1) (by omega), okB_high _ (by omega)]
        simp
      · rw [e]
        have hb : badR ((s.get! pos).toNat % 16 * 4096 + (s.get! (pos + 1)).toNat % 64 * 64 + (s.get! (pos + 2)).toNat % 64) = false := by simp [badR]; omega
        simp only [hb, Bool.false_eq_true, if_false]
        rw [ih (pos + 3) (by omega), okB_high _ (by omega), all_step s (pos + 1) (by omega), okB_high _ (by omega), show pos + 1 + 1 = pos + 2 from rfl, all_step s (pos + 2) (by omega), okB_high _ (by omega)]
        simp
      · rw [e]
        have hb : badR ((s.get! pos).toNat % 8 * 262144 + (s.get! (pos + 1)).toNat % 64 * 4096 + (s.get! (pos + 2)).toNat % 64 * 64 + (s.get! (pos + 3)).toNat % 64) = false := by simp [badR]; omega
        simp only [hb, Bool.false_eq_true, if_false]
        rw [ih (pos + 4) (by omega), okB_high _ (by omega), all_step s (pos + 1) (by omega), okB_high _ (by omega), show pos + 1 + 1 = pos + 2 from rfl, all_step s (pos + 2) (by omega), okB_high _ (by omega), show pos + 2 + 1 = pos + 3 from rfl, all_step s (pos + 3) (by omega), okB_high _ (by omega)]
        simp
      · rw [e]
        have hb : badR 65533 = false := by decide
        simp only [hb, Bool.false_eq_true, if_false]
        by_cases hl : (s.get! pos).toNat < 128
        · exfalso
          rw [show Lib.decodeN (s.size - pos) (s.get! pos).toNat (s.get! (pos + 1)).toNat (s.get! (pos + 2)).toNat (s.get! (pos + 3)).toNat = ((s.get! pos).toNat, 1) from by unfold Lib.decodeN; rw [if_pos hl]] at e
          have := congrArg Prod.fst e
          simp at this
          omega
        · rw [ih (pos + 1) (by omega), okB_high _ (by omega)]
          simp
    · rw [if_neg hlt]
      have : s.data.toList.drop pos = [] := List.drop_eq_nil_of_le (by rw [← Lib.size_eq]; omega)
      simp [this]

theorem idx_ge (s : ByteArray) : Lib.idxFunc badR true s = -1 ∨ 0 ≤ Lib.idxFunc badR true s := by
  rcases Lib.idxFuncFrom_range badR true s s.size 0 with h | ⟨h, _⟩
  · exact .inl h
  · exact .inr (by have : (0 : Int) ≤ Lib.idxFuncFrom badR true s s.size 0 := by simpa using h
                   exact this)

theorem idx_neg (s : ByteArray) : decide (Lib.idxFunc badR true s < 0) = s.data.toList.all okB := by
  have h := idx_all s s.size 0 (by omega)
  rw [List.drop_zero] at h
  have h2 := idx_ge s
  rw [Bool.eq_iff_iff, decide_eq_true_iff, ← h]
  show _ ↔ Lib.idxFunc badR true s = -1
  omega
end PathS
end Go.Proofs.YtpcipdkoncmdcaaGreatDoor
