/- Paths in plain Lean: no program in sight. -/
namespace Go.Proofs.YtfoamcobpfflbaaDoor
namespace PathS

/-- Pieces so far, and where the next one begins (the reference's Split, k rounds). -/
def splitTo (s : ByteArray) : Nat → List ByteArray × Nat
  | 0 => ([], 0)
  | k + 1 => if k = s.size ∨ s[k]! = 47 then ((splitTo s k).1 ++ [s.extract (splitTo s k).2 k], k + 1) else splitTo s k

def split (s : ByteArray) : List ByteArray := if s.size = 0 then [] else (splitTo s (s.size + 1)).1

theorem splitTo_le (s : ByteArray) (k : Nat) : (splitTo s k).2 ≤ k := by
  induction k with
  | zero => simp [splitTo]
  | succ k ih => unfold splitTo; split <;> (try simp) <;> omega

theorem splitTo_len (s : ByteArray) (k : Nat) : (splitTo s k).1.length ≤ k := by
  induction k with
  | zero => simp [splitTo]
  | succ k ih => unfold splitTo; split <;> (try simp) <;> omega

def okB (c : UInt8) : Bool := !(decide (c < 32) || c == 127 || c == 47)

def nameL (l : List UInt8) : Bool := l != [] && l != [46] && l != [46, 46] && decide (l.length ≤ 64) && l.all okB

def name (s : ByteArray) : Bool := nameL s.data.toList

theorem nameL_no {l : List UInt8} (h : l = [] ∨ l = [46] ∨ l = [46, 46] ∨ 64 < l.length) : nameL l = false := by
  unfold nameL
  rcases h with h | h | h | h
  · simp [h]
  · simp [h]
  · simp [h]
  · have : decide (l.length ≤ 64) = false := by simpa using h
    rw [this]; simp

theorem nameL_rest {l : List UInt8} (h1 : ¬ l = []) (h2 : ¬ l = [46]) (h3 : ¬ l = [46, 46]) (h4 : l.length ≤ 64) : nameL l = (l.drop 0).all okB := by
  simp [nameL, h1, h2, h3, h4]

theorem name_no {s : ByteArray} (h : s.data.toList = [] ∨ s.data.toList = [46] ∨ s.data.toList = [46, 46] ∨ 64 < s.data.toList.length) : name s = false := nameL_no h
theorem name_rest {s : ByteArray} (h1 : ¬ s.data.toList = []) (h2 : ¬ s.data.toList = [46]) (h3 : ¬ s.data.toList = [46, 46]) (h4 : s.data.toList.length ≤ 64) : name s = (s.data.toList.drop 0).all okB := nameL_rest h1 h2 h3 h4

theorem drop_at (s : ByteArray) (k : Nat) (h : k < s.size) : s.data.toList.drop k = s[k] :: s.data.toList.drop (k + 1) := by
  rw [List.drop_eq_getElem_cons (by simpa using h)]; rfl

/-- Join: names with / between. -/
def joinTo (l : List ByteArray) : Nat → ByteArray
  | 0 => ByteArray.empty
  | k + 1 => (if 0 < k then joinTo l k ++ ⟨#[47]⟩ else joinTo l k) ++ l.getD k ByteArray.empty

def check (s : ByteArray) : Int := if 255 < s.size ∨ 16 < (split s).length then 2 else if (split s).all name then (if (split s).length = 0 then 50 else 0) else 50

def cmpB (a b : ByteArray) : Int := if a.data.toList < b.data.toList then -1 else if a.data.toList = b.data.toList then 0 else 1

def cmpL : List ByteArray → List ByteArray → Int
  | [], [] => 0
  | [], _ :: _ => -1
  | _ :: _, [] => 1
  | a :: x, b :: y => if cmpB a b = 0 then cmpL x y else cmpB a b

def cmp (a b : ByteArray) : Int := cmpL (split a) (split b)

def under (p f : ByteArray) : Bool := if f.size = 0 then decide (p.size ≠ 0) else (f.data.toList ++ [47]).isPrefixOf p.data.toList

def parent (s : ByteArray) : ByteArray := if (split s).length < 2 then ByteArray.empty else joinTo ((split s).dropLast) ((split s).length - 1)

end PathS
end Go.Proofs.YtfoamcobpfflbaaDoor
