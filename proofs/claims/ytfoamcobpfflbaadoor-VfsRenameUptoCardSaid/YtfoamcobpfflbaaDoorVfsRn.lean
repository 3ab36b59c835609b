/- THE ATOMIC RENAME, in plain Lean. -/
import Derived.Test.YtfoamcobpfflbaaDoorVfsAw
namespace Go.Proofs.YtfoamcobpfflbaaDoor
open VfsS (St)
namespace VfsT

def old1 (x : ByteArray) (n : Int) : St := ⟨[⟨x, x.size⟩], [(f, 0)], [(f, 0)], [], 1000, 4, n⟩
theorem bz : ByteArray.empty.size = 0 := rfl

theorem be_append (x : ByteArray) : ByteArray.empty ++ x = x := by
  apply ByteArray.ext; rw [ByteArray.data_append]; simp [ByteArray.empty, ByteArray.emptyWithCapacity]; rfl

theorem f1 : VfsS.createS (VfsS.newS (1000 : Int).toNat) f = (⟨[⟨ByteArray.empty, 0⟩], [(f, 0)], [], [⟨ByteArray.empty, f, some 0⟩], 1000, 1, -1⟩, 0) := by
  rw [VfsS.createS, check_f, if_neg (by decide)]; rfl
theorem f2 (x : ByteArray) (h : x.size ≤ 1000) : VfsS.appendS ⟨[⟨ByteArray.empty, 0⟩], [(f, 0)], [], [⟨ByteArray.empty, f, some 0⟩], 1000, 1, -1⟩ f x = (⟨[⟨x, 0⟩], [(f, 0)], [], [⟨ByteArray.empty, f, some 0⟩], 1000, 2, -1⟩, 0) := by
  show (if ((1000 : Nat) : Int) - ((0 + 0 : Nat) : Int) < (x.size : Int) then _ else _) = _
  rw [if_neg (by omega)]
  show ((⟨[⟨ByteArray.empty ++ x, 0⟩], _, _, _, _, _, _⟩ : St), (0 : Int)) = _
  rw [be_append]; rfl
theorem f3 (x : ByteArray) : VfsS.syncS ⟨[⟨x, 0⟩], [(f, 0)], [], [⟨ByteArray.empty, f, some 0⟩], 1000, 2, -1⟩ f = (⟨[⟨x, x.size⟩], [(f, 0)], [], [⟨ByteArray.empty, f, some 0⟩], 1000, 3, -1⟩, 0) := rfl
theorem f4 (x : ByteArray) : VfsS.flushAllS ⟨[⟨x, x.size⟩], [(f, 0)], [], [⟨ByteArray.empty, f, some 0⟩], 1000, 3, -1⟩ = (old1 x (-1), 0) := rfl

/-- A limit that is one less. -/
def lim (n : Int) : Int := if 0 < n then n - 1 else n

def g1 (x : ByteArray) (n : Int) : St := ⟨[⟨x, x.size⟩, ⟨ByteArray.empty, 0⟩], [(f, 0), (g, 1)], [(f, 0)], [⟨ByteArray.empty, g, some 1⟩], 1000, 5, n⟩
def g2 (x y : ByteArray) (n : Int) : St := ⟨[⟨x, x.size⟩, ⟨y, 0⟩], [(f, 0), (g, 1)], [(f, 0)], [⟨ByteArray.empty, g, some 1⟩], 1000, 6, n⟩
def g3 (x y : ByteArray) (n : Int) : St := ⟨[⟨x, x.size⟩, ⟨y, y.size⟩], [(f, 0), (g, 1)], [(f, 0)], [⟨ByteArray.empty, g, some 1⟩], 1000, 7, n⟩
def g4 (x y : ByteArray) (n : Int) : St := ⟨[⟨x, x.size⟩, ⟨y, y.size⟩], [(f, 1)], [(f, 0)], [⟨ByteArray.empty, g, some 1⟩, ⟨g, f, some 1⟩], 1000, 8, n⟩
def g5 (x y : ByteArray) (n : Int) : St := ⟨[⟨x, x.size⟩, ⟨y, y.size⟩], [(f, 1)], [(f, 1)], [], 1000, 9, n⟩

theorem lim_step (S : St) (h : S.limit ≠ 0) : VfsS.stepS S = { S with limit := lim S.limit, steps := S.steps + 1 } := by unfold VfsS.stepS; rw [if_neg h]; rfl

theorem o1 (x : ByteArray) (n : Int) : VfsS.createS (old1 x n) g = if n = 0 then (old1 x n, 190) else (g1 x (lim n), 0) := by
  rw [VfsS.createS, check_g, if_neg (by decide)]
  show (if n = 0 then _ else _) = _
  by_cases h : n = 0
  · rw [if_pos h, if_pos h]
  · rw [if_neg h, if_neg h, lim_step _ h]; rfl
theorem o2 (x y : ByteArray) (n : Int) (h : x.size + y.size ≤ 1000) : VfsS.appendS (g1 x n) g y = if n = 0 then (g1 x n, 190) else (g2 x y (lim n), 0) := by
  show (if ((1000 : Nat) : Int) - ((x.size + (0 + 0) : Nat) : Int) < (y.size : Int) then _ else if n = 0 then _ else _) = _
  rw [if_neg (by omega)]
  by_cases h : n = 0
  · rw [if_pos h, if_pos h]
  · rw [if_neg h, if_neg h, lim_step _ h]
    show ((⟨[⟨x, x.size⟩, ⟨ByteArray.empty ++ y, 0⟩], _, _, _, _, _, _⟩ : St), (0 : Int)) = _
    rw [be_append]; rfl
theorem o3 (x y : ByteArray) (n : Int) : VfsS.syncS (g2 x y n) g = if n = 0 then (g2 x y n, 190) else (g3 x y (lim n), 0) := by
  show (if n = 0 then _ else _) = _
  by_cases h : n = 0
  · rw [if_pos h, if_pos h]
  · rw [if_neg h, if_neg h, lim_step _ h]; rfl
theorem o4 (x y : ByteArray) (n : Int) : VfsS.renameS (g3 x y n) g f = if n = 0 then (g3 x y n, 190) else (g4 x y (lim n), 0) := by
  rw [VfsS.renameS, check_f, show VfsS.find (g3 x y n).now g = some 1 from rfl]
  show (if n = 0 then _ else _) = _
  by_cases h : n = 0
  · rw [if_pos h, if_pos h]
  · rw [if_neg h, if_neg h, lim_step _ h]; rfl
theorem o5 (x y : ByteArray) (n : Int) : VfsS.flushAllS (g4 x y n) = if n = 0 then (g4 x y n, 190) else (g5 x y (lim n), 0) := by
  show (if n = 0 then _ else _) = _
  by_cases h : n = 0
  · rw [if_pos h, if_pos h]
  · rw [if_neg h, if_neg h, lim_step _ h]; rfl

theorem cut_full (x : ByteArray) (n : Int) : (VfsS.cutF n ⟨x, x.size⟩).text = x := by
  show x.extract 0 (x.size + min n.toNat (x.size - x.size)) = x
  rw [Nat.sub_self, Nat.min_zero, Nat.add_zero]
  exact ByteArray.extract_zero_size

theorem clamp_cases (m : Int) (k : Nat) : VfsS.clampN m k ≤ k := Nat.min_le_right _ _

/-- A crash that keeps k changes of names. -/
def crK (S : St) (k : Nat) (b : Int) : St := ⟨(VfsS.flushS S k).files.map (VfsS.cutF b), (VfsS.flushS S k).sure, (VfsS.flushS S k).sure, [], (VfsS.flushS S k).room, (VfsS.flushS S k).steps, -1⟩
theorem crash_eq (S : St) (a b : Int) : VfsS.crashS S a b = crK S (VfsS.clampN a S.acts.length) b := rfl

/-- What is read behind the crash. -/
theorem rd0 (x : ByteArray) (n a b : Int) : VfsS.readS (VfsS.crashS (old1 x n) a b) f = some x := by
  have e : VfsS.clampN a (old1 x n).acts.length = 0 := Nat.min_zero _
  rw [crash_eq, e]
  show some (VfsS.cutF b ⟨x, x.size⟩).text = _
  rw [cut_full]
theorem rd1 (x : ByteArray) (F : VfsS.File) (n a b : Int) (k : Nat) : VfsS.readS (VfsS.crashS ⟨[⟨x, x.size⟩, F], [(f, 0), (g, 1)], [(f, 0)], [⟨ByteArray.empty, g, some 1⟩], 1000, k, n⟩ a b) f = some x := by
  have h := clamp_cases a 1
  rw [crash_eq]
  show VfsS.readS (crK _ (VfsS.clampN a 1) b) f = _
  have h2 : ∀ j, j ≤ 1 → VfsS.readS (crK ⟨[⟨x, x.size⟩, F], [(f, 0), (g, 1)], [(f, 0)], [⟨ByteArray.empty, g, some 1⟩], 1000, k, n⟩ j b) f = some (VfsS.cutF b ⟨x, x.size⟩).text := by
    intro j hj
    match j, hj with
    | 0, _ => rfl
    | 1, _ => rfl
  rw [h2 _ h, cut_full]
theorem rd4 (x y : ByteArray) (n a b : Int) : VfsS.readS (VfsS.crashS (g4 x y n) a b) f = some x ∨ VfsS.readS (VfsS.crashS (g4 x y n) a b) f = some y := by
  have h := clamp_cases a 2
  rw [crash_eq]
  show VfsS.readS (crK _ (VfsS.clampN a 2) b) f = _ ∨ VfsS.readS (crK _ (VfsS.clampN a 2) b) f = _
  have h2 : ∀ j, j ≤ 2 → VfsS.readS (crK (g4 x y n) j b) f = some (VfsS.cutF b ⟨x, x.size⟩).text ∨ VfsS.readS (crK (g4 x y n) j b) f = some (VfsS.cutF b ⟨y, y.size⟩).text := by
    intro j hj
    match j, hj with
    | 0, _ => exact .inl rfl
    | 1, _ => exact .inl rfl
    | 2, _ => exact .inr rfl
  have h3 := h2 _ h
  rw [cut_full, cut_full] at h3
  exact h3
theorem rd5 (x y : ByteArray) (n a b : Int) : VfsS.readS (VfsS.crashS (g5 x y n) a b) f = some y := by
  have e : VfsS.clampN a (g5 x y n).acts.length = 0 := Nat.min_zero _
  rw [crash_eq, e]
  show some (VfsS.cutF b ⟨y, y.size⟩).text = _
  rw [cut_full]
end VfsT
end Go.Proofs.YtfoamcobpfflbaaDoor
