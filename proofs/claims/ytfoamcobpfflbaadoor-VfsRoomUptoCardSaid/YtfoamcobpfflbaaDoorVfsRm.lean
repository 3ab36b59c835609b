/- What is left is what can be appended, in plain Lean. -/
import Derived.Test.YtfoamcobpfflbaaDoorVfsAw
namespace Go.Proofs.YtfoamcobpfflbaaDoor
open VfsS (St)
namespace VfsT

abbrev c : ByteArray := ⟨#[99]⟩
abbrev d : ByteArray := ⟨#[100]⟩
theorem check_c : PathS.check c = 0 := by decide
theorem check_d : PathS.check d = 0 := by decide

/-- The four names. -/
def nm4 : Nat → ByteArray
  | 0 => a
  | 1 => b
  | 2 => c
  | _ => d
def now4 : VfsS.Nm := [(a, 0), (b, 1), (c, 2), (d, 3)]

/-- Behind k Creates. -/
def C4 (r k : Nat) : St := ⟨List.replicate k ⟨ByteArray.empty, 0⟩, now4.take k, [], ((List.range k).map fun i => ⟨ByteArray.empty, nm4 i, some i⟩), r, k, -1⟩
theorem c40 (r : Nat) : VfsS.newS r = C4 r 0 := rfl
theorem c4s (r k : Nat) (h : k < 4) : VfsS.createS (C4 r k) (nm4 k) = (C4 r (k + 1), 0) := by
  match k, h with
  | 0, _ => rw [VfsS.createS, show nm4 0 = a from rfl, check_a, if_neg (by decide)]; rfl
  | 1, _ => rw [VfsS.createS, show nm4 1 = b from rfl, check_b, if_neg (by decide)]; rfl
  | 2, _ => rw [VfsS.createS, show nm4 2 = c from rfl, check_c, if_neg (by decide)]; rfl
  | 3, _ => rw [VfsS.createS, show nm4 3 = d from rfl, check_d, if_neg (by decide)]; rfl

/-- Four files with these sizes. -/
structure R4 (S : St) (r : Nat) (hs : List Nat) : Prop where
  sz : S.files.map (fun f => f.text.size) = hs
  len : hs.length = 4
  now : S.now = now4
  room : S.room = r
  lim : S.limit = -1
  fit : hs.sum ≤ r

theorem r40 (r : Nat) : R4 (C4 r 4) r [0, 0, 0, 0] := ⟨rfl, rfl, rfl, rfl, rfl, Nat.zero_le _⟩

theorem R4.flen {S : St} {r : Nat} {hs : List Nat} (h : R4 S r hs) : S.files.length = 4 := by have := congrArg List.length h.sz; rw [List.length_map, h.len] at this; exact this

theorem R4.at {S : St} {r : Nat} {hs : List Nat} (h : R4 S r hs) (k : Nat) (hk : k < 4) : (VfsS.fl S k).text.size = hs.getD k 0 := by
  have hl := h.flen
  rw [← h.sz]
  unfold VfsS.fl
  simp [List.getD, List.getElem?_map, List.getElem?_eq_getElem (show k < S.files.length by omega)]

theorem R4.find {S : St} {r : Nat} {hs : List Nat} (h : R4 S r hs) (k : Nat) (hk : k < 4) : VfsS.find S.now (nm4 k) = some k := by
  rw [h.now]
  match k, hk with
  | 0, _ => rfl
  | 1, _ => rfl
  | 2, _ => rfl
  | 3, _ => rfl

theorem four (hs : List Nat) (h : hs.length = 4) : hs = [hs.getD 0 0, hs.getD 1 0, hs.getD 2 0, hs.getD 3 0] := by
  match hs, h with
  | [p, q, s, t], _ => rfl

theorem R4.used {S : St} {r : Nat} {hs : List Nat} (h : R4 S r hs) : VfsS.used S = hs.sum := by
  unfold VfsS.used
  rw [h.now]
  show ((VfsS.fl S 0).text.size + ((VfsS.fl S 1).text.size + ((VfsS.fl S 2).text.size + ((VfsS.fl S 3).text.size + 0)))) = _
  rw [h.at 0 (by omega), h.at 1 (by omega), h.at 2 (by omega), h.at 3 (by omega), four hs h.len]
  simp

theorem sum_set (hs : List Nat) (h : hs.length = 4) (k n : Nat) (hk : k < 4) : (hs.set k n).sum + hs.getD k 0 = hs.sum + n := by
  match hs, h with
  | [p, q, s, t], _ =>
    match k, hk with
    | 0, _ => simp; omega
    | 1, _ => simp; omega
    | 2, _ => simp; omega
    | 3, _ => simp; omega

theorem R4.put {S : St} {r : Nat} {hs : List Nat} (h : R4 S r hs) (k : Nat) (hk : k < 4) (f : VfsS.File) (hf : hs.sum + f.text.size ≤ r + hs.getD k 0) :
    R4 (VfsS.putS (VfsS.stepS S) k f) r (hs.set k f.text.size) := by
  have hl : S.limit ≠ 0 := by rw [h.lim]; decide
  have e : VfsS.stepS S = { S with limit := S.limit, steps := S.steps + 1 } := by unfold VfsS.stepS; rw [if_neg hl, if_neg (by rw [h.lim]; decide)]
  rw [e]
  have := sum_set hs h.len k f.text.size hk
  exact ⟨by show (S.files.set k f).map _ = _; rw [List.map_set, h.sz], by rw [List.length_set, h.len], h.now, h.room, h.lim, by omega⟩

/-- Append. -/
theorem R4.append {S : St} {r : Nat} {hs : List Nat} (h : R4 S r hs) (k : Nat) (hk : k < 4) (x : ByteArray) :
    (VfsS.appendS S (nm4 k) x).2 = (if hs.sum + x.size ≤ r then 0 else 3) ∧ (hs.sum + x.size ≤ r → R4 (VfsS.appendS S (nm4 k) x).1 r (hs.set k (hs.getD k 0 + x.size))) ∧ (¬ hs.sum + x.size ≤ r → (VfsS.appendS S (nm4 k) x).1 = S) := by
  have e : VfsS.appendS S (nm4 k) x = if (r : Int) - hs.sum < x.size then (S, 3) else (VfsS.putS (VfsS.stepS S) k ⟨(VfsS.fl S k).text ++ x, (VfsS.fl S k).dur⟩, 0) := by
    unfold VfsS.appendS
    rw [h.find k hk]
    show (if (S.room : Int) - VfsS.used S < x.size then _ else if S.limit = 0 then _ else _) = _
    rw [h.room, h.used, if_neg (show ¬ S.limit = 0 by rw [h.lim]; decide)]
  by_cases hc : hs.sum + x.size ≤ r
  · rw [e, if_neg (by omega), if_pos hc]
    refine ⟨rfl, fun _ => ?_, fun h' => absurd hc h'⟩
    have hz : ((VfsS.fl S k).text ++ x).size = hs.getD k 0 + x.size := by rw [ByteArray.size_append, h.at k hk]
    have := h.put k hk ⟨(VfsS.fl S k).text ++ x, (VfsS.fl S k).dur⟩ (by show hs.sum + ((VfsS.fl S k).text ++ x).size ≤ _; rw [hz]; omega)
    rw [show (⟨(VfsS.fl S k).text ++ x, (VfsS.fl S k).dur⟩ : VfsS.File).text.size = hs.getD k 0 + x.size from hz] at this
    exact this
  · rw [e, if_pos (by omega), if_neg hc]
    exact ⟨rfl, fun h' => absurd h' hc, fun _ => rfl⟩

/-- Cut to the half. -/
theorem R4.cut {S : St} {r : Nat} {hs : List Nat} (h : R4 S r hs) (k : Nat) (hk : k < 4) :
    (VfsS.cutS S (nm4 k) ((hs.getD k 0 / 2 : Nat) : Int)).2 = 0 ∧ R4 (VfsS.cutS S (nm4 k) ((hs.getD k 0 / 2 : Nat) : Int)).1 r (hs.set k (hs.getD k 0 / 2)) := by
  have e : VfsS.cutS S (nm4 k) ((hs.getD k 0 / 2 : Nat) : Int) = (VfsS.putS (VfsS.stepS S) k ⟨(VfsS.fl S k).text.extract 0 (hs.getD k 0 / 2), hs.getD k 0 / 2⟩, 0) := by
    unfold VfsS.cutS
    rw [h.find k hk]
    show (if ((hs.getD k 0 / 2 : Nat) : Int) < 0 ∨ ((VfsS.fl S k).text.size : Int) < ((hs.getD k 0 / 2 : Nat) : Int) then _ else if S.limit = 0 then _ else _) = _
    rw [h.at k hk, if_neg (by omega), if_neg (show ¬ S.limit = 0 by rw [h.lim]; decide), Int.toNat_natCast]
  rw [e]
  refine ⟨rfl, ?_⟩
  have hz : ((VfsS.fl S k).text.extract 0 (hs.getD k 0 / 2)).size = hs.getD k 0 / 2 := by rw [ByteArray.size_extract, h.at k hk]; omega
  have := h.put k hk ⟨(VfsS.fl S k).text.extract 0 (hs.getD k 0 / 2), hs.getD k 0 / 2⟩ (by
    have := h.fit
    show hs.sum + ((VfsS.fl S k).text.extract 0 (hs.getD k 0 / 2)).size ≤ _; rw [hz]; omega)
  rw [show (⟨(VfsS.fl S k).text.extract 0 (hs.getD k 0 / 2), hs.getD k 0 / 2⟩ : VfsS.File).text.size = hs.getD k 0 / 2 from hz] at this
  exact this

/-- Remove the first. -/
theorem R4.rem {S : St} {r : Nat} {hs : List Nat} (h : R4 S r hs) : (VfsS.removeS S a).2 = 0 ∧ VfsS.used (VfsS.removeS S a).1 = hs.getD 1 0 + hs.getD 2 0 + hs.getD 3 0 := by
  have e : VfsS.removeS S a = (VfsS.changeS (VfsS.stepS S) ⟨a, ByteArray.empty, none⟩, 0) := by
    unfold VfsS.removeS
    rw [show VfsS.find S.now a = some 0 from h.find 0 (by omega), if_pos (show (some 0).isSome = true from rfl), if_neg (show ¬ S.limit = 0 by rw [h.lim]; decide)]
  rw [e]
  refine ⟨rfl, ?_⟩
  have hf : (VfsS.stepS S).files = S.files := by unfold VfsS.stepS; split <;> rfl
  have hfl : ∀ i, VfsS.fl (VfsS.changeS (VfsS.stepS S) ⟨a, ByteArray.empty, none⟩) i = VfsS.fl S i := fun i => by
    unfold VfsS.fl; show (VfsS.stepS S).files.getD i default = _; rw [hf]
  unfold VfsS.used
  rw [show (VfsS.changeS (VfsS.stepS S) ⟨a, ByteArray.empty, none⟩).now = [(b, 1), (c, 2), (d, 3)] by
    unfold VfsS.changeS
    rw [VfsS.stepS_now, h.now]; rfl]
  show (VfsS.fl _ 1).text.size + ((VfsS.fl _ 2).text.size + ((VfsS.fl _ 3).text.size + 0)) = _
  rw [hfl, hfl, hfl, h.at 1 (by omega), h.at 2 (by omega), h.at 3 (by omega)]
  omega
end VfsT
end Go.Proofs.YtfoamcobpfflbaaDoor
