/- Walks, over any program that has these bodies: exchanging, turning about and merging parts of a row in place. -/
import Derived.Test.YtlnifigbnpdemaaDoorScoreSort
import Derived.Test.YtlnifigbnpdemaaDoorScoreSP
import Derived.Shelf.SlSortCmp.ReverseRangeK
namespace Go.Proofs.YtlnifigbnpdemaaDoor
open Go Go.RowKit Go.Sort Go.Shelf Go.Lib

/-- What the walks take of the program. -/
structure Has (P : Program) (k : Nat) : Prop where
  mixed : P.follows .mixedOrders = true
  fsw : P.funcs[68]? = some Tryd.f68
  fro : P.funcs[60]? = some Tryd.f60
  fsy : P.funcs[46]? = some Tryd.f46
  esw : ∀ args w, (callFunc 68 args).run P w = .ok (.enter 68 args) w
  ero : ∀ args w, (callFunc 60 args).run P w = .ok (.enter 60 args) w
  esy : ∀ args w, (callFunc 46 args).run P w = .ok (.enter 46 args) w
  aE : ∀ w, (isAgg 43).run P w = .ok true w
  zE : ∀ w, (Go.sizeOf 43).run P w = .ok k w
  t0 : P.underlying 0 = some (TypeDesc.tuple #[])
  a0 : ∀ w, (isAgg 0).run P w = .ok false w
  z0 : ∀ w, (Go.sizeOf 0).run P w = .ok 1 w
  v0 : ∀ w, (zeroValue 0).run P w = .ok (Value.tuple #[]) w
  t3 : P.underlying 3 = some (TypeDesc.int IntKind.i64)
  a3 : ∀ w, (isAgg 3).run P w = .ok false w
  z3 : ∀ w, (Go.sizeOf 3).run P w = .ok 1 w
  v3 : ∀ w, (zeroValue 3).run P w = .ok (Value.int IntKind.i64 0) w
  t4 : P.underlying 4 = some (TypeDesc.bool)
  a4 : ∀ w, (isAgg 4).run P w = .ok false w
  z4 : ∀ w, (Go.sizeOf 4).run P w = .ok 1 w
  v4 : ∀ w, (zeroValue 4).run P w = .ok (Value.bool false) w
  t22 : P.underlying 34 = some (TypeDesc.slice 43)
  a22 : ∀ w, (isAgg 34).run P w = .ok false w
  z22 : ∀ w, (Go.sizeOf 34).run P w = .ok 1 w
  v22 : ∀ w, (zeroValue 34).run P w = .ok (Value.slice none 0 0) w
  t25 : P.underlying 70 = some (TypeDesc.func #[43, 43] #[3] false)
  a25 : ∀ w, (isAgg 70).run P w = .ok false w
  z25 : ∀ w, (Go.sizeOf 70).run P w = .ok 1 w
  v25 : ∀ w, (zeroValue 70).run P w = .ok (Value.nilFunc) w
  t92 : P.underlying 92 = some (TypeDesc.int IntKind.u64)
  a92 : ∀ w, (isAgg 92).run P w = .ok false w
  z92 : ∀ w, (Go.sizeOf 92).run P w = .ok 1 w
  v92 : ∀ w, (zeroValue 92).run P w = .ok (Value.int IntKind.u64 0) w

variable {P : Program} {α : Type} [Inhabited α]

set_option maxHeartbeats 4000000 in
set_option maxRecDepth 1000000 in
theorem swapRange_c {k : Nat} (H : Has P k) (enc : α → List Value) (g cap blk off a b n lo hi : Nat) (cb : Array Value) (d0 d : Array α) (w0 w : World)
    (R : RowK enc k w0 blk off d0) (hs : d0.size = d.size) (S : SWK enc k w0 blk off d w) (hab : a + n ≤ b) (hlo : lo ≤ a) (hhi : b + n ≤ hi) (hb : hi ≤ d.size) (hsz : d.size < 4611686018427387904) :
    Calls P 68 #[.slice (some ⟨blk, off, none⟩) d.size cap, .int .i64 a, .int .i64 b, .int .i64 n, .func (.func g) #[] cb] w fun e w' => e = .returned (.tuple #[]) ∧ ∃ d', SymS.SwR lo hi a b n d d' ∧ SWK enc k w0 blk off d' w' := by
  have mixed := H.mixed; have aE := H.aE; have zE := H.zE; have t0 := H.t0; have a0 := H.a0; have z0 := H.z0; have v0 := H.v0; have t3 := H.t3; have a3 := H.a3; have z3 := H.z3; have v3 := H.v3; have t4 := H.t4; have a4 := H.a4; have z4 := H.z4; have v4 := H.v4; have t22 := H.t22; have a22 := H.a22; have z22 := H.z22; have v22 := H.v22; have t25 := H.t25; have a25 := H.a25; have z25 := H.z25; have v25 := H.v25
  have FG := H.fsw
  have S0 : Aside (SWK enc k w0 blk off d w) := S
  clear S
  go_enter FG, Tryd.ntmps68
  go_wp2
  go_loopg [10] n (fun kx s10 wr => ∃ (i : Nat) (dk : Array α), s10 = .int .i64 i ∧ i ≤ n ∧ n - i ≤ kx ∧ dk.size = d.size ∧ Aside (SWK enc k w0 blk off dk wr) ∧ Aside (SymS.SwR lo hi a b i d dk))
  case atStart => exact ⟨0, d, rfl, by omega, by omega, rfl, S0, SymS.SwR.start _ _ _ _ _⟩
  case round =>
    clear S0
    obtain ⟨i, dk, rfl, hi', hkx, hds, S1, T1⟩ := hrel
    by_cases hlt : (i : Int) < (n : Int)
    · have hin : i < n := by omega
      go_wp2_with fail
      have ea : ((a : Int) + (i : Int)).toNat = a + i := by omega
      have pa : (0 : Int) ≤ (a : Int) + (i : Int) := by omega
      have ba : (a : Int) + (i : Int) < (d.size : Int) := by omega
      have ra : IntKind.i64.wrap ((a : Int) + (i : Int)) = (a : Int) + (i : Int) := by rw [IntKind.wrap_i64]; omega
      have ec : ((b : Int) + (i : Int)).toNat = b + i := by omega
      have pc : (0 : Int) ≤ (b : Int) + (i : Int) := by omega
      have bc : (b : Int) + (i : Int) < (d.size : Int) := by omega
      have rc : IntKind.i64.wrap ((b : Int) + (i : Int)) = (b : Int) + (i : Int) := by rw [IntKind.wrap_i64]; omega
      have T2 : Aside (SymS.SwR lo hi a b (i + 1) d (swp dk (a + i) (b + i))) := T1.out.step (by omega) hlo (by omega) (by omega)
      have S2 : Aside (SWK enc k w0 blk off (swp dk (a + i) (b + i)) ((wr.drew.setCells blk (off + (a + i) * k) (enc dk[b + i]!)).setCells blk (off + (b + i) * k) (enc dk[a + i]!))) := S1.out.swapped R (a + i) (b + i) (by omega) (by omega)
      have l1 := S1.out.ld1 R (by omega) P (a + i) (by omega)
      have l2 := S1.out.ld1 R (by omega) P (b + i) (by omega)
      have s1 := S1.out.st1 R (by omega) P (a + i) (by omega) dk[b + i]!
      have s2 := S1.out.st2 R (by omega) P (a + i) (b + i) (by omega) (by omega) dk[b + i]! dk[a + i]!
      have n1 : (enc dk[a + i]!).length = k := R.hk _
      have n2 : (enc dk[b + i]!).length = k := R.hk _
      generalize enc dk[a + i]! = cI at S2 l1 s2 n1
      generalize enc dk[b + i]! = cJ at S2 l2 s1 s2 n2
      clear S1 T1
      go_wp2_with fail
      go_big_region_o
      clear l1 l2 s1 s2
      generalize (wr.drew.setCells blk (off + (a + i) * k) cJ).setCells blk (off + (b + i) * k) cI = w2 at S2 ⊢
      go_wp2
      go_roundg (n - (i + 1))
      case measure => omega
      case rel => exact ⟨i + 1, swp dk (a + i) (b + i), by go_num, by omega, Nat.le_refl _, by rw [size_swp]; exact hds, S2, T2⟩
    · have hin : i = n := by omega
      subst hin
      go_wp2
      go_end0
      exact ⟨rfl, dk, T1.out, S1.out⟩

theorem swapRange_i {k : Nat} (H : Has P k) (enc : α → List Value) (g cap blk off a b n lo hi : Nat) (A B N : Int) (hA : A = a) (hB : B = b) (hN : N = n) (cb : Array Value) (d0 d : Array α) (sz : Nat) (w0 w : World)
    (R : RowK enc k w0 blk off d0) (hs : d0.size = d.size) (hz : sz = d.size) (S : SWK enc k w0 blk off d w) (hab : a + n ≤ b) (hlo : lo ≤ a) (hhi : b + n ≤ hi) (hb : hi ≤ d.size) (hsz : d.size < 4611686018427387904) :
    Calls P 68 #[.slice (some ⟨blk, off, none⟩) sz cap, .int .i64 A, .int .i64 B, .int .i64 N, .func (.func g) #[] cb] w fun e w' => e = .returned (.tuple #[]) ∧ ∃ d', SymS.SwR lo hi a b n d d' ∧ SWK enc k w0 blk off d' w' := by
  subst hA hB hN hz
  exact swapRange_c H enc g cap blk off a b n lo hi cb d0 d w0 w R hs S hab hlo hhi hb hsz

set_option maxHeartbeats 4000000 in
set_option maxRecDepth 1000000 in
theorem rotate_c {k : Nat} (H : Has P k) (enc : α → List Value) (g cap blk off a m b : Nat) (cb : Array Value) (d0 d : Array α) (w0 w : World)
    (R : RowK enc k w0 blk off d0) (hs : d0.size = d.size) (S : SWK enc k w0 blk off d w) (ham : a < m) (hmb : m < b) (hb : b ≤ d.size) (hsz : d.size < 4611686018427387904) :
    Calls P 60 #[.slice (some ⟨blk, off, none⟩) d.size cap, .int .i64 a, .int .i64 m, .int .i64 b, .func (.func g) #[] cb] w fun e w' => e = .returned (.tuple #[]) ∧ ∃ d', SymS.RotD a m b d d' ∧ SWK enc k w0 blk off d' w' := by
  have mixed := H.mixed; have aE := H.aE; have zE := H.zE; have t0 := H.t0; have a0 := H.a0; have z0 := H.z0; have v0 := H.v0; have t3 := H.t3; have a3 := H.a3; have z3 := H.z3; have v3 := H.v3; have t4 := H.t4; have a4 := H.a4; have z4 := H.z4; have v4 := H.v4; have t22 := H.t22; have a22 := H.a22; have z22 := H.z22; have v22 := H.v22; have t25 := H.t25; have a25 := H.a25; have z25 := H.z25; have v25 := H.v25
  have esw := H.esw
  have FG := H.fro
  have S0 : Aside (SWK enc k w0 blk off d w) := S
  have ra : IntKind.i64.wrap ((m : Int) - (a : Int)) = (m : Int) - (a : Int) := by rw [IntKind.wrap_i64]; omega
  have rb : IntKind.i64.wrap ((b : Int) - (m : Int)) = (b : Int) - (m : Int) := by rw [IntKind.wrap_i64]; omega
  clear S
  go_enter FG, Tryd.ntmps60
  go_wp2
  go_loopg [10, 11] (b - a) (fun kx si sj wr => ∃ (i j : Nat) (dk : Array α), si = .int .i64 i ∧ sj = .int .i64 j ∧ i + j ≤ kx ∧ dk.size = d.size ∧ Aside (SWK enc k w0 blk off dk wr) ∧ Aside (SymS.Rot a m b i j d dk))
  case atStart => exact ⟨m - a, b - m, d, by congr 1; omega, by congr 1; omega, by omega, rfl, S0, SymS.Rot.start ham hmb⟩
  case round =>
    clear S0 ra rb
    obtain ⟨i, j, dk, rfl, rfl, hkx, hds, S1, T1⟩ := hrel
    have hi := T1.out.hi
    have hj := T1.out.hj
    have r1 : IntKind.i64.wrap ((m : Int) - (i : Int)) = (m : Int) - (i : Int) := by rw [IntKind.wrap_i64]; omega
    have r2 : IntKind.i64.wrap ((m : Int) + (j : Int)) = (m : Int) + (j : Int) := by rw [IntKind.wrap_i64]; omega
    have r3 : IntKind.i64.wrap ((m : Int) + (j : Int) - (i : Int)) = (m : Int) + (j : Int) - (i : Int) := by rw [IntKind.wrap_i64]; omega
    have r4 : IntKind.i64.wrap ((i : Int) - (j : Int)) = (i : Int) - (j : Int) := by rw [IntKind.wrap_i64]; omega
    have r5 : IntKind.i64.wrap ((j : Int) - (i : Int)) = (j : Int) - (i : Int) := by rw [IntKind.wrap_i64]; omega
    rcases Nat.lt_trichotomy j i with hlt | hlt | hlt
    · have c1 : ((i : Int) != (j : Int)) = true := by simp; omega
      have c2 : (j : Int) < (i : Int) := by omega
      have HC := Lib.hid (swapRange_i H enc g cap blk off (m - i) m j a b ((m : Int) - i) m j (by omega) rfl rfl cb d0 dk d.size w0 wr R (by omega) hds.symm S1.out (by omega) (by omega) (by omega) (by omega) (by omega))
      clear S1
      go_wp2_with fail
      refine HC.out.mono ?_
      rintro e w2 ⟨rfl, d2, T2, S2⟩
      have S3 : Aside (SWK enc k w0 blk off d2 w2) := S2
      have T3 : Aside (SymS.Rot a m b (i - j) j d d2) := T1.out.big ham hmb hlt T2
      have hz2 : d2.size = d.size := T2.perm.1.trans hds
      clear S2 T2 T1 HC
      go_wp2_with fail
      go_roundg (i - j + j)
      case measure => omega
      case rel => exact ⟨i - j, j, d2, by congr 1; omega, rfl, Nat.le_refl _, hz2, S3, T3⟩
    · subst hlt
      have HC := Lib.hid (swapRange_i H enc g cap blk off (m - j) m j a b ((m : Int) - j) m j (by omega) rfl rfl cb d0 dk d.size w0 wr R (by omega) hds.symm S1.out (by omega) (by omega) (by omega) (by omega) (by omega))
      clear S1
      go_wp2_with fail
      refine HC.out.mono ?_
      rintro e w2 ⟨rfl, d2, T2, S2⟩
      go_wp2_with fail
      go_end0
      exact ⟨rfl, d2, T1.out.last ham hmb T2, S2⟩
    · have c1 : ((i : Int) != (j : Int)) = true := by simp; omega
      have c2 : ¬ (j : Int) < (i : Int) := by omega
      have HC := Lib.hid (swapRange_i H enc g cap blk off (m - i) (m + j - i) i a b ((m : Int) - i) ((m : Int) + j - i) i (by omega) (by omega) rfl cb d0 dk d.size w0 wr R (by omega) hds.symm S1.out (by omega) (by omega) (by omega) (by omega) (by omega))
      clear S1
      go_wp2_with fail
      refine HC.out.mono ?_
      rintro e w2 ⟨rfl, d2, T2, S2⟩
      have S3 : Aside (SWK enc k w0 blk off d2 w2) := S2
      have T3 : Aside (SymS.Rot a m b i (j - i) d d2) := T1.out.small ham hmb hlt T2
      have hz2 : d2.size = d.size := T2.perm.1.trans hds
      clear S2 T2 T1 HC
      go_wp2_with fail
      go_roundg (i + (j - i))
      case measure => omega
      case rel => exact ⟨i, j - i, d2, rfl, by congr 1; omega, Nat.le_refl _, hz2, S3, T3⟩
end Go.Proofs.YtlnifigbnpdemaaDoor
