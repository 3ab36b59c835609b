/- Walks, over any program that has these bodies: merging in place where one part is a single element. -/
import Derived.Test.YtlnifigbnpdemaaDoorScoreSW
namespace Go.Proofs.YtlnifigbnpdemaaDoor
open Go Go.RowKit Go.Sort Go.Shelf Go.Lib
variable {P : Program} {α : Type} [Inhabited α]

set_option maxHeartbeats 8000000 in
set_option maxRecDepth 1000000 in
theorem symA {k : Nat} (H : Has P k) (enc : α → List Value) (cf : α → α → Int) (hSW : SWO (ltOf cf)) (g cap blk off a b : Nat) (cb : Array Value) (d0 d : Array α) (w0 w : World)
    (eg : ∀ args w, (callFunc g args).run P w = .ok (.enter g args) w) (hC : CmpLays P g cb enc k cf blk off d0.size w0)
    (R : RowK enc k w0 blk off d0) (hs : d0.size = d.size) (S : SWK enc k w0 blk off d w) (hab : a + 1 < b) (hb : b ≤ d.size) (hsz : d.size < 4611686018427387904) (hso : SortedIn (ltOf cf) (a + 1) b d) :
    Calls P 46 #[.slice (some ⟨blk, off, none⟩) d.size cap, .int .i64 a, .int .i64 ((a : Int) + 1), .int .i64 b, .func (.func g) #[] cb] w fun e w' => e = .returned (.tuple #[]) ∧ ∃ d', SymS.Merged (ltOf cf) a b d d' ∧ SWK enc k w0 blk off d' w' := by
  have mixed := H.mixed; have aE := H.aE; have zE := H.zE; have t0 := H.t0; have a0 := H.a0; have z0 := H.z0; have v0 := H.v0; have t3 := H.t3; have a3 := H.a3; have z3 := H.z3; have v3 := H.v3; have t4 := H.t4; have a4 := H.a4; have z4 := H.z4; have v4 := H.v4; have t22 := H.t22; have a22 := H.a22; have z22 := H.z22; have v22 := H.v22; have t25 := H.t25; have a25 := H.a25; have z25 := H.z25; have v25 := H.v25; have t92 := H.t92; have a92 := H.a92; have z92 := H.z92; have v92 := H.v92
  have FG := H.fsy
  have S0 : Aside (SWK enc k w0 blk off d w) := S
  have HC : Aside _ := hC
  have HSO := Lib.hid hso
  have ra : IntKind.i64.wrap ((a : Int) + 1 - (a : Int)) = 1 := by rw [IntKind.wrap_i64]; omega
  clear S hC hso
  go_enter FG, Tryd.ntmps46
  go_wp2
  go_loopg [10, 11] b (fun kx s10 s11 wr => ∃ (i j : Nat), s10 = .int .i64 i ∧ s11 = .int .i64 j ∧ a + 1 ≤ i ∧ i ≤ j ∧ j ≤ b ∧ j - i ≤ kx ∧ Hid (∀ h, a + 1 ≤ h → h < i → ltOf cf d[h]! d[a]! = true) ∧ Hid (∀ h, j ≤ h → h < b → ltOf cf d[h]! d[a]! = false) ∧ Aside (SWK enc k w0 blk off d wr))
  case atStart => exact ⟨a + 1, b, by go_num, rfl, Nat.le_refl _, by omega, Nat.le_refl _, by omega, fun h h1 h2 => by omega, fun h h1 h2 => by omega, S0⟩
  case round =>
    clear S0
    obtain ⟨i, j, rfl, rfl, hai, hij, hjb, hkx, HL, HU, S1⟩ := hrel
    by_cases hlt : (i : Int) < (j : Int)
    · obtain ⟨h, hh⟩ : ∃ h, h = (i + j) / 2 := ⟨_, rfl⟩
      have h1 : i ≤ h := by omega
      have h2 : h < j := by omega
      have q1 : IntKind.i64.wrap ((i : Int) + (j : Int)) = (i : Int) + (j : Int) := by rw [IntKind.wrap_i64]; omega
      have q2 : IntKind.u64.wrap ((i : Int) + (j : Int)) = (i : Int) + (j : Int) := by rw [IntKind.wrap_u64]; omega
      have q3 : ((i : Int) + (j : Int)) / 2 = (h : Int) := by rw [hh]; omega
      have q4 : IntKind.i64.wrap (h : Int) = (h : Int) := by rw [IntKind.wrap_i64]; omega
      have q5 : (0 : Int) ≤ (h : Int) := by omega
      have q6 : (h : Int) < (d.size : Int) := by omega
      have q7 : (0 : Int) ≤ (a : Int) := by omega
      have q8 : (a : Int) < (d.size : Int) := by omega
      have l1 := fun n os => S1.out.ld R hs.symm P h (by omega) n os
      have l2 := fun n os => S1.out.ld R hs.symm P a (by omega) n os
      have hcg := fun n os => S1.out.cmp HC.out hs.symm d[h]! d[a]! n os
      have GN := Lib.hid (fun n os => S1.out.grown n os)
      have HX : Hid (ltOf cf d[h]! d[a]! = decide (cf d[h]! d[a]! < 0)) := rfl
      clear S1 hh
      generalize enc d[h]! = ex at l1 hcg
      generalize enc d[a]! = ey at l2 hcg
      generalize cf d[h]! d[a]! = cv at hcg HX
      by_cases hlv : cv < 0
      · have HX2 : Hid (ltOf cf d[h]! d[a]! = true) := by show _ = _; rw [HX.out, decide_eq_true hlv]
        have HL2 : Hid (∀ x, a + 1 ≤ x → x < h + 1 → ltOf cf d[x]! d[a]! = true) := by
          intro x e1 e2
          rcases Nat.lt_or_ge x h with e | e
          · exact SymS.le_lt hSW (HSO.out x h e1 e (by omega)) HX2.out
          · rw [show x = h by omega]; exact HX2.out
        clear HX HX2 HL
        go_wp2_with fail
        go_quiet_grown (first | (go_at_fn g; refine Calls.grown_of (hcg _ _)))
        go_wp2_with fail
        go_roundg (j - (h + 1))
        case measure => omega
        case rel => exact ⟨h + 1, j, by go_num, rfl, by omega, by omega, hjb, Nat.le_refl _, HL2, HU, GN.out _ _⟩
      · have HX2 : Hid (ltOf cf d[h]! d[a]! = false) := by show _ = _; rw [HX.out, decide_eq_false hlv]
        have HU2 : Hid (∀ x, h ≤ x → x < b → ltOf cf d[x]! d[a]! = false) := by
          intro x e1 e2
          rcases Nat.lt_or_ge h x with e | e
          · exact hSW.ntrans _ _ _ (HSO.out h x (by omega) e e2) HX2.out
          · rw [show x = h by omega]; exact HX2.out
        clear HX HX2 HU
        go_wp2_with fail
        go_quiet_grown (first | (go_at_fn g; refine Calls.grown_of (hcg _ _)))
        go_wp2_with fail
        go_roundg (h - i)
        case measure => omega
        case rel => exact ⟨i, h, rfl, rfl, hai, h1, by omega, Nat.le_refl _, HL, HU2, GN.out _ _⟩
    · have hij2 : j = i := by omega
      subst hij2
      have r1 : IntKind.i64.wrap ((j : Int) - 1) = (j : Int) - 1 := by rw [IntKind.wrap_i64]; omega
      have S3 : Aside (SWK enc k w0 blk off d wr) := S1
      clear S1
      obtain ⟨wo, hwo⟩ : ∃ wo : World, wo = wr := ⟨_, rfl⟩
      go_wp2
      go_loopg [13] b (fun kx s wi => ∃ (q : Nat) (dk : Array α), s = .int .i64 q ∧ a ≤ q ∧ q ≤ j - 1 ∧ j - 1 - q ≤ kx ∧ dk.size = d.size ∧ Aside (SWK enc k w0 blk off dk wi) ∧ Aside (SymS.ShUp a b q d dk))
      case atStart => exact ⟨a, d, rfl, Nat.le_refl _, by omega, by omega, rfl, S3, SymS.ShUp.start _ _ _⟩
      case round =>
        clear S3
        obtain ⟨q, dk, rfl, haq, hqj, hkx2, hds, S1, T1⟩ := hrel
        by_cases hlt2 : (q : Int) < (j : Int) - 1
        · have T2 : Aside (SymS.ShUp a b (q + 1) d (swp dk q (q + 1))) := T1.out.step haq (by omega) hb
          have ea : ((q : Int)).toNat = q := by omega
          have pa : (0 : Int) ≤ (q : Int) := by omega
          have ba : (q : Int) < (d.size : Int) := by omega
          have ra : IntKind.i64.wrap ((q : Int)) = (q : Int) := by rw [IntKind.wrap_i64]; omega
          have ec : ((q : Int) + 1).toNat = q + 1 := by omega
          have pc : (0 : Int) ≤ (q : Int) + 1 := by omega
          have bc : (q : Int) + 1 < (d.size : Int) := by omega
          have rc : IntKind.i64.wrap ((q : Int) + 1) = (q : Int) + 1 := by rw [IntKind.wrap_i64]; omega
          have S2 : Aside (SWK enc k w0 blk off (swp dk (q) (q + 1)) ((wr.drew.setCells blk (off + (q) * k) (enc dk[q + 1]!)).setCells blk (off + (q + 1) * k) (enc dk[q]!))) := S1.out.swapped R (q) (q + 1) (by omega) (by omega)
          have l1 := S1.out.ld1 R (by omega) P (q) (by omega)
          have l2 := S1.out.ld1 R (by omega) P (q + 1) (by omega)
          have s1 := S1.out.st1 R (by omega) P (q) (by omega) dk[q + 1]!
          have s2 := S1.out.st2 R (by omega) P (q) (q + 1) (by omega) (by omega) dk[q + 1]! dk[q]!
          have n1 : (enc dk[q]!).length = k := R.hk _
          have n2 : (enc dk[q + 1]!).length = k := R.hk _
          generalize enc dk[q]! = cI at S2 l1 s2 n1
          generalize enc dk[q + 1]! = cJ at S2 l2 s1 s2 n2
          clear S1 T1
          go_wp2_with fail
          go_big_region_o
          clear l1 l2 s1 s2
          generalize (wr.drew.setCells blk (off + (q) * k) cJ).setCells blk (off + (q + 1) * k) cI = w2 at S2 ⊢
          go_wp2
          go_roundg (j - 1 - (q + 1))
          case measure => omega
          case rel => exact ⟨q + 1, swp dk q (q + 1), by go_num, by omega, by omega, Nat.le_refl _, by rw [size_swp]; exact hds, S2, T2⟩
        · have hq : q = j - 1 := by omega
          subst hq
          go_wp2
          (try simp only [Exit.inBlock, Exit.then]); refine bodyPost_ret (results_none rfl _ _ _) rfl ?_
          exact ⟨rfl, dk, ⟨T1.out.perm, T1.out.sorted (by omega) hjb HSO.out HL.out HU.out hSW⟩, S1.out⟩
end Go.Proofs.YtlnifigbnpdemaaDoor
