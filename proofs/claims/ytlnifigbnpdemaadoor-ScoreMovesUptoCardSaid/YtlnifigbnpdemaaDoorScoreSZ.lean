/- Walks, over any program that has these bodies: merging in place, whole. -/
import Derived.Test.YtlnifigbnpdemaaDoorScoreSX
import Derived.Test.YtlnifigbnpdemaaDoorScoreSY
namespace Go.Proofs.YtlnifigbnpdemaaDoor
open Go Go.RowKit Go.Sort Go.Shelf Go.Lib
variable {P : Program} {α : Type} [Inhabited α]

theorem rotate_i {k : Nat} (H : Has P k) (enc : α → List Value) (g cap blk off a m b sz : Nat) (E : Int) (hE : E = b) (cb : Array Value) (d0 d : Array α) (w0 w : World)
    (R : RowK enc k w0 blk off d0) (hs : d0.size = d.size) (hz : sz = d.size) (S : SWK enc k w0 blk off d w) (ham : a < m) (hmb : m < b) (hb : b ≤ d.size) (hsz : d.size < 4611686018427387904) :
    Calls P 60 #[.slice (some ⟨blk, off, none⟩) sz cap, .int .i64 a, .int .i64 m, .int .i64 E, .func (.func g) #[] cb] w fun e w' => e = .returned (.tuple #[]) ∧ ∃ d', SymS.RotD a m b d d' ∧ SWK enc k w0 blk off d' w' := by
  subst hE hz
  exact rotate_c H enc g cap blk off a m b cb d0 d w0 w R hs S ham hmb hb hsz

theorem cut_of {lt : α → α → Bool} {a m b mid s s0 r0 : Nat} {d : Array α} (h0 : a ≤ s0) (h1 : s0 ≤ s) (h2 : s ≤ r0) (h3 : r0 ≤ m) (h4 : r0 ≤ mid) (h5 : mid + m - s0 ≤ b) (h6 : s0 = a ∨ mid + m - s0 = b) (h7 : r0 = m ∨ r0 = mid) (hma : a < m)
    (HL : ∀ c, s0 ≤ c → c < s → lt d[mid + m - 1 - c]! d[c]! = false) (HU : ∀ c, s ≤ c → c < r0 → lt d[mid + m - 1 - c]! d[c]! = true) : SymS.Cut lt a m b mid s d := by
  refine ⟨by omega, by omega, by omega, by omega, by omega, ?_, ?_⟩
  · rcases Nat.lt_or_ge s0 s with e | e
    · right; right
      have := HL (s - 1) (by omega) (by omega)
      rwa [show mid + m - 1 - (s - 1) = mid + m - s by omega] at this
    · have : s = s0 := by omega
      subst this
      rcases h6 with h6 | h6
      · exact .inl h6
      · exact .inr (.inl h6)
  · rcases Nat.lt_or_ge s r0 with e | e
    · exact .inr (.inr (HU s (Nat.le_refl _) e))
    · rcases h7 with h7 | h7
      · exact .inl (by omega)
      · exact .inr (.inl (by omega))

set_option maxHeartbeats 20000000 in
set_option maxRecDepth 1000000 in
theorem symMerge_c {k : Nat} (H : Has P k) (enc : α → List Value) (cf : α → α → Int) (hSW : SWO (ltOf cf)) (g cap blk off sz : Nat) (cb : Array Value) (d0 : Array α) (w0 : World)
    (eg : ∀ args w, (callFunc g args).run P w = .ok (.enter g args) w) (hC : CmpLays P g cb enc k cf blk off d0.size w0)
    (R : RowK enc k w0 blk off d0) (hs : d0.size = sz) (hsz : sz < 4611686018427387904) (N : Nat) :
    ∀ (a m b : Nat) (M : Int) (d : Array α) (w : World), M = m → b - a ≤ N → a < m → m < b → b ≤ sz → d.size = sz → SWK enc k w0 blk off d w → SortedIn (ltOf cf) a m d → SortedIn (ltOf cf) m b d →
    Calls P 46 #[.slice (some ⟨blk, off, none⟩) sz cap, .int .i64 a, .int .i64 M, .int .i64 b, .func (.func g) #[] cb] w fun e w' => e = .returned (.tuple #[]) ∧ ∃ d', SymS.Merged (ltOf cf) a b d d' ∧ SWK enc k w0 blk off d' w' := by
  induction N with
  | zero => intro a m b M d w _ h1 h2 h3; omega
  | succ N ih =>
    intro a m b M d w hM hN ham hmb hb hds S hsa hsb
    subst hM
    by_cases hA : m = a + 1
    · subst hA
      have := symA H enc cf hSW g cap blk off a b cb d0 d w0 w eg hC R (by omega) S (by omega) (by omega) (by omega) hsb
      rw [hds] at this
      rw [show ((a + 1 : Nat) : Int) = (a : Int) + 1 by omega]
      exact this
    by_cases hB : b = m + 1
    · subst hB
      have := symB H enc cf hSW g cap blk off a m cb d0 d w0 w eg hC R (by omega) S (by omega) (by omega) (by omega) hsa
      rw [hds] at this
      rw [show ((m + 1 : Nat) : Int) = (m : Int) + 1 by omega]
      exact this
    obtain ⟨mid, hmid⟩ : ∃ mid, mid = (a + b) / 2 := ⟨_, rfl⟩
    have hm1 : a + 2 ≤ mid := by omega
    have hm2 : mid + 2 ≤ b := by omega
    have hm3 : 2 * mid ≤ a + b := by omega
    have hm4 : a + b ≤ 2 * mid + 1 := by omega
    have f1 : IntKind.i64.wrap ((a : Int) + (b : Int)) = (a : Int) + (b : Int) := by rw [IntKind.wrap_i64]; omega
    have f2 : IntKind.u64.wrap ((a : Int) + (b : Int)) = (a : Int) + (b : Int) := by rw [IntKind.wrap_u64]; omega
    have f3 : ((a : Int) + (b : Int)) / 2 = (mid : Int) := by rw [hmid]; omega
    have f4 : IntKind.i64.wrap (mid : Int) = (mid : Int) := by rw [IntKind.wrap_i64]; omega
    have f5 : IntKind.i64.wrap ((mid : Int) + (m : Int)) = (mid : Int) + (m : Int) := by rw [IntKind.wrap_i64]; omega
    have f6 : IntKind.i64.wrap ((mid : Int) + (m : Int) - (b : Int)) = (mid : Int) + (m : Int) - (b : Int) := by rw [IntKind.wrap_i64]; omega
    have f7 : IntKind.i64.wrap ((mid : Int) + (m : Int) - 1) = (mid : Int) + (m : Int) - 1 := by rw [IntKind.wrap_i64]; omega
    have f8 : IntKind.i64.wrap ((m : Int) - (a : Int)) = (m : Int) - (a : Int) := by rw [IntKind.wrap_i64]; omega
    have f9 : IntKind.i64.wrap ((b : Int) - (m : Int)) = (b : Int) - (m : Int) := by rw [IntKind.wrap_i64]; omega
    have f10 : ((m : Int) - (a : Int) == 1) = false := by rw [beq_eq_false_iff_ne]; omega
    have f11 : ((b : Int) - (m : Int) == 1) = false := by rw [beq_eq_false_iff_ne]; omega
    have mixed := H.mixed; have aE := H.aE; have zE := H.zE; have t0 := H.t0; have a0 := H.a0; have z0 := H.z0; have v0 := H.v0; have t3 := H.t3; have a3 := H.a3; have z3 := H.z3; have v3 := H.v3; have t4 := H.t4; have a4 := H.a4; have z4 := H.z4; have v4 := H.v4; have t22 := H.t22; have a22 := H.a22; have z22 := H.z22; have v22 := H.v22; have t25 := H.t25; have a25 := H.a25; have z25 := H.z25; have v25 := H.v25; have t92 := H.t92; have a92 := H.a92; have z92 := H.z92; have v92 := H.v92
    have ero := H.ero
    have esy := H.esy
    have FG := H.fsy
    have S0 : Aside (SWK enc k w0 blk off d w) := S
    have HC : Aside _ := hC
    have HSA := Lib.hid hsa
    have HSB := Lib.hid hsb
    have IH := Lib.hid ih
    have HA := Lib.hid hA
    have HB := Lib.hid hB
    clear S hsa hsb ih hA hB hC hmid
    by_cases hmm : mid < m
    · have f12 : (mid : Int) < (m : Int) := by omega
      go_enter FG, Tryd.ntmps46
      go_wp2
      go_loopg [20, 21] b (fun kx s20 s21 wr => ∃ (s r : Nat), s20 = .int .i64 s ∧ s21 = .int .i64 r ∧ (mid + m - b) ≤ s ∧ s ≤ r ∧ r ≤ mid ∧ r - s ≤ kx ∧ Hid (∀ c, (mid + m - b) ≤ c → c < s → ltOf cf d[mid + m - 1 - c]! d[c]! = false) ∧ Hid (∀ c, r ≤ c → c < mid → ltOf cf d[mid + m - 1 - c]! d[c]! = true) ∧ Aside (SWK enc k w0 blk off d wr))
      case atStart => exact ⟨(mid + m - b), mid, by first | rfl | (congr 1; omega), by first | rfl | (congr 1; omega), Nat.le_refl _, by omega, Nat.le_refl _, by omega, fun c h1 h2 => by omega, fun c h1 h2 => by omega, S0⟩
      case round =>
        clear S0 f1 f2 f3 f4 f5 f6 f7 f8 f9 f10 f11
        obtain ⟨s, r, rfl, rfl, hs0, hsr, hr0, hkx, HL, HU, S1⟩ := hrel
        by_cases hlt : (s : Int) < (r : Int)
        · obtain ⟨c, hc⟩ : ∃ c, c = (s + r) / 2 := ⟨_, rfl⟩
          have h1 : s ≤ c := by omega
          have h2 : c < r := by omega
          have q1 : IntKind.i64.wrap ((s : Int) + (r : Int)) = (s : Int) + (r : Int) := by rw [IntKind.wrap_i64]; omega
          have q2 : IntKind.u64.wrap ((s : Int) + (r : Int)) = (s : Int) + (r : Int) := by rw [IntKind.wrap_u64]; omega
          have q3 : ((s : Int) + (r : Int)) / 2 = (c : Int) := by rw [hc]; omega
          have q4 : IntKind.i64.wrap (c : Int) = (c : Int) := by rw [IntKind.wrap_i64]; omega
          have q5 : (0 : Int) ≤ (c : Int) := by omega
          have q6 : (c : Int) < (sz : Int) := by omega
          obtain ⟨pc, hpc⟩ : ∃ pc, mid + m - 1 - c = pc := ⟨_, rfl⟩
          have q7 : (0 : Int) ≤ (pc : Int) := by omega
          have q8 : (pc : Int) < (sz : Int) := by omega
          have q10 : IntKind.i64.wrap ((mid : Int) + (m : Int) - 1 - (c : Int)) = (pc : Int) := by rw [IntKind.wrap_i64]; omega
          have HPC := Lib.hid hpc
          have l1 := fun n os => S1.out.ld R (by omega) P pc (by omega) n os
          have l2 := fun n os => S1.out.ld R (by omega) P c (by omega) n os
          have hcg := fun n os => S1.out.cmp HC.out (by omega) d[pc]! d[c]! n os
          have GN := Lib.hid (fun n os => S1.out.grown n os)
          have HX : Hid (ltOf cf d[mid + m - 1 - c]! d[c]! = decide (cf d[pc]! d[c]! < 0)) := by show _ = _; rw [hpc]; rfl
          clear S1 hc hpc
          generalize enc d[pc]! = ex at l1 hcg
          generalize enc d[c]! = ey at l2 hcg
          generalize cf d[pc]! d[c]! = cv at hcg HX
          by_cases hlv : cv < 0
          · have HX2 : Hid (ltOf cf d[mid + m - 1 - c]! d[c]! = true) := by show _ = _; rw [HX.out, decide_eq_true hlv]
            have HU2 : Hid (∀ x, c ≤ x → x < mid → ltOf cf d[mid + m - 1 - x]! d[x]! = true) := by
              intro x e1 e2
              rcases Nat.lt_or_ge c x with e | e
              · exact SymS.le_lt hSW (HSB.out (mid + m - 1 - x) (mid + m - 1 - c) (by omega) (by omega) (by omega)) (SymS.lt_le hSW HX2.out (HSA.out c x (by omega) e (by omega)))
              · rw [show x = c by omega]; exact HX2.out
            have hd : (!decide (cv < 0)) = false := by rw [decide_eq_true hlv]; rfl
            clear HX HX2 HU
            go_wp2_with fail
            go_quiet_grown (first | (go_at_fn g; refine Calls.grown_of (hcg _ _)))
            go_wp2_with fail
            go_roundg (c - s)
            case measure => omega
            case rel => exact ⟨s, c, rfl, rfl, hs0, h1, by omega, Nat.le_refl _, HL, HU2, GN.out _ _⟩
          · have HX2 : Hid (ltOf cf d[mid + m - 1 - c]! d[c]! = false) := by show _ = _; rw [HX.out, decide_eq_false hlv]
            have HL2 : Hid (∀ x, (mid + m - b) ≤ x → x < c + 1 → ltOf cf d[mid + m - 1 - x]! d[x]! = false) := by
              intro x e1 e2
              rcases Nat.lt_or_ge x c with e | e
              · exact hSW.ntrans _ _ _ (HSB.out (mid + m - 1 - c) (mid + m - 1 - x) (by omega) (by omega) (by omega)) (hSW.ntrans _ _ _ HX2.out (HSA.out x c (by omega) e (by omega)))
              · rw [show x = c by omega]; exact HX2.out
            have hd : (!decide (cv < 0)) = true := by rw [decide_eq_false hlv]; rfl
            clear HX HX2 HL
            go_wp2_with fail
            go_quiet_grown (first | (go_at_fn g; refine Calls.grown_of (hcg _ _)))
            go_wp2_with fail
            go_roundg (r - (c + 1))
            case measure => omega
            case rel => exact ⟨c + 1, r, by go_num, rfl, by omega, by omega, hr0, Nat.le_refl _, HL2, HU, GN.out _ _⟩
        · have hrs : r = s := by omega
          subst hrs
          have HCUT := Lib.hid (cut_of (lt := ltOf cf) (a := a) (b := b) (s0 := (mid + m - b)) (r0 := mid) (by omega) hs0 hr0 (by omega) (by omega) (by omega) (by omega) (by omega) ham HL.out HU.out)
          obtain ⟨en, hen⟩ : ∃ en, mid + m - r = en := ⟨_, rfl⟩
          have g1 : IntKind.i64.wrap ((mid : Int) + (m : Int) - (r : Int)) = (en : Int) := by rw [IntKind.wrap_i64]; omega
          have hen1 : en + r ≤ mid + m := by omega
          have hen2 : mid + m ≤ en + r := by omega
          clear HL HU HC
          by_cases p1 : r < mid
          · by_cases p2 : a < r
            · by_cases p3 : en < b
              · skip
                have x0 : (r : Int) < (m : Int) := by omega
                have x1 : (m : Int) < (en : Int) := by omega
                have x2 : (a : Int) < (r : Int) := by omega
                have x3 : (r : Int) < (mid : Int) := by omega
                have x4 : (mid : Int) < (en : Int) := by omega
                have x5 : (en : Int) < (b : Int) := by omega
                have HRO := Lib.hid (rotate_i H enc g cap blk off r m en sz (en : Int) (by omega) cb d0 d w0 wr R (by omega) hds.symm S1.out (by omega) (by omega) (by omega) (by omega))
                clear S1
                have HEN := Lib.hid hen
                clear hen
                go_wp2_with fail
                have hen := HEN.out
                refine HRO.out.mono ?_
                rintro e w1 ⟨rfl, d1, RD, S2⟩
                have hz1 : d1.size = sz := RD.perm.1.trans hds
                obtain ⟨hx, c1, c2, c3, c4⟩ := SymS.cut_cross hSW HCUT.out HSA.out HSB.out (by rw [hen]; exact RD)
                rw [hen] at c3 c4
                have HX := Lib.hid hx
                have C3 := Lib.hid c3
                have C4 := Lib.hid c4
                have HPM : Hid (PermIn a b d d1) := permIn_mono _ _ _ _ _ _ (by omega) (by omega) (by omega) RD.perm
                have HLE := Lib.hid (IH.out a r mid r d1 w1 rfl (by omega) (by omega) (by omega) (by omega) hz1 S2 c1 c2)
                clear hx c1 c2 c3 c4 S2 RD hen
                go_wp2_with fail
                refine HLE.out.mono ?_
                rintro e w2 ⟨rfl, d2, M1, S3⟩
                have hz2 : d2.size = sz := M1.1.1.trans hz1
                have e3 := SymS.sortedIn_out M1.1 C3.out (.inr (Nat.le_refl _))
                have e4 := SymS.sortedIn_out M1.1 C4.out (.inr (by omega))
                have HM1 := Lib.hid M1
                have HRI := Lib.hid (IH.out mid en b (en : Int) d2 w2 (by omega) (by omega) (by omega) (by omega) (by omega) hz2 S3 e3 e4)
                clear e3 e4 S3 M1
                go_wp2_with fail
                refine HRI.out.mono ?_
                rintro e w3 ⟨rfl, d3, M2, S4⟩
                have HFIN := SymS.halves (lt := ltOf cf) (by omega) (by omega) (by omega) HX.out HM1.out M2
                have HS4 := Lib.hid S4
                have HFI := Lib.hid HFIN
                clear HFIN S4 M2
                go_wp2
                go_end0
                exact ⟨rfl, d3, ⟨permIn_trans _ _ _ _ _ HPM.out HFI.out.1, HFI.out.2⟩, HS4.out⟩
              · skip
                have x0 : (r : Int) < (m : Int) := by omega
                have x1 : (m : Int) < (en : Int) := by omega
                have x2 : (a : Int) < (r : Int) := by omega
                have x3 : (r : Int) < (mid : Int) := by omega
                have x4 : (mid : Int) < (en : Int) := by omega
                have x5 : ¬ (en : Int) < (b : Int) := by omega
                have HRO := Lib.hid (rotate_i H enc g cap blk off r m en sz (en : Int) (by omega) cb d0 d w0 wr R (by omega) hds.symm S1.out (by omega) (by omega) (by omega) (by omega))
                clear S1
                have HEN := Lib.hid hen
                clear hen
                go_wp2_with fail
                have hen := HEN.out
                refine HRO.out.mono ?_
                rintro e w1 ⟨rfl, d1, RD, S2⟩
                have hz1 : d1.size = sz := RD.perm.1.trans hds
                obtain ⟨hx, c1, c2, c3, c4⟩ := SymS.cut_cross hSW HCUT.out HSA.out HSB.out (by rw [hen]; exact RD)
                rw [hen] at c3 c4
                have HX := Lib.hid hx
                have C3 := Lib.hid c3
                have C4 := Lib.hid c4
                have HPM : Hid (PermIn a b d d1) := permIn_mono _ _ _ _ _ _ (by omega) (by omega) (by omega) RD.perm
                have HLE := Lib.hid (IH.out a r mid r d1 w1 rfl (by omega) (by omega) (by omega) (by omega) hz1 S2 c1 c2)
                clear hx c1 c2 c3 c4 S2 RD hen
                go_wp2_with fail
                refine HLE.out.mono ?_
                rintro e w2 ⟨rfl, d2, M1, S3⟩
                have hz2 : d2.size = sz := M1.1.1.trans hz1
                have e3 := SymS.sortedIn_out M1.1 C3.out (.inr (Nat.le_refl _))
                have e4 := SymS.sortedIn_out M1.1 C4.out (.inr (by omega))
                have HM1 := Lib.hid M1
                obtain ⟨d3, hd3⟩ : ∃ d3 : Array α, d3 = d2 := ⟨_, rfl⟩
                have M2 : SymS.Merged (ltOf cf) mid b d2 d3 := by
                  rw [hd3]
                  refine SymS.merged_refl ?_
                  first
                    | (have e : en = mid := by omega
                       rw [e] at e4; exact e4)
                    | (have e : en = b := by omega
                       rw [e] at e3; exact e3)
                have S4 : SWK enc k w0 blk off d3 w2 := by rw [hd3]; exact S3
                clear e3 e4 S3 M1
                have HFIN := SymS.halves (lt := ltOf cf) (by omega) (by omega) (by omega) HX.out HM1.out M2
                have HS4 := Lib.hid S4
                have HFI := Lib.hid HFIN
                clear HFIN S4 M2
                go_wp2
                go_end0
                exact ⟨rfl, d3, ⟨permIn_trans _ _ _ _ _ HPM.out HFI.out.1, HFI.out.2⟩, HS4.out⟩
            · by_cases p3 : en < b
              · skip
                exfalso; omega
              · skip
                have x0 : (r : Int) < (m : Int) := by omega
                have x1 : (m : Int) < (en : Int) := by omega
                have x2 : ¬ (a : Int) < (r : Int) := by omega
                have x3 : (mid : Int) < (en : Int) := by omega
                have x4 : ¬ (en : Int) < (b : Int) := by omega
                have HRO := Lib.hid (rotate_i H enc g cap blk off r m en sz (en : Int) (by omega) cb d0 d w0 wr R (by omega) hds.symm S1.out (by omega) (by omega) (by omega) (by omega))
                clear S1
                have HEN := Lib.hid hen
                clear hen
                go_wp2_with fail
                have hen := HEN.out
                refine HRO.out.mono ?_
                rintro e w1 ⟨rfl, d1, RD, S2⟩
                have hz1 : d1.size = sz := RD.perm.1.trans hds
                obtain ⟨hx, c1, c2, c3, c4⟩ := SymS.cut_cross hSW HCUT.out HSA.out HSB.out (by rw [hen]; exact RD)
                rw [hen] at c3 c4
                have HX := Lib.hid hx
                have C3 := Lib.hid c3
                have C4 := Lib.hid c4
                have HPM : Hid (PermIn a b d d1) := permIn_mono _ _ _ _ _ _ (by omega) (by omega) (by omega) RD.perm
                obtain ⟨d2, hd2⟩ : ∃ d2 : Array α, d2 = d1 := ⟨_, rfl⟩
                have M1 : SymS.Merged (ltOf cf) a mid d1 d2 := by
                  rw [hd2]
                  refine SymS.merged_refl ?_
                  first
                    | (have e : r = a := by omega
                       subst e; exact c2)
                    | (have e : r = mid := by omega
                       subst e; exact c1)
                have S3 : SWK enc k w0 blk off d2 w1 := by rw [hd2]; exact S2
                clear hx c1 c2 c3 c4 S2 RD hen
                have hz2 : d2.size = sz := M1.1.1.trans hz1
                have e3 := SymS.sortedIn_out M1.1 C3.out (.inr (Nat.le_refl _))
                have e4 := SymS.sortedIn_out M1.1 C4.out (.inr (by omega))
                have HM1 := Lib.hid M1
                obtain ⟨d3, hd3⟩ : ∃ d3 : Array α, d3 = d2 := ⟨_, rfl⟩
                have M2 : SymS.Merged (ltOf cf) mid b d2 d3 := by
                  rw [hd3]
                  refine SymS.merged_refl ?_
                  first
                    | (have e : en = mid := by omega
                       rw [e] at e4; exact e4)
                    | (have e : en = b := by omega
                       rw [e] at e3; exact e3)
                have S4 : SWK enc k w0 blk off d3 w1 := by rw [hd3]; exact S3
                clear e3 e4 S3 M1
                have HFIN := SymS.halves (lt := ltOf cf) (by omega) (by omega) (by omega) HX.out HM1.out M2
                have HS4 := Lib.hid S4
                have HFI := Lib.hid HFIN
                clear HFIN S4 M2
                go_wp2
                go_end0
                exact ⟨rfl, d3, ⟨permIn_trans _ _ _ _ _ HPM.out HFI.out.1, HFI.out.2⟩, HS4.out⟩
          · skip
            have x0 : (r : Int) < (m : Int) := by omega
            have x1 : ¬ (m : Int) < (en : Int) := by omega
            have x2 : (a : Int) < (r : Int) := by omega
            have x3 : ¬ (r : Int) < (mid : Int) := by omega
            have x4 : (mid : Int) < (en : Int) := by omega
            have x5 : (en : Int) < (b : Int) := by omega
            obtain ⟨w1, d1, hw1, hd1⟩ : ∃ (w1 : World) (d1 : Array α), w1 = wr ∧ d1 = d := ⟨_, _, rfl, rfl⟩
            have RD : SymS.RotD r m en d d1 := by rw [hd1]; exact SymS.rotD_refl (by omega) (by omega) (by omega)
            have S2 : SWK enc k w0 blk off d1 w1 := by rw [hd1, hw1]; exact S1.out
            clear S1
            subst hw1
            have hz1 : d1.size = sz := RD.perm.1.trans hds
            obtain ⟨hx, c1, c2, c3, c4⟩ := SymS.cut_cross hSW HCUT.out HSA.out HSB.out (by rw [hen]; exact RD)
            rw [hen] at c3 c4
            have HX := Lib.hid hx
            have C3 := Lib.hid c3
            have C4 := Lib.hid c4
            have HPM : Hid (PermIn a b d d1) := by show PermIn a b d d1; rw [hd1]; exact permIn_refl _ _ _
            obtain ⟨d2, hd2⟩ : ∃ d2 : Array α, d2 = d1 := ⟨_, rfl⟩
            have M1 : SymS.Merged (ltOf cf) a mid d1 d2 := by
              rw [hd2]
              refine SymS.merged_refl ?_
              first
                | (have e : r = a := by omega
                   subst e; exact c2)
                | (have e : r = mid := by omega
                   subst e; exact c1)
            have S3 : SWK enc k w0 blk off d2 w1 := by rw [hd2]; exact S2
            clear hx c1 c2 c3 c4 S2 RD hen
            have hz2 : d2.size = sz := M1.1.1.trans hz1
            have e3 := SymS.sortedIn_out M1.1 C3.out (.inr (Nat.le_refl _))
            have e4 := SymS.sortedIn_out M1.1 C4.out (.inr (by omega))
            have HM1 := Lib.hid M1
            have HRI := Lib.hid (IH.out mid en b (en : Int) d2 w1 (by omega) (by omega) (by omega) (by omega) (by omega) hz2 S3 e3 e4)
            clear e3 e4 S3 M1
            go_wp2_with fail
            refine HRI.out.mono ?_
            rintro e w3 ⟨rfl, d3, M2, S4⟩
            have HFIN := SymS.halves (lt := ltOf cf) (by omega) (by omega) (by omega) HX.out HM1.out M2
            have HS4 := Lib.hid S4
            have HFI := Lib.hid HFIN
            clear HFIN S4 M2
            go_wp2
            go_end0
            exact ⟨rfl, d3, ⟨permIn_trans _ _ _ _ _ HPM.out HFI.out.1, HFI.out.2⟩, HS4.out⟩
    · have f12 : ¬ (mid : Int) < (m : Int) := by omega
      go_enter FG, Tryd.ntmps46
      go_wp2
      go_loopg [20, 21] b (fun kx s20 s21 wr => ∃ (s r : Nat), s20 = .int .i64 s ∧ s21 = .int .i64 r ∧ a ≤ s ∧ s ≤ r ∧ r ≤ m ∧ r - s ≤ kx ∧ Hid (∀ c, a ≤ c → c < s → ltOf cf d[mid + m - 1 - c]! d[c]! = false) ∧ Hid (∀ c, r ≤ c → c < m → ltOf cf d[mid + m - 1 - c]! d[c]! = true) ∧ Aside (SWK enc k w0 blk off d wr))
      case atStart => exact ⟨a, m, by first | rfl | (congr 1; omega), by first | rfl | (congr 1; omega), Nat.le_refl _, by omega, Nat.le_refl _, by omega, fun c h1 h2 => by omega, fun c h1 h2 => by omega, S0⟩
      case round =>
        clear S0 f1 f2 f3 f4 f5 f6 f7 f8 f9 f10 f11
        obtain ⟨s, r, rfl, rfl, hs0, hsr, hr0, hkx, HL, HU, S1⟩ := hrel
        by_cases hlt : (s : Int) < (r : Int)
        · obtain ⟨c, hc⟩ : ∃ c, c = (s + r) / 2 := ⟨_, rfl⟩
          have h1 : s ≤ c := by omega
          have h2 : c < r := by omega
          have q1 : IntKind.i64.wrap ((s : Int) + (r : Int)) = (s : Int) + (r : Int) := by rw [IntKind.wrap_i64]; omega
          have q2 : IntKind.u64.wrap ((s : Int) + (r : Int)) = (s : Int) + (r : Int) := by rw [IntKind.wrap_u64]; omega
          have q3 : ((s : Int) + (r : Int)) / 2 = (c : Int) := by rw [hc]; omega
          have q4 : IntKind.i64.wrap (c : Int) = (c : Int) := by rw [IntKind.wrap_i64]; omega
          have q5 : (0 : Int) ≤ (c : Int) := by omega
          have q6 : (c : Int) < (sz : Int) := by omega
          obtain ⟨pc, hpc⟩ : ∃ pc, mid + m - 1 - c = pc := ⟨_, rfl⟩
          have q7 : (0 : Int) ≤ (pc : Int) := by omega
          have q8 : (pc : Int) < (sz : Int) := by omega
          have q10 : IntKind.i64.wrap ((mid : Int) + (m : Int) - 1 - (c : Int)) = (pc : Int) := by rw [IntKind.wrap_i64]; omega
          have HPC := Lib.hid hpc
          have l1 := fun n os => S1.out.ld R (by omega) P pc (by omega) n os
          have l2 := fun n os => S1.out.ld R (by omega) P c (by omega) n os
          have hcg := fun n os => S1.out.cmp HC.out (by omega) d[pc]! d[c]! n os
          have GN := Lib.hid (fun n os => S1.out.grown n os)
          have HX : Hid (ltOf cf d[mid + m - 1 - c]! d[c]! = decide (cf d[pc]! d[c]! < 0)) := by show _ = _; rw [hpc]; rfl
          clear S1 hc hpc
          generalize enc d[pc]! = ex at l1 hcg
          generalize enc d[c]! = ey at l2 hcg
          generalize cf d[pc]! d[c]! = cv at hcg HX
          by_cases hlv : cv < 0
          · have HX2 : Hid (ltOf cf d[mid + m - 1 - c]! d[c]! = true) := by show _ = _; rw [HX.out, decide_eq_true hlv]
            have HU2 : Hid (∀ x, c ≤ x → x < m → ltOf cf d[mid + m - 1 - x]! d[x]! = true) := by
              intro x e1 e2
              rcases Nat.lt_or_ge c x with e | e
              · exact SymS.le_lt hSW (HSB.out (mid + m - 1 - x) (mid + m - 1 - c) (by omega) (by omega) (by omega)) (SymS.lt_le hSW HX2.out (HSA.out c x (by omega) e (by omega)))
              · rw [show x = c by omega]; exact HX2.out
            have hd : (!decide (cv < 0)) = false := by rw [decide_eq_true hlv]; rfl
            clear HX HX2 HU
            go_wp2_with fail
            go_quiet_grown (first | (go_at_fn g; refine Calls.grown_of (hcg _ _)))
            go_wp2_with fail
            go_roundg (c - s)
            case measure => omega
            case rel => exact ⟨s, c, rfl, rfl, hs0, h1, by omega, Nat.le_refl _, HL, HU2, GN.out _ _⟩
          · have HX2 : Hid (ltOf cf d[mid + m - 1 - c]! d[c]! = false) := by show _ = _; rw [HX.out, decide_eq_false hlv]
            have HL2 : Hid (∀ x, a ≤ x → x < c + 1 → ltOf cf d[mid + m - 1 - x]! d[x]! = false) := by
              intro x e1 e2
              rcases Nat.lt_or_ge x c with e | e
              · exact hSW.ntrans _ _ _ (HSB.out (mid + m - 1 - c) (mid + m - 1 - x) (by omega) (by omega) (by omega)) (hSW.ntrans _ _ _ HX2.out (HSA.out x c (by omega) e (by omega)))
              · rw [show x = c by omega]; exact HX2.out
            have hd : (!decide (cv < 0)) = true := by rw [decide_eq_false hlv]; rfl
            clear HX HX2 HL
            go_wp2_with fail
            go_quiet_grown (first | (go_at_fn g; refine Calls.grown_of (hcg _ _)))
            go_wp2_with fail
            go_roundg (r - (c + 1))
            case measure => omega
            case rel => exact ⟨c + 1, r, by go_num, rfl, by omega, by omega, hr0, Nat.le_refl _, HL2, HU, GN.out _ _⟩
        · have hrs : r = s := by omega
          subst hrs
          have HCUT := Lib.hid (cut_of (lt := ltOf cf) (a := a) (b := b) (s0 := a) (r0 := m) (by omega) hs0 hr0 (by omega) (by omega) (by omega) (by omega) (by omega) ham HL.out HU.out)
          obtain ⟨en, hen⟩ : ∃ en, mid + m - r = en := ⟨_, rfl⟩
          have g1 : IntKind.i64.wrap ((mid : Int) + (m : Int) - (r : Int)) = (en : Int) := by rw [IntKind.wrap_i64]; omega
          have hen1 : en + r ≤ mid + m := by omega
          have hen2 : mid + m ≤ en + r := by omega
          clear HL HU HC
          by_cases p1 : r < m
          · by_cases p2 : a < r
            · by_cases p3 : en < b
              · skip
                have x0 : (r : Int) < (m : Int) := by omega
                have x1 : (m : Int) < (en : Int) := by omega
                have x2 : (a : Int) < (r : Int) := by omega
                have x3 : (r : Int) < (mid : Int) := by omega
                have x4 : (mid : Int) < (en : Int) := by omega
                have x5 : (en : Int) < (b : Int) := by omega
                have HRO := Lib.hid (rotate_i H enc g cap blk off r m en sz (en : Int) (by omega) cb d0 d w0 wr R (by omega) hds.symm S1.out (by omega) (by omega) (by omega) (by omega))
                clear S1
                have HEN := Lib.hid hen
                clear hen
                go_wp2_with fail
                have hen := HEN.out
                refine HRO.out.mono ?_
                rintro e w1 ⟨rfl, d1, RD, S2⟩
                have hz1 : d1.size = sz := RD.perm.1.trans hds
                obtain ⟨hx, c1, c2, c3, c4⟩ := SymS.cut_cross hSW HCUT.out HSA.out HSB.out (by rw [hen]; exact RD)
                rw [hen] at c3 c4
                have HX := Lib.hid hx
                have C3 := Lib.hid c3
                have C4 := Lib.hid c4
                have HPM : Hid (PermIn a b d d1) := permIn_mono _ _ _ _ _ _ (by omega) (by omega) (by omega) RD.perm
                have HLE := Lib.hid (IH.out a r mid r d1 w1 rfl (by omega) (by omega) (by omega) (by omega) hz1 S2 c1 c2)
                clear hx c1 c2 c3 c4 S2 RD hen
                go_wp2_with fail
                refine HLE.out.mono ?_
                rintro e w2 ⟨rfl, d2, M1, S3⟩
                have hz2 : d2.size = sz := M1.1.1.trans hz1
                have e3 := SymS.sortedIn_out M1.1 C3.out (.inr (Nat.le_refl _))
                have e4 := SymS.sortedIn_out M1.1 C4.out (.inr (by omega))
                have HM1 := Lib.hid M1
                have HRI := Lib.hid (IH.out mid en b (en : Int) d2 w2 (by omega) (by omega) (by omega) (by omega) (by omega) hz2 S3 e3 e4)
                clear e3 e4 S3 M1
                go_wp2_with fail
                refine HRI.out.mono ?_
                rintro e w3 ⟨rfl, d3, M2, S4⟩
                have HFIN := SymS.halves (lt := ltOf cf) (by omega) (by omega) (by omega) HX.out HM1.out M2
                have HS4 := Lib.hid S4
                have HFI := Lib.hid HFIN
                clear HFIN S4 M2
                go_wp2
                go_end0
                exact ⟨rfl, d3, ⟨permIn_trans _ _ _ _ _ HPM.out HFI.out.1, HFI.out.2⟩, HS4.out⟩
              · skip
                exfalso; omega
            · by_cases p3 : en < b
              · skip
                have x0 : (r : Int) < (m : Int) := by omega
                have x1 : (m : Int) < (en : Int) := by omega
                have x2 : ¬ (a : Int) < (r : Int) := by omega
                have x3 : (mid : Int) < (en : Int) := by omega
                have x4 : (en : Int) < (b : Int) := by omega
                have HRO := Lib.hid (rotate_i H enc g cap blk off r m en sz (en : Int) (by omega) cb d0 d w0 wr R (by omega) hds.symm S1.out (by omega) (by omega) (by omega) (by omega))
                clear S1
                have HEN := Lib.hid hen
                clear hen
                go_wp2_with fail
                have hen := HEN.out
                refine HRO.out.mono ?_
                rintro e w1 ⟨rfl, d1, RD, S2⟩
                have hz1 : d1.size = sz := RD.perm.1.trans hds
                obtain ⟨hx, c1, c2, c3, c4⟩ := SymS.cut_cross hSW HCUT.out HSA.out HSB.out (by rw [hen]; exact RD)
                rw [hen] at c3 c4
                have HX := Lib.hid hx
                have C3 := Lib.hid c3
                have C4 := Lib.hid c4
                have HPM : Hid (PermIn a b d d1) := permIn_mono _ _ _ _ _ _ (by omega) (by omega) (by omega) RD.perm
                obtain ⟨d2, hd2⟩ : ∃ d2 : Array α, d2 = d1 := ⟨_, rfl⟩
                have M1 : SymS.Merged (ltOf cf) a mid d1 d2 := by
                  rw [hd2]
                  refine SymS.merged_refl ?_
                  first
                    | (have e : r = a := by omega
                       subst e; exact c2)
                    | (have e : r = mid := by omega
                       subst e; exact c1)
                have S3 : SWK enc k w0 blk off d2 w1 := by rw [hd2]; exact S2
                clear hx c1 c2 c3 c4 S2 RD hen
                have hz2 : d2.size = sz := M1.1.1.trans hz1
                have e3 := SymS.sortedIn_out M1.1 C3.out (.inr (Nat.le_refl _))
                have e4 := SymS.sortedIn_out M1.1 C4.out (.inr (by omega))
                have HM1 := Lib.hid M1
                have HRI := Lib.hid (IH.out mid en b (en : Int) d2 w1 (by omega) (by omega) (by omega) (by omega) (by omega) hz2 S3 e3 e4)
                clear e3 e4 S3 M1
                go_wp2_with fail
                refine HRI.out.mono ?_
                rintro e w3 ⟨rfl, d3, M2, S4⟩
                have HFIN := SymS.halves (lt := ltOf cf) (by omega) (by omega) (by omega) HX.out HM1.out M2
                have HS4 := Lib.hid S4
                have HFI := Lib.hid HFIN
                clear HFIN S4 M2
                go_wp2
                go_end0
                exact ⟨rfl, d3, ⟨permIn_trans _ _ _ _ _ HPM.out HFI.out.1, HFI.out.2⟩, HS4.out⟩
              · skip
                have x0 : (r : Int) < (m : Int) := by omega
                have x1 : (m : Int) < (en : Int) := by omega
                have x2 : ¬ (a : Int) < (r : Int) := by omega
                have x3 : (mid : Int) < (en : Int) := by omega
                have x4 : ¬ (en : Int) < (b : Int) := by omega
                have HRO := Lib.hid (rotate_i H enc g cap blk off r m en sz (en : Int) (by omega) cb d0 d w0 wr R (by omega) hds.symm S1.out (by omega) (by omega) (by omega) (by omega))
                clear S1
                have HEN := Lib.hid hen
                clear hen
                go_wp2_with fail
                have hen := HEN.out
                refine HRO.out.mono ?_
                rintro e w1 ⟨rfl, d1, RD, S2⟩
                have hz1 : d1.size = sz := RD.perm.1.trans hds
                obtain ⟨hx, c1, c2, c3, c4⟩ := SymS.cut_cross hSW HCUT.out HSA.out HSB.out (by rw [hen]; exact RD)
                rw [hen] at c3 c4
                have HX := Lib.hid hx
                have C3 := Lib.hid c3
                have C4 := Lib.hid c4
                have HPM : Hid (PermIn a b d d1) := permIn_mono _ _ _ _ _ _ (by omega) (by omega) (by omega) RD.perm
                obtain ⟨d2, hd2⟩ : ∃ d2 : Array α, d2 = d1 := ⟨_, rfl⟩
                have M1 : SymS.Merged (ltOf cf) a mid d1 d2 := by
                  rw [hd2]
                  refine SymS.merged_refl ?_
                  first
                    | (have e : r = a := by omega
                       subst e; exact c2)
                    | (have e : r = mid := by omega
                       subst e; exact c1)
                have S3 : SWK enc k w0 blk off d2 w1 := by rw [hd2]; exact S2
                clear hx c1 c2 c3 c4 S2 RD hen
                have hz2 : d2.size = sz := M1.1.1.trans hz1
                have e3 := SymS.sortedIn_out M1.1 C3.out (.inr (Nat.le_refl _))
                have e4 := SymS.sortedIn_out M1.1 C4.out (.inr (by omega))
                have HM1 := Lib.hid M1
                obtain ⟨d3, hd3⟩ : ∃ d3 : Array α, d3 = d2 := ⟨_, rfl⟩
                have M2 : SymS.Merged (ltOf cf) mid b d2 d3 := by
                  rw [hd3]
                  refine SymS.merged_refl ?_
                  first
                    | (have e : en = mid := by omega
                       rw [e] at e4; exact e4)
                    | (have e : en = b := by omega
                       rw [e] at e3; exact e3)
                have S4 : SWK enc k w0 blk off d3 w1 := by rw [hd3]; exact S3
                clear e3 e4 S3 M1
                have HFIN := SymS.halves (lt := ltOf cf) (by omega) (by omega) (by omega) HX.out HM1.out M2
                have HS4 := Lib.hid S4
                have HFI := Lib.hid HFIN
                clear HFIN S4 M2
                go_wp2
                go_end0
                exact ⟨rfl, d3, ⟨permIn_trans _ _ _ _ _ HPM.out HFI.out.1, HFI.out.2⟩, HS4.out⟩
          · by_cases p2 : r < mid
            · skip
              have x0 : ¬ (r : Int) < (m : Int) := by omega
              have x1 : (a : Int) < (r : Int) := by omega
              have x2 : (r : Int) < (mid : Int) := by omega
              have x3 : ¬ (mid : Int) < (en : Int) := by omega
              obtain ⟨w1, d1, hw1, hd1⟩ : ∃ (w1 : World) (d1 : Array α), w1 = wr ∧ d1 = d := ⟨_, _, rfl, rfl⟩
              have RD : SymS.RotD r m en d d1 := by rw [hd1]; exact SymS.rotD_refl (by omega) (by omega) (by omega)
              have S2 : SWK enc k w0 blk off d1 w1 := by rw [hd1, hw1]; exact S1.out
              clear S1
              subst hw1
              have hz1 : d1.size = sz := RD.perm.1.trans hds
              obtain ⟨hx, c1, c2, c3, c4⟩ := SymS.cut_cross hSW HCUT.out HSA.out HSB.out (by rw [hen]; exact RD)
              rw [hen] at c3 c4
              have HX := Lib.hid hx
              have C3 := Lib.hid c3
              have C4 := Lib.hid c4
              have HPM : Hid (PermIn a b d d1) := by show PermIn a b d d1; rw [hd1]; exact permIn_refl _ _ _
              have HLE := Lib.hid (IH.out a r mid r d1 w1 rfl (by omega) (by omega) (by omega) (by omega) hz1 S2 c1 c2)
              clear hx c1 c2 c3 c4 S2 RD hen
              go_wp2_with fail
              refine HLE.out.mono ?_
              rintro e w2 ⟨rfl, d2, M1, S3⟩
              have hz2 : d2.size = sz := M1.1.1.trans hz1
              have e3 := SymS.sortedIn_out M1.1 C3.out (.inr (Nat.le_refl _))
              have e4 := SymS.sortedIn_out M1.1 C4.out (.inr (by omega))
              have HM1 := Lib.hid M1
              obtain ⟨d3, hd3⟩ : ∃ d3 : Array α, d3 = d2 := ⟨_, rfl⟩
              have M2 : SymS.Merged (ltOf cf) mid b d2 d3 := by
                rw [hd3]
                refine SymS.merged_refl ?_
                first
                  | (have e : en = mid := by omega
                     rw [e] at e4; exact e4)
                  | (have e : en = b := by omega
                     rw [e] at e3; exact e3)
              have S4 : SWK enc k w0 blk off d3 w2 := by rw [hd3]; exact S3
              clear e3 e4 S3 M1
              have HFIN := SymS.halves (lt := ltOf cf) (by omega) (by omega) (by omega) HX.out HM1.out M2
              have HS4 := Lib.hid S4
              have HFI := Lib.hid HFIN
              clear HFIN S4 M2
              go_wp2
              go_end0
              exact ⟨rfl, d3, ⟨permIn_trans _ _ _ _ _ HPM.out HFI.out.1, HFI.out.2⟩, HS4.out⟩
            · skip
              have x0 : ¬ (r : Int) < (m : Int) := by omega
              have x1 : (a : Int) < (r : Int) := by omega
              have x2 : ¬ (r : Int) < (mid : Int) := by omega
              have x3 : ¬ (mid : Int) < (en : Int) := by omega
              obtain ⟨w1, d1, hw1, hd1⟩ : ∃ (w1 : World) (d1 : Array α), w1 = wr ∧ d1 = d := ⟨_, _, rfl, rfl⟩
              have RD : SymS.RotD r m en d d1 := by rw [hd1]; exact SymS.rotD_refl (by omega) (by omega) (by omega)
              have S2 : SWK enc k w0 blk off d1 w1 := by rw [hd1, hw1]; exact S1.out
              clear S1
              subst hw1
              have hz1 : d1.size = sz := RD.perm.1.trans hds
              obtain ⟨hx, c1, c2, c3, c4⟩ := SymS.cut_cross hSW HCUT.out HSA.out HSB.out (by rw [hen]; exact RD)
              rw [hen] at c3 c4
              have HX := Lib.hid hx
              have C3 := Lib.hid c3
              have C4 := Lib.hid c4
              have HPM : Hid (PermIn a b d d1) := by show PermIn a b d d1; rw [hd1]; exact permIn_refl _ _ _
              obtain ⟨d2, hd2⟩ : ∃ d2 : Array α, d2 = d1 := ⟨_, rfl⟩
              have M1 : SymS.Merged (ltOf cf) a mid d1 d2 := by
                rw [hd2]
                refine SymS.merged_refl ?_
                first
                  | (have e : r = a := by omega
                     subst e; exact c2)
                  | (have e : r = mid := by omega
                     subst e; exact c1)
              have S3 : SWK enc k w0 blk off d2 w1 := by rw [hd2]; exact S2
              clear hx c1 c2 c3 c4 S2 RD hen
              have hz2 : d2.size = sz := M1.1.1.trans hz1
              have e3 := SymS.sortedIn_out M1.1 C3.out (.inr (Nat.le_refl _))
              have e4 := SymS.sortedIn_out M1.1 C4.out (.inr (by omega))
              have HM1 := Lib.hid M1
              obtain ⟨d3, hd3⟩ : ∃ d3 : Array α, d3 = d2 := ⟨_, rfl⟩
              have M2 : SymS.Merged (ltOf cf) mid b d2 d3 := by
                rw [hd3]
                refine SymS.merged_refl ?_
                first
                  | (have e : en = mid := by omega
                     rw [e] at e4; exact e4)
                  | (have e : en = b := by omega
                     rw [e] at e3; exact e3)
              have S4 : SWK enc k w0 blk off d3 w1 := by rw [hd3]; exact S3
              clear e3 e4 S3 M1
              have HFIN := SymS.halves (lt := ltOf cf) (by omega) (by omega) (by omega) HX.out HM1.out M2
              have HS4 := Lib.hid S4
              have HFI := Lib.hid HFIN
              clear HFIN S4 M2
              go_wp2
              go_end0
              exact ⟨rfl, d3, ⟨permIn_trans _ _ _ _ _ HPM.out HFI.out.1, HFI.out.2⟩, HS4.out⟩
end Go.Proofs.YtlnifigbnpdemaaDoor
