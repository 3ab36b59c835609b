/- The walk of the law ScoreMiddle. -/
import Derived.Test.YtlnifigbnpdemaaDoorScoreMid
import Derived.Test.YtlnifigbnpdemaaDoorScoreAw
namespace Go.Proofs.YtlnifigbnpdemaaDoor
open Go Go.RowKit Go.Sort

/-- Two rows lie apart. -/
def Ap (v1 v2 : Value) : Prop := ∀ k, v1.ownBlock = some k → v2.ownBlock ≠ some k

theorem Ap.symm {v1 v2 : Value} (h : Ap v1 v2) : Ap v2 v1 := fun k h2 h1 => h k h1 h2
theorem Ap.keep {v1 v2 : Value} (h : Ap v1 v2) : v1.ownBlock = none ∨ v1.ownBlock ≠ v2.ownBlock := by
  cases h1 : v1.ownBlock with
  | none => exact .inl rfl
  | some k => exact .inr fun e => h k h1 e.symm

theorem Ap.nil (v : Value) : Ap (.slice none 0 0) v := fun k h => by cases h

/-- What an append of one gives: an owned row, and where it lies. -/
theorem wp_app1L {P : Program} {ops : Array Oper} {rest : List Oper} {o : Oper} {a : Act} {Q : Exit → Act → World → Prop} {w : World} (hgd : o.guard = none) (s x : Operand) (t : TypeId)
    (ho : o.op = .call { callee := .builtin .append, args := #[s, x], argTypes := #[t, t] })
    {e : TypeId} {z : Value} {bytes : Nat} (E : Elem P t e z 1 bytes) (hz : z.oneCell' = true) {base : Nat} {v : Value} {n : Nat} {xs : List Value} {u : Value}
    (hs : a.eval s = v) (hown : w.ownsRow base e 1 v n xs) (hx : a.eval x = .slice (some ⟨w.heap.size, 0, none⟩) 1 1) (hu : u.oneCell' = true)
    (hn : (n + 1) * bytes ≤ 140737488355328) (h63 : n + 1 ≤ maxLen) (hbase : base ≤ w.heap.size)
    (h : ∀ v' w', w'.ownsRow base e 1 v' (n + 1) (xs ++ [u]) → w.grownBy w' v.ownBlock → Below base w w' → (∀ k, v'.ownBlock = some k → v.ownBlock = some k ∨ w.heap.size ≤ k) → wpList P ops Q rest (a.put o.dst v') w') :
    wpList P ops Q (o :: rest) a (w.alloc (.cells #[u] e)) := by
  obtain ⟨i, hi, h1, h2, h3⟩ := info_parts E.info
  refine wpList_append_lies _ hgd s x t ho base e i z 1 bytes E.under hi h1 h2 h3 ?_ (by decide) v n xs hs (hown.alloc _) ⟨w.heap.size, 0, none⟩ 1 1 [u] hx rfl (fun j y hy => World.news_of_block (Go.MapKept.heap_alloc w _).1 j y hy) ?_ (by decide) h63 hn ?_ _ rfl ?_
  · cases z <;> first | rfl | cases hz
  · intro y hy
    rw [List.mem_singleton] at hy
    subst hy
    exact hu
  · have : (w.alloc (.cells #[u] e)).heap.size = w.heap.size + 1 := by simp
    omega
  · intro g cap w' h4 h5 h7 _
    have h6 : w.grownBy w' v.ownBlock := (World.grownBy_alloc w _ _).trans h5
    refine h _ w' h4 h6 (below_of_grown hown h6 hbase) fun k hk => ?_
    simp [Value.ownBlock] at hk
    subst hk
    rcases h7 with h7 | h7
    · exact .inl h7
    · right; rw [h7]; simp

theorem Ap.app {w : World} {base : Nat} {e : TypeId} {s n : Nat} {xs : List Value} {v v' v2 : Value} (h : Ap v v2) (hv : ∀ k, v'.ownBlock = some k → v.ownBlock = some k ∨ w.heap.size ≤ k) (ho : w.ownsRow base e s v2 n xs) : Ap v' v2 := by
  intro k hk h2
  rcases hv k hk with h1 | h1
  · exact h k h1 h2
  · have := (ho.lt k h2).2; omega

theorem EF : Elem Tryd.prog 50 24 (.float .f64 0) 1 8 := ⟨by kernel_rfl, by kernel_rfl⟩

theorem middle_any (a : Option Addr) (c n : Nat) (xs : List Nat) (w : World) (hn : xs.length = n) (hs : Sl w a (xs.map (Value.float .f64))) (hx : ∀ x ∈ xs, x < 2 ^ 64) (hl : xs.length ≤ 10000000) :
    Calls Tryd.prog 18 #[.slice a n c] w fun e w' => ∃ m b, e = .returned (.tuple #[.float .f64 m, .bool b]) ∧ b = decide (0 < n) ∧ (0 < n → MidOf xs m) ∧ (n = 0 → m = 0) ∧ m < 2 ^ 64 ∧ RowKit.Below w.heap.size w w' := by
  subst hn
  rcases Nat.eq_zero_or_pos xs.length with h | h
  · rw [h]
    refine (middle_none a c w).mono ?_
    rintro e w' ⟨rfl, rfl⟩
    exact ⟨0, false, rfl, rfl, fun h => absurd h (by omega), fun _ => rfl, by decide, RowKit.Below.refl _ _⟩
  · refine (middle_c a c xs w hs hx hl h).mono ?_
    rintro e w' ⟨m, rfl, h1, h2, h3⟩
    exact ⟨m, true, rfl, by rw [decide_eq_true h], fun _ => h1, fun h => absurd h (by omega), h2, h3⟩

/-- Words as cells. -/
def frow (l : List Nat) : List Value := l.map (Value.float .f64)

theorem frow_snoc (l : List Nat) (x : Nat) : frow (l ++ [x]) = frow l ++ [Value.float .f64 x] := by simp [frow]

/-- A whole number's value. -/
def ff (z : Int) : Value := .float .f64 (floatOfInt .f64 z)

def zrow (l : List Int) : List Value := l.map ff
def rtk (l : List Int) (k : Nat) : List Int := l.reverse.take k

theorem zrow_snoc (l : List Int) (x : Int) : zrow (l ++ [x]) = zrow l ++ [ff x] := by simp [zrow]

theorem sum_rev (l : List Int) : l.reverse.sum = l.sum := by
  induction l with
  | nil => rfl
  | cons x l ih => rw [List.reverse_cons, List.sum_append, ih]; simp [Int.add_comm]

theorem sum_abs : ∀ (l : List Int), (∀ x ∈ l, x.natAbs ≤ 32768) → l.sum.natAbs ≤ 32768 * l.length
  | [], _ => by simp
  | x :: l, h => by
    have h1 := h x (by simp)
    have h2 := sum_abs l (fun y hy => h y (by simp [hy]))
    rw [List.sum_cons, List.length_cons]
    omega

theorem total_z (a : Option Addr) (c n : Nat) (zs : List Int) (S : Int) (w : World) (hn : zs.length = n) (hS : zs.sum = S) (hs : Sl w a (zs.map ff)) (hz : ∀ z ∈ zs, z.natAbs ≤ 32768) (hl : zs.length ≤ 10000000) :
    Calls Tryd.prog 19 #[.slice a n c] w fun e w' => e = .returned (.tuple #[.float .f64 (floatOfInt .f64 S), .int .i64 0]) ∧ w' = w := by
  have ht : totF 0 0 (zs.map ScoreR.zd) = some (ScoreR.zd S, 0) := by
    have := totF_zd zs 0 0 hz (by simp; omega)
    rwa [ScoreR.zd_zero, Int.zero_add, hS] at this
  have h := total_c a c (zs.map ScoreR.zd) w _ _ (by rw [List.map_map]; exact hs) (by simpa using hl) ht
  have hb := sum_abs zs hz
  rw [cn_zd S (by rw [← hS]; omega), List.length_map, hn] at h
  exact h

set_option maxRecDepth 100000 in
set_option maxHeartbeats 4000000 in
theorem lawMiddle_c (a0 a1 : Option Addr) (c0 c1 : Nat) (xs : List Nat) (zs : List Int) (w : World) (hg : Gl w) (hsx : Sl w a0 (xs.map (Value.float .f64))) (hsz : Sl w a1 (zs.map (Value.int .i16))) (hlx : xs.length ≤ 10000000) (hlz : zs.length ≤ 10000000)
    (hx : ∀ x ∈ xs, x < 2 ^ 64) (hz : ∀ z ∈ zs, -32768 ≤ z ∧ z ≤ 32767) :
    Calls Tryd.prog 7 #[.slice a0 xs.length c0, .slice a1 zs.length c1] w fun e w' => e = .returned (.bool true) ∧ RowKit.Below w.heap.size w w' := by
  have HX := Lib.hid hx
  have HZ := Lib.hid hz
  have hw0 : IntKind.i64.wrap ((xs.length : Int) - 1) = (xs.length : Int) - 1 := IntWalk.i64_in _ (by omega)
  clear hx hz
  go_enter Tryd.func7, Tryd.ntmps7
  go_wp2_with fail
  refine (awake_c w hg).mono ?_
  rintro e w1 ⟨rfl, b1⟩
  go_wp2_with fail
  refine (middle_any a0 c0 xs.length xs w1 rfl (hsx.below b1) HX.out hlx).mono ?_
  rintro e w2 ⟨m, b, rfl, hb, hmid, hmz, hm64, b2'⟩
  have b2 := b1.trans (b2'.mono b1.size)
  have HBB := Lib.hid hb
  have HMI := Lib.hid hmid
  have HD0 : Hid (xs.drop xs.length = []) := by show _ = _; exact List.drop_length
  have HMZ := Lib.hid hmz
  clear b1 b2' hb hmid hmz
  go_wp2_with fail
  go_loopw [7, 8, 9, 10] (fun tv av bv iv wr => ∃ k : Nat, k ≤ xs.length ∧ iv = .int .i64 ((k : Int) - 1) ∧ wr.ownsRow w.heap.size 24 1 tv (xs.length - k) (frow (xs.drop k).reverse) ∧ av = .int .i64 (cntB m (xs.drop k) : Nat) ∧ bv = .int .i64 (cntA m (xs.drop k) : Nat) ∧ RowKit.Below w.heap.size w wr) (fun _ _ _ iv _ => (intOf iv + 1).toNat)
  case atStart => exact ⟨xs.length, Nat.le_refl _, rfl, by rw [Nat.sub_self, HD0.out]; exact World.ownsRow_nil _ _ _ _, by rw [HD0.out]; rfl, by rw [HD0.out]; rfl, b2⟩
  case round =>
    clear b2 hw0 HD0
    obtain ⟨k, hk, hiv, hown, rfl, rfl, hbr⟩ := hrel
    have hbB := List.length_filter_le (fun x => decide (fkey x < fkey m)) (xs.drop k)
    have hbA := List.length_filter_le (fun x => decide (fkey m < fkey x)) (xs.drop k)
    have hbB : cntB m (xs.drop k) ≤ xs.length := by rw [List.length_drop] at hbB; exact Nat.le_trans hbB (by omega)
    have hbA : cntA m (xs.drop k) ≤ xs.length := by rw [List.length_drop] at hbA; exact Nat.le_trans hbA (by omega)
    rcases k with _ | i
    · have hiv2 : u10 = .int .i64 (-1) := by rw [hiv]; rfl
      clear hiv
      subst hiv2
      rw [Nat.sub_zero, List.drop_zero] at hown
      rw [List.drop_zero] at hbB hbA ⊢
      obtain ⟨at', ct, rfl, -, -, hslt⟩ := own_sl hown
      have HMID := Lib.hid (middle_any at' ct xs.length xs.reverse wr (by simp) hslt (fun x hx => HX.out x (by simpa using hx)) (by simpa using hlx))
      clear hown hslt
      go_wp2_with fail
      refine HMID.out.mono ?_
      rintro e w3 ⟨m2, b', rfl, hb', hmid2, hmz2, hm264, b3'⟩
      have b3 := hbr.trans (b3'.mono hbr.size)
      have hHB := HBB.out
      rcases Nat.eq_zero_or_pos xs.length with h0 | h0
      · have e1 : b = false := by rw [HBB.out, h0]; rfl
        have e2 : b' = false := by rw [hb', h0]; rfl
        subst e1 e2
        have h1 : ¬ (0 : Int) < xs.length := by omega
        have h2 : decide ((0 : Int) < xs.length) = false := by rw [decide_eq_false_iff_not]; exact h1
        have hmm : m = m2 := by rw [HMZ.out h0, hmz2 h0]
        subst hmm
        have HBQ := Lib.hid (bitsq_c m m w3)
        rw [decide_eq_true rfl] at HBQ
        clear hHB hb' hmid2 hmz2 HMZ HBB HMI
        go_wp2_with fail
        refine HBQ.out.mono ?_
        rintro e w4 ⟨rfl, rfl⟩
        go_wp2_with fail
        clear hbB hbA
        have hz0 : Hid (zrow (zs.take 0) = []) := by show _ = _; rw [List.take_zero]; rfl
        have hz1 : Hid (zrow (rtk zs 0) = []) := by show _ = _; rw [rtk, List.take_zero]; rfl
        have hz2 : Hid ((zs.take 0).sum = 0) := by show _ = _; rw [List.take_zero]; rfl
        go_loopw [13, 14, 15, 99] (fun uv dv sv iv wr => ∃ k : Nat, k ≤ zs.length ∧ iv = .int .i64 k ∧ sv = .int .i64 ((zs.take k).sum) ∧ wr.ownsRow w.heap.size 24 1 uv k (zrow (zs.take k)) ∧ wr.ownsRow w.heap.size 24 1 dv k (zrow (rtk zs k)) ∧ Ap uv dv ∧ RowKit.Below w.heap.size w wr) (fun _ _ _ iv _ => zs.length - (intOf iv).toNat)
        case atStart => exact ⟨0, Nat.zero_le _, rfl, by rw [hz2.out], by rw [hz0.out]; exact World.ownsRow_nil _ _ _ _, by rw [hz1.out]; exact World.ownsRow_nil _ _ _ _, Ap.nil _, b3⟩
        case round =>
          clear b3 hz0 hz1 hz2
          obtain ⟨k, hk, rfl, rfl, hup, hdn, hap, hbr⟩ := hrel
          have hsum := sum_abs (zs.take k) (fun z h => by have := HZ.out z (List.mem_of_mem_take h); omega)
          rw [List.length_take] at hsum
          by_cases hkl : k < zs.length
          · obtain ⟨bz, oz, rfl, hbz, hcz⟩ := hsz.at (k := k) (by simpa using hkl)
            have q1 : w.cell? ⟨bz, oz + k, none⟩ = some (.int .i16 zs[k]) := by rw [hcz k (by simpa using hkl), List.getElem_map]
            have q2 : w.cell? ⟨bz, oz + (zs.length - 1 - k), none⟩ = some (.int .i16 (zs[zs.length - 1 - k]'(by omega))) := by rw [hcz _ (by rw [List.length_map]; omega), List.getElem_map]
            have r1 := HZ.out _ (List.getElem_mem hkl)
            have r2 := HZ.out _ (List.getElem_mem (l := zs) (n := zs.length - 1 - k) (by omega))
            have HS1 : Hid ((zs.take (k + 1)).sum = (zs.take k).sum + zs[k]) := by show _ = _; rw [List.take_succ_eq_append_getElem hkl, List.sum_append]; simp
            have HU1 : Hid (zrow (zs.take k) ++ [ff zs[k]] = zrow (zs.take (k + 1))) := by show _ = _; rw [List.take_succ_eq_append_getElem hkl, zrow_snoc]
            have HD1 : Hid (zrow (rtk zs k) ++ [ff (zs[zs.length - 1 - k]'(by omega))] = zrow (rtk zs (k + 1))) := by
              show _ = _; unfold rtk; rw [List.take_succ_eq_append_getElem (by rw [List.length_reverse]; exact hkl), zrow_snoc, List.getElem_reverse]
            generalize zs[k] = z at *
            generalize zs[zs.length - 1 - k]'(by omega) = y at *
            generalize (zs.take k).sum = S at *
            have c1 : wr.cell? ⟨bz, oz + k, none⟩ = some (.int .i16 z) := by rw [hbr.cell (p := ⟨bz, _, none⟩) hbz]; exact q1
            have hkk : (k : Int) < zs.length := by omega
            have hk0 : (0 : Int) ≤ k := by omega
            have s1 : IntKind.i64.wrap ((zs.length : Int) - 1) = ((zs.length - 1 : Nat) : Int) := by rw [IntWalk.i64_in _ (by omega)]; omega
            have s2 : IntKind.i64.wrap (((zs.length - 1 : Nat) : Int) - k) = ((zs.length - 1 - k : Nat) : Int) := by rw [IntWalk.i64_in _ (by omega)]; omega
            have s3 : ((zs.length - 1 - k : Nat) : Int) < zs.length := by omega
            have s4 : (0 : Int) ≤ ((zs.length - 1 - k : Nat) : Int) := by omega
            have s5 : IntKind.i64.wrap z = z := IntWalk.i64_in _ (by omega)
            have s6 : IntKind.i64.wrap (S + z) = S + z := IntWalk.i64_in _ (by omega)
            clear hcz
            generalize zs.length - 1 - k = kr at *
            generalize zs.length - 1 = nm at *
            go_wp2_with (at_builtin; refine wp_app1L rfl _ _ _ rfl EF rfl rfl hup rfl rfl (by omega) (by simp [maxLen]; omega) hbr.size ?_)
            intro v5 w5 hown5 hg5 hb5 hv5
            have hbr5 := hbr.trans hb5
            have hdn5 := hdn.kept hg5 hap.symm.keep
            have hap5 := hap.app hv5 hdn
            have c2 : w5.cell? ⟨bz, oz + kr, none⟩ = some (.int .i16 y) := by rw [hbr5.cell (p := ⟨bz, _, none⟩) hbz]; exact q2
            have c3 : w5.cell? ⟨bz, oz + k, none⟩ = some (.int .i16 z) := by rw [hbr5.cell (p := ⟨bz, _, none⟩) hbz]; exact q1
            clear hg5 hb5 hv5 hup hdn hap hbr c1
            go_wp2_with (at_builtin; refine wp_app1L rfl _ _ _ rfl EF rfl rfl hdn5 rfl rfl (by omega) (by simp [maxLen]; omega) hbr5.size ?_)
            intro v6 w6 hown6 hg6 hb6 hv6
            have hbr6 := hbr5.trans hb6
            have hup6 := hown5.kept hg6 hap5.keep
            have hap6 := (hap5.symm.app hv6 hown5).symm
            have c4 : w6.cell? ⟨bz, oz + k, none⟩ = some (.int .i16 z) := by rw [hbr6.cell (p := ⟨bz, _, none⟩) hbz]; exact q1
            have hup7 : w6.ownsRow w.heap.size 24 1 v5 (k + 1) (zrow (zs.take (k + 1))) := by rw [← HU1.out]; exact hup6
            have hdn7 : w6.ownsRow w.heap.size 24 1 v6 (k + 1) (zrow (rtk zs (k + 1))) := by rw [← HD1.out]; exact hown6
            clear hg6 hb6 hv6 hown5 hdn5 hap5 hbr5 c2 c3 hup6 hown6
            go_wp2_with fail
            go_roundw
            case rel => exact ⟨k + 1, by omega, by go_num, by rw [HS1.out], hup7, hdn7, hap6, hbr6⟩
            case measure => simp [intOf]; omega
          · have hkk : ¬ (k : Int) < zs.length := by omega
            obtain rfl : k = zs.length := by omega
            have ht : Hid (zs.take zs.length = zs) := List.take_length
            have hr : Hid (rtk zs zs.length = zs.reverse) := by show _ = _; unfold rtk; rw [List.take_of_length_le (by simp)]
            rw [ht.out] at hup hsum
            rw [hr.out] at hdn
            have HT : Hid ((zs.take zs.length).sum = zs.sum) := by show _ = _; rw [ht.out]
            obtain ⟨au, cu, rfl, -, -, hsu⟩ := own_sl hup
            obtain ⟨ad, cd, rfl, -, -, hsd⟩ := own_sl hdn
            have HZA : ∀ z ∈ zs, z.natAbs ≤ 32768 := fun z h => by have := HZ.out z h; omega
            have T1 := Lib.hid (total_z au cu zs.length zs zs.sum wr rfl rfl hsu HZA hlz)
            have T2 := Lib.hid (total_z ad cd zs.length zs.reverse zs.sum wr (by simp) (sum_rev zs) hsd (fun z h => HZA z (by simpa using h)) (by simpa using hlz))
            have o1 : FloatKind.f64.format.order (floatOfInt .f64 zs.sum) (floatOfInt .f64 zs.sum) = some .eq := ScoreR.order_zd zs.sum (by omega)
            rw [HT.out]
            clear hup hdn hap hsu hsd HZA hsum ht hr HT hsz HZ
            generalize zs.sum = S at *
            go_wp2_with fail
            refine T1.out.mono ?_
            rintro e w7 ⟨rfl, rfl⟩
            go_wp2_with fail
            refine T2.out.mono ?_
            rintro e w8 ⟨rfl, rfl⟩
            go_wp2_with fail
            go_ret
            exact ⟨rfl, hbr⟩
      · have e1 : b = true := by rw [HBB.out, decide_eq_true h0]
        have e2 : b' = true := by rw [hb', decide_eq_true h0]
        subst e1 e2
        have hmm : m2 = m := (mid_one (HMI.out h0) (hmid2 h0) (List.reverse_perm xs).symm HX.out).symm
        subst hmm
        obtain ⟨k1, k2⟩ := mid_cnt (HMI.out h0)
        have h1 : (0 : Int) < xs.length := by omega
        have h2 : decide ((0 : Int) < xs.length) = true := by rw [decide_eq_true_iff]; exact h1
        have HBQ := Lib.hid (bitsq_c m2 m2 w3)
        rw [decide_eq_true rfl] at HBQ
        generalize cntB m2 xs = A at *
        generalize cntA m2 xs = B at *
        have g1 : IntKind.i64.wrap ((xs.length : Int) - 1) = ((xs.length - 1 : Nat) : Int) := by rw [IntWalk.i64_in _ (by omega)]; omega
        have g2 : IntKind.i64.wrap (((xs.length - 1 : Nat) : Int) / 2) = ((xs.length - 1 : Nat) : Int) / 2 := IntWalk.i64_in _ (by omega)
        have g3 : IntKind.i64.wrap ((xs.length : Int) / 2) = (xs.length : Int) / 2 := IntWalk.i64_in _ (by omega)
        have g4 : ¬ ((xs.length - 1 : Nat) : Int) / 2 < (A : Int) := by omega
        have g5 : ¬ (xs.length : Int) / 2 < (B : Int) := by omega
        have t1 : ((xs.length - 1 : Nat) : Int).tdiv 2 = ((xs.length - 1 : Nat) : Int) / 2 := rfl
        have t2 : (xs.length : Int).tdiv 2 = (xs.length : Int) / 2 := rfl
        clear hHB hb' hmid2 hmz2 HMZ HBB HMI k1 k2
        go_wp2_with fail
        refine HBQ.out.mono ?_
        rintro e w4 ⟨rfl, rfl⟩
        go_wp2_with fail
        clear hbB hbA
        have hz0 : Hid (zrow (zs.take 0) = []) := by show _ = _; rw [List.take_zero]; rfl
        have hz1 : Hid (zrow (rtk zs 0) = []) := by show _ = _; rw [rtk, List.take_zero]; rfl
        have hz2 : Hid ((zs.take 0).sum = 0) := by show _ = _; rw [List.take_zero]; rfl
        go_loopw [13, 14, 15, 99] (fun uv dv sv iv wr => ∃ k : Nat, k ≤ zs.length ∧ iv = .int .i64 k ∧ sv = .int .i64 ((zs.take k).sum) ∧ wr.ownsRow w.heap.size 24 1 uv k (zrow (zs.take k)) ∧ wr.ownsRow w.heap.size 24 1 dv k (zrow (rtk zs k)) ∧ Ap uv dv ∧ RowKit.Below w.heap.size w wr) (fun _ _ _ iv _ => zs.length - (intOf iv).toNat)
        case atStart => exact ⟨0, Nat.zero_le _, rfl, by rw [hz2.out], by rw [hz0.out]; exact World.ownsRow_nil _ _ _ _, by rw [hz1.out]; exact World.ownsRow_nil _ _ _ _, Ap.nil _, b3⟩
        case round =>
          clear b3 hz0 hz1 hz2
          obtain ⟨k, hk, rfl, rfl, hup, hdn, hap, hbr⟩ := hrel
          have hsum := sum_abs (zs.take k) (fun z h => by have := HZ.out z (List.mem_of_mem_take h); omega)
          rw [List.length_take] at hsum
          by_cases hkl : k < zs.length
          · obtain ⟨bz, oz, rfl, hbz, hcz⟩ := hsz.at (k := k) (by simpa using hkl)
            have q1 : w.cell? ⟨bz, oz + k, none⟩ = some (.int .i16 zs[k]) := by rw [hcz k (by simpa using hkl), List.getElem_map]
            have q2 : w.cell? ⟨bz, oz + (zs.length - 1 - k), none⟩ = some (.int .i16 (zs[zs.length - 1 - k]'(by omega))) := by rw [hcz _ (by rw [List.length_map]; omega), List.getElem_map]
            have r1 := HZ.out _ (List.getElem_mem hkl)
            have r2 := HZ.out _ (List.getElem_mem (l := zs) (n := zs.length - 1 - k) (by omega))
            have HS1 : Hid ((zs.take (k + 1)).sum = (zs.take k).sum + zs[k]) := by show _ = _; rw [List.take_succ_eq_append_getElem hkl, List.sum_append]; simp
            have HU1 : Hid (zrow (zs.take k) ++ [ff zs[k]] = zrow (zs.take (k + 1))) := by show _ = _; rw [List.take_succ_eq_append_getElem hkl, zrow_snoc]
            have HD1 : Hid (zrow (rtk zs k) ++ [ff (zs[zs.length - 1 - k]'(by omega))] = zrow (rtk zs (k + 1))) := by
              show _ = _; unfold rtk; rw [List.take_succ_eq_append_getElem (by rw [List.length_reverse]; exact hkl), zrow_snoc, List.getElem_reverse]
            generalize zs[k] = z at *
            generalize zs[zs.length - 1 - k]'(by omega) = y at *
            generalize (zs.take k).sum = S at *
            have c1 : wr.cell? ⟨bz, oz + k, none⟩ = some (.int .i16 z) := by rw [hbr.cell (p := ⟨bz, _, none⟩) hbz]; exact q1
            have hkk : (k : Int) < zs.length := by omega
            have hk0 : (0 : Int) ≤ k := by omega
            have s1 : IntKind.i64.wrap ((zs.length : Int) - 1) = ((zs.length - 1 : Nat) : Int) := by rw [IntWalk.i64_in _ (by omega)]; omega
            have s2 : IntKind.i64.wrap (((zs.length - 1 : Nat) : Int) - k) = ((zs.length - 1 - k : Nat) : Int) := by rw [IntWalk.i64_in _ (by omega)]; omega
            have s3 : ((zs.length - 1 - k : Nat) : Int) < zs.length := by omega
            have s4 : (0 : Int) ≤ ((zs.length - 1 - k : Nat) : Int) := by omega
            have s5 : IntKind.i64.wrap z = z := IntWalk.i64_in _ (by omega)
            have s6 : IntKind.i64.wrap (S + z) = S + z := IntWalk.i64_in _ (by omega)
            clear hcz
            generalize zs.length - 1 - k = kr at *
            generalize zs.length - 1 = nm at *
            go_wp2_with (at_builtin; refine wp_app1L rfl _ _ _ rfl EF rfl rfl hup rfl rfl (by omega) (by simp [maxLen]; omega) hbr.size ?_)
            intro v5 w5 hown5 hg5 hb5 hv5
            have hbr5 := hbr.trans hb5
            have hdn5 := hdn.kept hg5 hap.symm.keep
            have hap5 := hap.app hv5 hdn
            have c2 : w5.cell? ⟨bz, oz + kr, none⟩ = some (.int .i16 y) := by rw [hbr5.cell (p := ⟨bz, _, none⟩) hbz]; exact q2
            have c3 : w5.cell? ⟨bz, oz + k, none⟩ = some (.int .i16 z) := by rw [hbr5.cell (p := ⟨bz, _, none⟩) hbz]; exact q1
            clear hg5 hb5 hv5 hup hdn hap hbr c1
            go_wp2_with (at_builtin; refine wp_app1L rfl _ _ _ rfl EF rfl rfl hdn5 rfl rfl (by omega) (by simp [maxLen]; omega) hbr5.size ?_)
            intro v6 w6 hown6 hg6 hb6 hv6
            have hbr6 := hbr5.trans hb6
            have hup6 := hown5.kept hg6 hap5.keep
            have hap6 := (hap5.symm.app hv6 hown5).symm
            have c4 : w6.cell? ⟨bz, oz + k, none⟩ = some (.int .i16 z) := by rw [hbr6.cell (p := ⟨bz, _, none⟩) hbz]; exact q1
            have hup7 : w6.ownsRow w.heap.size 24 1 v5 (k + 1) (zrow (zs.take (k + 1))) := by rw [← HU1.out]; exact hup6
            have hdn7 : w6.ownsRow w.heap.size 24 1 v6 (k + 1) (zrow (rtk zs (k + 1))) := by rw [← HD1.out]; exact hown6
            clear hg6 hb6 hv6 hown5 hdn5 hap5 hbr5 c2 c3 hup6 hown6
            go_wp2_with fail
            go_roundw
            case rel => exact ⟨k + 1, by omega, by go_num, by rw [HS1.out], hup7, hdn7, hap6, hbr6⟩
            case measure => simp [intOf]; omega
          · have hkk : ¬ (k : Int) < zs.length := by omega
            obtain rfl : k = zs.length := by omega
            have ht : Hid (zs.take zs.length = zs) := List.take_length
            have hr : Hid (rtk zs zs.length = zs.reverse) := by show _ = _; unfold rtk; rw [List.take_of_length_le (by simp)]
            rw [ht.out] at hup hsum
            rw [hr.out] at hdn
            have HT : Hid ((zs.take zs.length).sum = zs.sum) := by show _ = _; rw [ht.out]
            obtain ⟨au, cu, rfl, -, -, hsu⟩ := own_sl hup
            obtain ⟨ad, cd, rfl, -, -, hsd⟩ := own_sl hdn
            have HZA : ∀ z ∈ zs, z.natAbs ≤ 32768 := fun z h => by have := HZ.out z h; omega
            have T1 := Lib.hid (total_z au cu zs.length zs zs.sum wr rfl rfl hsu HZA hlz)
            have T2 := Lib.hid (total_z ad cd zs.length zs.reverse zs.sum wr (by simp) (sum_rev zs) hsd (fun z h => HZA z (by simpa using h)) (by simpa using hlz))
            have o1 : FloatKind.f64.format.order (floatOfInt .f64 zs.sum) (floatOfInt .f64 zs.sum) = some .eq := ScoreR.order_zd zs.sum (by omega)
            rw [HT.out]
            clear hup hdn hap hsu hsd HZA hsum ht hr HT hsz HZ
            generalize zs.sum = S at *
            go_wp2_with fail
            refine T1.out.mono ?_
            rintro e w7 ⟨rfl, rfl⟩
            go_wp2_with fail
            refine T2.out.mono ?_
            rintro e w8 ⟨rfl, rfl⟩
            go_wp2_with fail
            go_ret
            exact ⟨rfl, hbr⟩
    · have hiv2 : u10 = .int .i64 i := by rw [hiv]; congr 1; omega
      clear hiv
      subst hiv2
      have hil : i < xs.length := by omega
      obtain ⟨b0, o0, rfl, hbl, hc⟩ := hsx.at (k := i) (by simpa using hil)
      have hci : w.cell? ⟨b0, o0 + i, none⟩ = some (.float .f64 xs[i]) := by rw [hc i (by simpa using hil), List.getElem_map]
      have hcr : wr.cell? ⟨b0, o0 + i, none⟩ = some (.float .f64 xs[i]) := by rw [hbr.cell (p := ⟨b0, _, none⟩) hbl]; exact hci
      have hd : xs.drop i = xs[i] :: xs.drop (i + 1) := List.drop_eq_getElem_cons hil
      have hx64 := HX.out _ (List.getElem_mem hil)
      have h0i : (0 : Int) ≤ i := by omega
      have hii : (i : Int) < xs.length := by omega
      have hw1 : IntKind.i64.wrap ((i : Int) - 1) = (i : Int) - 1 := IntWalk.i64_in _ (by omega)
      have HROW : Hid (frow (xs.drop (i + 1)).reverse ++ [Value.float .f64 xs[i]] = frow (xs.drop i).reverse) := by
        show _ = _; rw [hd, List.reverse_cons, frow_snoc]
      have HCB : Hid (cntB m (xs.drop i) = cntB m (xs.drop (i + 1)) + (if fkey xs[i] < fkey m then 1 else 0)) := by
        show _ = _; rw [hd]; unfold cntB; rw [List.filter_cons]; split <;> simp_all
      have HCA : Hid (cntA m (xs.drop i) = cntA m (xs.drop (i + 1)) + (if fkey m < fkey xs[i] then 1 else 0)) := by
        show _ = _; rw [hd]; unfold cntA; rw [List.filter_cons]; split <;> simp_all
      have hn1 : xs.length - (i + 1) + 1 = xs.length - i := by omega
      have HN1 := Lib.hid hn1
      clear hd hc hn1
      generalize xs[i] = x at *
      have HB1 := Lib.hid (fun W => before_c x m W hx64 hm64)
      have HB2 := Lib.hid (fun W => before_c m x W hm64 hx64)
      generalize hAA : cntB m (xs.drop (i + 1)) = A at *
      generalize hBB : cntA m (xs.drop (i + 1)) = B at *
      clear hAA hBB
      have hwA : IntKind.i64.wrap ((A : Int) + 1) = (A : Int) + 1 := IntWalk.i64_in _ (by omega)
      have hwB : IntKind.i64.wrap ((B : Int) + 1) = (B : Int) + 1 := IntWalk.i64_in _ (by omega)
      go_wp2_with (at_builtin; refine wp_app1 rfl _ _ _ rfl EF rfl rfl hown rfl rfl (by omega) (by simp [maxLen]; omega) hbr.size ?_)
      intro v5 w5 hown5 hg5 hb5
      have hbr5 := hbr.trans hb5
      have hc5 : w5.cell? ⟨b0, o0 + i, none⟩ = some (.float .f64 x) := by rw [hbr5.cell (p := ⟨b0, _, none⟩) hbl]; exact hci
      rw [HROW.out, HN1.out] at hown5
      clear hg5 hb5 hown hbr hcr
      rcases Nat.lt_trichotomy (fkey x) (fkey m) with h | h | h
      · rw [decide_eq_true h] at HB1
        rw [decide_eq_false (show ¬ fkey m < fkey x by omega)] at HB2
        have HA' : Hid (cntB m (xs.drop i) = A + 1) := by show _ = _; rw [HCB.out, if_pos h]
        have HB' : Hid (cntA m (xs.drop i) = B) := by show _ = _; rw [HCA.out, if_neg (by omega), Nat.add_zero]
        clear h HCA HCB
        go_wp2_with fail
        refine (HB1.out _).mono ?_
        rintro e w6 ⟨rfl, rfl⟩
        go_wp2_with fail
        refine (HB2.out _).mono ?_
        rintro e w6 ⟨rfl, rfl⟩
        go_wp2_with fail
        go_roundw
        case rel => exact ⟨i, by omega, by go_num, hown5, by rw [HA'.out]; first | rfl | go_num, by rw [HB'.out], hbr5⟩
        case measure => simp [intOf]
      · rw [decide_eq_false (show ¬ fkey x < fkey m by omega)] at HB1
        rw [decide_eq_false (show ¬ fkey m < fkey x by omega)] at HB2
        have HA' : Hid (cntB m (xs.drop i) = A) := by show _ = _; rw [HCB.out, if_neg (by omega), Nat.add_zero]
        have HB' : Hid (cntA m (xs.drop i) = B) := by show _ = _; rw [HCA.out, if_neg (by omega), Nat.add_zero]
        clear h HCA HCB
        go_wp2_with fail
        refine (HB1.out _).mono ?_
        rintro e w6 ⟨rfl, rfl⟩
        go_wp2_with fail
        refine (HB2.out _).mono ?_
        rintro e w6 ⟨rfl, rfl⟩
        go_wp2_with fail
        go_roundw
        case rel => exact ⟨i, by omega, by go_num, hown5, by rw [HA'.out], by rw [HB'.out], hbr5⟩
        case measure => simp [intOf]
      · rw [decide_eq_false (show ¬ fkey x < fkey m by omega)] at HB1
        rw [decide_eq_true h] at HB2
        have HA' : Hid (cntB m (xs.drop i) = A) := by show _ = _; rw [HCB.out, if_neg (by omega), Nat.add_zero]
        have HB' : Hid (cntA m (xs.drop i) = B + 1) := by show _ = _; rw [HCA.out, if_pos h]
        clear h HCA HCB
        go_wp2_with fail
        refine (HB1.out _).mono ?_
        rintro e w6 ⟨rfl, rfl⟩
        go_wp2_with fail
        refine (HB2.out _).mono ?_
        rintro e w6 ⟨rfl, rfl⟩
        go_wp2_with fail
        go_roundw
        case rel => exact ⟨i, by omega, by go_num, hown5, by rw [HA'.out], by rw [HB'.out]; first | rfl | go_num, hbr5⟩
        case measure => simp [intOf]
end Go.Proofs.YtlnifigbnpdemaaDoor
