/- Texts of mine, joined: Walks over graphs: Add. | Walks over graphs: Comes, Parents. -/
import Derived.Deep.RegionHeld3
import Derived.Test.YtoeoablmcelohaaZ9
namespace Go.Proofs.Ytoeoablmcelohaa
open Go Go.RowKit Go.Maps Go.Sort
open DagS (Nd nm pars par ids Wf Srt withA)

def Kx (K : Nat → Prop) (a b : Nat) : Nat → Prop := fun k => K k ∨ (a ≤ k ∧ k < b)
/-- K's maps. -/
def Km (K : Nat → Prop) (w : World) : Nat → Prop := fun k => K k ∧ ∃ es clock, w.heap[k]? = some (.map es clock)
theorem texts_of {w : World} {pa : Option Addr} {pc : Nat} {l : List ByteArray} (h : Sl w pa (trow l)) : Texts w.heap.size w (.slice pa l.length pc) l := by
  rcases h with h | ⟨b, o, e, hb, hc⟩
  · have hl0 : l = [] := List.map_eq_nil_iff.1 h
    subst hl0
    exact .inl ⟨pa, pc, rfl, rfl⟩
  · refine .inr ⟨b, o, pc, by rw [e], hb, fun j hj => ?_⟩
    refine hc j _ ?_
    unfold trow
    rw [List.getElem?_map, List.getElem?_eq_getElem hj]
    rfl
theorem gvalues_c (a : Option Addr) (len cap : Nat) (w : World) : Calls Try.prog 42 #[.slice a len cap] w fun e w' => e = .returned (.func (.func 52) #[] #[.pointer (some ⟨w.heap.size, 0, none⟩)]) ∧ w' = w.alloc (.cells #[.slice a len cap] 32) :=
  callsIn_wide.1 (values_in Fence.wide 1 trivial rfl a len cap w)

theorem pF_more {g : List Nd} {x : ByteArray} {l : List ByteArray} {φ ψ : Nat → Option Addr × Nat × Nat} (hx : DagS.find g x = none) (hψ : ∀ i, i < g.length → ψ i = φ i) (z : ByteArray) : (if z = x then some (ψ g.length) else pF φ g z) = pF ψ (g ++ [⟨x, l⟩]) z := by
  unfold pF
  rw [DagS.find_append]
  by_cases e : z = x
  · subst e
    rw [if_pos rfl, hx, if_pos rfl]
    rfl
  · rw [if_neg e, if_neg (fun h => e h.symm)]
    cases e2 : DagS.find g z with
    | none => rfl
    | some i => show some (φ i) = some (ψ i); rw [hψ i (DagS.find_lt e2)]
theorem oF_more {g : List Nd} {x : ByteArray} {l : List ByteArray} (hx : DagS.find g x = none) (z : ByteArray) : (if z = x then some (g.length : Int) else oF g z) = oF (g ++ [⟨x, l⟩]) z := by
  unfold oF
  rw [DagS.find_append]
  by_cases e : z = x
  · subst e
    rw [if_pos rfl, hx, if_pos rfl]
    rfl
  · rw [if_neg e, if_neg (fun h => e h.symm)]
    cases DagS.find g z <;> rfl

theorem oF_some {g : List Nd} {s : ByteArray} : (oF g s).isSome = (DagS.find g s).isSome := by unfold oF; cases DagS.find g s <;> rfl

set_option maxRecDepth 100000 in
set_option maxHeartbeats 2000000 in
theorem gadd_c {K : Nat → Prop} {w : World} {p : Nat} {g : List Nd} (hG : GM K w p g) (hgl : g.length < 1000) {x : ByteArray} (hx : x.size ≤ 10000000) {pa : Option Addr} {pc : Nat} {l : List ByteArray} (hp : Sl w pa (trow l)) (hl : l.length ≤ 9000000) (hz : ∀ s ∈ l, s.size ≤ 10000000) :
    Calls Try.prog 19 #[.pointer (some ⟨p, 0, none⟩), .string x, .slice pa l.length pc] w fun e w' => e = .returned (.int .i64 (DagS.add g x l).2) ∧ GM (Kx K w.heap.size w'.heap.size) w' p (DagS.add g x l).1 ∧ Only (Km K w) w w' := by
  have HG := Lib.hid hG
  obtain ⟨m1, m2, φ, hB, k1, k2, k3, k4, k5⟩ := hG
  have c0 := hB.c0
  obtain ⟨y0, hth⟩ := hB.there hx
  have HB := Lib.hid hB
  have HP := Lib.hid hp
  have HZ : Hid (∀ s ∈ l, s.size ≤ 10000000) := hz
  have HK : Hid (K p ∧ K m1 ∧ K m2 ∧ (∀ i, i < g.length → ∀ a, (φ i).1 = some a → K a.block) ∧ ∀ k, K k → k < w.heap.size) := ⟨k1, k2, k3, k4, k5⟩
  clear hB hp hz k1 k2 k3 k4 k5
  go_enter Try.func19, Try.ntmps19
  cases hf : DagS.find g x with
  | some i =>
    rw [hf] at hth
    have hth : (Instr.lookup 60 (.map (some m1)) (.string x) true).run Try.prog w = .ok (.tuple #[y0, .bool true]) w := hth
    have HA : Hid (DagS.add g x l = (g, 5)) := by show _ = _; unfold DagS.add; rw [hf]; exact if_pos rfl
    clear hf
    go_wp2_with fail
    go_ret
    rw [HA.out]
    exact ⟨rfl, HG.out.sub (fun k hk => .inl hk) (fun k hk => hk.elim (fun h => HG.out.lt h) fun h => h.2), Only.refl _ _⟩
  | none =>
    rw [hf] at hth
    have hth : (Instr.lookup 60 (.map (some m1)) (.string x) true).run Try.prog w = .ok (.tuple #[y0, .bool false]) w := hth
    have HF := Lib.hid hf
    clear hf
    go_upto_region 4 with fail
    clear hth
    go_wp2_with fail
    go_loop [26] (fun iv => ∃ j : Nat, j ≤ l.length ∧ iv = .int .i64 j ∧ Hid (∀ s ∈ l.take j, DagS.find g s ≠ none)) (fun iv => (l.length - intOf iv).toNat)
    case atStart => exact ⟨0, Nat.zero_le _, rfl, fun s hs => (nomatch hs)⟩
    case round =>
      obtain ⟨j, hj, rfl, HALL⟩ := hrel
      by_cases hjl : j < l.length
      · have hd : decide ((j : Int) < (l.length : Int)) = true := decide_eq_true (by omega)
        obtain ⟨b, o, rfl, hbl, hcel⟩ := HP.out.at (k := j) (by rw [trow_len]; exact hjl)
        have q0 := hcel j (by rw [trow_len]; exact hjl)
        rw [trow_at] at q0
        have hmem := List.getElem_mem hjl
        have htk : l.take (j + 1) = l.take j ++ [l[j]] := by rw [List.take_add_one, List.getElem?_eq_getElem hjl]; rfl
        have HTK := Lib.hid htk
        have HM := Lib.hid hmem
        have hys := HZ.out _ hmem
        clear hcel htk hmem
        generalize l[j] = y at *
        obtain ⟨y1, hty⟩ := HB.out.there hys
        have hw : IntKind.i64.wrap ((j : Int) + 1) = ((j + 1 : Nat) : Int) := IntWalk.i64_in _ (by omega)
        have hji : (j : Int) < l.length := by omega
        have hj0 : (0 : Int) ≤ j := by omega
        cases hfy : DagS.find g y with
        | none =>
          rw [hfy] at hty
          have hty : (Instr.lookup 60 (.map (some m1)) (.string y) true).run Try.prog w = .ok (.tuple #[y1, .bool false]) w := hty
          have HA : Hid (DagS.add g x l = (g, 4)) := by
            show _ = _
            unfold DagS.add
            rw [HF.out, if_neg (by simp), if_pos ⟨y, HM.out, hfy⟩]
          clear hfy
          go_wp2_with fail
          go_ret
          rw [HA.out]
          exact ⟨rfl, HG.out.sub (fun k hk => .inl hk) (fun k hk => hk.elim (fun h => HG.out.lt h) fun h => h.2), Only.refl _ _⟩
        | some i =>
          rw [hfy] at hty
          have hty : (Instr.lookup 60 (.map (some m1)) (.string y) true).run Try.prog w = .ok (.tuple #[y1, .bool true]) w := hty
          have HFY := Lib.hid hfy
          clear hfy
          go_wp2_with fail
          go_round
          case rel =>
            refine ⟨j + 1, by omega, by first | rfl | go_num, fun s hs => ?_⟩
            rw [HTK.out] at hs
            rcases List.mem_append.1 hs with hs | hs
            · exact HALL.out s hs
            · rw [List.mem_singleton] at hs; rw [hs, HFY.out]; exact fun h => nomatch h
          case measure => simp [intOf]; omega
      · obtain rfl : j = l.length := by omega
        have hd : decide ((l.length : Int) < (l.length : Int)) = false := decide_eq_false (by omega)
        rw [List.take_length] at HALL
        have HA : Hid (DagS.add g x l = (g ++ [⟨x, withA [] l⟩], 0)) := by
          show _ = _
          unfold DagS.add
          rw [HF.out, if_neg (by simp), if_neg (fun ⟨q, h3, h4⟩ => HALL.out q h3 h4), if_neg (by omega)]
        have hlen := MapG.count (fun _ => rfl) (fun _ => Iff.rfl) HB.out.mp (l := g.map Nd.name) HB.out.wf.dist (fun s => by rw [mem_names]; unfold pF; rw [Option.isSome_map])
        rw [List.length_map] at hlen
        have hde : decide ((g.length : Int) = 65536) = false := decide_eq_false (by omega)
        have hbe : ((g.length : Int) == 65536) = false := by rw [beq_eq_false_iff_ne]; omega
        have hbA : Below w.heap.size w (w.alloc (.cells #[.slice pa l.length pc] 32)) := (Below.refl _ w).alloc (Nat.le_refl _) _
        have hcA : (w.alloc (.cells #[.slice pa l.length pc] 32)).cell? ⟨w.heap.size, 0, none⟩ = some (.slice pa l.length pc) := by
          have h : (w.alloc (.cells #[.slice pa l.length pc] 32)).heap[w.heap.size]? = some (.cells #[.slice pa l.length pc] 32 (0, 0)) := Array.getElem?_push_size
          simp only [World.cell?, h]; rfl
        have HSO := Lib.hid (gsorted_c (texts_of (HP.out.below hbA) (pc := pc)) (by omega) (bs := w.heap.size) (by rw [World.size_alloc]; omega) hcA)
        have HVA := Lib.hid (gvalues_c pa l.length pc w)
        have HBA := Lib.hid hbA
        clear hcA hbA
        go_upto_region 14 with (first
          | (go_at_call 42; refine HVA.out.mono ?_; rintro e w1 ⟨rfl, rfl⟩)
          | (go_at_call 41; refine HSO.out.mono ?_; rintro e w2 ⟨v2, s, rfl, hp2, ho2, hr2, hb2⟩))
        have hbw : Below w.heap.size w w2 := HBA.out.trans (hb2.mono HBA.out.size)
        have hG2 := HG.out.below hbw
        have c02 : w2.cell? ⟨p, 0, none⟩ = some (.map (some m1)) := (hbw.cell (p := ⟨p, 0, none⟩) (HK.out.2.2.2.2 p HK.out.1)).trans HB.out.c0
        have hm1 := HB.out.mp.below hbw
        have hsl := hp2.length_eq
        have HCM : Hid (∀ q, Calls Try.prog 40 #[v2] (w2.drewN q) _) := fun q => gcomp_c (w := w2.drewN q) hr2 ho2 (by omega)
        have HS2 : Hid ((w2.drewN 1).cell? ⟨p, 0, none⟩ = some (.map (some m1))) := c02
        clear hlen hde hbe HSO HVA hd
        have HR2 := Lib.hid hr2
        have hpl : p < w.heap.size := HK.out.2.2.2.2 p HK.out.1
        have hm1l : m1 < w.heap.size := HK.out.2.2.2.2 m1 HK.out.2.1
        have hwl := hbw.size
        have HNB : Hid (∀ k, k < w.heap.size → some k ≠ v2.ownBlock) := fun k hk e => by have := (HR2.out.lt k e.symm).1; rw [World.size_alloc] at this; omega
        have hpm : p ≠ m1 := fun e => by
          obtain ⟨es, clock, hb⟩ := HB.out.mp.isMap
          rw [← e, HB.out.blk] at hb
          cases hb
        have HGL : Hid (g.length < maxLen) := by show _ < _; rw [show maxLen = 9223372036854775807 from rfl]; omega
        have HXM := Lib.hid (name_max hx)
        go_region_held3 (fun W => W.cell? ⟨p, 0, none⟩ = some (.map (some m1))) (first | exact HS2.out | exact hS3 | exact hS4 | go_keep)
          (first
            | (go_at_call 40; refine (HCM.out 1).mono ?_; rintro e w3 ⟨v3, s3, rfl, hs3, hm3, hr3, hv3, ⟨a3, c3, rfl, hn3, hsp3⟩, hg3⟩; have hS3 : w3.cell? ⟨p, 0, none⟩ = some (.map (some m1)) := cell_blk HS2.out (hg3.block p (Nat.lt_of_lt_of_le hpl hwl) (HNB.out p hpl)); have hM3 := hm1.block (w' := w3) (hg3.block m1 (Nat.lt_of_lt_of_le hm1l hwl) (HNB.out m1 hm1l)); obtain ⟨w4, hrun, hM4, hg4⟩ := hM3.put x HXM.out (a3, s3.length, c3) (fun y e => (hsp3 y e).1) HGL.out; have hrun4 : (Instr.mapUpdate 60 (.map (some m1)) (.string x) (.slice a3 s3.length c3)).run Try.prog w3 = .ok () w4 := hrun; clear hrun; have hS4 : w4.cell? ⟨p, 0, none⟩ = some (.map (some m1)) := cell_blk hS3 (hg4.block p (Nat.lt_of_lt_of_le (Nat.lt_of_lt_of_le hpl hwl) hg3.size) (fun e => hpm (by injection e))))) 
        all_goals
          have hm2l : m2 < w.heap.size := HK.out.2.2.2.2 m2 HK.out.2.2.1
          have hpm2 : p ≠ m2 := fun e => by
            obtain ⟨es, clock, hb⟩ := HB.out.mo.isMap
            rw [← e, HB.out.blk] at hb
            cases hb
          have hne := HB.out.ne
          have HKP : Hid (∀ k, k < w.heap.size → k ≠ m1 → w4.heap[k]? = w.heap[k]?) := fun k hk h1 => by
            have e1 : w4.heap[k]? = w3.heap[k]? := hg4.block k (Nat.lt_of_lt_of_le (Nat.lt_of_lt_of_le hk hwl) hg3.size) (fun e => h1 (Option.some.inj e))
            have e2 : w3.heap[k]? = w2.heap[k]? := hg3.block k (Nat.lt_of_lt_of_le hk hwl) (HNB.out k hk)
            exact e1.trans (e2.trans (hbw.block k hk))
          have c14 : w4.cell? ⟨p, 1, none⟩ = some (.map (some m2)) := cell_blk HB.out.c1 (HKP.out p hpl hpm)
          have hm24 : MapG OC w4 m2 g.length (oF g) := HB.out.mo.block (HKP.out m2 hm2l hne.symm)
          have hlen2 := MapG.count (fun _ => rfl) (fun _ => Iff.rfl) hm24 (l := g.map Nd.name) HB.out.wf.dist (fun s => by rw [mem_names, oF_some])
          rw [List.length_map] at hlen2
          have HM24 := Lib.hid hm24
          have HM4 := Lib.hid hM4
          have HR3 := Lib.hid hr3
          have HS3 := Lib.hid hs3
          have HM3 := Lib.hid hm3
          have HSP := Lib.hid hsp3
          have HN3 := Lib.hid hn3
          have HV3 := Lib.hid hv3
          have HO4 : Hid (Only (Km K w) w w4) := ((Only.of_below (K := Km K w) hbw).trans (Only.of_grown (K := fun k => w.heap.size ≤ k) (a := w2) (show w2.grownBy w3 v2.ownBlock from ⟨hg3.os, hg3.tape, hg3.output, hg3.size, hg3.block⟩) fun k e => Nat.le_of_not_lt fun h => HNB.out k h e.symm) fun k e => .inr e).trans (Only.of_grown (K := fun k => k = m1) hg4 fun k e => (Option.some.inj e).symm) fun k e => .inl (by rw [e]; exact ⟨HK.out.2.1, HB.out.mp.isMap⟩)
          have H34 : Hid (w3.heap.size ≤ w4.heap.size) := hg4.size
          have HG4 := Lib.hid hg4
          clear hm24 hM4 hr3 hs3 hm3 hsp3 hn3 hv3 hg3 hg4 hrun4 HCM hbw hG2 hm1 hM3
          have c15 : ∀ pn, (bw w4 pn).cell? ⟨p, 1, none⟩ = some (.map (some m2)) := fun pn => bw_cell (Nat.lt_of_lt_of_le hpl HO4.out.size) c14 pn
          have hlen3 : ∀ pn ty, (Builtin.len_ #[61] ty #[.map (some m2)]).run Try.prog (bw w4 pn) = .ok (.int .i64 g.length) (bw w4 pn) := fun pn ty => by
            have := MapG.count (fun _ => rfl) (fun _ => Iff.rfl) (HM24.out.below (bw_below w4 pn)) (l := g.map Nd.name) HB.out.wf.dist (fun s => by rw [mem_names, oF_some]) ty
            rwa [List.length_map] at this
          clear hlen2
          go_step
          go_upto_region 15 with fail
          refine wp_region_bw_tail 10 (by kernel_rfl) (by kernel_rfl) ?_
          iterate 10 quiet_step (fail)
          refine wpQuiet_nil ?_
          rintro Wn ⟨pn, hWn⟩
          have hbn : Below w4.heap.size w4 Wn := by rw [hWn]; exact bw_below _ _
          have hmn := HM24.out.below hbn
          have HE4 : Hid (∀ k, k < w3.heap.size → k ≠ m1 → Wn.heap[k]? = w3.heap[k]?) := fun k hk h1 => (hbn.block k (Nat.lt_of_lt_of_le hk H34.out)).trans (HG4.out.block k hk (fun e => h1 (Option.some.inj e)))
          have HKP : Hid (∀ k, k < w.heap.size → k ≠ m1 → Wn.heap[k]? = w.heap[k]?) := fun k hk h1 => (hbn.block k (Nat.lt_of_lt_of_le hk HO4.out.size)).trans (HKP.out k hk h1)
          have HO4 : Hid (Only (Km K w) w Wn) := HO4.out.trans (Only.of_below (K := fun _ => False) hbn) fun k e => e.elim
          have H34 : Hid (w3.heap.size ≤ Wn.heap.size) := Nat.le_trans H34.out hbn.size
          have HM4 := Lib.hid (HM4.out.below hbn)
          clear hWn c15 hlen3
          refine wp_putG rfl _ _ _ rfl rfl hmn x (g.length : Int) rfl rfl HXM.out trivial HGL.out ?_
          intro w5 hM5 hg5
          go_wp2_with fail
          go_ret
          rw [HA.out]
          have h45 := hg5.size
          have hs : s3 = withA [] l := DagS.srt_ext HS3.out (DagS.withA_srt _ .nil) fun z => by
            rw [HM3.out, hp2.mem_iff, DagS.withA_mem]
            exact ⟨.inr, fun h => h.resolve_left fun h => (nomatch h)⟩
          have hw := HB.out.wf.add x l
          rw [HA.out] at hw
          have hO : Only (Km K w) w w5 := HO4.out.trans (Only.of_grown (K := fun k => k = m2) hg5 fun k e => (Option.some.inj e).symm) fun k e => .inl (by rw [e]; exact ⟨HK.out.2.2.1, HB.out.mo.isMap⟩)
          have h5 : ∀ k, k < w.heap.size → k ≠ m1 → k ≠ m2 → w5.heap[k]? = w.heap[k]? := fun k hk h1 h2 => (hg5.block k (Nat.lt_of_lt_of_le hk HO4.out.size) (fun e => h2 (Option.some.inj e))).trans (HKP.out k hk h1)
          have hb3 : ∀ y, a3 = some y → w.heap.size + 1 ≤ y.block ∧ y.block < w3.heap.size := fun y e => by
            have := HR3.out.lt y.block (HSP.out y e).2
            rw [World.size_alloc] at this
            exact this
          refine ⟨rfl, ⟨m1, m2, fun i => if i = g.length then (a3, s3.length, c3) else φ i, { blk := (h5 p hpl hpm hpm2).trans HB.out.blk, mp := ?_, mo := ?_, sl := fun i hi => ?_, ne := hne, wf := hw, len := by simp; omega, sz := fun i hi => ?_ }, .inl HK.out.1, .inl HK.out.2.1, .inl HK.out.2.2.1, fun i hi a ha => ?_, fun k hk => hk.elim (fun h => Nat.lt_of_lt_of_le (HK.out.2.2.2.2 k h) hO.size) fun h => h.2⟩, hO⟩
          · rw [List.length_append, List.length_singleton]
            refine (HM4.out.block (hg5.block m1 (Nat.lt_of_lt_of_le hm1l HO4.out.size) (fun e => hne (Option.some.inj e)))).congr fun z => ?_
            rw [← pF_more (l := withA [] l) (φ := φ) HF.out (fun i hi => if_neg (by omega)) z, if_pos rfl]
          · rw [List.length_append, List.length_singleton]
            exact hM5.congr fun z => oF_more HF.out z
          · by_cases e : i = g.length
            · subst e
              rw [if_pos rfl, DagS.pars_append_eq]
              refine ⟨by rw [hs], ?_, fun e => HN3.out e, fun a ha => ?_⟩
              · rw [← hs]
                have hsl3 := (OwnG.of_own HR3.out).form
                obtain ⟨qa, qc, e1, -, -, hq⟩ := hsl3
                injection e1 with e1 _ _
                subst e1
                refine sl_block hq (Nat.le_trans H34.out h45) fun y hy => ?_
                have hb := hb3 y hy
                have e4 := HE4.out y.block hb.2 (by omega)
                exact (hg5.block y.block (Nat.lt_of_lt_of_le hb.2 H34.out) (fun e => by have := Option.some.inj e; omega)).trans e4
              · have := hb3 a ha
                exact ⟨by omega, by omega⟩
            · have hi2 : i < g.length := by simp at hi; omega
              obtain ⟨q1, q2, q3, q4⟩ := HB.out.sl i hi2
              rw [if_neg e, DagS.pars_append_lt hi2]
              exact ⟨q1, sl_block q2 hO.size fun y hy => h5 _ (HK.out.2.2.2.2 _ (HK.out.2.2.2.1 i hi2 y hy)) (q4 y hy).1 (q4 y hy).2, q3, q4⟩
          · by_cases e : i = g.length
            · subst e
              rw [DagS.nm_append_eq]; exact hx
            · have hi2 : i < g.length := by simp at hi; omega
              rw [DagS.nm_append_lt hi2]; exact HB.out.sz i hi2
          · by_cases e : i = g.length
            · dsimp only at ha
              rw [if_pos e] at ha
              have := hb3 a ha
              exact .inr ⟨by omega, by have := H34.out; omega⟩
            · dsimp only at ha
              rw [if_neg e] at ha
              exact .inl (HK.out.2.2.2.1 i (by simp at hi; omega) a ha)
end Go.Proofs.Ytoeoablmcelohaa
namespace Go.Proofs.Ytoeoablmcelohaa
open Go Go.RowKit Go.Maps Go.Sort
open DagS (Nd nm pars par ids Wf ancS ancL upto)
open Classical

/-- What Comes' function value keeps. -/
structure ComI (g : List Nd) (p : Nat) (y : ByteArray) (bf b5 b3 : Nat) (W : World) (V : List Nat) (E : Nat → Prop) : Prop where
  f : W.heap[bf]? = some (.cells #[.bool (decide (y ∈ V.map (nm g)))] 4 (0, 0))
  y : W.heap[b5]? = some (.cells #[.string y] 9 (0, 0))
  g : W.heap[b3]? = some (.cells #[.pointer (some ⟨p, 0, none⟩)] 25 (0, 0))
  e : ∀ k, E k ↔ k = bf ∨ k = b5 ∨ k = b3

theorem comes_ord {g : List Nd} (hw : Wf g) {i : Nat} (hi : i < g.length) (y : ByteArray) : decide (ord g (nm g i) > ord g y) = decide (i > (DagS.find g y).getD 0) := by
  rw [decide_eq_decide]
  unfold ord
  rw [hw.dist.find hi]
  simp only [Option.getD_some]
  omega

set_option maxRecDepth 100000 in
set_option maxHeartbeats 1000000 in
theorem com_cl {K : Nat → Prop} {p : Nat} {g : List Nd} {y : ByteArray} (hy : y.size ≤ 10000000) {bf b5 b3 : Nat} (h5 : b5 ≠ bf) (h3 : b3 ≠ bf) {l : List ByteArray} : Cl K p g 29 #[.pointer (some ⟨bf, 0, none⟩), .pointer (some ⟨b5, 0, none⟩), .pointer (some ⟨b3, 0, none⟩)] (fun k => decide (k > (DagS.find g y).getD 0)) (ids g l) (ComI g p y bf b5 b3) where
  lt := fun h k hk => by
    rcases (h.e k).1 hk with e | e | e
    · rw [e]; exact (Array.getElem?_eq_some_iff.1 h.f).1
    · rw [e]; exact (Array.getElem?_eq_some_iff.1 h.y).1
    · rw [e]; exact (Array.getElem?_eq_some_iff.1 h.g).1
  frame := fun h hk _ => ⟨(hk bf ((h.e _).2 (.inl rfl))).trans h.f, (hk b5 ((h.e _).2 (.inr (.inl rfl)))).trans h.y, (hk b3 ((h.e _).2 (.inr (.inr rfl)))).trans h.g, h.e⟩
  call := by
    rintro W V E i h hG hEK hi - hV hD
    have hor := comes_ord hG.wf hi y
    have hxs := hG.sz hi
    have HV : Hid (∀ j, (y ∈ (V ++ [j]).map (nm g)) ↔ (y ∈ V.map (nm g) ∨ y = nm g j)) := fun j => by rw [List.map_append, List.mem_append]; simp
    have HVi := Lib.hid (HV.out i)
    clear HV
    obtain ⟨s1, s2⟩ := set_blk h.f 0 (.bool (decide (y ∈ (V ++ [i]).map (nm g))))
    generalize hres : decide (y ∈ (V ++ [i]).map (nm g)) = res at *
    have HG' := hG.keep (w' := W.setCell ⟨bf, 0, none⟩ (.bool res)) s2.size fun k hk => s2.block k (hG.lt hk) fun e => by injection e with e; exact hEK k ((h.e k).2 (.inl e)) hk
    have f1 : W.cell? ⟨bf, 0, none⟩ = some (.bool (decide (y ∈ V.map (nm g)))) := by simp [World.cell?, h.f]
    have f2 : W.cell? ⟨b5, 0, none⟩ = some (.string y) := by simp [World.cell?, h.y]
    have ff : W.frozen? ⟨bf, 0, none⟩ = false := by simp [World.frozen?, h.f]
    have hy5 : (W.setCell ⟨bf, 0, none⟩ (.bool res)).heap[b5]? = W.heap[b5]? := s2.block b5 (Array.getElem?_eq_some_iff.1 h.y).1 (fun e => by injection e with e; exact h5 e)
    have hg3 : (W.setCell ⟨bf, 0, none⟩ (.bool res)).heap[b3]? = W.heap[b3]? := s2.block b3 (Array.getElem?_eq_some_iff.1 h.g).1 (fun e => by injection e with e; exact h3 e)
    have hI' : ComI g p y bf b5 b3 (W.setCell ⟨bf, 0, none⟩ (.bool res)) (V ++ [i]) E := ⟨by rw [hres]; simpa using s1, hy5.trans h.y, hg3.trans h.g, h.e⟩
    have hO : Only E W (W.setCell ⟨bf, 0, none⟩ (.bool res)) := (Only.of_grown (K := fun k => k = bf) s2 fun k e => by injection e with e; exact e.symm).mono fun k hk _ => (h.e k).2 (.inl hk)
    have f3 : (W.setCell ⟨bf, 0, none⟩ (.bool res)).cell? ⟨b3, 0, none⟩ = some (.pointer (some ⟨p, 0, none⟩)) := by simp [World.cell?, hg3, h.g]
    have f4 : (W.setCell ⟨bf, 0, none⟩ (.bool res)).cell? ⟨b5, 0, none⟩ = some (.string y) := by simp [World.cell?, hy5, h.y]
    obtain ⟨m1, m2, φ, hB, -⟩ := HG'
    have c1 := hB.c1
    have hlx : ∀ q, (Instr.lookup 61 (.map (some m2)) (.string (nm g i)) false).run Try.prog ((W.setCell ⟨bf, 0, none⟩ (.bool res)).drewN q) = .ok (.int .i64 (ord g (nm g i))) ((W.setCell ⟨bf, 0, none⟩ (.bool res)).drewN q) := fun q => by
      have := (hB.mo.drewN q).look (nm g i) (name_max hxs)
      rw [show (oF g (nm g i)).getD OC.z0 = ord g (nm g i) from oF_ord g _] at this
      exact this
    have hly : ∀ q, (Instr.lookup 61 (.map (some m2)) (.string y) false).run Try.prog ((W.setCell ⟨bf, 0, none⟩ (.bool res)).drewN q) = .ok (.int .i64 (ord g y)) ((W.setCell ⟨bf, 0, none⟩ (.bool res)).drewN q) := fun q => by
      have := (hB.mo.drewN q).look y (name_max hy)
      rw [show (oF g y).getD OC.z0 = ord g y from oF_ord g _] at this
      exact this
    have HI' := Lib.hid hI'
    have HO := Lib.hid hO
    have HOR := Lib.hid hor
    have HRES := Lib.hid hres
    clear hI' hO hB hG h s1 s2 hEK hi hV hD hor hres hy5 hg3
    show Calls _ _ #[.string (nm g i), .pointer (some ⟨bf, 0, none⟩), .pointer (some ⟨b5, 0, none⟩), .pointer (some ⟨b3, 0, none⟩)] _ _
    rw [← HOR.out]
    clear HOR
    generalize nm g i = x at *
    generalize hox : ord g x = ox at *
    generalize hoy : ord g y = oy at *
    generalize hW1 : W.setCell ⟨bf, 0, none⟩ (.bool res) = W1 at *
    have HW1 := Lib.hid hW1
    clear hW1 hox hoy
    obtain ⟨t, ht⟩ : ∃ t, decide (y ∈ V.map (nm g)) = t := ⟨_, rfl⟩
    rw [ht] at f1
    have HT := Lib.hid ht
    clear ht
    go_enter Try.func29, Try.ntmps29
    cases t with
    | true =>
      obtain rfl : res = true := by rw [← HRES.out]; exact decide_eq_true (HVi.out.2 (.inl (of_decide_eq_true HT.out)))
      go_upto_region 2 with fail
      rw [HW1.out]
      go_quiet (fail)
      go_wp2_with fail
      go_ret
      exact ⟨rfl, ⟨E, ⟨HI'.out.f, HI'.out.y, HI'.out.g, HI'.out.e⟩, fun k hk => .inl hk⟩, HO.out.trans (Only.of_below (K := fun _ => False) (below_dN (Below.refl _ _) nq)) fun k e => e.elim⟩
    | false =>
      by_cases hxy : x = y
      · obtain rfl : res = true := by rw [← HRES.out]; exact decide_eq_true (HVi.out.2 (.inr hxy.symm))
        have hne : (x.toList == y.toList) = true := by rw [hxy]; exact beq_self_eq_true _
        clear hxy
        go_upto_region 2 with fail
        rw [HW1.out]
        go_quiet (fail)
        go_wp2_with fail
        go_ret
        exact ⟨rfl, ⟨E, ⟨HI'.out.f, HI'.out.y, HI'.out.g, HI'.out.e⟩, fun k hk => .inl hk⟩, HO.out.trans (Only.of_below (K := fun _ => False) (below_dN (Below.refl _ _) nq)) fun k e => e.elim⟩
      · obtain rfl : res = false := by rw [← HRES.out]; exact decide_eq_false fun h => (HVi.out.1 h).elim (fun h => of_decide_eq_false HT.out h) fun h => hxy h.symm
        have hne := str_eqb hxy
        go_upto_region 2 with fail
        rw [HW1.out]
        go_quiet (fail)
        go_wp2_with fail
        go_ret
        exact ⟨rfl, ⟨E, ⟨HI'.out.f, HI'.out.y, HI'.out.g, HI'.out.e⟩, fun k hk => .inl hk⟩, HO.out.trans (Only.of_below (K := fun _ => False) (below_dN (Below.refl _ _) nq)) fun k e => e.elim⟩

set_option maxRecDepth 100000 in
set_option maxHeartbeats 1000000 in
theorem gcomes_c {K : Nat → Prop} {w : World} {p : Nat} {g : List Nd} (hG : GM K w p g) {x y : ByteArray} (hx : x.size ≤ 10000000) (hy : y.size ≤ 10000000) :
    Calls Try.prog 12 #[.pointer (some ⟨p, 0, none⟩), .string x, .string y] w fun e w' => e = .returned (.bool (decide (DagS.Comes g x y))) ∧ Below w.heap.size w w' := by
  have hb1 : Below w.heap.size w (w.alloc (.cells #[.pointer (some ⟨p, 0, none⟩)] 25)) := (Below.refl _ w).alloc (Nat.le_refl _) _
  have hb2 := hb1.alloc hb1.size (.cells #[.string y] 9)
  have hb3 := hb2.alloc hb2.size (.cells #[.bool false] 4)
  have hs3 : (((w.alloc (.cells #[.pointer (some ⟨p, 0, none⟩)] 25)).alloc (.cells #[.string y] 9)).alloc (.cells #[.bool false] 4)).heap.size = w.heap.size + 1 + 1 + 1 := by simp
  have h3 : (((w.alloc (.cells #[.pointer (some ⟨p, 0, none⟩)] 25)).alloc (.cells #[.string y] 9)).alloc (.cells #[.bool false] 4)).heap[w.heap.size]? = some (.cells #[.pointer (some ⟨p, 0, none⟩)] 25 (0, 0)) :=
    ((Below.heap_alloc _ _ _ (by simp; omega)).trans (Below.heap_alloc _ _ _ (by simp))).trans Array.getElem?_push_size
  have h5 : (((w.alloc (.cells #[.pointer (some ⟨p, 0, none⟩)] 25)).alloc (.cells #[.string y] 9)).alloc (.cells #[.bool false] 4)).heap[w.heap.size + 1]? = some (.cells #[.string y] 9 (0, 0)) := by
    refine (Below.heap_alloc _ _ _ (by simp)).trans ?_
    have := Array.getElem?_push_size (xs := (w.alloc (.cells #[.pointer (some ⟨p, 0, none⟩)] 25)).heap) (x := .cells #[.string y] 9 (0, 0))
    rwa [World.size_alloc] at this
  have hf : (((w.alloc (.cells #[.pointer (some ⟨p, 0, none⟩)] 25)).alloc (.cells #[.string y] 9)).alloc (.cells #[.bool false] 4)).heap[w.heap.size + 1 + 1]? = some (.cells #[.bool false] 4 (0, 0)) := by
    have := Array.getElem?_push_size (xs := ((w.alloc (.cells #[.pointer (some ⟨p, 0, none⟩)] 25)).alloc (.cells #[.string y] 9)).heap) (x := .cells #[.bool false] 4 (0, 0))
    rwa [World.size_alloc, World.size_alloc] at this
  have HS3 := Lib.hid hs3
  have HW := Lib.hid hG.wf
  have HG := Lib.hid (hG.below hb3)
  clear hs3
  have hKlt : Hid (∀ k, K k → k < w.heap.size) := fun k hk => hG.lt hk
  go_enter Try.func12, Try.ntmps12
  go_upto_region 2 with fail
  clear hb1 hb2 hG
  generalize ((w.alloc (.cells #[.pointer (some ⟨p, 0, none⟩)] 25)).alloc (.cells #[.string y] 9)).alloc (.cells #[.bool false] 4) = W3 at *
  have hs3 := HS3.out
  have c3 : W3.cell? ⟨w.heap.size, 0, none⟩ = some (.pointer (some ⟨p, 0, none⟩)) := by simp [World.cell?, h3]
  have hbA : Below W3.heap.size W3 (W3.alloc (.cells #[.string x] 9)) := (Below.refl _ W3).alloc (Nat.le_refl _) _
  have hI : ComI g p y (w.heap.size + 1 + 1) (w.heap.size + 1) w.heap.size (W3.alloc (.cells #[.string x] 9)) [] (fun k => k = w.heap.size + 1 + 1 ∨ k = w.heap.size + 1 ∨ k = w.heap.size) :=
    ⟨by rw [hbA.block _ (by omega), hf]; congr 2; rw [decide_eq_false (fun h => (nomatch h))], (hbA.block _ (by omega)).trans h5, (hbA.block _ (by omega)).trans h3, fun k => Iff.rfl⟩
  have HWK := Lib.hid (walk_c (fc := 1) (l := [x]) (HG.out.below hbA) (sl_new W3 [.string x] 9 (0, 0)) (Nat.le_trans (Nat.le_refl 1) (by omega)) (fun s hs => by rw [List.mem_singleton] at hs; rw [hs]; exact hx) (com_cl (K := K) (p := p) hy (by omega) (by omega)) (enters_of Try.func29 (by kernel_rfl) rfl) hI (fun k hk hk2 => by have := hKlt.out k hk2; omega))
  have HBA := Lib.hid (hb3.trans (hbA.mono hb3.size))
  clear hI hbA h3 h5 hf hb3 hs3
  go_upto_region 3 with (go_at_call 28; refine HWK.out.mono ?_; rintro e w1 ⟨rfl, V, E', hI1, hT, ho, he0⟩)
  have hf1 : w1.cell? ⟨w.heap.size + 1 + 1, 0, none⟩ = some (.bool (decide (y ∈ V.map (nm g)))) := by simp [World.cell?, hI1.f]
  have hcm := HW.out.comes_iff hT
  have hdd : decide (y ∈ V.map (nm g)) = decide (DagS.Comes g x y) := decide_eq_decide.2 hcm
  rw [hdd] at hf1
  have HB1 : Hid (Below w.heap.size w w1) := HBA.out.trans ⟨ho.os, ho.tape, ho.output, ho.size, fun k hk => ho.block k (by have := HBA.out.size; omega) fun e => by omega⟩
  clear hI1 hT ho he0 hcm hdd HWK
  go_wp2_with fail
  go_ret
  exact ⟨rfl, HB1.out⟩
end Go.Proofs.Ytoeoablmcelohaa
