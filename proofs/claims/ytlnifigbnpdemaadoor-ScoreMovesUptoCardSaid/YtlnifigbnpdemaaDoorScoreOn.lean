/- What the taken moves are like; are texts small? -/
import Derived.Test.YtlnifigbnpdemaaDoorScoreSR
import Derived.Test.YtlnifigbnpdemaaDoorScoreAw
namespace Go.Proofs.YtlnifigbnpdemaaDoor
open Go Go.RowKit Go.Sort Go.Maps

theorem grd_sub : ∀ (l out : List Mv), ∃ l2, l2.Sublist l ∧ grd out l = out ++ l2
  | [], out => ⟨[], List.Sublist.slnil, by rw [grd, List.append_nil]⟩
  | m :: l, out => by
    rw [grd]
    split
    · obtain ⟨l2, h1, h2⟩ := grd_sub l out
      exact ⟨l2, h1.cons m, h2⟩
    · obtain ⟨l2, h1, h2⟩ := grd_sub l (out ++ [m])
      exact ⟨m :: l2, h1.cons_cons m, by rw [h2, List.append_assoc]; rfl⟩

theorem used_append (a b : List Mv) (m : Mv) : used (a ++ b) m = (used a m || used b m) := by
  unfold used; rw [List.any_append]

theorem used_self (a : List Mv) (m : Mv) : used (a ++ [m]) m = true := by
  rw [used_append]; simp [used]

theorem grd_used : ∀ (l out : List Mv) (m : Mv), m ∈ l → used (grd out l) m = true
  | x :: l, out, m, h => by
    rw [grd]
    rcases List.mem_cons.1 h with e | e
    · subst e
      split
      · rename_i hu
        obtain ⟨l2, _, h2⟩ := grd_sub l out
        rw [h2, used_append, hu]; rfl
      · obtain ⟨l2, _, h2⟩ := grd_sub l (out ++ [m])
        rw [h2, used_append, used_self]; rfl
    · split
      · exact grd_used l out m e
      · exact grd_used l (out ++ [x]) m e

/-- No two of the taken ones touch one another. -/
def Apart (x y : Mv) : Prop := x.src ≠ y.src ∧ x.dst ≠ y.dst

theorem grd_apart : ∀ (l out : List Mv), out.Pairwise Apart → (grd out l).Pairwise Apart
  | [], out, h => h
  | m :: l, out, h => by
    rw [grd]
    split
    · exact grd_apart l out h
    · rename_i hu
      refine grd_apart l (out ++ [m]) (List.pairwise_append.2 ⟨h, List.pairwise_singleton _ _, fun x hx y hy => ?_⟩)
      rw [List.mem_singleton] at hy
      subst hy
      have hu' : used out y = false := by simpa using hu
      rw [used, List.any_eq_false] at hu'
      have := hu' x hx
      simp at this
      exact ⟨this.1, this.2⟩

theorem cnt_take {out : List Mv} (h : out.Pairwise Apart) (i : Nat) (hi : i < out.length) : cntS (out.take i) out[i].src = 0 ∧ cntD (out.take i) out[i].dst = 0 := by
  rw [← cnt_used, used, List.any_eq_false]
  intro x hx
  obtain ⟨j, hj, rfl⟩ := List.getElem_of_mem hx
  rw [List.length_take] at hj
  have := List.pairwise_iff_getElem.1 h j i (by omega) hi (by omega)
  rw [List.getElem_take]
  simp [this.1, this.2]

/-- The taken moves: what the statement asks of them. -/
structure Once (gone come : List Tx) (least : Nat) (out : List Mv) : Prop where
  apart : out.Pairwise Apart
  much : ∀ m ∈ out, ¬ fkey m.sc < fkey least
  down : ∀ i (hi : i + 1 < out.length), ¬ fkey (out[i]'(by omega)).sc < fkey (out[i + 1]'hi).sc
  rest : ∀ a ∈ gone, ∀ b ∈ come, cntS out a.path = 0 → cntD out b.path = 0 → fkey (alw a.lines b.lines) < fkey least
  ok : ∀ m ∈ out, okM m
  len : out.length ≤ gone.length * come.length

theorem allM_mem {gone come : List Tx} {least : Nat} {m : Mv} (h : m ∈ allM gone come least) : ¬ fkey m.sc < fkey least := by
  obtain ⟨a, ha, h⟩ := List.mem_flatMap.1 h
  obtain ⟨b, hb, h⟩ := List.mem_flatMap.1 h
  unfold mv1 at h
  split at h
  · cases h
  · rename_i hn
    rw [List.mem_singleton] at h
    subst h
    exact hn

theorem once_of {gone come : List Tx} {least : Nat} {l' : List Mv} (hp : l'.Perm (allM gone come least)) (hs : l'.Pairwise (fun x y => ¬ ordI y x < 0)) (h1 : ∀ t ∈ gone, t.path.size ≤ 10000000) (h2 : ∀ t ∈ come, t.path.size ≤ 10000000) : Once gone come least (grd [] l') := by
  obtain ⟨l2, hsub, he⟩ := grd_sub l' []
  rw [List.nil_append] at he
  have hmem : ∀ m ∈ grd [] l', m ∈ allM gone come least := fun m hm => hp.mem_iff.1 (hsub.subset (by rw [← he]; exact hm))
  refine ⟨grd_apart l' [] List.Pairwise.nil, fun m hm => allM_mem (hmem m hm), fun i hi => ?_, fun a ha b hb c1 c2 => ?_, fun m hm => allM_ok h1 h2 m (hmem m hm), ?_⟩
  · have hs2 : (grd [] l').Pairwise (fun x y => ¬ ordI y x < 0) := by rw [he]; exact hs.sublist hsub
    have := List.pairwise_iff_getElem.1 hs2 i (i + 1) (by omega) hi (by omega)
    rw [ordI_lt] at this
    omega
  · by_cases hlt : fkey (alw a.lines b.lines) < fkey least
    · exact hlt
    · exfalso
      have hm : (⟨a.path, b.path, alw a.lines b.lines⟩ : Mv) ∈ l' := by
        refine hp.mem_iff.2 (List.mem_flatMap.2 ⟨a, ha, List.mem_flatMap.2 ⟨b, hb, ?_⟩⟩)
        rw [mv1, if_neg hlt]; simp
      have hu := grd_used l' [] _ hm
      rw [(cnt_used (grd [] l') ⟨a.path, b.path, alw a.lines b.lines⟩).2 ⟨c1, c2⟩] at hu
      cases hu
  · have e1 : (grd [] l').length ≤ l'.length := by rw [he]; exact hsub.length_le
    have e2 := hp.length_eq
    have e3 := allM_le least gone come
    omega

/-- How many lines texts have. -/
def totL (ts : List Tx) : Nat := (ts.map fun t => t.lines.length).sum

theorem totL_take (ts : List Tx) (k : Nat) (hk : k < ts.length) : totL (ts.take (k + 1)) = totL (ts.take k) + ts[k].lines.length := by
  unfold totL
  rw [List.take_succ_eq_append_getElem hk, List.map_append, List.sum_append]
  simp only [List.map_cons, List.map_nil, List.sum_cons, List.sum_nil, Nat.add_zero]

theorem totL_le (ts : List Tx) (k : Nat) (hk : k < ts.length) : totL (ts.take k) + ts[k].lines.length ≤ totL ts := by
  rw [← totL_take ts k hk]
  unfold totL
  conv => rhs; rw [← List.take_append_drop (k + 1) ts]
  rw [List.map_append, List.sum_append]
  exact Nat.le_add_right _ _

theorem totL_mem {ts : List Tx} {t : Tx} (h : t ∈ ts) : t.lines.length ≤ totL ts := by
  obtain ⟨k, hk, rfl⟩ := List.getElem_of_mem h
  have := totL_le ts k hk
  omega

set_option maxRecDepth 100000 in
theorem small_c (a : Option Addr) (c : Nat) (ts : List Tx) (w : World) (hs : TxS w a ts) (hl : ts.length ≤ 10000000) (ht : totL ts ≤ 100000000) :
    Calls Tryd.prog 12 #[.slice a ts.length c] w fun e w' => e = .returned (.bool (decide (totL ts ≤ 200))) ∧ RowKit.Below w.heap.size w w' := by
  have HT := Lib.hid (fun k (hk : k < ts.length) => totL_take ts k hk)
  have HL := Lib.hid (fun k (hk : k < ts.length) => totL_le ts k hk)
  have HE : Hid (totL (ts.take ts.length) = totL ts) := by show _ = _; rw [List.take_length]
  go_enter Tryd.func12, Tryd.ntmps12
  go_wp2_with fail
  go_loopw [3, 8] (fun nv iv wr => ∃ k n : Nat, k ≤ ts.length ∧ iv = .int .i64 k ∧ nv = .int .i64 n ∧ Hid (n = totL (ts.take k)) ∧ RowKit.Below w.heap.size w wr) (fun _ iv _ => ts.length - (intOf iv).toNat)
  case atStart => exact ⟨0, 0, by omega, rfl, rfl, rfl, RowKit.Below.refl _ _⟩
  case round =>
    obtain ⟨k, n, hk, rfl, rfl, HN, hb⟩ := hrel
    by_cases hlt : k < ts.length
    · obtain ⟨bb, ob, rfl, hbl, hbp, ad, cd, hbc, hsb⟩ := hs.at hlt
      have hbp' : wr.cell? ⟨bb, ob + k * 2, none⟩ = some (.string ts[k].path) := by rw [hb.cell (p := ⟨bb, _, none⟩) hbl]; exact hbp
      have hbc' : wr.cell? ⟨bb, ob + k * 2 + 1, none⟩ = some (.slice ad ts[k].lines.length cd) := by rw [hb.cell (p := ⟨bb, _, none⟩) hbl]; exact hbc
      have hii : (k : Int) < ts.length := by omega
      have hii0 : (0 : Int) ≤ k := by omega
      have hn2 : n + ts[k].lines.length ≤ totL ts := by rw [HN.out]; exact HL.out k hlt
      have HN2 : Hid (n + ts[k].lines.length = totL (ts.take (k + 1))) := by show _ = _; rw [HN.out, HT.out k hlt]
      have hw : IntKind.i64.wrap ((n : Int) + (ts[k].lines.length : Int)) = ((n + ts[k].lines.length : Nat) : Int) := by rw [← Int.natCast_add]; exact IntWalk.i64_in _ (by omega)
      generalize ts[k] = t at *
      clear hbp hbc hsb HN
      go_wp2_with fail
      go_roundw
      case rel => exact ⟨k + 1, n + t.lines.length, by omega, by go_num, by go_num, HN2, hb.alloc hb.size _⟩
      case measure => simp [intOf]; omega
    · have hii : ¬ (k : Int) < ts.length := by omega
      have HN2 : Hid (n = totL ts) := by show _ = _; rw [HN.out, show k = ts.length by omega, HE.out]
      go_wp2_with fail
      go_ret
      exact ⟨ret_bool (by rw [← HN2.out]; first | rfl | (rw [decide_eq_decide]; omega)), hb⟩
end Go.Proofs.YtlnifigbnpdemaaDoor
