/- Walk: raw texts handed on to the reference. -/
import Derived.Test.YtlnifigbnpdemaaDoorScoreMvB
import Derived.Test.YtlnifigbnpdemaaDoorScoreOc
namespace Go.Proofs.YtlnifigbnpdemaaDoor
open Go Go.RowKit

theorem textElem : Elem Tryd.prog 40 72 (.agg #[.string ByteArray.empty, .slice none 0 0]) 2 40 := ⟨by kernel_rfl, by kernel_rfl⟩

/-- Cells of texts. -/
structure TRow (w : World) (ts : List Tx) (cs : List Value) : Prop where
  len : cs.length = ts.length * 2
  at' : ∀ (i : Nat) (hi : i < ts.length), cs[i * 2]? = some (.string ts[i].path) ∧ ∃ ad c, cs[i * 2 + 1]? = some (.slice ad ts[i].lines.length c) ∧ Sl w ad (ts[i].lines.map Value.string)

theorem TRow.nil (w : World) : TRow w [] [] := ⟨rfl, fun _ hi => absurd hi (Nat.not_lt_zero _)⟩

theorem TRow.snoc {w : World} {ts : List Tx} {cs : List Value} (h : TRow w ts cs) (t : Tx) (ad : Option Addr) (c : Nat) (hs : Sl w ad (t.lines.map Value.string)) : TRow w (ts ++ [t]) (cs ++ [.string t.path, .slice ad t.lines.length c]) := by
  refine ⟨by rw [List.length_append, List.length_append, h.len]; simp; omega, fun i hi => ?_⟩
  rw [List.length_append, List.length_singleton] at hi
  by_cases e : i < ts.length
  · rw [List.getElem_append_left e, List.getElem?_append_left (by rw [h.len]; omega), List.getElem?_append_left (by rw [h.len]; omega)]
    exact h.at' i e
  · obtain rfl : i = ts.length := by omega
    rw [List.getElem_append_right (Nat.le_refl _), List.getElem?_append_right (by rw [h.len]; omega), List.getElem?_append_right (by rw [h.len]; omega)]
    simp only [h.len, Nat.sub_self, List.getElem_singleton, show ts.length * 2 + 1 - ts.length * 2 = 1 by omega]
    exact ⟨rfl, ad, c, rfl, hs⟩

theorem TRow.below {w w' : World} {ts : List Tx} {cs : List Value} (h : TRow w ts cs) (hb : Below w.heap.size w w') : TRow w' ts cs :=
  ⟨h.len, fun i hi => by obtain ⟨h1, ad, c, h2, h3⟩ := h.at' i hi; exact ⟨h1, ad, c, h2, h3.below hb⟩⟩

theorem TRow.txs {w : World} {base : Nat} {v : Value} {ts : List Tx} {cs : List Value} (ho : w.ownsRow base 72 2 v ts.length cs) (w0 : World) (h : TRow w0 ts cs) (hb : Below w0.heap.size w0 w) : ∃ a c, v = .slice a ts.length c ∧ TxS w a ts := by
  obtain ⟨a, c, rfl, hs⟩ := own_slN ho
  refine ⟨a, c, rfl, ?_⟩
  cases ts with
  | nil => exact .inl rfl
  | cons t ts =>
    have hl := h.len
    rcases hs with e | ⟨b, o, ha, hlt, hc⟩
    · subst e; simp at hl
    · refine .inr ⟨b, o, ha, hlt, fun i hi => ?_⟩
      obtain ⟨h1, ad, c, h2, h3⟩ := h.at' i hi
      exact ⟨hc _ _ h1, ad, c, by rw [Nat.add_assoc]; exact hc _ _ h2, h3.below hb⟩

set_option maxRecDepth 100000 in
set_option maxHeartbeats 1000000 in
theorem plain_c (a : Option Addr) (c : Nat) (ts : List Tx) (w : World) (hs : TxS w a ts) (hl : ts.length ≤ 10000000) :
    Calls Tryd.prog 15 #[.slice a ts.length c] w fun e w' => ∃ a2 c2, e = .returned (.slice a2 ts.length c2) ∧ TxS w' a2 ts ∧ Below w.heap.size w w' := by
  have HE := Lib.hid (List.take_length (l := ts))
  go_enter Tryd.func15, Tryd.ntmps15
  go_wp2_with fail
  go_loopw [3, 8] (fun v iv wr => ∃ (k : Nat) (cs : List Value), k ≤ ts.length ∧ iv = .int .i64 k ∧ wr.ownsRow w.heap.size 72 2 v k cs ∧ Hid (TRow w (ts.take k) cs) ∧ Below w.heap.size w wr) (fun _ iv _ => ts.length - (intOf iv).toNat)
  case atStart => exact ⟨0, [], by omega, rfl, World.ownsRow_nil _ _ _ _, by rw [List.take_zero]; exact TRow.nil w, Below.refl _ _⟩
  case round =>
    obtain ⟨k, cs, hk, rfl, hown, HR, hb⟩ := hrel
    by_cases hlt : k < ts.length
    · obtain ⟨bb, ob, rfl, hbl, hbp, ad, cd, hbc, hsb⟩ := hs.at hlt
      have hbp' : wr.cell? ⟨bb, ob + k * 2, none⟩ = some (.string ts[k].path) := by rw [hb.cell (p := ⟨bb, _, none⟩) hbl]; exact hbp
      have hbc' : wr.cell? ⟨bb, ob + k * 2 + 1, none⟩ = some (.slice ad ts[k].lines.length cd) := by rw [hb.cell (p := ⟨bb, _, none⟩) hbl]; exact hbc
      have hii : (k : Int) < ts.length := by omega
      have hii0 : (0 : Int) ≤ k := by omega
      have HN : Hid (TRow w (ts.take (k + 1)) (cs ++ [.string ts[k].path, .slice ad ts[k].lines.length cd])) := by
        have := HR.out.snoc ts[k] ad cd hsb
        rw [List.take_succ_eq_append_getElem hlt]
        exact this
      generalize ts[k] = t at *
      have hbb := hb.alloc hb.size (.cells #[.string t.path, .slice ad t.lines.length cd] 48)
      have hown2 := hown.alloc (.cells #[.string t.path, .slice ad t.lines.length cd] 48)
      have hpb2 : (wr.alloc (.cells #[.string t.path, .slice ad t.lines.length cd] 48)).heap[wr.heap.size]? = some (.cells #[.string t.path, .slice ad t.lines.length cd] 48 (0, 0)) := (Go.MapKept.heap_alloc wr _).1
      clear hbp hbc hsb HR hown hb
      go_wp2_with (at_builtin; (refine wp_appN (news := [.string t.path, .slice ad t.lines.length cd]) rfl _ _ _ rfl textElem rfl (by decide) rfl hown2 ?hx rfl ?h1 ?h2 ?h3 hbb.size ?hh); (case hx => first | rfl | (show Value.slice (some ⟨wr.heap.size + 1, 0, none⟩) 1 1 = Value.slice (some ⟨(wr.alloc _).heap.size, 0, none⟩) 1 1; simp) | trace "HX"); (case h1 => first | (simp [Value.oneCell']; done) | (intro u hu; simp only [List.mem_cons, List.mem_nil_iff, or_false] at hu; rcases hu with rfl | rfl <;> rfl) | trace "H1"); (case h2 => omega); (case h3 => simp [maxLen]; omega))
      intro v' w5 hown5 hg5 hb5
      go_wp2_with fail
      go_roundw
      case rel => exact ⟨k + 1, cs ++ [.string t.path, .slice ad t.lines.length cd], by omega, by go_num, hown5, HN, hbb.trans hb5⟩
      case measure => simp [intOf]; omega
    · have hii : ¬ (k : Int) < ts.length := by omega
      have hR := HR.out
      rw [show k = ts.length by omega, HE.out] at hR
      rw [show k = ts.length by omega] at hown
      obtain ⟨a2, c2, rfl, htx⟩ := TRow.txs hown w hR hb
      have HTX := Lib.hid htx
      clear hR htx hown HR
      go_wp2_with fail
      go_ret
      exact ⟨a2, ⟨c2, rfl⟩, HTX.out, hb⟩
end Go.Proofs.YtlnifigbnpdemaaDoor
