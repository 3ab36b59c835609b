/- Slices of one-cell elements that came in, opened: of words and of whole numbers. -/
import Derived.Test.YtfoamcobpfflbaaDoorVfsBase
import Derived.Deep.Slices
namespace Go.Proofs.YtfoamcobpfflbaaDoor
open Go Go.ChangeShapes Go.WideShapes Go.ChangeAt Go.RowKit

theorem trod_float {P : Program} {H : Type} {enc : TypeId × Value → H} {w : World} {base : Nat} {spare : Nat → Bool} {held : Bool} {fuel : Nat} {t : TypeId} {cs : List Value} {x : DataW H × List MemPlace} {k : FloatKind}
    (ht : P.underlying t = some (.float k)) (h : DataW.trod enc P w base spare held fuel t cs = some x) : ∃ n, cs = [.float k n] ∧ x = (.lit (.float k n), []) ∧ (Lit.float k n).wf = true := by
  cases fuel with
  | zero => simp [DataW.trod] at h
  | succ n =>
    unfold DataW.trod at h
    rw [ht] at h
    split at h <;> simp_all

theorem int_wf {k : IntKind} {n a b : Int} (h : (Lit.int k n).wf = true) (ha : a = k.min) (hb : k.max = b) : a ≤ n ∧ n ≤ b := by
  simp only [Lit.wf, Bool.and_eq_true, decide_eq_true_eq] at h
  omega

/-- A slice of one-cell elements that came in, each of which is opened by X. -/
theorem open_row {α : Type} [Inhabited α] (P : Program) {H : Type} {enc : TypeId × Value → H} {W : World} {base : Nat} {v : Value} {d : DataW H} {p : List MemPlace} {t e : TypeId} (ht : P.underlying t = some (.slice e)) (hc : P.cellsOf e = 1) (f : α → Value) (ok : α → Prop)
    (X : ∀ (n : Nat) (u : Value) (x : DataW H × List MemPlace), DataW.trod enc P W 0 (fun _ => true) true n e [u] = some x → ∃ y, u = f y ∧ ok y)
    (hv : Value.okWide P W .any base t v) (h : DataW.Trod enc P W 0 (fun _ => true) true t v d p) (hk : Rows.uptoBulk d ≤ 1048576) :
    ∃ (a : Option Addr) (c : Nat) (xs : List α), v = .slice a xs.length c ∧ xs.length ≤ 1048576 ∧ (∀ y ∈ xs, ok y) ∧ Sl W a (xs.map f) := by
  obtain ⟨a0, len, cap, rfl⟩ := okWide_slice ht hv
  obtain ⟨fuel, hf⟩ := h
  rcases Go.Deep.open_slice1 ht hc hf with ⟨hcs, hx⟩ | ⟨a, len', cap', m, n, V, D, Pl, hcs, _, hl, hm, hmm, hx, hcell⟩
  · simp [Value.cells] at hcs
    obtain ⟨rfl, rfl, rfl⟩ := hcs
    exact ⟨none, 0, [], rfl, by simp, by simp, .nil _ _⟩
  · simp [Value.cells] at hcs
    obtain ⟨rfl, rfl, rfl⟩ := hcs
    simp at hmm
    have each : ∀ i, i < len → ∃ y : α, V i = f y ∧ ok y := fun i hi => X n (V i) _ (hcell i (by omega)).2
    obtain ⟨T, hT⟩ := Go.Deep.choose_lt each
    have hd : d = .slice ((List.range len).map D) ((List.range (m - len)).map fun j => D (len + j)) := congrArg Prod.fst hx
    rw [hd] at hk
    simp only [Rows.uptoBulk] at hk
    have hlen := bulk_length ((List.range len).map D)
    rw [List.length_map, List.length_range] at hlen
    refine ⟨some a, cap, (List.range len).map T, by simp, by simp; omega, fun y hy => ?_, ?_⟩
    · obtain ⟨i, hi, rfl⟩ := List.mem_map.1 hy
      exact (hT i (List.mem_range.1 hi)).2
    · by_cases h0 : len = 0
      · subst h0; exact .inl rfl
      · have h1 := (hcell 0 (by omega)).1
        have hsp : a.spot = none := cell_spot (b := a.block) (o := a.off) (by simpa [Addr.add] using h1)
        obtain ⟨b, o, sp⟩ := a
        simp at hsp
        subst hsp
        refine .inr ⟨b, o, rfl, World.block_lt_of_cell? W _ h1, fun i u hu => ?_⟩
        have hi : i < len := by
          have := (List.getElem?_eq_some_iff.1 hu).1
          simpa using this
        have h2 := (hcell i (by omega)).1
        rw [Addr.add_lit] at h2
        rw [h2, (hT i hi).1]
        rw [List.getElem?_map, List.getElem?_map, List.getElem?_range hi] at hu
        exact hu
end Go.Proofs.YtfoamcobpfflbaaDoor
