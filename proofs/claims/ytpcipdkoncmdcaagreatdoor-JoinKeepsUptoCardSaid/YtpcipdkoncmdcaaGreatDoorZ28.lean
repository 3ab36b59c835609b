/- Texts of mine, joined: Ids, files, snapshots, blobs that came in, opened. -/
import Derived.Test.YtpcipdkoncmdcaaGreatDoorZ27
namespace Go.Proofs.YtpcipdkoncmdcaaGreatDoor
open Go Go.ChangeShapes Go.WideShapes Go.ChangeAt Go.RowKit

section
variable {H : Type} {enc : TypeId × Value → H} {W : World}
theorem flat_nb (l : List Nat) : (l.flatMap fun (n : Nat) => [Value.int .u8 (n : Int)]) = nb l := by
  induction l with
  | nil => rfl
  | cons x l ih => rw [List.flatMap_cons, ih]; rfl
set_option maxRecDepth 100000 in
theorem opn_id : Opn enc Tryz.prog W 43 (List Nat) nb (fun l _ => OkId l) := by
  intro n cs x h
  obtain ⟨y, h1, h2, -, -, h5⟩ := (opn_arr (enc := enc) (W := W) (ok := fun (n : Nat) b => 0 < b ∧ n < 256) id_under (k := 1) (by kernel_rfl) (by kernel_rfl) (by decide) (fun _ a b hab h => ⟨Nat.lt_of_lt_of_le h.1 hab, h.2⟩) (fun _ => 0) (fun _ _ _ => Nat.zero_le _) (opn_u8 Tryz.underlying5)) n cs x h
  exact ⟨y, Eq.trans h1 (flat_nb y), h2, fun z hz => (h5 z hz).2⟩
set_option maxRecDepth 100000 in
theorem open_id {base : Nat} {v : Value} {d : DataW H} {p : List MemPlace} (hv : Value.okWide Tryz.prog W .any base 43 v) (h : DataW.Trod enc Tryz.prog W 0 (fun _ => true) true 43 v d p) : ∃ l, v = .agg (nums .u8 l) ∧ OkId l := by
  obtain ⟨cs, rfl, -⟩ := arr_okWide id_under hv
  obtain ⟨l, h1, h2⟩ := opn_id.arg h
  have : cs.toList = nb l := h1
  exact ⟨l, by rw [show cs = (nb l).toArray by rw [← this]]; rfl, h2⟩
set_option maxRecDepth 100000 in
theorem open_f3 {base : Nat} {v : Value} {d : DataW H} {p : List MemPlace} (hv : Value.okWide Tryz.prog W .any base 64 v) (h : DataW.Trod enc Tryz.prog W 0 (fun _ => true) true 64 v d p) : ∃ s : T3 Nat, v = .agg #[.float .f64 s.a, .float .f64 s.b, .float .f64 s.c] ∧ s.a < 2 ^ 64 ∧ s.b < 2 ^ 64 ∧ s.c < 2 ^ 64 := by
  obtain ⟨cs, rfl, -⟩ := arr_okWide Tryz.underlying64 hv
  obtain ⟨l, h1, h2, -, -, h5⟩ := (opn_arr (enc := enc) (W := W) (ok := fun (n : Nat) b => 0 < b ∧ n < 2 ^ 64) Tryz.underlying64 (k := 1) (by kernel_rfl) (by kernel_rfl) (by decide) (fun _ a b hab h => ⟨Nat.lt_of_lt_of_le h.1 hab, h.2⟩) (fun _ => 0) (fun _ _ _ => Nat.zero_le _) (opn_f64 Tryz.underlying44)).arg h
  have h1 : cs.toList = l.flatMap fun n => [Value.float .f64 n] := h1
  rcases l with _ | ⟨a, _ | ⟨b, _ | ⟨c, _ | ⟨e, l⟩⟩⟩⟩
  · simp at h2
  · simp at h2
  · simp at h2
  · refine ⟨⟨a, b, c⟩, ?_, (h5 a (by simp)).2, (h5 b (by simp)).2, (h5 c (by simp)).2⟩
    rw [show cs = (cs.toList).toArray by simp, h1]; rfl
  · simp at h2

set_option maxRecDepth 100000 in
theorem opn_file : Opn enc Tryz.prog W 56 Fi fiC (fun f b => OkId f.id ∧ f.stamp < 2 ^ 64 ∧ f.path.size < b) := by
  intro n cs x h
  obtain ⟨xs, m, -, hx, hl, hxl, hf⟩ := DataW.trod_struct Tryz.underlying56 h
  have hxl : xs.length = 3 := hxl
  rcases xs with _ | ⟨x0, _ | ⟨x1, _ | ⟨x2, _ | ⟨x3, l⟩⟩⟩⟩
  · simp at hxl
  · simp at hxl
  · simp at hxl
  · obtain ⟨p, e0, b0⟩ := opn_str (W := W) Tryz.underlying9 m _ x0 (hf 0 _ rfl)
    obtain ⟨i, e1, b1⟩ := opn_id (W := W) m _ x1 (hf 1 _ rfl)
    obtain ⟨s, e2, b2⟩ := opn_f64 (W := W) Tryz.underlying44 m _ x2 (hf 2 _ rfl)
    have hcl : cs.length = 34 := hl.trans (by kernel_rfl)
    have k0 : (Tryz.prog).cellsOf 9 = 1 := by kernel_rfl
    have k1 : (Tryz.prog).cellsOf 43 = 32 := by kernel_rfl
    have k2 : (Tryz.prog).cellsOf 44 = 1 := by kernel_rfl
    have e0 : (cs.drop 0).take 1 = [.string p] := by rw [← k0]; exact e0
    have e1 : (cs.drop 1).take 32 = nb i := by rw [← k1]; exact e1
    have e2 : (cs.drop 33).take 1 = [.float .f64 s] := by rw [← k2]; exact e2
    have hcs : cs = fiC ⟨p, i, s⟩ := by
      have a1 : cs = (cs.drop 0).take 1 ++ ((cs.drop 1).take 32 ++ (cs.drop 33).take 1) := by
        rw [List.take_of_length_le (l := cs.drop 33) (by rw [List.length_drop]; omega), show cs.drop 33 = (cs.drop 1).drop 32 by rw [List.drop_drop], List.take_append_drop, List.drop_zero, List.take_append_drop]
      rw [a1, e0, e1, e2]; rfl
    have hb : Rows.uptoBulk x.1 = Rows.uptoBulk x0.1 + (Rows.uptoBulk x1.1 + (Rows.uptoBulk x2.1 + 0)) + 1 := by
      rw [hx]; simp only [Rows.uptoBulk, Rows.uptoBulkAll, List.map_cons, List.map_nil]
    exact ⟨⟨p, i, s⟩, hcs, b1, b2.2, by show p.size < _; omega⟩
  · simp at hxl
theorem file_mono : ∀ (f : Fi) (a b : Nat), a ≤ b → (OkId f.id ∧ f.stamp < 2 ^ 64 ∧ f.path.size < a) → OkId f.id ∧ f.stamp < 2 ^ 64 ∧ f.path.size < b := fun _ _ _ hab h => ⟨h.1, h.2.1, Nat.lt_of_lt_of_le h.2.2 hab⟩
instance : Inhabited Fi := ⟨⟨ByteArray.empty, [], 0⟩⟩
set_option maxRecDepth 100000 in
/-- A snapshot's files. -/
theorem opn_files : Opn enc Tryz.prog W 22 (Option Addr × Nat × List Fi) (fun y => [.slice y.1 y.2.2.length y.2.1]) (fun y b => Sl W y.1 (fiR y.2.2) ∧ y.2.2.length < b ∧ ∀ f ∈ y.2.2, OkId f.id ∧ f.stamp < 2 ^ 64 ∧ f.path.size < b) := by
  intro n cs x h
  obtain ⟨y, e, h1, -, h3, -, h5⟩ := (opn_slice (enc := enc) (W := W) Tryz.underlying22 (k := 34) (by kernel_rfl) (by decide) file_mono (fun _ => 0) (fun _ _ _ => Nat.zero_le _) opn_file) n cs x h
  exact ⟨y, e, h1, h3, h5⟩
theorem files_fs {y : Option Addr × Nat × List Fi} {b : Nat} (h : Sl W y.1 (fiR y.2.2) ∧ y.2.2.length < b ∧ ∀ f ∈ y.2.2, OkId f.id ∧ f.stamp < 2 ^ 64 ∧ f.path.size < b) (hb : b ≤ 1048576) : FS W (.slice y.1 y.2.2.length y.2.1) y.2.2 :=
  ⟨⟨y.1, y.2.1, rfl, h.1⟩, fun f hf => ⟨(h.2.2 f hf).1, (h.2.2 f hf).2.1, by have := (h.2.2 f hf).2.2; omega⟩, by have := h.2.1; omega⟩
set_option maxRecDepth 100000 in
theorem open_files {base : Nat} {v : Value} {d : DataW H} {p : List MemPlace} (hv : Value.okWide Tryz.prog W .any base 22 v) (h : DataW.Trod enc Tryz.prog W 0 (fun _ => true) true 22 v d p) (hk : Rows.uptoBulk d ≤ 1048576) : ∃ l, FS W v l ∧ l.length ≤ 1048576 := by
  obtain ⟨a0, len, cap, rfl⟩ := okWide_slice Tryz.underlying22 hv
  obtain ⟨y, e, h1⟩ := opn_files.arg h
  have e := (List.cons.inj e).1
  rw [e]
  exact ⟨y.2.2, files_fs h1 hk, by have := h1.2.1; omega⟩
set_option maxRecDepth 100000 in
/-- Three snapshots. -/
theorem open_snaps {base : Nat} {v : Value} {d : DataW H} {p : List MemPlace} (hv : Value.okWide Tryz.prog W .any base 23 v) (h : DataW.Trod enc Tryz.prog W 0 (fun _ => true) true 23 v d p) (hk : Rows.uptoBulk d ≤ 1048576) :
    ∃ va vb vc, ∃ T : T3 (List Fi), v = .agg #[va, vb, vc] ∧ FS W va T.a ∧ FS W vb T.b ∧ FS W vc T.c := by
  obtain ⟨cs, rfl, -⟩ := arr_okWide Tryz.underlying23 hv
  obtain ⟨l, h1, h2, -, -, h5⟩ := (opn_arr (enc := enc) (W := W) Tryz.underlying23 (k := 1) (by kernel_rfl) (by kernel_rfl) (by decide) (ok := fun (y : Option Addr × Nat × List Fi) b => Sl W y.1 (fiR y.2.2) ∧ y.2.2.length < b ∧ ∀ f ∈ y.2.2, OkId f.id ∧ f.stamp < 2 ^ 64 ∧ f.path.size < b) (fun y a b hab h => ⟨h.1, Nat.lt_of_lt_of_le h.2.1 hab, fun f hf => file_mono f a b hab (h.2.2 f hf)⟩) (fun _ => 0) (fun _ _ _ => Nat.zero_le _) opn_files).arg h
  have h1 : cs.toList = l.flatMap fun y => [Value.slice y.1 y.2.2.length y.2.1] := h1
  rcases l with _ | ⟨a, _ | ⟨b, _ | ⟨c, _ | ⟨e, l⟩⟩⟩⟩
  · simp at h2
  · simp at h2
  · simp at h2
  · refine ⟨_, _, _, ⟨a.2.2, b.2.2, c.2.2⟩, ?_, files_fs (h5 a (by simp)) hk, files_fs (h5 b (by simp)) hk, files_fs (h5 c (by simp)) hk⟩
    rw [show cs = (cs.toList).toArray by simp, h1]; rfl
  · simp at h2
end
end Go.Proofs.YtpcipdkoncmdcaaGreatDoor
