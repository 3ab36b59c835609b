/- Texts of mine, joined: Arrays of flags and of ids held against themselves. -/
import Derived.Test.YtpcipdkoncmdcaaGreatDoorZ33
namespace Go.Proofs.YtpcipdkoncmdcaaGreatDoor
open Go Go.RowKit

theorem b3_under : Tryz.prog.underlying 45 = some (.array 3 4) := by kernel_rfl
theorem ids3_under : Tryz.prog.underlying 46 = some (.array 3 43) := by kernel_rfl
theorem b3_same (x y z : Bool) (w : World) : (binOp .neq 45 (.agg #[.bool x, .bool y, .bool z]) (.agg #[.bool x, .bool y, .bool z])).run Tryz.prog w = .ok (.bool false) w := by
  cases x <;> cases y <;> cases z <;> kernel_rfl
theorem ids3_cells : Tryz.prog.cellsOf 46 = 96 := by kernel_rfl
theorem ids3_deep : Tryz.prog.keyTypeAt 3 46 = true := by kernel_rfl
theorem ids3_ktype : Tryz.prog.keyType 46 = true := by kernel_rfl
set_option maxRecDepth 100000 in
theorem ids3_lits (d : Nat) {a b c : List Nat} (ha : OkId a) (hb : OkId b) (hc : OkId c) : Tryz.prog.keyLits (d + 3) 46 (nb a ++ (nb b ++ nb c)) = some (idLs a ++ (idLs b ++ idLs c)) := by
  have la := nb_len a
  have lb := nb_len b
  have lc := nb_len c
  rw [ha.1] at la
  rw [hb.1] at lb
  rw [hc.1] at lc
  have hl : (nb a ++ (nb b ++ nb c)).length = Tryz.prog.cellsOf 46 := by rw [ids3_cells, List.length_append, List.length_append, la, lb, lc]
  have hm : (List.range 3).mapM (fun i => Tryz.prog.keyLits (d + 2) 43 (((nb a ++ (nb b ++ nb c)).drop (i * Tryz.prog.cellsOf 43)).take (Tryz.prog.cellsOf 43))) = some [idLs a, idLs b, idLs c] := by
    have h := lits_map (fun i => Tryz.prog.keyLits (d + 2) 43 (((nb a ++ (nb b ++ nb c)).drop (i * Tryz.prog.cellsOf 43)).take (Tryz.prog.cellsOf 43))) (fun i => if i = 0 then idLs a else if i = 1 then idLs b else idLs c) (List.range 3) (fun i hi => by
      rw [List.mem_range] at hi
      rw [id_cells]
      rcases i with _ | _ | _ | i
      · rw [Nat.zero_mul, List.drop_zero, List.take_left' la]; exact id_lits d ha
      · rw [Nat.zero_add, Nat.one_mul, List.drop_left' la, List.take_left' lb]; exact id_lits d hb
      · rw [show (0 + 1 + 1) * 32 = (nb a ++ nb b).length by rw [List.length_append, la, lb], ← List.append_assoc, List.drop_left, List.take_of_length_le (by omega)]; exact id_lits d hc
      · omega)
    rw [h]; rfl
  unfold Program.keyLits
  simp only [ids3_under]
  rw [if_pos hl, hm]
  show some _ = some _
  congr 1
  simp
set_option maxRecDepth 100000 in
theorem ids3_key {a b c : List Nat} (ha : OkId a) (hb : OkId b) (hc : OkId c) : ∃ l, keyOf Tryz.prog 46 (.agg (nums .u8 (a ++ (b ++ c)))) = some l := by
  have hl := ids3_lits (Tryz.prog.types.size - 2) ha hb hc
  have hsz : Tryz.prog.types.size - 2 + 3 = Tryz.prog.types.size + 1 := by
    have : 1 < Tryz.prog.types.size := of_decide_eq_true (by kernel_rfl)
    omega
  rw [hsz] at hl
  have hn : (nums .u8 (a ++ (b ++ c))).toList = nb a ++ (nb b ++ nb c) := by rw [nums_nb]; simp [nb]
  have hf : (Value.agg (nums .u8 (a ++ (b ++ c)))).formed Tryz.prog 46 = true := by
    have h9 : (a ++ (b ++ c)).length = 96 := by rw [List.length_append, List.length_append, ha.1, hb.1, hc.1]
    simp only [Value.formed, ids3_under, nums_size, h9, ids3_cells]; rfl
  unfold keyOf
  simp only [ids3_under, ids3_ktype, hf]
  show ∃ l, Option.map _ (Tryz.prog.keyLits (Tryz.prog.types.size + 1) 46 (nums .u8 (a ++ (b ++ c))).toList) = _
  rw [hn, hl]; exact ⟨_, rfl⟩
theorem ids3_same {a b c : List Nat} (ha : OkId a) (hb : OkId b) (hc : OkId c) (w : World) : (binOp .neq 46 (.agg (nums .u8 (a ++ (b ++ c)))) (.agg (nums .u8 (a ++ (b ++ c))))).run Tryz.prog w = .ok (.bool false) w := by
  obtain ⟨l, hk⟩ := ids3_key ha hb hc
  obtain ⟨r, h1, h2⟩ := run_equal_deep (P := Tryz.prog) w (m := 3) (by decide) ids3_deep (by rw [ids3_under]) hk hk
  have hr : r = true := h2.2 rfl
  subst hr
  exact binop_neq h1
end Go.Proofs.YtpcipdkoncmdcaaGreatDoor
