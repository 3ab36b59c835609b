/- Texts of mine, joined: An outcome beside a file. | Walk: is a merging small enough; no blobs. | The law of merging again: the walk. -/
import Derived.Test.YtpcipdkoncmdcaaGreatDoorYJoinApart28
namespace Go.Proofs.YtpcipdkoncmdcaaGreatDoor
open Go Go.RowKit
theorem out_zsz {x : Ov} (h : (ouC x).length = 135) : Tryz.zeroCells54.size = (ouC x).toArray.size := by
  have e1 : Tryz.zeroCells54.size = 135 := by kernel_rfl
  have e2 : (ouC x).toArray.size = 135 := by rw [List.size_toArray, h]
  rw [e1, e2]
theorem out_isz {x : Ov} (h : (ouC x).length = 135) : (Tryz.prog.info? 54).map (·.size) = some (ouC x).toArray.size := by
  have e2 : (ouC x).toArray.size = 135 := by rw [List.size_toArray, h]
  rw [e2]; exact out_info
/-- The outcome in the block p is the file at b, o kept. -/
structure CmpS (W : World) (p b o : Nat) (f : Fi) : Prop where
  kd : W.cell? ⟨p, 1, none⟩ = some (.int .i64 1)
  pa : W.cell? ⟨p, 0, none⟩ = some (.string f.path)
  id : W.rangeAt p 2 (nb f.id)
  st : W.cell? ⟨p, 34, none⟩ = some (.float .f64 (cn f.stamp))
  fp : W.cell? ⟨b, o, none⟩ = some (.string f.path)
  fi : W.rangeAt b (o + 1) (nb f.id)
  fs : W.cell? ⟨b, o + 33, none⟩ = some (.float .f64 f.stamp)
theorem cmpS_of {W : World} {p b o : Nat} {f : Fi} {x : Ov} (hf : OkFi f) (h1 : W.heap[p]? = some (.cells (ouC x).toArray 54 (0, 0))) (h2 : W.rangeAt b o (fiC f)) (hp : x.o.path = f.path) (hk : x.o.kind = 1) (hi : x.o.id = f.id) (hs : x.o.stamp = cn f.stamp) : CmpS W p b o f := by
  have hc : ∀ j u, (ouC x)[j]? = some u → W.cell? ⟨p, j, none⟩ = some u := fun j u hu => by simp only [World.cell?, h1]; simpa using hu
  have hl := hf.id.1
  refine ⟨hc 1 _ (by unfold ouC; rw [hk]; rfl), hc 0 _ (by unfold ouC; rw [hp]; rfl), fun j u hu => ?_, ?_, h2 0 _ rfl, fun j u hu => ?_, ?_⟩
  · refine hc (2 + j) u ?_
    unfold ouC
    rw [hi, show 2 + j = j + 1 + 1 by omega, List.getElem?_cons_succ, List.getElem?_cons_succ, List.getElem?_append_left (List.getElem?_eq_some_iff.1 hu).1]; exact hu
  · refine hc 34 _ ?_
    unfold ouC
    rw [hi, hs, show (34 : Nat) = 32 + 1 + 1 from rfl, List.getElem?_cons_succ, List.getElem?_cons_succ, List.getElem?_append_right (by rw [nb_len, hl]; exact Nat.le_refl _), nb_len, hl]; rfl
  · rw [Nat.add_assoc]
    refine h2 (1 + j) u ?_
    unfold fiC
    rw [show 1 + j = j + 1 by omega, List.getElem?_cons_succ, List.getElem?_append_left (List.getElem?_eq_some_iff.1 hu).1]; exact hu
  · refine h2 33 _ ?_
    unfold fiC
    rw [show (33 : Nat) = 32 + 1 from rfl, List.getElem?_cons_succ, List.getElem?_append_right (by rw [nb_len, hl]; exact Nat.le_refl _), nb_len, hl]; rfl
theorem CmpS.dn {W : World} {p b o : Nat} {f : Fi} (h : CmpS W p b o f) (n : Nat) : CmpS (W.drewN n) p b o f := ⟨h.kd, h.pa, h.id, h.st, h.fp, h.fi, h.fs⟩
end Go.Proofs.YtpcipdkoncmdcaaGreatDoor
namespace Go.Proofs.YtpcipdkoncmdcaaGreatDoor
open Go Go.RowKit
end Go.Proofs.YtpcipdkoncmdcaaGreatDoor
namespace Go.Proofs.YtpcipdkoncmdcaaGreatDoor
open Go Go.RowKit
end Go.Proofs.YtpcipdkoncmdcaaGreatDoor
