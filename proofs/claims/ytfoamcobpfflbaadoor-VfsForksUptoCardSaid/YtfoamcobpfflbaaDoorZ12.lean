/- Texts of mine, joined: One call at both: the program's and the document's. (Printed by a program of mine: /wip/mkla.py) | One call at both: the program's and the document's. (Printed by a program of mine: /wip/mkla.py) | One call at both, whatever call it is. | A drawn region whose callees lay blocks: the class of all worlds that have nothing old turned. Of every program. | Has a file system just the document's files: the law's question, answered. | The benches' first question of the file system. | The benches' first question of the file system: the walk. -/
import Derived.Test.YtfoamcobpfflbaaDoorZ11
namespace Go.Proofs.YtfoamcobpfflbaaDoor
open Go Go.RowKit Go.Maps
open VfsS (St cl clp So)

section
variable {E : Nat → Prop} {w0 w : World} {p : Nat} {S D : St} {N : Nat} {cs : Array Value} {o : OpD}

set_option maxRecDepth 100000 in
set_option maxHeartbeats 2000000 in
theorem ls_sync (hv : VE E w0 w p S N) (hr : RR E w cs (cl D) N) (ho : o.Ok w0) (hk : o.kind = 3) (hN : N + 3 ≤ 40000000) :
    Calls Tryd.prog 52 #[.pointer (some ⟨p, 0, none⟩), .agg cs, .agg (opCells o)] w (StepPost E w0 w p (VfsS.syncS S o.name).1 (VfsS.syncS D o.name).1 (N + 3) ((VfsS.syncS S o.name).2 == (VfsS.syncS D o.name).2)) := by
  have h0 := hr
  obtain ⟨fa, na, sa, aa, fc, nc, sc, ac, rfl, hx⟩ := hr
  clear hx
  have hF : FA E (Kx E w.heap.size (((w.alloc (.cells #[.slice fa (cl D).files.length fc, .slice na (cl D).now.length nc, .slice sa (cl D).sure.length sc, .slice aa (cl D).acts.length ac, .int .i64 (cl D).room, .int .i64 (cl D).steps, .int .i64 (cl D).limit] 36)).alloc (.cells (opCells o) 96)).alloc (.cells #[.slice none 0 0, .slice none 0 0, .slice none 0 0, .slice none 0 0, .int .i64 0, .int .i64 0, .int .i64 0] 36)).heap.size) w0 w (((w.alloc (.cells #[.slice fa (cl D).files.length fc, .slice na (cl D).now.length nc, .slice sa (cl D).sure.length sc, .slice aa (cl D).acts.length ac, .int .i64 (cl D).room, .int .i64 (cl D).steps, .int .i64 (cl D).limit] 36)).alloc (.cells (opCells o) 96)).alloc (.cells #[.slice none 0 0, .slice none 0 0, .slice none 0 0, .slice none 0 0, .int .i64 0, .int .i64 0, .int .i64 0] 36)) p S N w.heap.size (w.heap.size + 1) (w.heap.size + 1 + 1) (rcells (cl D) fa na sa aa fc nc sc ac) fs0 o := FA.start hv _ _ _
  have hrW := h0.foreign hF hv
  have hone := h0.one
  show Calls _ _ #[.pointer (some ⟨p, 0, none⟩), .agg #[.slice fa (cl D).files.length fc, .slice na (cl D).now.length nc, .slice sa (cl D).sure.length sc, .slice aa (cl D).acts.length ac, .int .i64 (cl D).room, .int .i64 (cl D).steps, .int .i64 (cl D).limit], .agg (opCells o)] _ _
  rw [show opCells o = #[.int .i64 3, .string o.name, .string o.dst, .slice o.da o.data.size o.dc, .int .i64 o.n, .int .i64 o.m] by unfold opCells; rw [hk]]
  rw [show opCells o = #[.int .i64 3, .string o.name, .string o.dst, .slice o.da o.data.size o.dc, .int .i64 o.n, .int .i64 o.m] by unfold opCells; rw [hk]] at hF hrW
  go_enter Tryd.func52, Tryd.ntmps52
  go_upto_region 2 with fail
  generalize ((w.alloc (.cells #[.slice fa (cl D).files.length fc, .slice na (cl D).now.length nc, .slice sa (cl D).sure.length sc, .slice aa (cl D).acts.length ac, .int .i64 (cl D).room, .int .i64 (cl D).steps, .int .i64 (cl D).limit] 36)).alloc (.cells #[.int .i64 3, .string o.name, .string o.dst, .slice o.da o.data.size o.dc, .int .i64 o.n, .int .i64 o.m] 96)).alloc (.cells #[.slice none 0 0, .slice none 0 0, .slice none 0 0, .slice none 0 0, .int .i64 0, .int .i64 0, .int .i64 0] 36) = W at *
  have c0 : W.cell? ⟨w.heap.size + 1, 0, none⟩ = some (.int .i64 3) := hF.c5 0 (by unfold opCells; rw [hk]; rfl)
  have c1 : W.cell? ⟨w.heap.size + 1, 1, none⟩ = some (.string o.name) := hF.c5 1 rfl
  have HP := Lib.hid (sync_e hF.v o.name ho.n1 (by omega))
  have HD := Lib.hid (fun (wx : World) (hr' : RR (Kx E w.heap.size W.heap.size) wx (rcells (cl D) fa na sa aa fc nc sc ac) (cl D) N) => dsync_r hr' o.name (by omega))
  have hwf := hv.wf
  clear hk
  generalize VfsS.syncS S o.name = X at *
  generalize VfsS.syncS D o.name = Y at *
  go_wp2_with (first
    | (go_at_call 46; refine HP.out.mono ?_; rintro e w1 ⟨rfl, hv1, hb1⟩; have hF1 := hF.prog hv1 hb1; have hr1 := hrW.blocks hb1; have g1 : w1.cell? ⟨w.heap.size + 1, 1, none⟩ = some (.string o.name) := hF1.c5 1 rfl)
    | (refine hF1.load4 rfl _ rfl rfl rfl ?_)
    | (go_at_call 24; refine (HD.out _ hr1).mono ?_; rintro e w2 ⟨cs2, rfl, hr2, hb2⟩; have hF2 := hF1.below hb2; have hr2' := hr2.upto; have hs2 := hr2.size; have ho2 := hr2.one)
    | (refine hF2.store4 rfl _ _ rfl rfl rfl rfl hs2 ho2 ?_; intro w3 hF3 hg3; have hr3 := hr2'.other hF2.h4 (by decide) hg3)
    | (refine hF3.load4 rfl _ rfl rfl hs2 ?_)
    | (refine hF3.store6 rfl _ _ rfl rfl rfl rfl hs2 ho2 ?_; intro w4 hF4 hg4; have hr4 := hr3.other hF3.h6 (by decide) hg4))
  (try simp only [Exit.inBlock, Exit.then])
  refine bodyPost_ret (hF4.ret2 hs2 rfl _ rfl) rfl ?_
  exact hF4.post (hr4.mono (by omega) hN) (by omega) (by omega) (by first | rfl | simp)

set_option maxRecDepth 100000 in
set_option maxHeartbeats 2000000 in
theorem ls_rename (hv : VE E w0 w p S N) (hr : RR E w cs (cl D) N) (ho : o.Ok w0) (hk : o.kind = 4) (hN : N + 3 ≤ 40000000) :
    Calls Tryd.prog 52 #[.pointer (some ⟨p, 0, none⟩), .agg cs, .agg (opCells o)] w (StepPost E w0 w p (VfsS.renameS S o.name o.dst).1 (VfsS.renameS D o.name o.dst).1 (N + 3) ((VfsS.renameS S o.name o.dst).2 == (VfsS.renameS D o.name o.dst).2)) := by
  have h0 := hr
  obtain ⟨fa, na, sa, aa, fc, nc, sc, ac, rfl, hx⟩ := hr
  clear hx
  have hF : FA E (Kx E w.heap.size (((w.alloc (.cells #[.slice fa (cl D).files.length fc, .slice na (cl D).now.length nc, .slice sa (cl D).sure.length sc, .slice aa (cl D).acts.length ac, .int .i64 (cl D).room, .int .i64 (cl D).steps, .int .i64 (cl D).limit] 36)).alloc (.cells (opCells o) 96)).alloc (.cells #[.slice none 0 0, .slice none 0 0, .slice none 0 0, .slice none 0 0, .int .i64 0, .int .i64 0, .int .i64 0] 36)).heap.size) w0 w (((w.alloc (.cells #[.slice fa (cl D).files.length fc, .slice na (cl D).now.length nc, .slice sa (cl D).sure.length sc, .slice aa (cl D).acts.length ac, .int .i64 (cl D).room, .int .i64 (cl D).steps, .int .i64 (cl D).limit] 36)).alloc (.cells (opCells o) 96)).alloc (.cells #[.slice none 0 0, .slice none 0 0, .slice none 0 0, .slice none 0 0, .int .i64 0, .int .i64 0, .int .i64 0] 36)) p S N w.heap.size (w.heap.size + 1) (w.heap.size + 1 + 1) (rcells (cl D) fa na sa aa fc nc sc ac) fs0 o := FA.start hv _ _ _
  have hrW := h0.foreign hF hv
  have hone := h0.one
  show Calls _ _ #[.pointer (some ⟨p, 0, none⟩), .agg #[.slice fa (cl D).files.length fc, .slice na (cl D).now.length nc, .slice sa (cl D).sure.length sc, .slice aa (cl D).acts.length ac, .int .i64 (cl D).room, .int .i64 (cl D).steps, .int .i64 (cl D).limit], .agg (opCells o)] _ _
  rw [show opCells o = #[.int .i64 4, .string o.name, .string o.dst, .slice o.da o.data.size o.dc, .int .i64 o.n, .int .i64 o.m] by unfold opCells; rw [hk]]
  rw [show opCells o = #[.int .i64 4, .string o.name, .string o.dst, .slice o.da o.data.size o.dc, .int .i64 o.n, .int .i64 o.m] by unfold opCells; rw [hk]] at hF hrW
  go_enter Tryd.func52, Tryd.ntmps52
  go_upto_region 2 with fail
  generalize ((w.alloc (.cells #[.slice fa (cl D).files.length fc, .slice na (cl D).now.length nc, .slice sa (cl D).sure.length sc, .slice aa (cl D).acts.length ac, .int .i64 (cl D).room, .int .i64 (cl D).steps, .int .i64 (cl D).limit] 36)).alloc (.cells #[.int .i64 4, .string o.name, .string o.dst, .slice o.da o.data.size o.dc, .int .i64 o.n, .int .i64 o.m] 96)).alloc (.cells #[.slice none 0 0, .slice none 0 0, .slice none 0 0, .slice none 0 0, .int .i64 0, .int .i64 0, .int .i64 0] 36) = W at *
  have c0 : W.cell? ⟨w.heap.size + 1, 0, none⟩ = some (.int .i64 4) := hF.c5 0 (by unfold opCells; rw [hk]; rfl)
  have c1 : W.cell? ⟨w.heap.size + 1, 1, none⟩ = some (.string o.name) := hF.c5 1 rfl
  have c2 : W.cell? ⟨w.heap.size + 1, 2, none⟩ = some (.string o.dst) := hF.c5 2 rfl
  have HP := Lib.hid (rename_e hF.v o.name o.dst ho.n1 ho.n2 (by omega))
  have HD := Lib.hid (fun (wx : World) (hr' : RR (Kx E w.heap.size W.heap.size) wx (rcells (cl D) fa na sa aa fc nc sc ac) (cl D) N) => drename_r hr' o.name o.dst ho.n1 ho.n2 (by omega))
  have hwf := hv.wf
  clear hk
  generalize VfsS.renameS S o.name o.dst = X at *
  generalize VfsS.renameS D o.name o.dst = Y at *
  go_wp2_with (first
    | (go_at_call 48; refine HP.out.mono ?_; rintro e w1 ⟨rfl, hv1, hb1⟩; have hF1 := hF.prog hv1 hb1; have hr1 := hrW.blocks hb1; have g1 : w1.cell? ⟨w.heap.size + 1, 1, none⟩ = some (.string o.name) := hF1.c5 1 rfl; have g2 : w1.cell? ⟨w.heap.size + 1, 2, none⟩ = some (.string o.dst) := hF1.c5 2 rfl)
    | (refine hF1.load4 rfl _ rfl rfl rfl ?_)
    | (go_at_call 82; refine (HD.out _ hr1).mono ?_; rintro e w2 ⟨cs2, rfl, hr2, hb2⟩; have hF2 := hF1.below hb2; have hr2' := hr2.upto; have hs2 := hr2.size; have ho2 := hr2.one)
    | (refine hF2.store4 rfl _ _ rfl rfl rfl rfl hs2 ho2 ?_; intro w3 hF3 hg3; have hr3 := hr2'.other hF2.h4 (by decide) hg3)
    | (refine hF3.load4 rfl _ rfl rfl hs2 ?_)
    | (refine hF3.store6 rfl _ _ rfl rfl rfl rfl hs2 ho2 ?_; intro w4 hF4 hg4; have hr4 := hr3.other hF3.h6 (by decide) hg4))
  (try simp only [Exit.inBlock, Exit.then])
  refine bodyPost_ret (hF4.ret2 hs2 rfl _ rfl) rfl ?_
  exact hF4.post (hr4.mono (by omega) hN) (by omega) (by omega) (by first | rfl | simp)

set_option maxRecDepth 100000 in
set_option maxHeartbeats 2000000 in
theorem ls_remove (hv : VE E w0 w p S N) (hr : RR E w cs (cl D) N) (ho : o.Ok w0) (hk : o.kind = 5) (hN : N + 3 ≤ 40000000) :
    Calls Tryd.prog 52 #[.pointer (some ⟨p, 0, none⟩), .agg cs, .agg (opCells o)] w (StepPost E w0 w p (VfsS.removeS S o.name).1 (VfsS.removeS D o.name).1 (N + 3) ((VfsS.removeS S o.name).2 == (VfsS.removeS D o.name).2)) := by
  have h0 := hr
  obtain ⟨fa, na, sa, aa, fc, nc, sc, ac, rfl, hx⟩ := hr
  clear hx
  have hF : FA E (Kx E w.heap.size (((w.alloc (.cells #[.slice fa (cl D).files.length fc, .slice na (cl D).now.length nc, .slice sa (cl D).sure.length sc, .slice aa (cl D).acts.length ac, .int .i64 (cl D).room, .int .i64 (cl D).steps, .int .i64 (cl D).limit] 36)).alloc (.cells (opCells o) 96)).alloc (.cells #[.slice none 0 0, .slice none 0 0, .slice none 0 0, .slice none 0 0, .int .i64 0, .int .i64 0, .int .i64 0] 36)).heap.size) w0 w (((w.alloc (.cells #[.slice fa (cl D).files.length fc, .slice na (cl D).now.length nc, .slice sa (cl D).sure.length sc, .slice aa (cl D).acts.length ac, .int .i64 (cl D).room, .int .i64 (cl D).steps, .int .i64 (cl D).limit] 36)).alloc (.cells (opCells o) 96)).alloc (.cells #[.slice none 0 0, .slice none 0 0, .slice none 0 0, .slice none 0 0, .int .i64 0, .int .i64 0, .int .i64 0] 36)) p S N w.heap.size (w.heap.size + 1) (w.heap.size + 1 + 1) (rcells (cl D) fa na sa aa fc nc sc ac) fs0 o := FA.start hv _ _ _
  have hrW := h0.foreign hF hv
  have hone := h0.one
  show Calls _ _ #[.pointer (some ⟨p, 0, none⟩), .agg #[.slice fa (cl D).files.length fc, .slice na (cl D).now.length nc, .slice sa (cl D).sure.length sc, .slice aa (cl D).acts.length ac, .int .i64 (cl D).room, .int .i64 (cl D).steps, .int .i64 (cl D).limit], .agg (opCells o)] _ _
  rw [show opCells o = #[.int .i64 5, .string o.name, .string o.dst, .slice o.da o.data.size o.dc, .int .i64 o.n, .int .i64 o.m] by unfold opCells; rw [hk]]
  rw [show opCells o = #[.int .i64 5, .string o.name, .string o.dst, .slice o.da o.data.size o.dc, .int .i64 o.n, .int .i64 o.m] by unfold opCells; rw [hk]] at hF hrW
  go_enter Tryd.func52, Tryd.ntmps52
  go_upto_region 2 with fail
  generalize ((w.alloc (.cells #[.slice fa (cl D).files.length fc, .slice na (cl D).now.length nc, .slice sa (cl D).sure.length sc, .slice aa (cl D).acts.length ac, .int .i64 (cl D).room, .int .i64 (cl D).steps, .int .i64 (cl D).limit] 36)).alloc (.cells #[.int .i64 5, .string o.name, .string o.dst, .slice o.da o.data.size o.dc, .int .i64 o.n, .int .i64 o.m] 96)).alloc (.cells #[.slice none 0 0, .slice none 0 0, .slice none 0 0, .slice none 0 0, .int .i64 0, .int .i64 0, .int .i64 0] 36) = W at *
  have c0 : W.cell? ⟨w.heap.size + 1, 0, none⟩ = some (.int .i64 5) := hF.c5 0 (by unfold opCells; rw [hk]; rfl)
  have c1 : W.cell? ⟨w.heap.size + 1, 1, none⟩ = some (.string o.name) := hF.c5 1 rfl
  have HP := Lib.hid (remove_e hF.v o.name ho.n1 (by omega))
  have HD := Lib.hid (fun (wx : World) (hr' : RR (Kx E w.heap.size W.heap.size) wx (rcells (cl D) fa na sa aa fc nc sc ac) (cl D) N) => dremove_r hr' o.name ho.n1 (by omega))
  have hwf := hv.wf
  clear hk
  generalize VfsS.removeS S o.name = X at *
  generalize VfsS.removeS D o.name = Y at *
  go_wp2_with (first
    | (go_at_call 51; refine HP.out.mono ?_; rintro e w1 ⟨rfl, hv1, hb1⟩; have hF1 := hF.prog hv1 hb1; have hr1 := hrW.blocks hb1; have g1 : w1.cell? ⟨w.heap.size + 1, 1, none⟩ = some (.string o.name) := hF1.c5 1 rfl)
    | (refine hF1.load4 rfl _ rfl rfl rfl ?_)
    | (go_at_call 83; refine (HD.out _ hr1).mono ?_; rintro e w2 ⟨cs2, rfl, hr2, hb2⟩; have hF2 := hF1.below hb2; have hr2' := hr2.upto; have hs2 := hr2.size; have ho2 := hr2.one)
    | (refine hF2.store4 rfl _ _ rfl rfl rfl rfl hs2 ho2 ?_; intro w3 hF3 hg3; have hr3 := hr2'.other hF2.h4 (by decide) hg3)
    | (refine hF3.load4 rfl _ rfl rfl hs2 ?_)
    | (refine hF3.store6 rfl _ _ rfl rfl rfl rfl hs2 ho2 ?_; intro w4 hF4 hg4; have hr4 := hr3.other hF3.h6 (by decide) hg4))
  (try simp only [Exit.inBlock, Exit.then])
  refine bodyPost_ret (hF4.ret2 hs2 rfl _ rfl) rfl ?_
  exact hF4.post (hr4.mono (by omega) hN) (by omega) (by omega) (by first | rfl | simp)

set_option maxRecDepth 100000 in
set_option maxHeartbeats 2000000 in
theorem ls_flush (hv : VE E w0 w p S N) (hr : RR E w cs (cl D) N) (ho : o.Ok w0) (hk : o.kind = 6) (hN : N + 3 ≤ 40000000) :
    Calls Tryd.prog 52 #[.pointer (some ⟨p, 0, none⟩), .agg cs, .agg (opCells o)] w (StepPost E w0 w p (VfsS.flushAllS S).1 (VfsS.flushAllS D).1 (N + 3) ((VfsS.flushAllS S).2 == (VfsS.flushAllS D).2)) := by
  have h0 := hr
  obtain ⟨fa, na, sa, aa, fc, nc, sc, ac, rfl, hx⟩ := hr
  clear hx
  have hF : FA E (Kx E w.heap.size (((w.alloc (.cells #[.slice fa (cl D).files.length fc, .slice na (cl D).now.length nc, .slice sa (cl D).sure.length sc, .slice aa (cl D).acts.length ac, .int .i64 (cl D).room, .int .i64 (cl D).steps, .int .i64 (cl D).limit] 36)).alloc (.cells (opCells o) 96)).alloc (.cells #[.slice none 0 0, .slice none 0 0, .slice none 0 0, .slice none 0 0, .int .i64 0, .int .i64 0, .int .i64 0] 36)).heap.size) w0 w (((w.alloc (.cells #[.slice fa (cl D).files.length fc, .slice na (cl D).now.length nc, .slice sa (cl D).sure.length sc, .slice aa (cl D).acts.length ac, .int .i64 (cl D).room, .int .i64 (cl D).steps, .int .i64 (cl D).limit] 36)).alloc (.cells (opCells o) 96)).alloc (.cells #[.slice none 0 0, .slice none 0 0, .slice none 0 0, .slice none 0 0, .int .i64 0, .int .i64 0, .int .i64 0] 36)) p S N w.heap.size (w.heap.size + 1) (w.heap.size + 1 + 1) (rcells (cl D) fa na sa aa fc nc sc ac) fs0 o := FA.start hv _ _ _
  have hrW := h0.foreign hF hv
  have hone := h0.one
  show Calls _ _ #[.pointer (some ⟨p, 0, none⟩), .agg #[.slice fa (cl D).files.length fc, .slice na (cl D).now.length nc, .slice sa (cl D).sure.length sc, .slice aa (cl D).acts.length ac, .int .i64 (cl D).room, .int .i64 (cl D).steps, .int .i64 (cl D).limit], .agg (opCells o)] _ _
  rw [show opCells o = #[.int .i64 6, .string o.name, .string o.dst, .slice o.da o.data.size o.dc, .int .i64 o.n, .int .i64 o.m] by unfold opCells; rw [hk]]
  rw [show opCells o = #[.int .i64 6, .string o.name, .string o.dst, .slice o.da o.data.size o.dc, .int .i64 o.n, .int .i64 o.m] by unfold opCells; rw [hk]] at hF hrW
  go_enter Tryd.func52, Tryd.ntmps52
  go_upto_region 2 with fail
  generalize ((w.alloc (.cells #[.slice fa (cl D).files.length fc, .slice na (cl D).now.length nc, .slice sa (cl D).sure.length sc, .slice aa (cl D).acts.length ac, .int .i64 (cl D).room, .int .i64 (cl D).steps, .int .i64 (cl D).limit] 36)).alloc (.cells #[.int .i64 6, .string o.name, .string o.dst, .slice o.da o.data.size o.dc, .int .i64 o.n, .int .i64 o.m] 96)).alloc (.cells #[.slice none 0 0, .slice none 0 0, .slice none 0 0, .slice none 0 0, .int .i64 0, .int .i64 0, .int .i64 0] 36) = W at *
  have c0 : W.cell? ⟨w.heap.size + 1, 0, none⟩ = some (.int .i64 6) := hF.c5 0 (by unfold opCells; rw [hk]; rfl)
  have HP := Lib.hid (flush_e hF.v (by omega))
  have _ := ho
  have HD := Lib.hid (fun (wx : World) (hr' : RR (Kx E w.heap.size W.heap.size) wx (rcells (cl D) fa na sa aa fc nc sc ac) (cl D) N) => dflush_r hr' (by omega))
  have hwf := hv.wf
  clear hk
  generalize VfsS.flushAllS S = X at *
  generalize VfsS.flushAllS D = Y at *
  go_wp2_with (first
    | (go_at_call 19; refine HP.out.mono ?_; rintro e w1 ⟨rfl, hv1, hb1⟩; have hF1 := hF.prog hv1 hb1; have hr1 := hrW.blocks hb1)
    | (refine hF1.load4 rfl _ rfl rfl rfl ?_)
    | (go_at_call 20; refine (HD.out _ hr1).mono ?_; rintro e w2 ⟨cs2, rfl, hr2, hb2⟩; have hF2 := hF1.below hb2; have hr2' := hr2.upto; have hs2 := hr2.size; have ho2 := hr2.one)
    | (refine hF2.store4 rfl _ _ rfl rfl rfl rfl hs2 ho2 ?_; intro w3 hF3 hg3; have hr3 := hr2'.other hF2.h4 (by decide) hg3)
    | (refine hF3.load4 rfl _ rfl rfl hs2 ?_)
    | (refine hF3.store6 rfl _ _ rfl rfl rfl rfl hs2 ho2 ?_; intro w4 hF4 hg4; have hr4 := hr3.other hF3.h6 (by decide) hg4))
  (try simp only [Exit.inBlock, Exit.then])
  refine bodyPost_ret (hF4.ret2 hs2 rfl _ rfl) rfl ?_
  exact hF4.post (hr4.mono (by omega) hN) (by omega) (by omega) (by first | rfl | simp)
end
end Go.Proofs.YtfoamcobpfflbaaDoor
namespace Go.Proofs.YtfoamcobpfflbaaDoor
open Go Go.RowKit Go.Maps
open VfsS (St cl clp So)

section
variable {E : Nat → Prop} {w0 w : World} {p : Nat} {S D : St} {N : Nat} {cs : Array Value} {o : OpD}

set_option maxRecDepth 100000 in
set_option maxHeartbeats 2000000 in
theorem ls_crash (hv : VE E w0 w p S N) (hr : RR E w cs (cl D) N) (hk : o.kind = 7) (hN : N + 3 ≤ 40000000) :
    Calls Tryd.prog 52 #[.pointer (some ⟨p, 0, none⟩), .agg cs, .agg (opCells o)] w (StepPost E w0 w p (VfsS.crashS S o.n o.m) (VfsS.crashS D o.n o.m) (N + 3) true) := by
  have h0 := hr
  obtain ⟨fa, na, sa, aa, fc, nc, sc, ac, rfl, hx⟩ := hr
  clear hx
  have hF : FA E (Kx E w.heap.size (((w.alloc (.cells #[.slice fa (cl D).files.length fc, .slice na (cl D).now.length nc, .slice sa (cl D).sure.length sc, .slice aa (cl D).acts.length ac, .int .i64 (cl D).room, .int .i64 (cl D).steps, .int .i64 (cl D).limit] 36)).alloc (.cells (opCells o) 96)).alloc (.cells #[.slice none 0 0, .slice none 0 0, .slice none 0 0, .slice none 0 0, .int .i64 0, .int .i64 0, .int .i64 0] 36)).heap.size) w0 w (((w.alloc (.cells #[.slice fa (cl D).files.length fc, .slice na (cl D).now.length nc, .slice sa (cl D).sure.length sc, .slice aa (cl D).acts.length ac, .int .i64 (cl D).room, .int .i64 (cl D).steps, .int .i64 (cl D).limit] 36)).alloc (.cells (opCells o) 96)).alloc (.cells #[.slice none 0 0, .slice none 0 0, .slice none 0 0, .slice none 0 0, .int .i64 0, .int .i64 0, .int .i64 0] 36)) p S N w.heap.size (w.heap.size + 1) (w.heap.size + 1 + 1) (rcells (cl D) fa na sa aa fc nc sc ac) fs0 o := FA.start hv _ _ _
  have hrW := h0.foreign hF hv
  have hone := h0.one
  show Calls _ _ #[.pointer (some ⟨p, 0, none⟩), .agg #[.slice fa (cl D).files.length fc, .slice na (cl D).now.length nc, .slice sa (cl D).sure.length sc, .slice aa (cl D).acts.length ac, .int .i64 (cl D).room, .int .i64 (cl D).steps, .int .i64 (cl D).limit], .agg (opCells o)] _ _
  rw [show opCells o = #[.int .i64 7, .string o.name, .string o.dst, .slice o.da o.data.size o.dc, .int .i64 o.n, .int .i64 o.m] by unfold opCells; rw [hk]]
  rw [show opCells o = #[.int .i64 7, .string o.name, .string o.dst, .slice o.da o.data.size o.dc, .int .i64 o.n, .int .i64 o.m] by unfold opCells; rw [hk]] at hF hrW
  go_enter Tryd.func52, Tryd.ntmps52
  go_upto_region 2 with fail
  generalize ((w.alloc (.cells #[.slice fa (cl D).files.length fc, .slice na (cl D).now.length nc, .slice sa (cl D).sure.length sc, .slice aa (cl D).acts.length ac, .int .i64 (cl D).room, .int .i64 (cl D).steps, .int .i64 (cl D).limit] 36)).alloc (.cells #[.int .i64 7, .string o.name, .string o.dst, .slice o.da o.data.size o.dc, .int .i64 o.n, .int .i64 o.m] 96)).alloc (.cells #[.slice none 0 0, .slice none 0 0, .slice none 0 0, .slice none 0 0, .int .i64 0, .int .i64 0, .int .i64 0] 36) = W at *
  have c0 : W.cell? ⟨w.heap.size + 1, 0, none⟩ = some (.int .i64 7) := hF.c5 0 (by unfold opCells; rw [hk]; rfl)
  have c4 : W.cell? ⟨w.heap.size + 1, 4, none⟩ = some (.int .i64 o.n) := hF.c5 4 rfl
  have c5 : W.cell? ⟨w.heap.size + 1, 5, none⟩ = some (.int .i64 o.m) := hF.c5 5 rfl
  have HP := Lib.hid (crash_e hF.v o.n o.m)
  have HD := Lib.hid (fun (wx : World) (hr' : RR (Kx E w.heap.size W.heap.size) wx (rcells (cl D) fa na sa aa fc nc sc ac) (cl D) N) => dcrash_r hr' o.n o.m)
  clear hk
  generalize VfsS.crashS S o.n o.m = X at *
  generalize VfsS.crashS D o.n o.m = Y at *
  go_wp2_with (first
    | (go_at_call 25; refine HP.out.mono ?_; rintro e w1 ⟨rfl, hv1, hb1⟩; have hF1 := hF.prog hv1 hb1; have hr1 := hrW.blocks hb1; have g4 : w1.cell? ⟨w.heap.size + 1, 4, none⟩ = some (.int .i64 o.n) := hF1.c5 4 rfl; have g5 : w1.cell? ⟨w.heap.size + 1, 5, none⟩ = some (.int .i64 o.m) := hF1.c5 5 rfl)
    | (refine hF1.load4 rfl _ rfl rfl rfl ?_)
    | (go_at_call 26; refine (HD.out _ hr1).mono ?_; rintro e w2 ⟨cs2, rfl, hr2, hb2⟩; have hF2 := hF1.below hb2; have hr2' := hr2.upto; have hs2 := hr2.size; have ho2 := hr2.one)
    | (refine hF2.store4 rfl _ _ rfl rfl rfl rfl hs2 ho2 ?_; intro w3 hF3 hg3; have hr3 := hr2'.other hF2.h4 (by decide) hg3)
    | (refine hF3.load4 rfl _ rfl rfl hs2 ?_)
    | (refine hF3.store6 rfl _ _ rfl rfl rfl rfl hs2 ho2 ?_; intro w4 hF4 hg4; have hr4 := hr3.other hF3.h6 (by decide) hg4))
  (try simp only [Exit.inBlock, Exit.then])
  refine bodyPost_ret (hF4.ret2 hs2 rfl _ rfl) rfl ?_
  exact hF4.post (hr4.mono (by omega) hN) (by omega) (by omega) (by first | rfl | simp)

set_option maxRecDepth 100000 in
set_option maxHeartbeats 2000000 in
theorem ls_stop (hv : VE E w0 w p S N) (hr : RR E w cs (cl D) N) (ho : o.Ok w0) (hk : o.kind = 8) (hN : N + 3 ≤ 40000000) :
    Calls Tryd.prog 52 #[.pointer (some ⟨p, 0, none⟩), .agg cs, .agg (opCells o)] w (StepPost E w0 w p { S with limit := o.n } { D with limit := o.n } (N + 3) true) := by
  have h0 := hr
  obtain ⟨fa, na, sa, aa, fc, nc, sc, ac, rfl, hx⟩ := hr
  have hF : FA E (Kx E w.heap.size (((w.alloc (.cells #[.slice fa (cl D).files.length fc, .slice na (cl D).now.length nc, .slice sa (cl D).sure.length sc, .slice aa (cl D).acts.length ac, .int .i64 (cl D).room, .int .i64 (cl D).steps, .int .i64 (cl D).limit] 36)).alloc (.cells (opCells o) 96)).alloc (.cells #[.slice none 0 0, .slice none 0 0, .slice none 0 0, .slice none 0 0, .int .i64 0, .int .i64 0, .int .i64 0] 36)).heap.size) w0 w (((w.alloc (.cells #[.slice fa (cl D).files.length fc, .slice na (cl D).now.length nc, .slice sa (cl D).sure.length sc, .slice aa (cl D).acts.length ac, .int .i64 (cl D).room, .int .i64 (cl D).steps, .int .i64 (cl D).limit] 36)).alloc (.cells (opCells o) 96)).alloc (.cells #[.slice none 0 0, .slice none 0 0, .slice none 0 0, .slice none 0 0, .int .i64 0, .int .i64 0, .int .i64 0] 36)) p S N w.heap.size (w.heap.size + 1) (w.heap.size + 1 + 1) (rcells (cl D) fa na sa aa fc nc sc ac) fs0 o := FA.start hv _ _ _
  have hrW := h0.foreign hF hv
  have hone := h0.one
  show Calls _ _ #[.pointer (some ⟨p, 0, none⟩), .agg #[.slice fa (cl D).files.length fc, .slice na (cl D).now.length nc, .slice sa (cl D).sure.length sc, .slice aa (cl D).acts.length ac, .int .i64 (cl D).room, .int .i64 (cl D).steps, .int .i64 (cl D).limit], .agg (opCells o)] _ _
  rw [show opCells o = #[.int .i64 8, .string o.name, .string o.dst, .slice o.da o.data.size o.dc, .int .i64 o.n, .int .i64 o.m] by unfold opCells; rw [hk]]
  rw [show opCells o = #[.int .i64 8, .string o.name, .string o.dst, .slice o.da o.data.size o.dc, .int .i64 o.n, .int .i64 o.m] by unfold opCells; rw [hk]] at hF hrW
  go_enter Tryd.func52, Tryd.ntmps52
  go_upto_region 2 with fail
  generalize ((w.alloc (.cells #[.slice fa (cl D).files.length fc, .slice na (cl D).now.length nc, .slice sa (cl D).sure.length sc, .slice aa (cl D).acts.length ac, .int .i64 (cl D).room, .int .i64 (cl D).steps, .int .i64 (cl D).limit] 36)).alloc (.cells #[.int .i64 8, .string o.name, .string o.dst, .slice o.da o.data.size o.dc, .int .i64 o.n, .int .i64 o.m] 96)).alloc (.cells #[.slice none 0 0, .slice none 0 0, .slice none 0 0, .slice none 0 0, .int .i64 0, .int .i64 0, .int .i64 0] 36) = W at *
  have c0 : W.cell? ⟨w.heap.size + 1, 0, none⟩ = some (.int .i64 8) := hF.c5 0 (by unfold opCells; rw [hk]; rfl)
  have c4 : W.cell? ⟨w.heap.size + 1, 4, none⟩ = some (.int .i64 o.n) := hF.c5 4 rfl
  have HP := Lib.hid (stop_e hF.v o.n ho.bn)
  have hbn := ho.bn
  clear hk
  have hone9 := oneFS (cl { D with limit := o.n }) fa na sa aa fc nc sc ac
  go_upto_region 29 with (go_at_call 47; refine HP.out.mono ?_; rintro e w1 ⟨rfl, hv1, hb1⟩; have hF1 := hF.prog hv1 hb1; have hr1 := hrW.blocks hb1; have g4 : w1.cell? ⟨w.heap.size + 1, 4, none⟩ = some (.int .i64 o.n) := hF1.c5 4 rfl)
  have e6 : w1.cell? ⟨w.heap.size, 6, none⟩ = some (.int .i64 (cl D).limit) := by rw [cell_of hF1.h4]; rfl
  have f6 := frozen_of hF1.h4 6
  obtain ⟨hF2, hg2⟩ := hF1.set4 6 (.int .i64 (max o.n (-1)))
  change FA E _ w0 w _ p _ N _ _ _ (rcells (cl { D with limit := o.n }) fa na sa aa fc nc sc ac) fs0 o at hF2
  have hr2 : RR (Kx E w.heap.size W.heap.size) (w1.setCell ⟨w.heap.size, 6, none⟩ (.int .i64 (max o.n (-1)))) (rcells (cl { D with limit := o.n }) fa na sa aa fc nc sc ac) (cl { D with limit := o.n }) N := by
    have h1 := (hx.blocks hF1.old).setLim (max o.n (-1)) (by omega)
    have h2 : RR E w1 (rcells (cl { D with limit := o.n }) fa na sa aa fc nc sc ac) (cl { D with limit := o.n }) N := ⟨fa, na, sa, aa, fc, nc, sc, ac, rfl, h1⟩
    exact (h2.sub fun k hk _ => hF1.sub k hk).other hF1.h4 (by decide) hg2
  clear hx hr1 hrW
  go_wp2_with (first
    | (refine hF2.load4 rfl _ rfl rfl rfl ?_)
    | (refine hF2.store6 rfl _ _ rfl rfl rfl rfl rfl hone9 ?_; intro w4 hF4 hg4; have hr4 := hr2.other hF2.h6 (by decide) hg4))
  (try simp only [Exit.inBlock, Exit.then])
  refine bodyPost_ret (hF4.ret2 rfl rfl _ rfl) rfl ?_
  exact hF4.post (hr4.mono (by omega) hN) (by omega) (by omega) (by first | rfl | simp)

set_option maxRecDepth 100000 in
set_option maxHeartbeats 2000000 in
theorem ls_other (hv : VE E w0 w p S N) (hr : RR E w cs (cl D) N) (hk : o.kind < 0 ∨ 8 < o.kind) (hN : N + 3 ≤ 40000000) :
    Calls Tryd.prog 52 #[.pointer (some ⟨p, 0, none⟩), .agg cs, .agg (opCells o)] w (StepPost E w0 w p S D (N + 3) true) := by
  have h0 := hr
  obtain ⟨fa, na, sa, aa, fc, nc, sc, ac, rfl, hx⟩ := hr
  clear hx
  have hF : FA E (Kx E w.heap.size (((w.alloc (.cells #[.slice fa (cl D).files.length fc, .slice na (cl D).now.length nc, .slice sa (cl D).sure.length sc, .slice aa (cl D).acts.length ac, .int .i64 (cl D).room, .int .i64 (cl D).steps, .int .i64 (cl D).limit] 36)).alloc (.cells (opCells o) 96)).alloc (.cells #[.slice none 0 0, .slice none 0 0, .slice none 0 0, .slice none 0 0, .int .i64 0, .int .i64 0, .int .i64 0] 36)).heap.size) w0 w (((w.alloc (.cells #[.slice fa (cl D).files.length fc, .slice na (cl D).now.length nc, .slice sa (cl D).sure.length sc, .slice aa (cl D).acts.length ac, .int .i64 (cl D).room, .int .i64 (cl D).steps, .int .i64 (cl D).limit] 36)).alloc (.cells (opCells o) 96)).alloc (.cells #[.slice none 0 0, .slice none 0 0, .slice none 0 0, .slice none 0 0, .int .i64 0, .int .i64 0, .int .i64 0] 36)) p S N w.heap.size (w.heap.size + 1) (w.heap.size + 1 + 1) (rcells (cl D) fa na sa aa fc nc sc ac) fs0 o := FA.start hv _ _ _
  have hrW := h0.foreign hF hv
  have hone := h0.one
  show Calls _ _ #[.pointer (some ⟨p, 0, none⟩), .agg #[.slice fa (cl D).files.length fc, .slice na (cl D).now.length nc, .slice sa (cl D).sure.length sc, .slice aa (cl D).acts.length ac, .int .i64 (cl D).room, .int .i64 (cl D).steps, .int .i64 (cl D).limit], .agg (opCells o)] _ _
  have he : ∀ n : Int, 0 ≤ n ∧ n ≤ 8 → (o.kind == n) = false := fun n hn => by rw [beq_eq_false_iff_ne]; omega
  have k0 := he 0 (by omega)
  have k1 := he 1 (by omega)
  have k2 := he 2 (by omega)
  have k3 := he 3 (by omega)
  have k4 := he 4 (by omega)
  have k5 := he 5 (by omega)
  have k6 := he 6 (by omega)
  have k7 := he 7 (by omega)
  have k8 := he 8 (by omega)
  clear he hk
  go_enter Tryd.func52, Tryd.ntmps52
  go_upto_region 2 with fail
  generalize ((w.alloc (.cells #[.slice fa (cl D).files.length fc, .slice na (cl D).now.length nc, .slice sa (cl D).sure.length sc, .slice aa (cl D).acts.length ac, .int .i64 (cl D).room, .int .i64 (cl D).steps, .int .i64 (cl D).limit] 36)).alloc (.cells (opCells o) 96)).alloc (.cells #[.slice none 0 0, .slice none 0 0, .slice none 0 0, .slice none 0 0, .int .i64 0, .int .i64 0, .int .i64 0] 36) = W at *
  have c0 : W.cell? ⟨w.heap.size + 1, 0, none⟩ = some (.int .i64 o.kind) := hF.c5 0 rfl
  go_wp2_with (first
    | (refine hF.load4 rfl _ rfl rfl rfl ?_)
    | (refine hF.store6 rfl _ _ rfl rfl rfl rfl rfl hone ?_; intro w4 hF4 hg4; have hr4 := hrW.other hF.h6 (by decide) hg4))
  (try simp only [Exit.inBlock, Exit.then])
  refine bodyPost_ret (hF4.ret2 rfl rfl _ rfl) rfl ?_
  exact hF4.post (hr4.mono (by omega) hN) (by omega) (by omega) (by first | rfl | simp)
end
end Go.Proofs.YtfoamcobpfflbaaDoor
namespace Go.Proofs.YtfoamcobpfflbaaDoor
open Go Go.RowKit Go.Maps
open VfsS (St cl clp So)

theorem lawstep2_c {E : Nat → Prop} {w0 w : World} {p : Nat} {S D : St} {N : Nat} {cs : Array Value} (hv : VE E w0 w p S N) (hr : RR E w cs (cl D) N) (o : OpD) (ho : o.Ok w0) (hN : N + 3 ≤ 40000000) :
    Calls Tryd.prog 52 #[.pointer (some ⟨p, 0, none⟩), .agg cs, .agg (opCells o)] w (StepPost E w0 w p (stepO S o).1 (stepO D o).1 (N + 3) ((stepO S o).2 == (stepO D o).2)) := by
  unfold stepO
  by_cases h0 : o.kind = 0
  · simp only [if_pos h0]; exact ls_create hv hr ho h0 hN
  simp only [if_neg h0]
  by_cases h1 : o.kind = 1
  · simp only [if_pos h1]; exact ls_append hv hr ho h1 hN
  simp only [if_neg h1]
  by_cases h2 : o.kind = 2
  · simp only [if_pos h2]; exact ls_cut hv hr ho h2 hN
  simp only [if_neg h2]
  by_cases h3 : o.kind = 3
  · simp only [if_pos h3]; exact ls_sync hv hr ho h3 hN
  simp only [if_neg h3]
  by_cases h4 : o.kind = 4
  · simp only [if_pos h4]; exact ls_rename hv hr ho h4 hN
  simp only [if_neg h4]
  by_cases h5 : o.kind = 5
  · simp only [if_pos h5]; exact ls_remove hv hr ho h5 hN
  simp only [if_neg h5]
  by_cases h6 : o.kind = 6
  · simp only [if_pos h6]; exact ls_flush hv hr ho h6 hN
  simp only [if_neg h6]
  by_cases h7 : o.kind = 7
  · simp only [if_pos h7]; exact ls_crash hv hr h7 hN
  simp only [if_neg h7]
  by_cases h8 : o.kind = 8
  · simp only [if_pos h8]; exact ls_stop hv hr ho h8 hN
  simp only [if_neg h8]
  exact ls_other hv hr (by omega) hN

theorem lawstep_c {E : Nat → Prop} {w0 w : World} {p : Nat} {S : St} {N : Nat} {cs : Array Value} (hv : VE E w0 w p S N) (hr : RR E w cs (cl S) N) (o : OpD) (ho : o.Ok w0) (hN : N + 3 ≤ 40000000) :
    Calls Tryd.prog 52 #[.pointer (some ⟨p, 0, none⟩), .agg cs, .agg (opCells o)] w (StepPost E w0 w p (stepO S o).1 (stepO S o).1 (N + 3) true) := by
  have := lawstep2_c hv hr o ho hN
  rwa [beq_self_eq_true] at this
end Go.Proofs.YtfoamcobpfflbaaDoor
namespace Go.Proofs.YtfoamcobpfflbaaDoor
open Go Go.RowKit

/-- How far a world is from another one: the draws, the new blocks. -/
structure BW where
  d : Nat
  os : Array Obj
  deriving Inhabited

def bw (w : World) (p : BW) : World := { w with heap := w.heap ++ p.os, drawn := p.d }

theorem bw_below (w : World) (p : BW) : Below w.heap.size w (bw w p) :=
  ⟨rfl, rfl, rfl, by show w.heap.size ≤ (w.heap ++ p.os).size; rw [Array.size_append]; omega, fun k hk => by show (w.heap ++ p.os)[k]? = w.heap[k]?; rw [Array.getElem?_append_left hk]⟩

theorem bw_of {w w' : World} (hb : Below w.heap.size w w') : ∃ p : BW, w' = bw w p := by
  refine ⟨⟨w'.drawn, w'.heap.extract w.heap.size w'.heap.size⟩, ?_⟩
  have hh : w'.heap = w.heap ++ w'.heap.extract w.heap.size w'.heap.size := by
    apply Array.ext_getElem?
    intro i
    rw [Array.getElem?_append]
    split
    · rename_i hi; exact hb.block i hi
    · rename_i hi
      rw [Array.getElem?_extract]
      split
      · congr 1; omega
      · rename_i h2
        have := hb.size
        rw [Array.getElem?_eq_none (by omega)]
  cases w
  cases w'
  obtain ⟨h1, h2, h3, h4, h5⟩ := hb
  simp only at h1 h2 h3 hh
  subst h1 h2 h3
  simp only [bw]
  congr 1

theorem bw_cell {w : World} {a : Addr} {v : Value} (hb : a.block < w.heap.size) (h : w.cell? a = some v) (p : BW) : (bw w p).cell? a = some v := ((bw_below w p).cell hb).trans h

/-- A callee that turns nothing old, met in a world of the class. -/
theorem calls_bw {P : Program} {f : FuncId} {args : Array Value} {w : World} {p : BW} {v : Value}
    (h : Calls P f args (bw w p) fun e w' => e = .returned v ∧ Below (bw w p).heap.size (bw w p) w') : Calls P f args (bw w p) fun e w'' => e = .returned v ∧ ∃ q : BW, w'' = bw w q :=
  h.mono fun _ _ ⟨he, hb⟩ => ⟨he, bw_of ((bw_below w p).trans (hb.mono (bw_below w p).size))⟩

theorem wp_region_bw {P : Program} {id : Nat} {Q : Exit → Act → World → Prop} {a : Act} {w : World} {l : List Oper} (hm : P.follows .mixedOrders = true) (hB : Region.lexB .any l.toArray = true)
    (h : wpQuiet P l.toArray (fun w' => ∃ p : BW, w' = bw w p) (fun a' => ∀ w', (∃ p : BW, w' = bw w p) → Q .normal a' w') l a) : (Code.region id l.toArray true).wp P Q a w :=
  wp_region_quiet (C := fun w' => ∃ p : BW, w' = bw w p) hm hB ⟨⟨w.drawn + 1, #[]⟩, by simp [bw]⟩ (by simpa using h)

theorem wp_region_bw_tail {P : Program} {id : Nat} {Q : Exit → Act → World → Prop} {a : Act} {w : World} {l : List Oper} (n : Nat) (hm : P.follows .mixedOrders = true) (hB : Region.lexTailB .any l.toArray n = true)
    (h : wpQuiet P l.toArray (fun w' => ∃ p : BW, w' = bw w p) (fun a' => ∀ w', (∃ p : BW, w' = bw w p) → wpList P l.toArray Q (l.drop n) a' w') (l.take n) a) : (Code.region id l.toArray true).wp P Q a w :=
  wp_region_tail (C := fun w' => ∃ p : BW, w' = bw w p) n hm hB ⟨⟨w.drawn + 1, #[]⟩, by simp [bw]⟩ h

/-- The class, by moves. -/
def CB (w w' : World) : Prop := ∃ p : BW, w' = bw w p
theorem CB.refl (w : World) : CB w w := bw_of (Below.refl _ w)
theorem wp_region_cb {P : Program} {id : Nat} {Q : Exit → Act → World → Prop} {a : Act} {w : World} {l : List Oper} (ss : List Mv) (hm : P.follows .mixedOrders = true)
    (hB : (Region.noSelect l.toArray && okB .any l.toArray ss (Array.replicate l.toArray.size false) && decide (fuelOf ss = l.toArray.size)) = true)
    (hQ : ∀ (d : Tmp) (v : Value) c a w, Q (.panic c) (a.put (some d) v) w → Q (.panic c) a w) (h : goS P l.toArray Q CB ss a { w with drawn := w.drawn + 1 }) : (Code.region id l.toArray true).wp P Q a w :=
  wp_region_mv CB ss hm hB CB.refl hQ h
theorem goS_cb {P : Program} {ops : Array Oper} {Q : Exit → Act → World → Prop} {ss : List Mv} {a : Act} {w : World} {is : List Nat}
    (h : wpQuiet P ops (fun w' => ∃ p : BW, w' = bw w p) (fun a' => ∀ w', (∃ p : BW, w' = bw w p) → goS P ops Q CB ss a' w') (opsAt ops is) a) : goS P ops Q CB (.blk is :: ss) a { w with drawn := w.drawn + 1 } := h
end Go.Proofs.YtfoamcobpfflbaaDoor
namespace Go.Proofs.YtfoamcobpfflbaaDoor
open Go Go.RowKit Go.Maps
open VfsS (St cl clp So Srt Nm)

/-- The names with their files' bytes. -/
def shown (S : St) : List (ByteArray × ByteArray) := S.now.map fun q => (q.1, (VfsS.fl S q.2).text)

/-- To whoever reads they are the same. -/
structure SameFS (S D : St) : Prop where
  sh : shown S = shown D
  room : S.room = D.room

theorem SameFS.cl (S : St) : SameFS S (cl S) := ⟨rfl, rfl⟩
theorem SameFS.len {S D : St} (h : SameFS S D) : D.now.length = S.now.length := by
  have := congrArg List.length h.sh
  unfold shown at this
  rw [List.length_map, List.length_map] at this
  exact this.symm
theorem used_shown (S : St) : VfsS.used S = ((shown S).map fun q => q.2.size).sum := by unfold VfsS.used shown; rw [List.map_map]; rfl
theorem SameFS.used {S D : St} (h : SameFS S D) : VfsS.used D = VfsS.used S := by rw [used_shown, used_shown, h.sh]
theorem SameFS.at {S D : St} (h : SameFS S D) (j : Nat) (h1 : j < S.now.length) (h2 : j < D.now.length) : D.now[j].1 = S.now[j].1 ∧ (VfsS.fl D D.now[j].2).text = (VfsS.fl S S.now[j].2).text := by
  have e : (shown S)[j]? = (shown D)[j]? := by rw [h.sh]
  unfold shown at e
  rw [List.getElem?_map, List.getElem?_map, List.getElem?_eq_getElem h1, List.getElem?_eq_getElem h2] at e
  simp only [Option.map_some, Option.some.injEq, Prod.mk.injEq] at e
  exact ⟨e.1.symm, e.2.symm⟩

theorem namesL_srt {l : Nm} (h : Srt l) : namesL l = l.map fun p => p.1.data.toList := by
  unfold namesL
  exact List.mergeSort_of_pairwise (VfsS.srt_sorted h)

theorem names_at {l : Nm} (h : Srt l) (j : Nat) (hj : j < l.length) : ((namesL l).map Go.Proofs.encStr)[j]? = some (.string l[j].1) := by
  rw [namesL_srt h, List.getElem?_map, List.getElem?_map, List.getElem?_eq_getElem hj]
  rfl

theorem read_at {S : St} (hw : VfsS.Wf S) (j : Nat) (hj : j < S.now.length) : VfsS.readS S S.now[j].1 = some (VfsS.fl S S.now[j].2).text := by
  unfold VfsS.readS
  rw [VfsS.find_of_mem hw.dn (List.getElem_mem hj)]
  rfl

section
variable {E : Nat → Prop} {w : World} {p : Nat} {S D : St} {N M : Nat} {K : Nat → Prop} {cs : Array Value}

set_option maxRecDepth 100000 in
set_option maxHeartbeats 4000000 in
theorem same_c (h : VRep w p S K N) (hr : RR E w cs D M) (hs : SameFS S D) (hso : Srt S.now) :
    Calls Tryd.prog 53 #[.pointer (some ⟨p, 0, none⟩), .agg cs] w fun e w' => e = .returned (.bool true) ∧ Below w.heap.size w w' := by
  have hr0 := hr
  obtain ⟨fa, na, sa, aa, fc, nc, sc, ac, rfl, hx⟩ := hr
  have HLN := Lib.hid hs.len
  have HUS := Lib.hid hs.used
  have HS := Lib.hid hs
  have HSO := Lib.hid hso
  clear hs hso
  have hb0 : Below w.heap.size w (w.alloc (.cells #[.slice fa D.files.length fc, .slice na D.now.length nc, .slice sa D.sure.length sc, .slice aa D.acts.length ac, .int .i64 D.room, .int .i64 D.steps, .int .i64 D.limit] 36)) := (Below.refl _ w).alloc (Nat.le_refl _) _
  have hB : (w.alloc (.cells #[.slice fa D.files.length fc, .slice na D.now.length nc, .slice sa D.sure.length sc, .slice aa D.acts.length ac, .int .i64 D.room, .int .i64 D.steps, .int .i64 D.limit] 36)).heap[w.heap.size]? = some (.cells #[.slice fa D.files.length fc, .slice na D.now.length nc, .slice sa D.sure.length sc, .slice aa D.acts.length ac, .int .i64 D.room, .int .i64 D.steps, .int .i64 D.limit] 36 (0, 0)) := Array.getElem?_push_size
  have hwf := h.wf
  have hwD := hx.wf
  have hxW := hx.below hb0
  have hrW := hr0.below hb0
  have hW := h.below hb0
  have hxf := hx.ln
  have hxb := hx.big
  have hul := used_le hwf (show S.now.length ≤ N by have := hx.ln; obtain ⟨_, _, _, _, _, hB', _⟩ := h; exact hB'.names_le)
  have hNb : N ≤ 100000000 := by obtain ⟨_, _, _, _, _, hB', _⟩ := h; exact hB'.big
  have hroom := hwf.room
  show Calls _ _ #[.pointer (some ⟨p, 0, none⟩), .agg #[.slice fa D.files.length fc, .slice na D.now.length nc, .slice sa D.sure.length sc, .slice aa D.acts.length ac, .int .i64 D.room, .int .i64 D.steps, .int .i64 D.limit]] _ _
  clear hx h
  go_enter Tryd.func53, Tryd.ntmps53
  go_upto_region 1 with fail
  have hlt := (Array.getElem?_eq_some_iff.1 hB).1
  generalize w.alloc (.cells #[.slice fa D.files.length fc, .slice na D.now.length nc, .slice sa D.sure.length sc, .slice aa D.acts.length ac, .int .i64 D.room, .int .i64 D.steps, .int .i64 D.limit] 36) = W at *
  have HL := Lib.hid (list_c hW)
  go_upto_region 2 with (go_at_call 79; refine HL.out.mono ?_; rintro e w1 ⟨v1, rfl, ho1, hb1⟩; obtain ⟨la, lc, rfl, hlc, -, hsl⟩ := (OwnG.of_own ho1).form)
  have hW1 := hW.below hb1
  have hr1 := hrW.below hb1
  have hB1 := (hb1.block _ hlt).trans hB
  have hbb1 := hb0.trans (hb1.mono hb0.size)
  have hlt1 := (Array.getElem?_eq_some_iff.1 hB1).1
  have f0 := fun p => bw_cell (a := ⟨w.heap.size, 0, none⟩) hlt1 (show w1.cell? ⟨w.heap.size, 0, none⟩ = some (.slice fa D.files.length fc) by rw [cell_of hB1]; rfl) p
  have f1 := fun p => bw_cell (a := ⟨w.heap.size, 1, none⟩) hlt1 (show w1.cell? ⟨w.heap.size, 1, none⟩ = some (.slice na S.now.length nc) by rw [cell_of hB1, ← HLN.out]; rfl) p
  have f2 := fun p => bw_cell (a := ⟨w.heap.size, 2, none⟩) hlt1 (show w1.cell? ⟨w.heap.size, 2, none⟩ = some (.slice sa D.sure.length sc) by rw [cell_of hB1]; rfl) p
  have f3 := fun p => bw_cell (a := ⟨w.heap.size, 3, none⟩) hlt1 (show w1.cell? ⟨w.heap.size, 3, none⟩ = some (.slice aa D.acts.length ac) by rw [cell_of hB1]; rfl) p
  have f4 := fun p => bw_cell (a := ⟨w.heap.size, 4, none⟩) hlt1 (show w1.cell? ⟨w.heap.size, 4, none⟩ = some (.int .i64 S.room) by rw [cell_of hB1, HS.out.room]; rfl) p
  have f5 := fun p => bw_cell (a := ⟨w.heap.size, 5, none⟩) hlt1 (show w1.cell? ⟨w.heap.size, 5, none⟩ = some (.int .i64 D.steps) by rw [cell_of hB1]; rfl) p
  have f6 := fun p => bw_cell (a := ⟨w.heap.size, 6, none⟩) hlt1 (show w1.cell? ⟨w.heap.size, 6, none⟩ = some (.int .i64 D.limit) by rw [cell_of hB1]; rfl) p
  have hwr : IntKind.i64.wrap ((S.room : Int) - (VfsS.used S : Nat)) = (S.room : Int) - (VfsS.used S : Nat) := IntWalk.i64_in _ (by omega)
  have HU := Lib.hid (fun p' => calls_bw (used_c (hW1.below (bw_below w1 p'))))
  have HV := Lib.hid (fun p' => calls_bw (left_c (hW1.below (bw_below w1 p'))))
  have HR : Hid (∀ p', Calls Tryd.prog 70 #[.agg #[.slice fa D.files.length fc, .slice na S.now.length nc, .slice sa D.sure.length sc, .slice aa D.acts.length ac, .int .i64 S.room, .int .i64 D.steps, .int .i64 D.limit]] (bw w1 p') fun e w'' => e = .returned (.int .i64 (VfsS.used S : Nat)) ∧ ∃ q : BW, w'' = bw w1 q) := fun p' => by
    have := calls_bw (rused_r (hr1.below (bw_below w1 p')))
    rw [HUS.out] at this
    unfold rcells at this
    rw [HLN.out, ← HS.out.room] at this
    exact this
  have HB1 := Lib.hid hB1
  clear hB hB1 ho1
  refine wp_region_bw (by kernel_rfl) (by kernel_rfl) ?_
  iterate 8 quiet_step (fail)
  quiet_step (exact HU.out _)
  quiet_step (fail)
  quiet_step (exact HR.out _)
  iterate 4 quiet_step (fail)
  quiet_step (exact HV.out _)
  iterate 3 quiet_step (fail)
  quiet_step (exact HR.out _)
  iterate 3 quiet_step (fail)
  refine wpQuiet_nil ?_
  rintro Wn ⟨pn, hWn⟩
  have hbn : Below w1.heap.size w1 Wn := by rw [hWn]; exact bw_below _ _
  clear hWn f0 f1 f2 f3 f4 f5 f6 HU HV HR
  go_wp2_with fail
  clear hxW hrW hW HL
  go_loopw [36] (fun iv wx => ∃ j : Nat, j ≤ S.now.length ∧ iv = .int .i64 j ∧ Below w1.heap.size w1 wx) (fun iv _ => (S.now.length - intOf iv).toNat)
  case atStart => exact ⟨0, Nat.zero_le _, rfl, hbn⟩
  case round =>
    clear hbn
    obtain ⟨j, hj, rfl, hb⟩ := hrel
    by_cases hjl : j < S.now.length
    · have hd : decide ((j : Int) < (S.now.length : Int)) = true := decide_eq_true (by omega)
      have hjD : j < D.now.length := by rw [HLN.out]; exact hjl
      have hnz := hwf.zn _ (List.getElem_mem hjl)
      have HNA := Lib.hid (names_at HSO.out j hjl)
      obtain ⟨lb, lo, rfl, hlb, hlcel⟩ := (hsl.below hb).at (k := j) (by rw [List.length_map, namesL_len]; exact hjl)
      have q0 : wr.cell? ⟨lb, lo + j, none⟩ = some (.string S.now[j].1) := by
        obtain ⟨hi, e⟩ := List.getElem?_eq_some_iff.1 HNA.out
        rw [hlcel j hi, e]
      obtain ⟨eN, eT⟩ := HS.out.at j hjl hjD
      have HRD : Hid (Calls Tryd.prog 34 #[.pointer (some ⟨p, 0, none⟩), .string S.now[j].1] wr fun e w' => ∃ v, e = .returned (.tuple #[v, .int .i64 0]) ∧ OwnG w' 5 1 v (VfsS.fl S S.now[j].2).text.size (byteCells (VfsS.fl S S.now[j].2).text) ∧ Below wr.heap.size wr w') := by
        refine (read_c (hW1.below hb) S.now[j].1 hnz).mono ?_
        rw [read_at hwf j hjl]
        rintro e w' ⟨v, r1, r2, -, r4⟩
        exact ⟨v, r1, r2, r4⟩
      -- the document's cells
      have hfi : D.now[j].2 < D.files.length := hwD.idx _ (.inl ⟨D.now[j].1, List.getElem_mem hjD⟩)
      obtain ⟨fa', na', sa', aa', fc', nc', sc', ac', e9, hx9⟩ := hr1.below hb
      unfold rcells at e9
      simp only [Array.mk.injEq, List.cons.injEq, Value.slice.injEq, true_and, and_true] at e9
      obtain ⟨⟨rfl, rfl⟩, ⟨rfl, rfl⟩, ⟨rfl, rfl⟩, rfl, rfl⟩ := e9
      obtain ⟨nb, no, rfl, hnb, hncel⟩ := hx9.n.sl.at (k := j * 2) (by rw [nrow_len]; omega)
      obtain ⟨r0, r1⟩ := nrow_at D.now j hjD
      obtain ⟨fb, fo, rfl, t0, -⟩ := hx9.file D.now[j].2 hfi
      have n0 : wr.cell? ⟨nb, no + j * 2, none⟩ = some (.string S.now[j].1) := by
        obtain ⟨hi, e⟩ := List.getElem?_eq_some_iff.1 r0
        rw [hncel _ hi, e, eN]
      have n1 : wr.cell? ⟨nb, no + j * 2 + 1, none⟩ = some (.int .i64 (D.now[j].2 : Int)) := by
        obtain ⟨hi, e⟩ := List.getElem?_eq_some_iff.1 r1
        rw [Nat.add_assoc, hncel _ hi, e]
      rw [eT] at t0
      have hnbl : nb < wr.heap.size := hnb
      have hfbl : fb < wr.heap.size := by
        obtain ⟨a', c', e1, -, -, hs'⟩ := hx9.f.form
        cases e1
        obtain ⟨b1, o1, e2, h2, -⟩ := hs'.at (k := D.now[j].2 * 2) (by rw [flrow_len]; omega)
        cases e2; exact h2
      have hBr := (hb.block _ hlt1).trans HB1.out
      have d0 : wr.cell? ⟨w.heap.size, 0, none⟩ = some (.slice (some ⟨fb, fo, none⟩) D.files.length fc) := by rw [cell_of hBr]; rfl
      have d1 : wr.cell? ⟨w.heap.size, 1, none⟩ = some (.slice (some ⟨nb, no, none⟩) S.now.length nc) := by rw [cell_of hBr, ← HLN.out]; rfl
      have hltr := (Array.getElem?_eq_some_iff.1 hBr).1
      have hw : IntKind.i64.wrap ((j : Int) + 1) = (j : Int) + 1 := IntWalk.i64_in _ (by omega)
      clear eN eT HNA hlcel hncel r0 r1 hx9 hBr hsl
      generalize (VfsS.fl S S.now[j].2).text = tx at *
      generalize S.now[j].1 = nm at *
      generalize D.now[j].2 = fi at *
      have b1 : (0 : Int) ≤ (j : Int) := by omega
      have b2 : (j : Int) < S.now.length := by omega
      have b3 : (0 : Int) ≤ (fi : Int) := by omega
      have b4 : (fi : Int) < D.files.length := by omega
      go_upto_region 8 with (go_at_call 34; refine HRD.out.mono ?_; rintro e wB ⟨v2, rfl, ho2, hb2⟩; obtain ⟨ra, rc, rfl, -, -, hsl2⟩ := ho2.form)
      have mv : ∀ {a : Addr} {v : Value}, a.block < wr.heap.size → wr.cell? a = some v → wB.cell? a = some v := fun h1 h2 => (hb2.cell h1).trans h2
      have d0 := mv hltr d0
      have d1 := mv hltr d1
      have q0 := mv hlb q0
      have n0 := mv hnbl n0
      have n1 := mv hnbl n1
      have t0 := mv hfbl t0
      have ks := fun q => run_str_of (P := Tryd.prog) (w := wB.drewN q) Tryd.underlying43 Tryd.underlying5 Tryd.underlying9 hsl2 rc
      have hbB : Below w1.heap.size w1 wB := hb.trans (hb2.mono hb.size)
      clear mv ho2 hsl2 HRD hb
      go_quiet (fail)
      go_wp2_with fail
      go_roundw
      case rel => exact ⟨j + 1, by omega, by go_num, below_dN hbB _⟩
      case measure => simp [intOf]; omega
    · have hd : decide ((j : Int) < (S.now.length : Int)) = false := decide_eq_false (by omega)
      go_wp2_with fail
      go_ret
      exact ⟨rfl, hbb1.trans (hb.mono hbb1.size)⟩
end
end Go.Proofs.YtfoamcobpfflbaaDoor
namespace Go.Proofs.YtfoamcobpfflbaaDoor
open Go Go.RowKit Go.Maps
open VfsS (St)

namespace VfsT
abbrev a : ByteArray := ⟨#[97]⟩
abbrev b : ByteArray := ⟨#[98]⟩
abbrev f : ByteArray := ⟨#[102]⟩
abbrev g : ByteArray := ⟨#[103]⟩
theorem check_a : PathS.check a = 0 := by decide
theorem check_b : PathS.check b = 0 := by decide
theorem check_f : PathS.check f = 0 := by decide
theorem check_g : PathS.check g = 0 := by decide
def E1 : St := ⟨[⟨⟨#[]⟩, 0⟩], [(a, 0)], [], [⟨⟨#[]⟩, a, some 0⟩], 100, 1, -1⟩
def E2 : St := ⟨[⟨⟨#[120, 121]⟩, 0⟩], [(a, 0)], [], [⟨⟨#[]⟩, a, some 0⟩], 100, 2, -1⟩
def E3 : St := ⟨[⟨⟨#[120, 121]⟩, 2⟩], [(a, 0)], [], [⟨⟨#[]⟩, a, some 0⟩], 100, 3, -1⟩
def E4 : St := ⟨[⟨⟨#[120, 121]⟩, 2⟩], [(a, 0)], [(a, 0)], [], 100, 4, -1⟩
def E5 : St := ⟨[⟨⟨#[120, 121]⟩, 2⟩], [(b, 0)], [(a, 0)], [⟨a, b, some 0⟩], 100, 5, -1⟩
def E6 : St := ⟨[⟨⟨#[120, 121, 122]⟩, 2⟩], [(b, 0)], [(a, 0)], [⟨a, b, some 0⟩], 100, 6, -1⟩
def E7 : St := ⟨[⟨⟨#[120, 121]⟩, 2⟩], [(a, 0)], [(a, 0)], [], 100, 6, -1⟩
set_option maxRecDepth 10000
theorem e1 : VfsS.createS (VfsS.newS (100 : Int).toNat) a = (E1, 0) := by
  rw [VfsS.createS, check_a, if_neg (by decide)]; rfl
theorem e2 : VfsS.appendS E1 a ⟨#[120, 121]⟩ = (E2, 0) := by rfl
theorem e3 : VfsS.syncS E2 a = (E3, 0) := by rfl
theorem e4 : VfsS.flushAllS E3 = (E4, 0) := by rfl
theorem e5 : VfsS.renameS E4 a b = (E5, 0) := by
  rw [VfsS.renameS, check_b, show VfsS.find E4.now a = some 0 from rfl]; rfl
theorem e6 : VfsS.appendS E5 b ⟨#[122]⟩ = (E6, 0) := by rfl
theorem e7 : VfsS.crashS E6 0 0 = E7 := by rfl
theorem r7a : VfsS.readS E7 a = some ⟨#[120, 121]⟩ := by rfl
theorem r7b : VfsS.readS E7 b = none := by rfl
theorem u7 : VfsS.used E7 = 2 := by rfl
end VfsT
end Go.Proofs.YtfoamcobpfflbaaDoor
namespace Go.Proofs.YtfoamcobpfflbaaDoor
open Go Go.RowKit Go.Maps
open VfsS (St)

theorem slA_new {w0 w1 : World} (cs : List Value) (e : TypeId) (f : Nat × Nat) : SlA w0 w1 (w1.alloc (.cells cs.toArray e f)) (some ⟨w1.heap.size, 0, none⟩) cs := by
  rcases sl_new w1 cs e f with h | ⟨b, o, h1, h2, h3⟩
  · exact .inl h
  · injection h1 with h1; injection h1 with h1 _; exact .inr ⟨_, _, rfl, by simp, .inr (Nat.le_refl _), fun i u hu => by have := h3 i u hu; subst h1; simp_all⟩

theorem SlA.sl {w0 w1 w : World} {a : Option Addr} {xs : List Value} (h : SlA w0 w1 w a xs) : Sl w a xs := by
  rcases h with h | ⟨b, o, h1, h2, h3, h4⟩
  · exact .inl h
  · exact .inr ⟨b, o, h1, h2, h4⟩

theorem below_alloc (w : World) (o : Obj) : Below w.heap.size w (w.alloc o) := (Below.refl _ w).alloc (Nat.le_refl _) o

set_option maxRecDepth 100000 in
set_option maxHeartbeats 4000000 in
theorem awake14_c (w : World) (hg : Gl w) : Calls Tryd.prog 44 #[] w fun e w' => e = .returned (.bool true) ∧ Below w.heap.size w w' := by
  have kc := fun (w : World) (C : Array Value) (n c : Nat) => Lib.run_convert_bytes_const (P := Tryd.prog) w 43 5 C n c Tryd.underlying43 Tryd.underlying5
  have ks := fun {w : World} {a : Option Addr} {b : ByteArray} (h : Sl w a (byteCells b)) (c : Nat) => run_str_of (P := Tryd.prog) Tryd.underlying43 Tryd.underlying5 Tryd.underlying9 h c
  go_enter Tryd.func44, Tryd.ntmps44
  go_wp2_with fail
  refine (new_a 100 w hg).mono ?_
  rintro e w1 (⟨h, _⟩ | ⟨-, p, rfl, h1⟩)
  · omega
  go_wp2_with fail
  refine (create_a h1 VfsT.a (by decide) (by omega)).mono ?_
  rw [VfsT.e1]
  rintro e w2 ⟨rfl, h2⟩
  clear h1
  go_wp2_with fail
  refine (append_a h2 (below_alloc w2 _) VfsT.a ⟨#[120, 121]⟩ (some ⟨w2.heap.size, 0, none⟩) 2 (by decide) (by decide) (slA_new _ _ _) (by omega)).mono ?_
  rw [VfsT.e2]
  rintro e w3 ⟨rfl, h3⟩
  clear h2
  go_wp2_with fail
  refine (sync_a h3 VfsT.a (by decide) (by omega)).mono ?_
  rw [VfsT.e3]
  rintro e w4 ⟨rfl, h4⟩
  clear h3
  go_wp2_with fail
  refine (flush_a h4 (by omega)).mono ?_
  rw [VfsT.e4]
  rintro e w5 ⟨rfl, h5⟩
  clear h4
  go_wp2_with fail
  refine (rename_a h5 VfsT.a VfsT.b (by decide) (by decide) (by omega)).mono ?_
  rw [VfsT.e5]
  rintro e w6 ⟨rfl, h6⟩
  clear h5
  go_wp2_with fail
  refine (append_a h6 (below_alloc w6 _) VfsT.b ⟨#[122]⟩ (some ⟨w6.heap.size, 0, none⟩) 1 (by decide) (by decide) (slA_new _ _ _) (by omega)).mono ?_
  rw [VfsT.e6]
  rintro e w7 ⟨rfl, h7⟩
  clear h6
  go_wp2_with fail
  refine (crash_a h7 0 0).mono ?_
  rw [VfsT.e7]
  rintro e w8 ⟨rfl, h8⟩
  clear h7
  go_wp2_with fail
  refine (read_a h8 VfsT.a (by decide)).mono ?_
  rw [VfsT.r7a]
  simp only [Option.getD_some, Option.isSome_some, if_true]
  rintro e w9 ⟨ra, rc, rfl, hsl, -, h9⟩
  clear h8
  go_wp2_with fail
  refine (read_a h9 VfsT.b (by decide)).mono ?_
  rw [VfsT.r7b]
  simp only [Option.getD_none, Option.isSome_none]
  rintro e wA ⟨sa, sc, rfl, -, hbA, hA⟩
  have hconv := ks (hsl.sl.below hbA) rc
  rw [show (ByteArray.size ⟨#[120, 121]⟩) = 2 from rfl] at hconv
  clear h9 hsl hbA
  go_wp2_with fail
  refine (left_a hA).mono ?_
  rw [VfsT.u7]
  rintro e wB ⟨rfl, hB⟩
  clear hA hconv
  go_wp2_with fail
  refine (list_a hB).mono ?_
  rintro e wC ⟨la, lc, rfl, -, -, hC⟩
  clear hB
  go_wp2_with fail
  refine (steps_a hC).mono ?_
  rintro e wD ⟨rfl, rfl⟩
  go_wp2_with fail
  go_ret
  exact ⟨rfl, hC.out⟩
end Go.Proofs.YtfoamcobpfflbaaDoor
