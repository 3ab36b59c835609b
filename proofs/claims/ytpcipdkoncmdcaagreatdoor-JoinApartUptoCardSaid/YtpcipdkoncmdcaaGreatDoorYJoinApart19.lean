/- Texts of mine, joined: Walk: join.Merge. -/
import Derived.BigQuiet
import Derived.Test.YtpcipdkoncmdcaaGreatDoorYJoinApart18
namespace Go.Proofs.YtpcipdkoncmdcaaGreatDoor
open Go Go.RowKit Go.Maps
theorem st_bool (ad : Addr) (u : Value) (b : Bool) (W : World) (h : W.cell? ad = some u) (hf : W.frozen? ad = false) : (Instr.storeAt 4 (.pointer (some ad)) (.bool b)).run Tryz.prog W = .ok () (W.setCell ad (.bool b)) := by go_simp
theorem st_float (ad : Addr) (u : Value) (x : Nat) (W : World) (h : W.cell? ad = some u) (hf : W.frozen? ad = false) : (Instr.storeAt 44 (.pointer (some ad)) (.float .f64 x)).run Tryz.prog W = .ok () (W.setCell ad (.float .f64 x)) := by
  have : (store ad (.float .f64 x)).run Tryz.prog W = .ok () (W.setCell ad (.float .f64 x)) := by rw [run_store _ _ _ _ _ rfl, h]; simp [hf]
  go_simp
theorem st_ids {W : World} {q i : Nat} {t : Th} {x : List Nat} (h : TR W q t) (hi : i < 3) (hx : OkId x) : (Instr.storeAt 43 (.pointer (some ⟨q, 39 + i * 32, none⟩)) (.agg (nums .u8 x))).run Tryz.prog W = .ok () (W.setCells q (39 + i * 32) (nb x)) :=
  run_storeAt_mid (P := Tryz.prog) W q (39 + i * 32) 43 (nums .u8 x) (h.blk.there _ _ (by rw [nums_size, hx.1, tcs_len h.ok]; omega)) (by rw [nums_size, hx.1]; kernel_rfl) (nums_one _ _)
theorem TR.hg {w : World} {q : Nat} {t : Th} (h : TR w q t) {i : Nat} (hi : i < 3) : w.cell? ⟨q, 36 + i, none⟩ = some (.bool (t.has.get i)) := by
  rcases i with _ | _ | _ | i
  · exact h.h0
  · exact h.h1
  · exact h.h2
  · omega
theorem TR.sg {w : World} {q : Nat} {t : Th} (h : TR w q t) {i : Nat} (hi : i < 3) : w.cell? ⟨q, 135 + i, none⟩ = some (.float .f64 (t.sts.get i)) := by
  rcases i with _ | _ | _ | i
  · exact h.s0
  · exact h.s1
  · exact h.s2
  · omega
theorem fkept {W W' : World} {q fp : Nat} {f : Fi} (hg : W.grownBy W' (some q)) (hne : q ≠ fp) (hl : fp < W.heap.size) (h : W.rangeAt fp 1 (nb f.id) ∧ W.cell? ⟨fp, 33, none⟩ = some (.float .f64 f.stamp)) : W'.rangeAt fp 1 (nb f.id) ∧ W'.cell? ⟨fp, 33, none⟩ = some (.float .f64 f.stamp) :=
  ⟨fun j v hv => (hg.cell_far ⟨fp, 1 + j, none⟩ hl (by simp; exact fun e => hne e.symm)).trans (h.1 j v hv), (hg.cell_far ⟨fp, 33, none⟩ hl (by simp; exact fun e => hne e.symm)).trans h.2⟩
theorem fcells {W : World} {fp : Nat} {f : Fi} (hf : OkFi f) (h : W.heap[fp]? = some (.cells (fiC f).toArray 56 (0, 0))) : W.rangeAt fp 1 (nb f.id) ∧ W.cell? ⟨fp, 33, none⟩ = some (.float .f64 f.stamp) := by
  have hb : Bk W fp 56 (fiC f) := h
  exact ⟨hb.range (A := [.string f.path]) (B := nb f.id) (C := [.float .f64 f.stamp]) rfl rfl, hb.cell (by simp [fiC, nb_len, hf.id.1])⟩
/-- The threes of the first i snapshots. -/
def upT (T : T3 (List Fi)) : Nat → List Th
  | 0 => []
  | i + 1 => takenAll i (upT T i) (T.get i)
theorem taken_len (i : Nat) (f : Fi) : ∀ l : List Th, (taken i f l).length ≤ l.length + 1
  | [] => Nat.le_refl _
  | t :: l => by
    show (if t.path = f.path then t.add i f :: l else t :: taken i f l).length ≤ _
    split
    · simp
    · have := taken_len i f l; simp; omega
theorem takenAll_len (i : Nat) : ∀ (fs : List Fi) (l : List Th), (takenAll i l fs).length ≤ l.length + fs.length
  | [], l => Nat.le_refl _
  | f :: fs, l => by
    have h1 := takenAll_len i fs (taken i f l)
    have h2 := taken_len i f l
    show (takenAll i (taken i f l) fs).length ≤ _
    simp; omega
theorem upT_len {T : T3 (List Fi)} {M : Nat} (h : ∀ i, i < 3 → (T.get i).length ≤ M) : ∀ i, i ≤ 3 → (upT T i).length ≤ i * M
  | 0, _ => by simp [upT]
  | i + 1, hi => by
    have h1 := upT_len h i (by omega)
    have h2 := takenAll_len i (T.get i) (upT T i)
    have h3 := h i (by omega)
    show (takenAll i (upT T i) (T.get i)).length ≤ _
    rw [Nat.add_mul]; omega
theorem taken_path {i : Nat} {f : Fi} {t : Th} : ∀ {l : List Th}, t ∈ taken i f l → t.path = f.path ∨ ∃ s ∈ l, t.path = s.path
  | [], h => by
    rw [show taken i f [] = [({ zTh with path := f.path } : Th).add i f] from rfl, List.mem_singleton] at h
    subst h; exact .inl rfl
  | s :: l, h => by
    rw [show taken i f (s :: l) = if s.path = f.path then s.add i f :: l else s :: taken i f l from rfl] at h
    split at h
    · rename_i e
      rcases List.mem_cons.1 h with rfl | h
      · exact .inl e
      · exact .inr ⟨t, by simp [h], rfl⟩
    · rcases List.mem_cons.1 h with rfl | h
      · exact .inr ⟨t, by simp, rfl⟩
      · rcases taken_path h with h | ⟨x, hx, h⟩
        · exact .inl h
        · exact .inr ⟨x, by simp [hx], h⟩
theorem takenAll_path {i : Nat} {t : Th} : ∀ {fs : List Fi} {l : List Th}, t ∈ takenAll i l fs → (∃ f ∈ fs, t.path = f.path) ∨ ∃ s ∈ l, t.path = s.path
  | [], l, h => .inr ⟨t, h, rfl⟩
  | f :: fs, l, h => by
    rcases takenAll_path (fs := fs) (l := taken i f l) h with ⟨g, hg, e⟩ | ⟨s, hs, e⟩
    · exact .inl ⟨g, by simp [hg], e⟩
    · rcases taken_path hs with e2 | ⟨x, hx, e2⟩
      · exact .inl ⟨f, by simp, e.trans e2⟩
      · exact .inr ⟨x, hx, e.trans e2⟩
theorem upT_path {T : T3 (List Fi)} {t : Th} : ∀ i, t ∈ upT T i → ∃ j, j < i ∧ ∃ f ∈ T.get j, t.path = f.path
  | 0, h => by cases h
  | i + 1, h => by
    rcases takenAll_path h with ⟨f, hf, e⟩ | ⟨s, hs, e⟩
    · exact ⟨i, by omega, f, hf, e⟩
    · obtain ⟨j, hj, f, hf, e2⟩ := upT_path i hs
      exact ⟨j, by omega, f, hf, e.trans e2⟩
set_option maxRecDepth 100000 in
theorem three_zero : Tryz.zeroCells85 = (tcs zTh).toArray := by kernel_rfl
/-- The first snapshot out of order. -/
def chkA (T : T3 (List Fi)) : Nat → Int
  | 0 => 0
  | n + 1 => if chkS (T.get (2 - n)) ≠ 0 then chkS (T.get (2 - n)) else chkA T n
theorem chkS_len {l : List Fi} (h : chkS l = 0) : l.length ≤ 256 := by
  unfold chkS at h
  split at h
  · cases h
  · omega
theorem chkA_zero {T : T3 (List Fi)} (h : chkA T 3 = 0) : ∀ i, i < 3 → chkS (T.get i) = 0 := by
  have s1 : ∀ n, chkA T (n + 1) = 0 → chkS (T.get (2 - n)) = 0 ∧ chkA T n = 0 := by
    intro n h
    rw [show chkA T (n + 1) = if chkS (T.get (2 - n)) ≠ 0 then chkS (T.get (2 - n)) else chkA T n from rfl] at h
    split at h
    · exact absurd h (by assumption)
    · rename_i e; exact ⟨by simpa using e, h⟩
  obtain ⟨h0, h⟩ := s1 2 h
  obtain ⟨h1, h⟩ := s1 1 h
  obtain ⟨h2, h⟩ := s1 0 h
  intro i hi
  rcases i with _ | _ | _ | i
  · exact h0
  · exact h1
  · exact h2
  · omega
theorem chkA_step (T : T3 (List Fi)) {i : Nat} (hi : i < 3) : chkA T (3 - i) = if chkS (T.get i) ≠ 0 then chkS (T.get i) else chkA T (3 - (i + 1)) := by
  rcases i with _ | _ | _ | i
  · rfl
  · rfl
  · rfl
  · omega

set_option maxRecDepth 100000 in
set_option maxHeartbeats 16000000 in
theorem merge_c {w : World} {va vb vc sv : Value} {T : T3 (List Fi)} {bl : List Bl} (ha : FS w va T.a) (hb : FS w vb T.b) (hc : FS w vc T.c) (hg : Gl w) (hz : ∀ id, (textS bl id).1.size ≤ 1000) (hs : BS w sv bl) :
    Calls Tryz.prog 13 #[.agg #[va, vb, vc], SrcV sv] w fun e w' => ∃ ov V, e = .returned (.tuple #[ov, .int .i64 (mergeS (textS bl) (upT T 3) (chkA T 3)).1]) ∧ V.map (·.o) = (mergeS (textS bl) (upT T 3) (chkA T 3)).2 ∧ MO w w' w.heap.size ov V := by
  have HA := Lib.hid ha
  have HB := Lib.hid hb
  have HCC := Lib.hid hc
  have HGL := Lib.hid hg
  have HBS := Lib.hid hs
  have HZ := Lib.hid hz
  obtain ⟨aa, ca, rfl⟩ := ha.lit
  obtain ⟨ab, cb, rfl⟩ := hb.lit
  obtain ⟨ac, cc, rfl⟩ := hc.lit
  have HFS : Hid (∀ i, i < 3 → FS w ((#[.slice aa T.a.length ca, .slice ab T.b.length cb, .slice ac T.c.length cc] : Array Value).getD i undef) (T.get i)) := by
    intro i hi
    rcases i with _ | _ | _ | i
    · exact HA.out
    · exact HB.out
    · exact HCC.out
    · omega
  clear ha hb hc hg hs hz HA HB HCC
  unfold SrcV
  have hmm := fun (t : TypeId) (w : World) => run_makeMap (P := Tryz.prog) t w
  obtain ⟨W1, hW1⟩ : ∃ W1, w.alloc (.cells #[.slice aa T.a.length ca, .slice ab T.b.length cb, .slice ac T.c.length cc] 23 (0, 0)) = W1 := ⟨_, rfl⟩
  have hB1 : Below w.heap.size w W1 := by rw [← hW1]; exact (Below.refl _ w).alloc (Nat.le_refl _) _
  have hb0 : W1.heap[w.heap.size]? = some (.cells #[.slice aa T.a.length ca, .slice ab T.b.length cb, .slice ac T.c.length cc] 23 (0, 0)) := by rw [← hW1]; exact Array.getElem?_push_size
  have hs1 : W1.heap.size = w.heap.size + 1 := by rw [← hW1]; simp
  obtain ⟨W2, hW2⟩ : ∃ W2, W1.alloc (.map #[] 0) = W2 := ⟨_, rfl⟩
  have hB2 : Below W1.heap.size W1 W2 := by rw [← hW2]; exact (Below.refl _ W1).alloc (Nat.le_refl _) _
  have hM : MT w W2 W1.heap.size (.slice none 0 0) [] := ⟨by rw [← hW2]; exact MapG.made QC W1, (fun x hx => nomatch hx), List.nodup_nil, (fun x hx => nomatch hx), OwnG.nil _ _ _, (fun k hk => by cases hk), by omega, hB1.trans (hB2.mono hB1.size)⟩
  have hb2 : W2.heap[w.heap.size]? = some (.cells #[.slice aa T.a.length ca, .slice ab T.b.length cb, .slice ac T.c.length cc] 23 (0, 0)) := (hB2.block _ (by omega)).trans hb0
  have HM := Lib.hid hM
  have HS1 := Lib.hid hs1
  have HX2 := Lib.hid hb2
  have HW1 := Lib.hid hW1
  have HW2 := Lib.hid hW2
  clear hM hs1 hb2 hW1 hW2 hB1 hB2 hb0
  go_enter Tryz.func13, Tryz.ntmps13
  go_upto_region 3 with fail
  rw [HW1.out, HW2.out]
  have HMB : Hid (MT w W2 (w.heap.size + 1) (.slice none 0 0) []) := by show MT w W2 (w.heap.size + 1) (.slice none 0 0) []; rw [← HS1.out]; exact HM.out
  clear HM HS1 HW1 HW2 hmm
  generalize w.heap.size + 1 = mb at *
  go_upto_region 4 with (refine wp_loadB rfl 23 _ rfl w.heap.size rfl HX2.out _ Tryz.underlying23 rfl (by kernel_rfl) ?_)
  clear HX2
  go_loopw [7, 23] (fun pv iv wx => ∃ i : Nat, i ≤ 3 ∧ iv = .int .i64 i ∧ ∃ X, Hid (MT w wx mb pv X) ∧ Hid (X.map (·.1) = upT T i) ∧ Hid (chkA T 3 = chkA T (3 - i))) (fun _ iv _ => (3 - intOf iv).toNat)
  case atStart => exact ⟨0, by decide, rfl, [], HMB, rfl, rfl⟩
  case round =>
    obtain ⟨i, hi, rfl, X, HM, HXT, HCH⟩ := hrel
    by_cases hlt : i < 3
    · -- @dev{ A
      have d1 : decide ((i : Int) < 3) = true := decide_eq_true (by omega)
      have d2 : decide (i < 3) = true := decide_eq_true hlt
      have d3 : (0 : Int) ≤ (i : Int) := by omega
      have d4 : (i : Int) < 3 := by omega
      have dw : IntKind.i64.wrap ((i : Int) + 1) = ((i + 1 : Nat) : Int) := IntWalk.i64_in _ (by omega)
      have hfi := (HFS.out i hlt).below (w' := wr) HM.out.below
      obtain ⟨fv, hfv⟩ : ∃ fv, (#[.slice aa T.a.length ca, .slice ab T.b.length cb, .slice ac T.c.length cc] : Array Value).getD i undef = fv := ⟨_, rfl⟩
      rw [hfv] at hfi
      have hfw := HFS.out i hlt
      rw [hfv] at hfw
      have hix : ∀ W : World, (Instr.index 23 (.agg #[.slice aa T.a.length ca, .slice ab T.b.length cb, .slice ac T.c.length cc]) (.int .i64 i)).run Tryz.prog W = .ok fv W := run_index_agg Tryz.underlying23 (by kernel_rfl) (fun w => by simp [isAgg, run_underlying Tryz.underlying22]; try rfl) hlt (by rw [← hfv]; rcases i with _ | _ | _ | i <;> first | rfl | omega)
      have hcs := chkA_step T hlt
      rw [← HCH.out] at hcs
      have HCS := Lib.hid hcs
      have HFI := Lib.hid hfi
      have HUP : Hid (upT T (i + 1) = takenAll i (upT T i) (T.get i)) := rfl
      clear hcs hfi hfv HCH
      obtain ⟨ts, hts⟩ : ∃ ts, T.get i = ts := ⟨_, rfl⟩
      rw [hts] at HCS HFI HUP hfw
      have HFW := Lib.hid hfw
      clear hfw
      have HTS := Lib.hid hts
      clear hts
      have HCK := Lib.hid (tcheck_c HFI.out (HGL.out.below HM.out.below (Nat.le_refl _)))
      have hnl := HFI.out.n
      obtain ⟨af, cf, rfl⟩ := HFI.out.lit
      obtain ⟨ck, hck⟩ : ∃ ck, chkS ts = ck := ⟨_, rfl⟩
      rw [hck] at HCK HCS
      clear hck
      by_cases hc0 : ck = 0
      · subst hc0
        rw [if_neg (by simp)] at HCS
        go_upto_region 10 with (go_at_call 19; refine HCK.out.mono ?_; rintro e W6 ⟨rfl, hb6⟩; have HM6 := Lib.hid (HM.out.step hb6); clear hb6)
        clear HM HCK
        go_loopw [7, 34] (fun pv jv wx => ∃ j : Nat, j ≤ ts.length ∧ jv = .int .i64 j ∧ ∃ X, Hid (MT w wx mb pv X) ∧ Hid (X.map (·.1) = takenAll i (upT T i) (ts.take j))) (fun _ jv _ => (ts.length - intOf jv).toNat)
        case atStart => exact ⟨0, Nat.zero_le _, rfl, X, HM6, HXT.out⟩
        case round =>
          clear HM6 HXT
          obtain ⟨j, hj, rfl, X', HM, HXT⟩ := hrel
          by_cases hjl : j < ts.length
          · have c1 : decide ((j : Int) < (ts.length : Int)) = true := decide_eq_true (by omega)
            have c2 : decide (j < ts.length) = true := decide_eq_true hjl
            have c3 : (0 : Int) ≤ (j : Int) := by omega
            have c4 : (j : Int) < (ts.length : Int) := by omega
            have cw : IntKind.i64.wrap ((j : Int) + 1) = ((j + 1 : Nat) : Int) := IntWalk.i64_in _ (by omega)
            obtain ⟨b, o, c', e, hbl, hr⟩ := (HFW.out.below HM.out.below).at hjl
            injection e with e1 _ e2
            subst e1 e2
            have HR := Lib.hid hr
            have HOK : Hid (OkFi ts[j]) := HFW.out.ok _ (List.getElem_mem hjl)
            have HL34 : Hid ((fiC ts[j]).toArray.size = 34) := by show (fiC ts[j]).toArray.size = 34; rw [List.size_toArray, fiC_len HOK.out]
            have HTK : Hid (takenAll i (upT T i) (ts.take (j + 1)) = taken i ts[j] (X'.map (·.1))) := by show _ = _; rw [HXT.out]; unfold takenAll; rw [List.take_add_one, List.foldl_append, List.getElem?_eq_getElem hjl]; rfl
            have HRJ : Hid (wr.rangeAt b (o + j * 34) (fiC ts[j])) := HR.out j hjl
            clear hr HR
            generalize hfe : ts[j] = f at *
            clear hfe
            go_upto_region 12 with (first
              | (refine wpList_load_mid rfl 56 _ rfl b (o + j * 34) rfl (fiC f) _ HRJ.out Tryz.underlying56 rfl (by rw [fiC_len HOK.out]; kernel_rfl) ?_)
              | (refine wp_storeB rfl 56 _ _ rfl wr.heap.size (fiC f).toArray rfl rfl Array.getElem?_push_size (by rw [HL34.out]; first | done | kernel_rfl) (by rw [HL34.out]; first | done | kernel_rfl) fiC_one ?_; intro W5 hb5 hg5))
            have hB5 : Below wr.heap.size wr W5 := ((Below.refl wr.heap.size wr).alloc (Nat.le_refl _) _).grown hg5 (by simp) (fun k hk => by cases hk; exact Nat.le_refl _)
            have HM5 := Lib.hid (HM.out.step hB5)
            have HF5 := Lib.hid hb5
            have hp5 : W5.cell? ⟨wr.heap.size, 0, none⟩ = some (.string f.path) := by simp only [World.cell?, hb5]; rfl
            have hfp : ∀ x ∈ X', x.2 ≠ wr.heap.size := fun x hx => by have := (HM.out.tr x hx).1.blk.lt; omega
            have HFP := Lib.hid hfp
            have HMX : Hid (MT w wr mb u7 X') := HM.out
            clear hg5 hb5 hB5 HM HL34 HRJ hbl hfp
            have HOF : Hid (u7.ownBlock ≠ some wr.heap.size) := by intro e; have := HMX.out.row.lt e; omega
            have HNM : Hid (wr.heap.size ≠ mb) := by have := HMX.out.map.lt; show wr.heap.size ≠ mb; omega
            clear HMX
            generalize wr.heap.size = fp at *
            have hpz : f.path.size ≤ maxLen := Nat.le_trans HOK.out.pz (by decide)
            have hlk := HM5.out.map.look f.path hpz
            rcases lookF_cases X' f.path with ⟨hl1, hl2⟩ | ⟨pre, t, q, post, hX, htp, hl1, hl2⟩
            · rw [hl1] at hlk
              have hlk2 : (Instr.lookup 81 (.map (some mb)) (.string f.path) false).run Tryz.prog W5 = .ok (.pointer none) W5 := hlk
              clear hlk
              have hq0 : W5.heap.size ≠ mb ∧ w.heap.size ≤ W5.heap.size ∧ (∀ x ∈ X', x.2 ≠ W5.heap.size) ∧ u7.ownBlock ≠ some W5.heap.size := ⟨by have := HM5.out.map.lt; omega, HM5.out.below.size, fun x hx => by have := (HM5.out.tr x hx).1.blk.lt; omega, fun e => by have := HM5.out.row.lt e; omega⟩
              have hfp5 : fp < W5.heap.size := (Array.getElem?_eq_some_iff.1 HF5.out).1
              obtain ⟨W6, hW6⟩ : ∃ W6, W5.alloc (.cells (tcs zTh).toArray 85 (0, 0)) = W6 := ⟨_, rfl⟩
              have hB6 : Below W5.heap.size W5 W6 := by rw [← hW6]; exact (Below.refl _ W5).alloc (Nat.le_refl _) _
              have ht6 : TR W6 W5.heap.size zTh := ⟨by rw [← hW6]; exact Array.getElem?_push_size, zTh_ok⟩
              have HW6 : Hid (W5.alloc (.cells (tcs zTh).toArray 85 (0, 0)) = W6) := hW6
              clear hW6
              have HM6 := Lib.hid (HM5.out.step hB6)
              have HF6 : Hid (W6.heap[fp]? = some (.cells (fiC f).toArray 56 (0, 0))) := (hB6.block _ hfp5).trans HF5.out
              have hp6 : W6.cell? ⟨fp, 0, none⟩ = some (.string f.path) := (hB6.cell (p := ⟨fp, 0, none⟩) hfp5).trans hp5
              have HB6 := Lib.hid hB6
              clear hB6
              go_upto_region 15 with fail
              rw [three_zero, HW6.out]
              have HQ0 := Lib.hid hq0
              have HFP5 := Lib.hid hfp5
              have hqf0 : W5.heap.size ≠ fp := by omega
              obtain ⟨ht7, hg7⟩ := ht6.pathput f.path
              have hB7 : Below W5.heap.size W5 (W6.setCell ⟨W5.heap.size, 0, none⟩ (.string f.path)) := HB6.out.grown hg7 HB6.out.size (fun k hk => by cases hk; exact Nat.le_refl _)
              have hc0 : W6.cell? ⟨W5.heap.size, 0, none⟩ = some (.string ByteArray.empty) := ht6.blk.cell rfl
              have hf0 := ht6.blk.fz 0
              have HT7 := Lib.hid ht7
              have HB7 := Lib.hid hB7
              clear hq0 hfp5 ht6 ht7 hg7 hB7 HM6 HB6 HW6
              go_upto_region 16 with fail
              clear hc0 hf0 hp6 HF6
              generalize W6.setCell ⟨W5.heap.size, 0, none⟩ (.string f.path) = W7 at *
              generalize hqe : W5.heap.size = q at *
              have HM7 : Hid (MT w W7 mb u7 X') := HM5.out.step (by rw [hqe]; exact HB7.out)
              have HF7 : Hid (W7.heap[fp]? = some (.cells (fiC f).toArray 56 (0, 0))) := (HB7.out.block _ HFP5.out).trans HF5.out
              have hp7 : W7.cell? ⟨fp, 0, none⟩ = some (.string f.path) := (HB7.out.cell (p := ⟨fp, 0, none⟩) HFP5.out).trans hp5
              have hlt7 : fp < W7.heap.size := (Array.getElem?_eq_some_iff.1 HF7.out).1
              have hXl : X'.length ≤ 40000000 := by
                have h1 : X'.length = (takenAll i (upT T i) (ts.take j)).length := by rw [← HXT.out]; simp
                have h2 := takenAll_len i (ts.take j) (upT T i)
                have h3 := upT_len (T := T) (M := 10000000) (fun i hi => (HFS.out i hi).n) i hi
                have h4 : (ts.take j).length ≤ ts.length := by rw [List.length_take]; omega
                have h5 : i * 10000000 ≤ 3 * 10000000 := Nat.mul_le_mul_right _ hi
                omega
              have HXL := Lib.hid hXl
              have HQE := Lib.hid hqe
              clear hXl hqe HB7 hp5
              go_upto_region 17 with (refine wp_putG rfl _ _ _ rfl rfl HM7.out.map f.path (some q) rfl rfl hpz trivial (Nat.lt_of_le_of_lt HXL.out (by decide)) ?_; intro W9 hm9 hg9)
              have hp9 : W9.cell? ⟨fp, 0, none⟩ = some (.string f.path) := (hg9.cell_far ⟨fp, 0, none⟩ hlt7 (by simp; exact HNM.out)).trans hp7
              have HM9 := Lib.hid hm9
              have HG9 := Lib.hid hg9
              have hrow9 : OwnG W9 9 1 u7 X'.length (lrow (X'.map (·.1.path))) := HM7.out.row.kept hg9 (by
                cases e : u7.ownBlock with
                | none => exact .inl rfl
                | some k => exact .inr (by simp; exact (HM7.out.own k e).1))
              have hba : Below W9.heap.size W9 (W9.alloc (.cells #[.string f.path] 9)) := (Below.refl _ W9).alloc (Nat.le_refl _) _
              have htl : Tl (W9.alloc (.cells #[.string f.path] 9)) (.slice (some ⟨W9.heap.size, 0, none⟩) 1 1) [f.path] := ⟨some ⟨W9.heap.size, 0, none⟩, 1, rfl, Nat.le_refl _, by simp [maxLen], (fun h => nomatch h), .inr ⟨W9.heap.size, 0, rfl, by simp, fun i u hu => by
                rw [World.cell?_alloc_at _ _ _ _ rfl]
                simpa [lrow] using hu⟩⟩
              have HTL := Lib.hid htl
              have HROW := Lib.hid (hrow9.below hba)
              have hne9 : u7.ownBlock ≠ some fp := fun e => by have h1 := (HM5.out.own fp e).2.2; exact HOF.out e
              have HGA : Hid (W9.grownBy (W9.alloc (.cells #[.string f.path] 9)) u7.ownBlock) := World.grownBy_alloc W9 _ _
              have hlt9 : fp < W9.heap.size := Nat.lt_of_lt_of_le hlt7 hg9.size
              clear hm9 hg9 hrow9 hba htl hp7
              go_upto_region 18 with (refine wp_appG rfl _ _ _ _ rfl ES rfl (v := u7) (xv := .slice (some ⟨W9.heap.size, 0, none⟩) 1 1) (n := X'.length) (m := 1) rfl HROW.out rfl (src_tl HTL.out) (by have := HXL.out; simp only [maxLen]; omega) (by have := HXL.out; omega) ?_; intro v10 W10 ho10 hg10 hv10)
              obtain ⟨t, ht⟩ : ∃ t : Th, t = { zTh with path := f.path } := ⟨_, rfl⟩
              have HTE := Lib.hid ht
              have HM10 : Hid (MT w W10 mb v10 (X' ++ [(t, q)])) := by
                rw [ht]
                exact HM7.out.new HT7.out rfl HQ0.out hl1 HM9.out HG9.out ho10 (HGA.out.trans hg10) (fun k hk => (hv10 k hk).imp id (fun h => Nat.le_trans (by simp) h))
              have HF10 : Hid (W10.heap[fp]? = some (.cells (fiC f).toArray 56 (0, 0))) := ((HGA.out.trans hg10).block fp hlt9 (fun e => hne9 e.symm)).trans ((HG9.out.block fp hlt7 (by simp; exact HNM.out)).trans HF7.out)
              clear ho10 hg10 hv10 ht HT7 HM9 HG9 HGA HROW HTL hne9 hlt7 HF7 hp9 hlt9
              have HTQ : Hid (TR W10 q t) := (HM10.out.tr (t, q) (by simp)).1
              have hqf : q ≠ fp := hqf0
              have HFC := Lib.hid (fcells HOK.out HF10.out)
              have HLT : Hid (fp < (W10.drewN 1).heap.size) := (Array.getElem?_eq_some_iff.1 HF10.out).1
              refine wp_region_hz (fun W => W.rangeAt fp 1 (nb f.id) ∧ W.cell? ⟨fp, 33, none⟩ = some (.float .f64 f.stamp)) (.tk 0 (.tk 1 (.tk 2 (.tk 3 (.tk 4 (.tk 5 (.tk 6 (.tk 7 (.tk 8 (.tk 9 (.tk 10 (.tk 11 (.tk 12 (.tk 13 (.tk 15 (.tk 16 (.tk 17 (.tk 20 (.tk 21 (.fc 14 (.tk 18 (.fc 19 (.tk 22 (.fc 23 (.nil))))))))))))))))))))))))) (by kernel_rfl) (by kernel_rfl) (fun _ _ _ _ _ h => h) ?_
              have hs0 : (fun W => W.rangeAt fp 1 (nb f.id) ∧ W.cell? ⟨fp, 33, none⟩ = some (.float .f64 f.stamp)) (W10.drewN 1) := HFC.out
              have htd : TR (W10.drewN 1) q t := HTQ.out.below (below_dN (Below.refl _ W10) 1)
              refine goZ_tk rfl rfl 61 rfl (.pointer (some ⟨q, 0, none⟩)) (fun _ => rfl) ?_; simp only [zT, zA, zB]
              refine goZ_tk rfl rfl 62 rfl (.int .i64 i) (fun _ => rfl) ?_; simp only [zT, zA, zB]
              refine goZ_tk rfl rfl 63 rfl (.pointer (some ⟨q, 0, none⟩)) (fun _ => rfl) ?_; simp only [zT, zA, zB]
              refine goZ_tk rfl rfl 64 rfl (.int .i64 i) (fun _ => rfl) ?_; simp only [zT, zA, zB]
              refine goZ_tk rfl rfl 65 rfl (.pointer (some ⟨q, 0, none⟩)) (fun _ => rfl) ?_; simp only [zT, zA, zB]
              refine goZ_tk rfl rfl 66 rfl (.int .i64 i) (fun _ => rfl) ?_; simp only [zT, zA, zB]
              refine goZ_tk rfl rfl 67 rfl (.pointer (some ⟨fp, 1, none⟩)) (fun _ => rfl) ?_; simp only [zT, zA, zB]
              refine goZ_ld rfl rfl 68 rfl 43 _ rfl ⟨fp, 1, none⟩ (.agg (nums .u8 f.id)) rfl (fun W hS => ld_id HOK.out.id hS.1) (hs0) ?_; simp only [zT, zA, zB]
              refine goZ_tk rfl rfl 69 rfl (.pointer (some ⟨fp, 33, none⟩)) (fun _ => rfl) ?_; simp only [zT, zA, zB]
              refine goZ_ld rfl rfl 70 rfl 44 _ rfl ⟨fp, 33, none⟩ (.float .f64 f.stamp) rfl (fun W hS => ld_float _ _ W hS.2) (hs0) ?_; simp only [zT, zA, zB]
              refine goZ_tk rfl rfl 71 rfl (.pointer (some ⟨q, 0, none⟩)) (fun _ => rfl) ?_; simp only [zT, zA, zB]
              refine goZ_tk rfl rfl 72 rfl (.pointer (some ⟨q, 0, none⟩)) (fun _ => rfl) ?_; simp only [zT, zA, zB]
              refine goZ_tk rfl rfl 73 rfl (.pointer (some ⟨q, 36, none⟩)) (fun _ => rfl) ?_; simp only [zT, zA, zB]
              refine goZ_tk rfl rfl 74 rfl (.pointer (some ⟨q, 36 + i, none⟩)) (fun _ => by go_simp) ?_; simp only [zT, zA, zB]
              refine goZ_tk rfl rfl 75 rfl (.pointer (some ⟨q, 0, none⟩)) (fun _ => rfl) ?_; simp only [zT, zA, zB]
              refine goZ_tk rfl rfl 76 rfl (.pointer (some ⟨q, 0, none⟩)) (fun _ => rfl) ?_; simp only [zT, zA, zB]
              refine goZ_tk rfl rfl 77 rfl (.pointer (some ⟨q, 39, none⟩)) (fun _ => rfl) ?_; simp only [zT, zA, zB]
              refine goZ_tk rfl rfl 79 rfl (.pointer (some ⟨q, 0, none⟩)) (fun _ => rfl) ?_; simp only [zT, zA, zB]
              refine goZ_tk rfl rfl 80 rfl (.pointer (some ⟨q, 135, none⟩)) (fun _ => rfl) ?_; simp only [zT, zA, zB]
              obtain ⟨ht6, hg6⟩ := htd.hasput hlt true
              have hs6 : (fun W => W.rangeAt fp 1 (nb f.id) ∧ W.cell? ⟨fp, 33, none⟩ = some (.float .f64 f.stamp)) ((W10.drewN 1).setCell ⟨q, 36 + i, none⟩ (.bool true)) := fkept hg6 hqf HLT.out hs0
              refine goZ_st (ds' := [9, 7]) rfl rfl (by kernel_rfl) rfl 4 _ _ rfl ⟨q, 36 + i, none⟩ (.bool true) rfl rfl _ (st_bool _ _ _ _ (htd.hg hlt) (htd.blk.fz _)) (fun _ => hs6) ?_
              refine goZ_tk rfl rfl 78 rfl (.pointer (some ⟨q, 39 + i * 32, none⟩)) (fun _ => by go_simp) ?_; simp only [zT, zA, zB]
              obtain ⟨ht7, hg7⟩ := ht6.idsput hlt HOK.out.id
              have hs7 : (fun W => W.rangeAt fp 1 (nb f.id) ∧ W.cell? ⟨fp, 33, none⟩ = some (.float .f64 f.stamp)) (((W10.drewN 1).setCell ⟨q, 36 + i, none⟩ (.bool true)).setCells q (39 + i * 32) (nb f.id)) := fkept hg7 hqf (Nat.lt_of_lt_of_le HLT.out hg6.size) hs6
              refine goZ_st (ds' := [9]) rfl rfl (by kernel_rfl) rfl 43 _ _ rfl ⟨q, 39 + i * 32, none⟩ (.agg (nums .u8 f.id)) rfl rfl _ (st_ids ht6 hlt HOK.out.id) (fun _ => hs7) ?_
              refine goZ_tk rfl rfl 81 rfl (.pointer (some ⟨q, 135 + i, none⟩)) (fun _ => by go_simp) ?_; simp only [zT, zA, zB]
              obtain ⟨ht8, hg8⟩ := ht7.stput hlt HOK.out.st
              refine goZ_st (ds' := []) rfl rfl (by kernel_rfl) rfl 44 _ _ rfl ⟨q, 135 + i, none⟩ (.float .f64 f.stamp) rfl rfl _ (st_float _ _ _ _ (ht7.sg hlt) (ht7.blk.fz _)) (fun h => absurd rfl h) ?_
              have HG8 := Lib.hid ((hg6.trans hg7).trans hg8)
              have HT8 : Hid (TR _ q (t.add i f)) := ht8
              clear hg6 hg7 hg8 ht6 ht7 ht8 hs0 hs6 hs7 htd
              generalize ((W10.drewN 1).setCell ⟨q, 36 + i, none⟩ (.bool true)).setCells q (39 + i * 32) (nb f.id) = W7 at *
              generalize W7.setCell ⟨q, 135 + i, none⟩ (.float .f64 f.stamp) = W8 at *
              refine goZ_end ?_
              have HM11 : Hid (MT w W8 mb v10 (X' ++ [(t.add i f, q)])) := by
                have h1 := HM10.out.step (below_dN (Below.refl _ W10) 1)
                exact h1.turn HG8.out HT8.out rfl (by rw [HTE.out]; rfl)
              have HX11 : Hid ((X' ++ [(t.add i f, q)]).map (·.1) = takenAll i (upT T i) (ts.take (j + 1))) := by
                show _ = _
                rw [HTK.out, List.map_append, taken_new (fun s hs => by obtain ⟨x, hx, rfl⟩ := List.mem_map.1 hs; exact hl2 x hx), HTE.out]; rfl
              clear hl1 hl2 hlk2
              go_wp2_with fail
              go_roundw
              case rel => exact ⟨j + 1, hjl, by go_num, _, HM11, HX11⟩
              case measure => simp [intOf]; omega
            · rw [hl1] at hlk
              have hlk2 : (Instr.lookup 81 (.map (some mb)) (.string f.path) false).run Tryz.prog W5 = .ok (.pointer (some ⟨q, 0, none⟩)) W5 := hlk
              clear hlk hl1
              have hmem : (t, q) ∈ X' := by rw [hX]; simp
              have HTQ := Lib.hid (HM5.out.tr _ hmem).1
              have hqf : q ≠ fp := HFP.out _ hmem
              have HFC := Lib.hid (fcells HOK.out HF5.out)
              have HLT : Hid (fp < (W5.drewN 1).heap.size) := (Array.getElem?_eq_some_iff.1 HF5.out).1
              have HTV := Lib.hid (HM5.out.tr _ hmem).2
              clear hmem
              go_upto_region 18 with fail
              refine wp_region_hz (fun W => W.rangeAt fp 1 (nb f.id) ∧ W.cell? ⟨fp, 33, none⟩ = some (.float .f64 f.stamp)) (.tk 0 (.tk 1 (.tk 2 (.tk 3 (.tk 4 (.tk 5 (.tk 6 (.tk 7 (.tk 8 (.tk 9 (.tk 10 (.tk 11 (.tk 12 (.tk 13 (.tk 15 (.tk 16 (.tk 17 (.tk 20 (.tk 21 (.fc 14 (.tk 18 (.fc 19 (.tk 22 (.fc 23 (.nil))))))))))))))))))))))))) (by kernel_rfl) (by kernel_rfl) (fun _ _ _ _ _ h => h) ?_
              have hs0 : (fun W => W.rangeAt fp 1 (nb f.id) ∧ W.cell? ⟨fp, 33, none⟩ = some (.float .f64 f.stamp)) (W5.drewN 1) := HFC.out
              have htd : TR (W5.drewN 1) q t := HTQ.out.below (below_dN (Below.refl _ W5) 1)
              refine goZ_tk rfl rfl 61 rfl (.pointer (some ⟨q, 0, none⟩)) (fun _ => rfl) ?_; simp only [zT, zA, zB]
              refine goZ_tk rfl rfl 62 rfl (.int .i64 i) (fun _ => rfl) ?_; simp only [zT, zA, zB]
              refine goZ_tk rfl rfl 63 rfl (.pointer (some ⟨q, 0, none⟩)) (fun _ => rfl) ?_; simp only [zT, zA, zB]
              refine goZ_tk rfl rfl 64 rfl (.int .i64 i) (fun _ => rfl) ?_; simp only [zT, zA, zB]
              refine goZ_tk rfl rfl 65 rfl (.pointer (some ⟨q, 0, none⟩)) (fun _ => rfl) ?_; simp only [zT, zA, zB]
              refine goZ_tk rfl rfl 66 rfl (.int .i64 i) (fun _ => rfl) ?_; simp only [zT, zA, zB]
              refine goZ_tk rfl rfl 67 rfl (.pointer (some ⟨fp, 1, none⟩)) (fun _ => rfl) ?_; simp only [zT, zA, zB]
              refine goZ_ld rfl rfl 68 rfl 43 _ rfl ⟨fp, 1, none⟩ (.agg (nums .u8 f.id)) rfl (fun W hS => ld_id HOK.out.id hS.1) (hs0) ?_; simp only [zT, zA, zB]
              refine goZ_tk rfl rfl 69 rfl (.pointer (some ⟨fp, 33, none⟩)) (fun _ => rfl) ?_; simp only [zT, zA, zB]
              refine goZ_ld rfl rfl 70 rfl 44 _ rfl ⟨fp, 33, none⟩ (.float .f64 f.stamp) rfl (fun W hS => ld_float _ _ W hS.2) (hs0) ?_; simp only [zT, zA, zB]
              refine goZ_tk rfl rfl 71 rfl (.pointer (some ⟨q, 0, none⟩)) (fun _ => rfl) ?_; simp only [zT, zA, zB]
              refine goZ_tk rfl rfl 72 rfl (.pointer (some ⟨q, 0, none⟩)) (fun _ => rfl) ?_; simp only [zT, zA, zB]
              refine goZ_tk rfl rfl 73 rfl (.pointer (some ⟨q, 36, none⟩)) (fun _ => rfl) ?_; simp only [zT, zA, zB]
              refine goZ_tk rfl rfl 74 rfl (.pointer (some ⟨q, 36 + i, none⟩)) (fun _ => by go_simp) ?_; simp only [zT, zA, zB]
              refine goZ_tk rfl rfl 75 rfl (.pointer (some ⟨q, 0, none⟩)) (fun _ => rfl) ?_; simp only [zT, zA, zB]
              refine goZ_tk rfl rfl 76 rfl (.pointer (some ⟨q, 0, none⟩)) (fun _ => rfl) ?_; simp only [zT, zA, zB]
              refine goZ_tk rfl rfl 77 rfl (.pointer (some ⟨q, 39, none⟩)) (fun _ => rfl) ?_; simp only [zT, zA, zB]
              refine goZ_tk rfl rfl 79 rfl (.pointer (some ⟨q, 0, none⟩)) (fun _ => rfl) ?_; simp only [zT, zA, zB]
              refine goZ_tk rfl rfl 80 rfl (.pointer (some ⟨q, 135, none⟩)) (fun _ => rfl) ?_; simp only [zT, zA, zB]
              obtain ⟨ht6, hg6⟩ := htd.hasput hlt true
              have hs6 : (fun W => W.rangeAt fp 1 (nb f.id) ∧ W.cell? ⟨fp, 33, none⟩ = some (.float .f64 f.stamp)) ((W5.drewN 1).setCell ⟨q, 36 + i, none⟩ (.bool true)) := fkept hg6 hqf HLT.out hs0
              refine goZ_st (ds' := [9, 7]) rfl rfl (by kernel_rfl) rfl 4 _ _ rfl ⟨q, 36 + i, none⟩ (.bool true) rfl rfl _ (st_bool _ _ _ _ (htd.hg hlt) (htd.blk.fz _)) (fun _ => hs6) ?_
              refine goZ_tk rfl rfl 78 rfl (.pointer (some ⟨q, 39 + i * 32, none⟩)) (fun _ => by go_simp) ?_; simp only [zT, zA, zB]
              obtain ⟨ht7, hg7⟩ := ht6.idsput hlt HOK.out.id
              have hs7 : (fun W => W.rangeAt fp 1 (nb f.id) ∧ W.cell? ⟨fp, 33, none⟩ = some (.float .f64 f.stamp)) (((W5.drewN 1).setCell ⟨q, 36 + i, none⟩ (.bool true)).setCells q (39 + i * 32) (nb f.id)) := fkept hg7 hqf (Nat.lt_of_lt_of_le HLT.out hg6.size) hs6
              refine goZ_st (ds' := [9]) rfl rfl (by kernel_rfl) rfl 43 _ _ rfl ⟨q, 39 + i * 32, none⟩ (.agg (nums .u8 f.id)) rfl rfl _ (st_ids ht6 hlt HOK.out.id) (fun _ => hs7) ?_
              refine goZ_tk rfl rfl 81 rfl (.pointer (some ⟨q, 135 + i, none⟩)) (fun _ => by go_simp) ?_; simp only [zT, zA, zB]
              obtain ⟨ht8, hg8⟩ := ht7.stput hlt HOK.out.st
              refine goZ_st (ds' := []) rfl rfl (by kernel_rfl) rfl 44 _ _ rfl ⟨q, 135 + i, none⟩ (.float .f64 f.stamp) rfl rfl _ (st_float _ _ _ _ (ht7.sg hlt) (ht7.blk.fz _)) (fun h => absurd rfl h) ?_
              have HG8 := Lib.hid ((hg6.trans hg7).trans hg8)
              have HT8 : Hid (TR _ q (t.add i f)) := ht8
              clear hg6 hg7 hg8 ht6 ht7 ht8 hs0 hs6 hs7 htd
              generalize ((W5.drewN 1).setCell ⟨q, 36 + i, none⟩ (.bool true)).setCells q (39 + i * 32) (nb f.id) = W7 at *
              generalize W7.setCell ⟨q, 135 + i, none⟩ (.float .f64 f.stamp) = W8 at *
              refine goZ_end ?_
              have HM8 : Hid (MT w W8 mb u7 (pre ++ (t.add i f, q) :: post)) := by
                have h1 := HM5.out.step (below_dN (Below.refl _ W5) 1)
                rw [hX] at h1
                exact h1.turn HG8.out HT8.out rfl HTV.out
              have HX8 : Hid ((pre ++ (t.add i f, q) :: post).map (·.1) = takenAll i (upT T i) (ts.take (j + 1))) := by
                show _ = _
                rw [HTK.out, hX, List.map_append, List.map_cons, List.map_append, List.map_cons, taken_old htp (fun s hs => by obtain ⟨x, hx, rfl⟩ := List.mem_map.1 hs; exact hl2 x hx)]
              clear hX hl2 htp hlk2 hp5
              go_wp2_with fail
              go_roundw
              case rel => exact ⟨j + 1, hjl, by go_num, _, HM8, HX8⟩
              case measure => simp [intOf]; omega
          · have hjn : j = ts.length := by omega
            have c1 : decide ((j : Int) < (ts.length : Int)) = false := decide_eq_false (by omega)
            have c2 : decide (j < ts.length) = false := decide_eq_false hjl
            have HXE : Hid (X'.map (·.1) = upT T (i + 1)) := by show _ = _; rw [HXT.out, hjn, List.take_length, HUP.out]
            clear hjn HXT
            go_wp2_with fail
            go_roundw
            case rel => exact ⟨i + 1, by omega, by go_num, X', HM, HXE, HCS⟩
            case measure => simp [intOf]; omega
      · rw [if_pos hc0] at HCS
        have e0 : (ck == 0) = false := beq_eq_false_iff_ne.2 hc0
        go_wp2_with (go_at_call 19; refine HCK.out.mono ?_; rintro e W6 ⟨rfl, hb6⟩; have HB6 := Lib.hid (HM.out.below.trans (hb6.mono HM.out.below.size)); clear hb6)
        go_ret2
        have hms : mergeS (textS bl) (upT T 3) (chkA T 3) = (ck, []) := by unfold mergeS; rw [HCS.out, if_pos hc0]
        exact ⟨.slice none 0 0, [], by rw [hms]; rfl, by rw [hms]; rfl, MO.nil HB6.out⟩
      -- @dev} A
    · have hi3 : i = 3 := by omega
      subst hi3
      have HC0 : Hid (chkA T 3 = 0) := HCH.out
      clear HCH
      have HMK : Hid (∀ k, u7.ownBlock = some k → 1 < k) := fun k hk => Nat.lt_of_lt_of_le HGL.out.sz (HM.out.own k hk).2.1
      have hXl : X.length ≤ 768 := by
        have h1 : X.length = (upT T 3).length := by rw [← HXT.out]; simp
        have h3 := upT_len (T := T) (M := 256) (fun i hi => chkS_len (chkA_zero HC0.out i hi)) 3 (by decide)
        omega
      have HPS : Hid (Calls Tryz.prog 26 #[u7, .func (.func 27) #[] #[]] wr fun e w' => e = .returned (.tuple #[]) ∧ Tl w' u7 (PathS.sorted (X.map (·.1.path))) ∧ wr.grownBy w' u7.ownBlock) := by
        refine psort_o ?_ (HGL.out.below HM.out.below (Nat.le_refl _)) HMK.out ?_ ?_
        · rw [List.length_map]; exact HM.out.row
        · intro s hs
          obtain ⟨x, hx, rfl⟩ := List.mem_map.1 hs
          have hx3 : x.1 ∈ upT T 3 := by rw [← HXT.out]; exact List.mem_map_of_mem hx
          obtain ⟨j, hj, f, hf, e⟩ := upT_path 3 hx3
          have := ((HFS.out j hj).ok f hf).pz
          rw [e]; omega
        · rw [List.length_map]; omega
      have HPZ : Hid (∀ x ∈ X, x.1.path.size ≤ 10000000) := by
        intro x hx
        have hx3 : x.1 ∈ upT T 3 := by rw [← HXT.out]; exact List.mem_map_of_mem hx
        obtain ⟨j, hj, f, hf, e⟩ := upT_path 3 hx3
        have := ((HFS.out j hj).ok f hf).pz
        rw [e]; omega
      clear HMK HFS
      go_upto_region 22 with (go_at_call 26; refine HPS.out.mono ?_; rintro e W4 ⟨rfl, htl4, hg4⟩)
      have hxn : (X.map (·.1.path)).Nodup := by
        rw [show X.map (·.1.path) = (X.map (·.1)).map (·.path) by rw [List.map_map]; rfl, HXT.out]
        exact takenAll_nodup (takenAll_nodup (takenAll_nodup List.nodup_nil))
      have HMD : Hid (MD w W4 mb W4.heap.size X (.slice none 0 0) [] (PathS.sorted (X.map (·.1.path)))) := HM.out.decide hxn hg4 _
      have HNM : Hid (Tn W4 (fun b => u7.ownBlock = some b) u7 (PathS.sorted (X.map (·.1.path)))) := Tl.own htl4
      have HOW : Hid (∀ k, u7.ownBlock = some k → k ≠ mb ∧ k < W4.heap.size ∧ ∀ x ∈ X, x.2 ≠ k) := fun k hk => ⟨(HM.out.own k hk).1, Nat.lt_of_lt_of_le (HM.out.row.lt hk) hg4.size, (HM.out.own k hk).2.2⟩
      have HXN := Lib.hid hxn
      have HW0 : Hid (w.heap.size ≤ W4.heap.size) := Nat.le_trans HM.out.below.size hg4.size
      clear hxn htl4 hg4 HPS HM HMB hi hlt
      generalize hBe : W4.heap.size = B at *
      clear hBe
      have hnl : (PathS.sorted (X.map (·.1.path))).length ≤ 768 := by rw [PathS.sorted_length, List.length_map]; exact hXl
      obtain ⟨na, nc, rfl⟩ : ∃ a c, u7 = .slice a (PathS.sorted (X.map (·.1.path))).length c := by obtain ⟨a, c, e, _⟩ := HNM.out; exact ⟨a, c, e⟩
      have HPM : Hid (∀ p ∈ PathS.sorted (X.map (·.1.path)), p ∈ X.map (·.1.path)) := fun p hp => (PathS.sorted_perm _).mem_iff.1 hp
      have HNE : Hid (PathS.sorted ((upT T 3).map (·.path)) = PathS.sorted (X.map (·.1.path))) := by show _ = _; rw [← HXT.out, List.map_map]; rfl
      have HNN : Hid (PathS.sorted (X.map (·.1.path))).Nodup := (PathS.sorted_perm _).nodup_iff.2 HXN.out
      have HTN : Hid ((upT T 3).map (·.path)).Nodup := by show List.Nodup _; rw [← HXT.out, List.map_map]; exact HXN.out
      have HMS : Hid (mergeS (textS bl) (upT T 3) (chkA T 3) = ((decGo (textS bl) (upT T 3) [] (PathS.sorted (X.map (·.1.path)))).1, clashed (decGo (textS bl) (upT T 3) [] (PathS.sorted (X.map (·.1.path)))).2)) := by show _ = _; unfold mergeS; rw [if_neg (by rw [HC0.out]; simp), HNE.out]
      clear HNE HXN HC0
      generalize PathS.sorted (X.map (·.1.path)) = names at *
      generalize hLe : upT T 3 = L at *
      have HLE := Lib.hid hLe
      clear hLe
      go_upto_region 24 with fail
      go_loopw [14, 88] (fun ov kv wx => ∃ k : Nat, k ≤ names.length ∧ kv = .int .i64 k ∧ ∃ V, Hid (MD w wx mb B X ov V (names.drop k)) ∧ Hid (Tn wx (fun b => Value.ownBlock (.slice na names.length nc) = some b) (.slice na names.length nc) names) ∧ Hid (decGo (textS bl) L [] names = decGo (textS bl) L (V.map (·.o)) (names.drop k)) ∧ Hid (V.length ≤ k) ∧ Hid (∀ v ∈ V, v.o.kind ≤ 3)) (fun _ kv _ => (names.length - intOf kv).toNat)
      case atStart => exact ⟨0, Nat.zero_le _, rfl, [], HMD, HNM, rfl, Nat.le_refl 0, fun v hv => nomatch hv⟩
      case round =>
        clear HMD HNM
        obtain ⟨k, hk, rfl, V, HMD, HNM, HDG, HVL, HKD⟩ := hrel
        by_cases hlt : k < names.length
        · -- @dev{ B
          have d1 : decide ((k : Int) < (names.length : Int)) = true := decide_eq_true (by omega)
          have d2 : decide (k < names.length) = true := decide_eq_true hlt
          have d3 : (0 : Int) ≤ (k : Int) := by omega
          have d4 : (k : Int) < (names.length : Int) := by omega
          have dw : IntKind.i64.wrap ((k : Int) + 1) = ((k + 1 : Nat) : Int) := IntWalk.i64_in _ (by omega)
          obtain ⟨b, o, rfl, hcl⟩ : ∃ b o, na = some ⟨b, o, none⟩ ∧ wr.cell? ⟨b, o + k, none⟩ = some (.string names[k]) := by
            obtain ⟨a, c, e, _, _, _, h5⟩ := HNM.out
            injection e with e1 _ e2
            subst e1 e2
            rcases h5 with h5 | ⟨b, o, e, _, _, hc⟩
            · have := lrow_len names; rw [h5] at this; simp at this; omega
            · exact ⟨b, o, e, hc k _ (by unfold lrow; rw [List.getElem?_map, List.getElem?_eq_getElem hlt]; rfl)⟩
          have hdr : names.drop k = names[k] :: names.drop (k + 1) := List.drop_eq_getElem_cons hlt
          have HPX : Hid (names[k] ∈ X.map (·.1.path)) := HPM.out _ (List.getElem_mem hlt)
          have HNR : Hid (names[k] ∉ names.drop (k + 1)) := by have := (HNN.out).sublist (List.drop_sublist k names); rw [hdr, List.nodup_cons] at this; exact this.1
          rw [hdr] at HMD HDG
          clear hdr
          generalize names[k] = p at *
          rcases lookF_cases X p with ⟨_, hl2⟩ | ⟨pre, t, q, post, hX, htp, hl1, _⟩
          · obtain ⟨x, hx, e⟩ := List.mem_map.1 HPX.out; exact absurd e (hl2 x hx)
          have hmem : (t, q) ∈ X := by rw [hX]; simp
          have hpz : p.size ≤ 10000000 := by have := HPZ.out _ hmem; rw [← htp]; exact this
          have hlk := HMD.out.map.look p (Nat.le_trans hpz (by decide))
          rw [hl1] at hlk
          have hlk2 : (Instr.lookup 81 (.map (some mb)) (.string p) false).run Tryz.prog wr = .ok (.pointer (some ⟨q, 0, none⟩)) wr := hlk
          have htr := HMD.out.tr _ hmem (by rw [htp]; simp)
          have hth : thOf L p = t := by rw [← htp]; exact thOf_mem HTN.out (by rw [← HXT.out]; exact List.mem_map_of_mem hmem)
          have hdc := decide_c htr.1 htr.2 HZ.out (fun W hW => HBS.out.below (HMD.out.below.grown hW HMD.out.below.size (fun k hk => by cases hk; exact (HMD.out.at_ _ hmem).2.2)))
          have hk3 := decS_kind (textS bl) t.has t.ids t.id
          obtain ⟨d, hd⟩ : ∃ d, decS (textS bl) t.has t.ids t.id = d := ⟨_, rfl⟩
          have hds := HDG.out
          rw [decGo_step hth hd] at hds
          rw [hd] at hdc hk3
          obtain ⟨er, her⟩ : ∃ er, d.err = er := ⟨_, rfl⟩
          obtain ⟨kp, hkp⟩ : ∃ kp, d.keep = kp := ⟨_, rfl⟩
          rw [her, hkp] at hdc hds
          have HDC := Lib.hid hdc
          have HDS := Lib.hid hds
          have HTR := Lib.hid htr.1
          have HL1 := Lib.hid hl1
          have HMEM := Lib.hid hmem
          have HTP := Lib.hid htp
          have HPZ2 := Lib.hid hpz
          have HK3 := Lib.hid hk3
          clear hdc hds htr hl1 hmem htp hpz hX hlk hth hd her hkp hk3 HDG
          go_upto_region 27 with (go_at_call 28; refine HDC.out.mono ?_; rintro e W5 ⟨tv, rfl, ht5, hx5, hg5⟩)
          have HMD5 := Lib.hid (HMD.out.decided HMEM.out HTP.out HNR.out hg5)
          have HNM5 : Hid (Tn W5 (fun b' => Value.ownBlock (.slice (some ⟨b, o, none⟩) names.length nc) = some b') (.slice (some ⟨b, o, none⟩) names.length nc) names) := HNM.out.grown hg5 (fun b' hb e => (HOW.out b' hb).2.2 _ HMEM.out (by injection e with e; exact e.symm))
          have HT5 := Lib.hid ht5
          have HX5 := Lib.hid hx5
          have HBW5 : Hid (B ≤ wr.heap.size) := HMD.out.bB.1
          have HOL : Hid (∀ k, Value.ownBlock u14 = some k → k < wr.heap.size) := fun k hk => HMD.out.row.lt hk
          clear ht5 hx5 hg5 HMD HNM HDC hlk2 hcl
          by_cases he : er = 0
          · subst he
            rw [if_neg (by simp)] at HDS
            cases kp with
            | false =>
              rw [if_neg (by simp)] at HDS
              go_wp2_with fail
              go_roundw
              case rel => exact ⟨k + 1, hlt, by go_num, V, HMD5, HNM5, HDS, Nat.le_succ_of_le HVL.out, HKD⟩
              case measure => simp [intOf]; omega
            | true =>
              -- @dev{ C
              rw [if_pos rfl] at HDS
              have hl5 := HMD5.out.map.look p (Nat.le_trans HPZ2.out (by decide))
              rw [HL1.out] at hl5
              have hlk5 : (Instr.lookup 81 (.map (some mb)) (.string p) false).run Tryz.prog W5 = .ok (.pointer (some ⟨q, 0, none⟩)) W5 := hl5
              clear hl5
              obtain ⟨x, hxe⟩ : ∃ x : Ov, x = ⟨outOf d t, tv⟩ := ⟨_, rfl⟩
              have hbk : Bk W5 q 85 (ouC x ++ [.float .f64 t.sts.a, .float .f64 t.sts.b, .float .f64 t.sts.c]) := by rw [hxe, ← tcs_out]; exact HT5.out.blk
              have HRG : Hid (W5.rangeAt q 0 (ouC x)) := hbk.range (A := []) (B := ouC x) (C := [.float .f64 t.sts.a, .float .f64 t.sts.b, .float .f64 t.sts.c]) rfl rfl
              have HOK : Hid (OkOu x.o) := by
                show OkOu x.o
                rw [hxe]
                exact ⟨HT5.out.ok.id, HT5.out.ok.ia, HT5.out.ok.ib, HT5.out.ok.ic, Nat.le_trans HK3.out (by decide), whenS_lt HTR.out.ok.sb HTR.out.ok.sc, by show t.path.size ≤ _; rw [HTP.out]; exact HPZ2.out⟩
              have HCL := Lib.hid (ouC_len HOK.out)
              have HONE : Hid (∀ u ∈ ouC x, u.oneCell' = true) := ouC_one (by rw [hxe]; exact HT5.out.ok.tv)
              have HTX : Hid (TxN wr.heap.size W5 x.tv x.o.text) := by show TxN _ _ _ _; rw [hxe]; exact HX5.out
              have HXK : Hid (x.o.kind ≤ 3) := by show x.o.kind ≤ 3; rw [hxe]; exact HK3.out
              have HXO : Hid (x.o = outOf d t) := by show x.o = _; rw [hxe]
              clear hbk hxe HT5 HX5
              have HSRC : Hid (Src Tryz.prog 135 29 (.slice (some ⟨W5.heap.size, 0, none⟩) 1 1) 1 (ouC x) (W5.alloc (.cells (ouC x).toArray 54))) := Src.ofNew Tryz.underlying29 HCL.out HONE.out
              have HBA : Hid (Below W5.heap.size W5 (W5.alloc (.cells (ouC x).toArray 54))) := (Below.refl _ W5).alloc (Nat.le_refl _) _
              have HMD6 := Lib.hid (HMD5.out.step HBA.out)
              have HNM6 : Hid (Tn (W5.alloc (.cells (ouC x).toArray 54)) (fun b' => Value.ownBlock (.slice (some ⟨b, o, none⟩) names.length nc) = some b') (.slice (some ⟨b, o, none⟩) names.length nc) names) := HNM5.out.keep HBA.out.size (fun b' hb hl => ⟨HBA.out.block b' hl, hb⟩)
              go_upto_region 31 with (first
                | (refine wpList_load_mid rfl 54 _ rfl q 0 rfl (ouC x) _ HRG.out Tryz.underlying54 rfl (by rw [HCL.out]; exact out_info) ?_)
                | (refine wpList_build1 (cs := (ouC x).toArray) (n := 135) rfl _ rfl (by simp only [Act.put, List.setIfInBounds_toArray]; simp [Act.eval]) Tryz.underlying29 out_info out_zero (by decide) (by decide) (by rw [List.size_toArray]; exact HCL.out) ?_)
                | (refine wp_appG rfl _ _ _ _ rfl outElem (by kernel_rfl) (v := u14) (xv := .slice (some ⟨W5.heap.size, 0, none⟩) 1 1) (n := V.length) (m := 1) rfl HMD6.out.row rfl HSRC.out (by have := HVL.out; simp only [maxLen]; omega) (by have := HVL.out; omega) ?_; intro v10 W10 ho10 hg10 hv10))
              have HMD10 : Hid (MD w W10 mb B X v10 (V ++ [x]) (names.drop (k + 1))) := by
                refine HMD6.out.app ho10 hg10 hv10 ((HTX.out.mono HBW5.out).below HBA.out) (fun h0 k' hk' => ?_) HOK.out
                rcases HTX.out with ⟨h1, _⟩ | ⟨g, c, e1, hb, _⟩
                · exact absurd (by rw [h1]; rfl) h0
                · intro a n c2 e2
                  rw [e1] at e2
                  injection e2 with e2 _ _
                  injection e2 with e2
                  subst e2
                  have := HOL.out k' hk'
                  show g ≠ k'
                  omega
              have HNM10 : Hid (Tn W10 (fun b' => Value.ownBlock (.slice (some ⟨b, o, none⟩) names.length nc) = some b') (.slice (some ⟨b, o, none⟩) names.length nc) names) := HNM6.out.grown hg10 (fun b' hb e => by
                have h1 := (HOW.out b' hb).2.1
                have h2 := HMD5.out.own b' e.symm
                omega)
              have HDG10 : Hid (decGo (textS bl) L [] names = decGo (textS bl) L ((V ++ [x]).map (·.o)) (names.drop (k + 1))) := by show _ = _; rw [HDS.out, List.map_append, List.map_cons, HXO.out]; rfl
              have HVL10 : Hid ((V ++ [x]).length ≤ k + 1) := by have := HVL.out; show (V ++ [x]).length ≤ k + 1; simp; omega
              have HKD10 : Hid (∀ v ∈ V ++ [x], v.o.kind ≤ 3) := by
                intro v hv
                rcases List.mem_append.1 hv with hv | hv
                · exact HKD.out v hv
                · rw [List.mem_singleton] at hv; rw [hv]; exact HXK.out
              clear ho10 hg10 hv10 HMD6 HNM6 HSRC HBA HRG HONE HCL hlk5
              go_wp2_with fail
              go_roundw
              case rel => exact ⟨k + 1, hlt, by go_num, V ++ [x], HMD10, HNM10, HDG10, HVL10, HKD10⟩
              case measure => simp [intOf]; omega
              -- @dev} C
          · have e0 : (er == 0) = false := beq_eq_false_iff_ne.2 he
            have HDE : Hid (decGo (textS bl) L [] names = (er, [])) := by show _ = _; rw [HDS.out, if_pos he]
            go_wp2_with fail
            go_ret2
            exact ⟨.slice none 0 0, [], by rw [HLE.out, HMS.out, HDE.out]; rfl, by rw [HLE.out, HMS.out, HDE.out]; rfl, MO.nil HMD5.out.below⟩
          -- @dev} B
        · have hkn : k = names.length := by omega
          subst hkn
          rw [List.drop_length] at HDG
          have HMO := Lib.hid HMD.out.mo
          have HBB : Hid (w.heap.size ≤ B) := HMD.out.bB.2
          clear HMD HNM
          have c1 : decide ((names.length : Int) < (names.length : Int)) = false := decide_eq_false (by omega)
          obtain ⟨l, hl⟩ : ∃ l, V.map (·.o) = l := ⟨_, rfl⟩
          have hll : l.length = V.length := by rw [← hl]; simp
          have HMS2 : Hid (mergeS (textS bl) L (chkA T 3) = (0, clashed l)) := by show _ = _; rw [HMS.out, HDG.out, decGo, hl]
          have HK4 : Hid (∀ o ∈ l, o.kind ≤ 3) := by
            intro o ho
            rw [← hl] at ho
            obtain ⟨v, hv, rfl⟩ := List.mem_map.1 ho
            exact HKD.out v hv
          have HPZ3 : Hid (∀ o ∈ l, o.path.size ≤ 10000000) := by
            intro o ho
            rw [← hl] at ho
            obtain ⟨v, hv, rfl⟩ := List.mem_map.1 ho
            exact (HMO.out.ok v hv).pz
          have HL := Lib.hid hl
          clear hl HDG HKD HMS HPZ HNN HTN HXT HPM HOW HZ HBS HGL
          have hvl := HVL.out
          obtain ⟨oa, oc, rfl, -⟩ := HMO.out.row.form
          go_upto_region 33 with fail
          go_loopw [116] (fun iv wx => ∃ i : Nat, i ≤ V.length ∧ iv = .int .i64 i ∧ ∃ V', Hid (V'.length = V.length) ∧ Hid (MO w wx B (.slice oa V.length oc) V') ∧ Hid (V'.map (·.o) = clN l i)) (fun iv _ => (V.length - intOf iv).toNat)
          case atStart => exact ⟨0, Nat.zero_le _, rfl, V, rfl, HMO, by show _ = _; rw [clN_zero]; exact HL.out⟩
          case round =>
            clear HMO
            obtain ⟨i, hi, rfl, V1, HVE, HMO, HCN⟩ := hrel
            by_cases hil : i < V.length
            · have a1 : decide ((i : Int) < (V.length : Int)) = true := decide_eq_true (by omega)
              have a2 : decide (i < V.length) = true := decide_eq_true hil
              have a3 : (0 : Int) ≤ (i : Int) := by omega
              have a4 : (i : Int) < (V.length : Int) := by omega
              have aw : IntKind.i64.wrap ((i : Int) + 1) = ((i + 1 : Nat) : Int) := IntWalk.i64_in _ (by omega)
              have aq : IntKind.i64.wrap ((i : Int) - 1) = (i : Int) - 1 := IntWalk.i64_in _ (by omega)
              have hli : i < l.length := by omega
              obtain ⟨g, o, rfl⟩ : ∃ g o, oa = some ⟨g, o, none⟩ := by
                obtain ⟨g, o, c, e⟩ := HMO.out.place (by rw [HVE.out]; omega)
                injection e with e1 _ _
                exact ⟨g, o, e1⟩
              have HIN : Hid (V1.map (·.o) = (clN l i).set i (kk l[i] false)) := by show _ = _; rw [HCN.out]; exact clN_start hli
              clear HCN
              have hk4 : l[i].kind ≤ 3 := HK4.out _ (List.getElem_mem hli)
              have hpi := HPZ3.out _ (List.getElem_mem hli)
              have HLI : Hid (l[i] = l[i]) := rfl
              go_upto_region 36 with fail
              go_loopw [20] (fun mv wx => ∃ (m : Nat) (b : Bool) (z : Int) (V2 : List Ov), m ≤ i ∧ mv = .int .i64 z ∧ z = (m : Int) - 1 ∧ Hid (V2.length = V.length) ∧ Hid (MO w wx B (.slice (some ⟨g, o, none⟩) V.length oc) V2) ∧ Hid (V2.map (·.o) = (clN l i).set i (kk l[i] b)) ∧ Hid ((l.take i).any (fun x => PathS.under l[i].path x.path) = (b || (l.take m).any (fun x => PathS.under l[i].path x.path)))) (fun mv _ => (intOf mv + 1).toNat)
              case atStart => exact ⟨i, false, (i : Int) - 1, V1, Nat.le_refl _, rfl, rfl, HVE, HMO, HIN, by show _ = _; simp⟩
              case round =>
                clear HMO HIN HVE
                obtain ⟨m, b, z, V2, hm, rfl, hz, HVE, HMO, HIN, HAN⟩ := hrel
                by_cases hm0 : m = 0
                · subst hm0
                  have z0 : decide (z ≥ 0) = false := decide_eq_false (by omega)
                  have z1 : decide ((0 : Int) ≤ z) = false := decide_eq_false (by omega)
                  have HN : Hid (V2.map (·.o) = clN l (i + 1)) := by show _ = _; rw [HIN.out, ← clN_step hli, HAN.out]; simp
                  clear HIN HAN hz
                  go_wp2_with fail
                  go_roundw
                  case rel => exact ⟨i + 1, hil, by go_num, V2, HVE, HMO, HN⟩
                  case measure => simp [intOf]; omega
                · obtain ⟨n, rfl⟩ : ∃ n, m = n + 1 := ⟨m - 1, by omega⟩
                  have hzn : z = (n : Int) := by omega
                  clear hz hm0
                  subst hzn
                  have z0 : decide ((n : Int) ≥ 0) = true := decide_eq_true (by omega)
                  have z1 : decide ((0 : Int) ≤ (n : Int)) = true := decide_eq_true (by omega)
                  have z2 : (0 : Int) ≤ (n : Int) := by omega
                  have z3 : (n : Int) < (V.length : Int) := by omega
                  have nw : IntKind.i64.wrap ((n : Int) - 1) = (n : Int) - 1 := IntWalk.i64_in _ (by omega)
                  have hnl : n < l.length := by omega
                  have hck := HMO.out.kind (j := i) (by rw [HIN.out]; exact clN_at hli)
                  have hta := take_any hnl (fun x => PathS.under l[i].path x.path)
                  have HTA := Lib.hid hta
                  clear hta
                  cases b with
                  | true =>
                    have hck2 : wr.cell? ⟨g, o + i * 135 + 1, none⟩ = some (.int .i64 4) := hck
                    have HN : Hid (V2.map (·.o) = clN l (i + 1)) := by show _ = _; rw [HIN.out, ← clN_step hli, HAN.out]; simp
                    clear hck HIN HAN HTA
                    go_wp2_with fail
                    go_roundw
                    case rel => exact ⟨i + 1, hil, by go_num, V2, HVE, HMO, HN⟩
                    case measure => simp [intOf]; omega
                  | false =>
                    have hck2 : wr.cell? ⟨g, o + i * 135 + 1, none⟩ = some (.int .i64 l[i].kind) := hck
                    clear hck
                    have k4 : ((l[i].kind : Int) == 4) = false := beq_eq_false_iff_ne.2 (by omega)
                    have hpa : wr.cell? ⟨g, o + i * 135, none⟩ = some (.string l[i].path) := HMO.out.path (j := i) (by rw [HIN.out]; exact clN_at hli)
                    obtain ⟨x, hx, hxp⟩ := clN_other (i := i) (o := kk l[i] false) (j := n) hnl (by omega)
                    have hpb := HMO.out.path (j := n) (by rw [HIN.out]; exact hx)
                    rw [hxp] at hpb
                    clear hx hxp
                    have hpn := HPZ3.out _ (List.getElem_mem hnl)
                    obtain ⟨y, hy⟩ : ∃ y, PathS.under l[i].path l[n].path = y := ⟨_, rfl⟩
                    have HUN : Hid (∀ W, Calls Tryz.prog 29 #[.string l[i].path, .string l[n].path] W fun e w' => e = .returned (.bool y) ∧ w' = W) := fun W => by
                      refine (under_c l[i].path l[n].path W (by omega)).mono ?_
                      rintro e w' ⟨he, hw⟩
                      exact ⟨by rw [he, hy], hw.symm⟩
                    have HAN2 : Hid ((l.take i).any (fun x => PathS.under l[i].path x.path) = ((l.take n).any (fun x => PathS.under l[i].path x.path) || y)) := by show _ = _; rw [HAN.out, HTA.out, hy]; simp
                    have hfz := HMO.out.fz (by rw [HVE.out]; omega) (o + i * 135 + 1)
                    have HV2 : Hid (i < V2.length) := by show i < V2.length; rw [HVE.out]; exact hil
                    have HSK : Hid (∀ nq, MO w ((wr.drewN nq).setCell ⟨g, o + i * 135 + 1, none⟩ (.int .i64 4)) B (.slice (some ⟨g, o, none⟩) V.length oc) (V2.set i (kx (V2[i]'HV2.out) 4))) := fun nq => (HMO.out.step (below_dN (Below.refl _ wr) nq)).setk HV2.out (k := 4) (Nat.le_refl _)
                    have HMI : Hid ((V2.set i (kx (V2[i]'HV2.out) 4)).map (·.o) = (clN l i).set i (kk l[i] true)) := by
                      show _ = _
                      rw [List.map_set, HIN.out, List.set_set]
                      congr 1
                      have e1 : (V2.map (·.o))[i]? = some (kk l[i] false) := by rw [HIN.out]; exact clN_at hli
                      rw [List.getElem?_map, List.getElem?_eq_getElem HV2.out] at e1
                      have e2 : (V2[i]'HV2.out).o = l[i] := Option.some.inj e1
                      show ({ (V2[i]'HV2.out).o with kind := 4 } : Ou) = _
                      rw [e2]; rfl
                    have HVS : Hid ((V2.set i (kx (V2[i]'HV2.out) 4)).length = V.length) := by show _ = _; rw [List.length_set]; exact HVE.out
                    clear hy HAN HTA
                    generalize V2.set i (kx (V2[i]'HV2.out) 4) = V3 at *
                    cases y with
                    | false =>
                      go_upto_region 38 with fail
                      go_quiet ((go_at_call 29; exact Calls.quiet_of_same (HUN.out _)))
                      go_wp2_with fail
                      go_roundw
                      case rel => exact ⟨n, false, (n : Int) - 1, V2, by omega, rfl, rfl, HVE, HMO.out.step (below_dN (Below.refl _ wr) _), HIN, by show _ = _; rw [HAN2.out]; simp⟩
                      case measure => simp [intOf]
                    | true =>
                      go_upto_region 38 with fail
                      go_quiet ((go_at_call 29; exact Calls.quiet_of_same (HUN.out _)))
                      go_wp2_with fail
                      go_roundw
                      case rel => exact ⟨n, true, (n : Int) - 1, V3, by omega, rfl, rfl, HVS, HSK.out _, HMI, by show _ = _; rw [HAN2.out]; simp⟩
                      case measure => simp [intOf]
            · have c3 : decide ((i : Int) < (V.length : Int)) = false := decide_eq_false (by omega)
              have c4 : decide (i < V.length) = false := decide_eq_false hil
              have hie : i = l.length := by omega
              go_wp2_with fail
              go_ret2
              exact ⟨_, V1, by rw [HLE.out, HMS2.out]; rfl, by rw [HLE.out, HMS2.out, HCN.out, hie, clN_all], HMO.out.mono (Nat.le_refl _) HBB.out⟩
end Go.Proofs.YtpcipdkoncmdcaaGreatDoor
