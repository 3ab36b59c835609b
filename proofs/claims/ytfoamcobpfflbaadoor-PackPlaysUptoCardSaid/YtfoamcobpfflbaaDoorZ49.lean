/- Texts of mine, joined: The document's limit, and the order of the names: plain Lean, no program in sight. | Walks over the document's answer: Crash. -/
import Derived.Test.YtfoamcobpfflbaaDoorZ48
namespace Go.Proofs.YtfoamcobpfflbaaDoor
namespace VfsS

/-- As the document has it: a limit below -1 is -1. -/
def cl (S : St) : St := { S with limit := max S.limit (-1) }

theorem cl_files (S : St) : (cl S).files = S.files := rfl
theorem cl_fl (S : St) (i : Nat) : fl (cl S) i = fl S i := rfl
theorem cl_used (S : St) : used (cl S) = used S := rfl
theorem cl_zero {S : St} : (cl S).limit = 0 ↔ S.limit = 0 := by show max S.limit (-1) = 0 ↔ _; omega
theorem cl_ge (S : St) : -1 ≤ (cl S).limit := by show -1 ≤ max S.limit (-1); omega

theorem cl_step (S : St) : stepS (cl S) = cl (stepS S) := by
  unfold stepS
  by_cases h : S.limit = 0
  · rw [if_pos (cl_zero.2 h), if_pos h]
  · rw [if_neg (fun e => h (cl_zero.1 e)), if_neg h]
    show St.mk _ _ _ _ _ _ _ = St.mk _ _ _ _ _ _ _
    congr 1
    show (if 0 < max S.limit (-1) then max S.limit (-1) - 1 else max S.limit (-1)) = max (if 0 < S.limit then S.limit - 1 else S.limit) (-1)
    split <;> split <;> omega
theorem cl_change (S : St) (a : Chg) : changeS (cl S) a = cl (changeS S a) := rfl
theorem cl_put (S : St) (i : Nat) (f : File) : putS (cl S) i f = cl (putS S i f) := rfl
theorem cl_flush (S : St) (n : Nat) : flushS (cl S) n = cl (flushS S n) := rfl

def clp (x : St × Int) : St × Int := (cl x.1, x.2)

theorem cl_create (S : St) (s : ByteArray) : createS (cl S) s = clp (createS S s) := by
  unfold createS
  by_cases h1 : PathS.check s ≠ 0
  · rw [if_pos h1, if_pos h1]; rfl
  · rw [if_neg h1, if_neg h1]
    by_cases h2 : (find S.now s).isSome
    · rw [if_pos h2, if_pos (show (find (cl S).now s).isSome from h2)]; rfl
    · rw [if_neg h2, if_neg (show ¬ (find (cl S).now s).isSome from h2)]
      by_cases h3 : S.limit = 0
      · rw [if_pos h3, if_pos (cl_zero.2 h3)]; rfl
      · rw [if_neg h3, if_neg (fun e => h3 (cl_zero.1 e)), cl_step]; rfl

theorem cl_append (S : St) (s b : ByteArray) : appendS (cl S) s b = clp (appendS S s b) := by
  unfold appendS
  show (match find S.now s with | none => _ | some i => _) = _
  cases find S.now s with
  | none => rfl
  | some i =>
    simp only
    by_cases h2 : (S.room : Int) - used S < b.size
    · rw [if_pos h2, if_pos (show ((cl S).room : Int) - used (cl S) < b.size from h2)]; rfl
    · rw [if_neg h2, if_neg (show ¬ ((cl S).room : Int) - used (cl S) < b.size from h2)]
      by_cases h3 : S.limit = 0
      · rw [if_pos h3, if_pos (cl_zero.2 h3)]; rfl
      · rw [if_neg h3, if_neg (fun e => h3 (cl_zero.1 e)), cl_step]; rfl

theorem cl_cut (S : St) (s : ByteArray) (n : Int) : cutS (cl S) s n = clp (cutS S s n) := by
  unfold cutS
  show (match find S.now s with | none => _ | some i => _) = _
  cases find S.now s with
  | none => rfl
  | some i =>
    simp only
    by_cases h2 : n < 0 ∨ ((fl S i).text.size : Int) < n
    · rw [if_pos h2]; exact if_pos h2
    · rw [if_neg h2]
      refine (if_neg h2).trans ?_
      by_cases h3 : S.limit = 0
      · rw [if_pos h3, if_pos (cl_zero.2 h3)]; rfl
      · rw [if_neg h3, if_neg (fun e => h3 (cl_zero.1 e)), cl_step]; rfl

theorem cl_sync (S : St) (s : ByteArray) : syncS (cl S) s = clp (syncS S s) := by
  unfold syncS
  show (match find S.now s with | none => _ | some i => _) = _
  cases find S.now s with
  | none => rfl
  | some i =>
    simp only [cl_fl]
    by_cases h3 : S.limit = 0
    · rw [if_pos h3, if_pos (cl_zero.2 h3)]; rfl
    · rw [if_neg h3, if_neg (fun e => h3 (cl_zero.1 e)), cl_step]; rfl

theorem cl_rename (S : St) (s t : ByteArray) : renameS (cl S) s t = clp (renameS S s t) := by
  unfold renameS
  show (match find S.now s with | none => _ | some i => _) = _
  cases find S.now s with
  | none => rfl
  | some i =>
    simp only
    by_cases h1 : PathS.check t ≠ 0
    · rw [if_pos h1, if_pos h1]; rfl
    · rw [if_neg h1, if_neg h1]
      by_cases h2 : s = t
      · rw [if_pos h2, if_pos h2]; rfl
      · rw [if_neg h2, if_neg h2]
        by_cases h3 : S.limit = 0
        · rw [if_pos h3, if_pos (cl_zero.2 h3)]; rfl
        · rw [if_neg h3, if_neg (fun e => h3 (cl_zero.1 e)), cl_step]; rfl

theorem cl_remove (S : St) (s : ByteArray) : removeS (cl S) s = clp (removeS S s) := by
  unfold removeS
  by_cases h2 : (find S.now s).isSome
  · rw [if_pos h2, if_pos (show (find (cl S).now s).isSome from h2)]
    by_cases h3 : S.limit = 0
    · rw [if_pos h3, if_pos (cl_zero.2 h3)]; rfl
    · rw [if_neg h3, if_neg (fun e => h3 (cl_zero.1 e)), cl_step]; rfl
  · rw [if_neg h2, if_neg (show ¬ (find (cl S).now s).isSome from h2)]; rfl

theorem cl_flushAll (S : St) : flushAllS (cl S) = clp (flushAllS S) := by
  unfold flushAllS
  by_cases h3 : S.limit = 0
  · rw [if_pos h3, if_pos (cl_zero.2 h3)]; rfl
  · rw [if_neg h3, if_neg (fun e => h3 (cl_zero.1 e)), cl_step]; rfl

theorem cl_crash (S : St) (x y : Int) : crashS (cl S) x y = cl (crashS S x y) := rfl
theorem cl_stop (S : St) (n : Int) : ({ cl S with limit := max n (-1) } : St) = cl { S with limit := n } := rfl
theorem cl_new (r : Nat) : cl (newS r) = newS r := rfl

/-- The names stand in order. -/
def Srt (l : Nm) : Prop := l.Pairwise fun p q => less p.1 q.1
theorem less_trans {a b c : ByteArray} (h1 : less a b) (h2 : less b c) : less a c := List.lt_trans h1 h2
theorem less_irrefl (a : ByteArray) : ¬ less a a := List.lt_irrefl _
theorem ba_ext' {x y : ByteArray} (e : x.data.toList = y.data.toList) : x = y := by cases x; cases y; congr 1; exact Array.toList_inj.1 e
theorem less_total {a b : ByteArray} (h : a ≠ b) (h2 : ¬ less a b) : less b a := by
  rcases Nat.lt_trichotomy 0 0 with h0 | _ | h0
  · omega
  · have h3 : b.data.toList ≤ a.data.toList := List.not_lt.1 h2
    rcases List.le_iff_lt_or_eq.1 h3 with h4 | h4
    · exact h4
    · exact absurd (ba_ext' h4.symm) h
  · omega

theorem srt_without {l : Nm} (h : Srt l) (s : ByteArray) : Srt (without l s) := h.sublist (without_sub l s)

theorem insAt_le (l : Nm) (s : ByteArray) : ∀ k, insAt l s k ≤ k
  | 0 => Nat.le_refl _
  | k + 1 => by
    unfold insAt
    split
    · exact Nat.le_succ_of_le (insAt_le l s k)
    · exact Nat.le_refl _

theorem insAt_behind (l : Nm) (s : ByteArray) : ∀ k, k ≤ l.length → ∀ j (hj : j < l.length), insAt l s k ≤ j → j < k → less s l[j].1
  | 0, _, j, _, _, h => by omega
  | k + 1, hk, j, hj, h1, h2 => by
    unfold insAt at h1
    split at h1
    · rename_i hl
      by_cases e : j = k
      · subst e
        rw [List.getD_eq_getElem?_getD, List.getElem?_eq_getElem (by omega)] at hl
        exact hl
      · exact insAt_behind l s k (by omega) j hj h1 (by omega)
    · omega

theorem insAt_ahead (l : Nm) (s : ByteArray) : ∀ k, k ≤ l.length → 0 < insAt l s k → insAt l s k - 1 < l.length ∧ ∀ p, l[insAt l s k - 1]? = some p → ¬ less s p.1
  | 0, _, h => by unfold insAt at h; omega
  | k + 1, hk, h => by
    by_cases hl : less s (l.getD k (ByteArray.empty, 0)).1
    · have e : insAt l s (k + 1) = insAt l s k := by rw [insAt, if_pos hl]
      rw [e] at h ⊢
      exact insAt_ahead l s k (by omega) h
    · have e : insAt l s (k + 1) = k + 1 := by rw [insAt, if_neg hl]
      rw [e]
      refine ⟨by omega, fun p hp => ?_⟩
      rw [List.getD_eq_getElem?_getD] at hl
      rw [Nat.add_sub_cancel] at hp
      rw [hp] at hl
      exact hl

theorem srt_ins {l : Nm} (h : Srt l) {s : ByteArray} (hn : find l s = none) (i : Nat) : Srt (ins l s i) := by
  unfold ins Srt at *
  have hle := insAt_le l s l.length
  have hb := insAt_behind l s l.length (Nat.le_refl _)
  have ha := insAt_ahead l s l.length (Nat.le_refl _)
  generalize insAt l s l.length = k at *
  rw [List.append_assoc, List.pairwise_append]
  have hne : ∀ p ∈ l, p.1 ≠ s := find_none.1 hn
  have hhead : ∀ p ∈ l.take k, less p.1 s := by
    intro p hp
    obtain ⟨j, hj, rfl⟩ := List.getElem_of_mem hp
    rw [List.length_take] at hj
    rw [List.getElem_take]
    obtain ⟨h2, h3⟩ := ha (by omega)
    have h3 := h3 _ (List.getElem?_eq_getElem h2)
    have h4 := less_total (fun e => hne _ (List.getElem_mem h2) e.symm) h3
    by_cases e : j = k - 1
    · subst e; exact h4
    · exact less_trans (List.pairwise_iff_getElem.1 h j (k - 1) (by omega) h2 (by omega)) h4
  have htail : ∀ p ∈ l.drop k, less s p.1 := by
    intro p hp
    obtain ⟨j, hj, rfl⟩ := List.getElem_of_mem hp
    rw [List.length_drop] at hj
    rw [List.getElem_drop]
    exact hb (k + j) (by omega) (by omega) (by omega)
  refine ⟨h.sublist (List.take_sublist _ _), ?_, ?_⟩
  · rw [List.singleton_append, List.pairwise_cons]
    exact ⟨fun p hp => htail p hp, h.sublist (List.drop_sublist _ _)⟩
  · intro p hp q hq
    rw [List.singleton_append, List.mem_cons] at hq
    rcases hq with rfl | hq
    · exact hhead p hp
    · exact less_trans (hhead p hp) (htail q hq)

theorem srt_doL {l : Nm} (h : Srt l) (a : Chg) : Srt (doL l a) := by
  have h1 : Srt (if a.src.size = 0 then l else without l a.src) := by
    split
    · exact h
    · exact srt_without h _
  unfold doL
  cases a.file with
  | none => exact h1
  | some i => exact srt_ins (srt_without h1 _) (by rw [find_without, if_pos rfl]) i

theorem srt_foldl : ∀ (l : List Chg) {m : Nm}, Srt m → Srt (l.foldl doL m)
  | [], _, h => h
  | a :: l, _, h => srt_foldl l (srt_doL h a)

/-- Both lists of names stand in order. -/
structure So (S : St) : Prop where
  n : Srt S.now
  s : Srt S.sure

theorem So.new (r : Nat) : So (newS r) := ⟨List.Pairwise.nil, List.Pairwise.nil⟩
theorem So.step {S : St} (h : So S) : So (stepS S) := ⟨by rw [stepS_now]; exact h.n, by rw [stepS_sure]; exact h.s⟩
theorem So.change {S : St} (h : So S) (a : Chg) : So (changeS S a) := ⟨srt_doL h.n a, h.s⟩
theorem So.put {S : St} (h : So S) (i : Nat) (f : File) : So (putS S i f) := ⟨h.n, h.s⟩
theorem So.flush {S : St} (h : So S) (n : Nat) : So (flushS S n) := ⟨h.n, srt_foldl _ h.s⟩
theorem So.create {S : St} (h : So S) (s : ByteArray) : So (createS S s).1 := by
  unfold createS
  split
  · exact h
  · split
    · exact h
    · split
      · exact h
      · exact So.change (S := { stepS S with files := S.files ++ [⟨ByteArray.empty, 0⟩] }) ⟨h.step.n, h.step.s⟩ _
theorem So.append {S : St} (h : So S) (s b : ByteArray) : So (appendS S s b).1 := by
  unfold appendS
  cases find S.now s with
  | none => exact h
  | some i =>
    simp only
    split
    · exact h
    · split
      · exact h
      · exact h.step.put _ _
theorem So.cut {S : St} (h : So S) (s : ByteArray) (n : Int) : So (cutS S s n).1 := by
  unfold cutS
  cases find S.now s with
  | none => exact h
  | some i =>
    simp only
    split
    · exact h
    · split
      · exact h
      · exact h.step.put _ _
theorem So.sync {S : St} (h : So S) (s : ByteArray) : So (syncS S s).1 := by
  unfold syncS
  cases find S.now s with
  | none => exact h
  | some i =>
    simp only
    split
    · exact h
    · exact h.step.put _ _
theorem So.rename {S : St} (h : So S) (s t : ByteArray) : So (renameS S s t).1 := by
  unfold renameS
  cases find S.now s with
  | none => exact h
  | some i =>
    simp only
    split
    · exact h
    · split
      · exact h
      · split
        · exact h
        · exact h.step.change _
theorem So.remove {S : St} (h : So S) (s : ByteArray) : So (removeS S s).1 := by
  unfold removeS
  split
  · split
    · exact h
    · exact h.step.change _
  · exact h
theorem So.flushAll {S : St} (h : So S) : So (flushAllS S).1 := by
  unfold flushAllS
  split
  · exact h
  · exact h.step.flush _
theorem So.crash {S : St} (h : So S) (x y : Int) : So (crashS S x y) := ⟨(h.flush _).s, (h.flush _).s⟩

theorem srt_sorted {l : Nm} (h : Srt l) : (l.map fun p => p.1.data.toList).Pairwise fun a b => (decide (a ≤ b)) = true := by
  rw [List.pairwise_map]
  exact h.imp fun {p q} hpq => decide_eq_true (List.le_of_lt hpq)
end VfsS
end Go.Proofs.YtfoamcobpfflbaaDoor
namespace Go.Proofs.YtfoamcobpfflbaaDoor
open Go Go.RowKit
open VfsS (File Chg Nm St find doL)

/-- The state behind the first j files were cut. -/
def midC (S : St) (y : Int) (j : Nat) : St := { S with files := (S.files.take j).map (VfsS.cutF y) ++ S.files.drop j }
theorem midC_len (S : St) (y : Int) (j : Nat) : (midC S y j).files.length = S.files.length := by
  show (_ ++ _ : List File).length = _
  rw [List.length_append, List.length_map, List.length_take, List.length_drop]; omega
theorem midC_fl (S : St) (y : Int) (j : Nat) (h : j < S.files.length) : VfsS.fl (midC S y j) j = VfsS.fl S j := by
  unfold VfsS.fl midC
  simp only [List.getD_eq_getElem?_getD]
  rw [List.getElem?_append_right (by rw [List.length_map, List.length_take]; omega), List.length_map, List.length_take, Nat.min_eq_left (by omega), Nat.sub_self, List.getElem?_drop]; rfl
theorem midC_put (S : St) (y : Int) (j : Nat) (h : j < S.files.length) : VfsS.putS (midC S y j) j (VfsS.cutF y (VfsS.fl S j)) = midC S y (j + 1) := by
  have e1 : VfsS.fl S j = S.files[j] := by unfold VfsS.fl; rw [List.getD_eq_getElem?_getD, List.getElem?_eq_getElem h]; rfl
  rw [e1]
  unfold VfsS.putS midC
  show St.mk _ _ _ _ _ _ _ = St.mk _ _ _ _ _ _ _
  congr 1
  show ((S.files.take j).map (VfsS.cutF y) ++ S.files.drop j).set j _ = _
  have hl : ((S.files.take j).map (VfsS.cutF y)).length = j := by rw [List.length_map, List.length_take]; omega
  rw [List.set_append_right _ _ (by omega), hl, Nat.sub_self, List.drop_eq_getElem_cons h, List.set_cons_zero, List.take_succ_eq_append_getElem h, List.map_append, List.append_assoc]
  rfl
theorem midC_zero (S : St) (y : Int) : midC S y 0 = S := by unfold midC; simp
theorem midC_all (S : St) (y : Int) : midC S y S.files.length = { S with files := S.files.map (VfsS.cutF y) } := by unfold midC; simp

section
variable {E E' : Nat → Prop} {w w' : World} {S : St} {N : Nat} {cs : Array Value}

theorem RX.in0 {fa na sa aa : Option Addr} {fc nc sc ac : Nat} {w0 : World} {b0 b1 : Nat} {v u : Array Value} (h : RX E w S N fa na sa aa fc nc sc ac) (ht : TB w0 w b0 b1 v u) (hg : w.grownBy w' (some b0)) : RX E w' S N fa na sa aa fc nc sc ac := by
  have key : ∀ {t : TypeId} {size : Nat} {x : Value} {n : Nat} {xs : List Value}, OwnG w t size x n xs → 36 ≠ t → OwnG w' t size x n xs := fun {t size x n xs} ho h2 => ho.kept hg (by
    cases hk : x.ownBlock with
    | none => exact .inl rfl
    | some k =>
      right; intro e2; injection e2 with e2; subst e2
      obtain ⟨cur, hc⟩ := ho.tag hk
      rw [ht.h0] at hc; injection hc with hc; injection hc with _ hc _; exact h2 hc)
  exact { h with f := key h.f (by decide), n := key h.n (by decide), s := key h.s (by decide), a := key h.a (by decide) }

theorem RX.setActs {fa na sa aa : Option Addr} {fc nc sc ac : Nat} (h : RX E w S N fa na sa aa fc nc sc ac) : RX E w { S with acts := [] } N fa na sa none fc nc sc 0 :=
  { f := h.f, n := h.n, s := h.s, a := OwnG.nil _ _ _, kf := h.kf, kn := h.kn, ks := h.ks, ka := fun k hk => by cases hk
    wf := { idx := fun i hi => h.wf.idx i (hi.elim .inl fun hi => hi.elim (fun hi => .inr (.inl hi)) fun ⟨a, ha, _⟩ => by cases ha), dn := h.wf.dn, ds := h.wf.ds, zn := h.wf.zn, zs := h.wf.zs, za := (fun _ ha => nomatch ha), dur := h.wf.dur, room := h.wf.room, lim := h.wf.lim }
    lf := h.lf, ln := h.ln, la := by have := h.la; show S.sure.length + 0 ≤ N; omega, st := h.st, big := h.big, lim := h.lim }

theorem RX.setNow {fa na sa aa : Option Addr} {fc nc sc ac : Nat} (h : RX E w S N fa na sa aa fc nc sc ac) : RX E w { S with now := S.sure } N fa sa sa aa fc sc sc ac :=
  { f := h.f, n := h.s, s := h.s, a := h.a, kf := h.kf, kn := h.ks, ks := h.ks, ka := h.ka
    wf := { idx := fun i hi => h.wf.idx i (hi.elim (fun hi => .inr (.inl hi)) fun hi => .inr hi), dn := h.wf.ds, ds := h.wf.ds, zn := h.wf.zs, zs := h.wf.zs, za := h.wf.za, dur := h.wf.dur, room := h.wf.room, lim := h.wf.lim }
    lf := h.lf, ln := by have := h.la; show S.sure.length ≤ N; omega, la := h.la, st := h.st, big := h.big, lim := h.lim }

theorem RX.setLim {fa na sa aa : Option Addr} {fc nc sc ac : Nat} (h : RX E w S N fa na sa aa fc nc sc ac) (n : Int) (hn : -1 ≤ n ∧ n ≤ 9223372036854775807) : RX E w { S with limit := n } N fa na sa aa fc nc sc ac :=
  { f := h.f, n := h.n, s := h.s, a := h.a, kf := h.kf, kn := h.kn, ks := h.ks, ka := h.ka
    wf := { idx := h.wf.idx, dn := h.wf.dn, ds := h.wf.ds, zn := h.wf.zn, zs := h.wf.zs, za := h.wf.za, dur := h.wf.dur, room := h.wf.room, lim := by show _ ≤ n ∧ n ≤ _; omega }
    lf := h.lf, ln := h.ln, la := h.la, st := h.st, big := h.big, lim := hn.1 }

set_option maxRecDepth 100000 in
set_option maxHeartbeats 2000000 in
theorem rcrash_r (h : RR E w cs S N) (x y : Int) :
    Calls Tryd.prog 26 #[.agg cs, .int .i64 x, .int .i64 y] w fun e w' => ∃ cs', e = .returned (.agg cs') ∧ RR (Ku E w.heap.size) w' cs' (VfsS.crashS S x y) N ∧ Below w.heap.size w w' := by
  have h0 := h
  obtain ⟨fa, na, sa, aa, fc, nc, sc, ac, rfl, hx⟩ := h
  have hT : TB w ((w.alloc (.cells #[.slice fa S.files.length fc, .slice na S.now.length nc, .slice sa S.sure.length sc, .slice aa S.acts.length ac, .int .i64 S.room, .int .i64 S.steps, .int .i64 S.limit] 36)).alloc (.cells #[.slice none 0 0, .slice none 0 0, .slice none 0 0, .slice none 0 0, .int .i64 0, .int .i64 0, .int .i64 0] 36)) w.heap.size (w.heap.size + 1) (rcells S fa na sa aa fc nc sc ac) fs0 := TB.start w _ _
  show Calls _ _ #[.agg #[.slice fa S.files.length fc, .slice na S.now.length nc, .slice sa S.sure.length sc, .slice aa S.acts.length ac, .int .i64 S.room, .int .i64 S.steps, .int .i64 S.limit], .int .i64 x, .int .i64 y] _ _
  have HCR : Hid (VfsS.crashS S x y = { midC { VfsS.flushS S (VfsS.clampN x S.acts.length) with acts := [], now := (VfsS.flushS S (VfsS.clampN x S.acts.length)).sure } y S.files.length with limit := -1 }) := by
    show _ = _
    have := midC_all { VfsS.flushS S (VfsS.clampN x S.acts.length) with acts := [], now := (VfsS.flushS S (VfsS.clampN x S.acts.length)).sure } y
    rw [show ({ VfsS.flushS S (VfsS.clampN x S.acts.length) with acts := [], now := (VfsS.flushS S (VfsS.clampN x S.acts.length)).sure } : St).files.length = S.files.length from rfl] at this
    rw [this]; rfl
  go_enter Tryd.func26, Tryd.ntmps26
  go_upto_region 1 with fail
  generalize (w.alloc (.cells #[.slice fa S.files.length fc, .slice na S.now.length nc, .slice sa S.sure.length sc, .slice aa S.acts.length ac, .int .i64 S.room, .int .i64 S.steps, .int .i64 S.limit] 36)).alloc (.cells #[.slice none 0 0, .slice none 0 0, .slice none 0 0, .slice none 0 0, .int .i64 0, .int .i64 0, .int .i64 0] 36) = W at *
  have hrW := h0.below hT.below
  have d0 : W.cell? ⟨w.heap.size, 0, none⟩ = some (.slice fa S.files.length fc) := hT.c 0 rfl
  have d1 : W.cell? ⟨w.heap.size, 1, none⟩ = some (.slice na S.now.length nc) := hT.c 1 rfl
  have d2 : W.cell? ⟨w.heap.size, 2, none⟩ = some (.slice sa S.sure.length sc) := hT.c 2 rfl
  have d3 : W.cell? ⟨w.heap.size, 3, none⟩ = some (.slice aa S.acts.length ac) := hT.c 3 rfl
  have d4 : W.cell? ⟨w.heap.size, 4, none⟩ = some (.int .i64 S.room) := hT.c 4 rfl
  have d5 : W.cell? ⟨w.heap.size, 5, none⟩ = some (.int .i64 S.steps) := hT.c 5 rfl
  have d6 : W.cell? ⟨w.heap.size, 6, none⟩ = some (.int .i64 S.limit) := hT.c 6 rfl
  have hbig := hx.big
  have hlf := hx.lf
  have hacl : VfsS.clampN x S.acts.length ≤ S.acts.length := Nat.min_le_right _ _
  have HFL := Lib.hid (fun q => rflush_r (hrW.below (below_dN (Below.refl _ W) q)) (VfsS.clampN x S.acts.length) hacl)
  clear hx
  refine wp_region_quiet_tail 6 (by kernel_rfl) (by kernel_rfl) ?_
  simp only [List.take_succ_cons, List.take_zero, List.drop_succ_cons, List.drop_zero]
  iterate 5 quiet_step (fail)
  quiet_step (exact Calls.quiet_of_same ((rclamp_c _ _ _).mono fun _ _ ⟨e1, e2⟩ => ⟨e1, e2⟩))
  refine wpQuiet_nil ?_
  rintro _ ⟨nq, rfl⟩
  clear d0 d1 d2 d3 d4 d5 d6
  have hT' := hT.drewN nq
  go_upto_region 2 with (first | (go_at_call 64; refine (HFL.out nq).mono ?_; rintro e w1 ⟨cs1, rfl, hr1, hb1⟩; have hT1 := hT'.to hb1; have hs1 := hr1.size; have ho1 := hr1.one) | (refine wp_store0 hT1 rfl _ _ rfl rfl rfl rfl hs1 ho1 ?_; intro w2 hT2 hg2; have hr2 := hr1.in0 hT1 hg2))
  have hsz2 := hT'.below.size
  have hr2 := hr2.sub (E' := Ku E w.heap.size) (fun k hk _ => hk.elim .inl (fun h => .inr (by omega)))
  have hff : (VfsS.flushS S (VfsS.clampN x S.acts.length)).files.length = S.files.length := rfl
  generalize VfsS.flushS S (VfsS.clampN x S.acts.length) = T at *
  obtain ⟨fa1, na1, sa1, aa1, fc1, nc1, sc1, ac1, e1, hx1⟩ := hr2
  subst e1
  have f3 := hT2.f 3
  obtain ⟨hT3, hg3⟩ := hT2.set0 3 (.slice none 0 0)
  have hx3 := (hx1.in0 hT2 hg3).setActs
  change TB w _ _ _ (rcells { T with acts := [] } fa1 na1 sa1 none fc1 nc1 sc1 0) fs0 at hT3
  have k2 : (w2.setCell ⟨w.heap.size, 3, none⟩ (.slice none 0 0)).cell? ⟨w.heap.size, 2, none⟩ = some (.slice sa1 T.sure.length sc1) := hT3.c 2 rfl
  have f1 := hT3.f 1
  have e3 : w2.cell? ⟨w.heap.size, 3, none⟩ = some (.slice aa1 T.acts.length ac1) := hT2.c 3 rfl
  have e1 : (w2.setCell ⟨w.heap.size, 3, none⟩ (.slice none 0 0)).cell? ⟨w.heap.size, 1, none⟩ = some (.slice na1 T.now.length nc1) := hT3.c 1 rfl
  obtain ⟨hT4, hg4⟩ := hT3.set0 1 (.slice sa1 T.sure.length sc1)
  have hx4 := (hx3.in0 hT3 hg4).setNow
  change TB w _ _ _ (rcells { T with acts := [], now := T.sure } fa1 sa1 sa1 none fc1 sc1 sc1 0) fs0 at hT4
  go_wp2_with fail
  generalize (w2.setCell ⟨w.heap.size, 3, none⟩ (.slice none 0 0)).setCell ⟨w.heap.size, 1, none⟩ (.slice sa1 T.sure.length sc1) = w4 at *
  clear hT3 hx3 hT2 hx1 hg3 hg4 f3 k2 f1 e3 e1
  have hU : ({ T with acts := [], now := T.sure } : St).files.length = S.files.length := hff
  have hlimU : -1 ≤ ({ T with acts := [], now := T.sure } : St).limit := hx4.lim
  have hr4 : RR (Ku E w.heap.size) w4 (rcells { T with acts := [], now := T.sure } fa1 sa1 sa1 none fc1 sc1 sc1 0) { T with acts := [], now := T.sure } N := ⟨_, _, _, _, _, _, _, _, rfl, hx4⟩
  generalize (rcells { T with acts := [], now := T.sure } fa1 sa1 sa1 none fc1 sc1 sc1 0) = c4 at *
  generalize hUU : ({ T with acts := [], now := T.sure } : St) = U at *
  clear hx4 hUU hff HFL hT' hrW hT hg2 ho1 hr1 hb1
  go_loopw [7] (fun iv wx => ∃ (j : Nat) (cj : Array Value), j ≤ S.files.length ∧ iv = .int .i64 j ∧ TB w wx w.heap.size (w.heap.size + 1) cj fs0 ∧ RR (Ku E w.heap.size) wx cj (midC U y j) N) (fun iv _ => (S.files.length - intOf iv).toNat)
  case atStart => exact ⟨0, c4, Nat.zero_le _, rfl, hT4, by rw [midC_zero]; exact hr4⟩
  case round =>
    clear hT4 hr4
    obtain ⟨j, cj, hj, rfl, hT, hr⟩ := hrel
    have hr' := hr
    obtain ⟨fa1, na1, sa1, aa1, fc1, nc1, sc1, ac1, e1, hx⟩ := hr'
    subst e1
    have hlen := midC_len U y j
    rw [hU] at hlen
    have HLEN := Lib.hid hlen
    have d0 : wr.cell? ⟨w.heap.size, 0, none⟩ = some (.slice fa1 (midC U y j).files.length fc1) := hT.c 0 rfl
    by_cases hjl : j < S.files.length
    · have hd : decide ((j : Int) < ((midC U y j).files.length : Int)) = true := decide_eq_true (by omega)
      have hjT : j < (midC U y j).files.length := by omega
      have hjU : j < U.files.length := by omega
      obtain ⟨fb, fo, rfl, q0, q1⟩ := hx.file j hjT
      have hlt := fl_mem hx.wf hjT
      rw [midC_fl U y j hjU] at q0 q1 hlt
      have HPUT := Lib.hid (midC_put U y j hjU)
      have HCF : Hid (VfsS.cutF y (VfsS.fl U j) = ⟨(VfsS.fl U j).text.extract 0 ((VfsS.fl U j).dur + VfsS.clampN y ((VfsS.fl U j).text.size - (VfsS.fl U j).dur)), (VfsS.fl U j).dur + VfsS.clampN y ((VfsS.fl U j).text.size - (VfsS.fl U j).dur)⟩) := by show _ = _; rfl
      rw [HCF.out] at HPUT
      clear HCF
      generalize (VfsS.fl U j).text = tx at *
      generalize (VfsS.fl U j).dur = du at *
      have hcn : VfsS.clampN y (tx.size - du) ≤ tx.size - du := Nat.min_le_right _ _
      have hm0 : ∃ m, tx.size - du = m := ⟨_, rfl⟩
      obtain ⟨m, hm⟩ := hm0
      rw [hm] at hcn HPUT
      have hn0 : ∃ n, du + VfsS.clampN y m = n := ⟨_, rfl⟩
      obtain ⟨n, hn⟩ := hn0
      rw [hn] at HPUT
      have hwr1 : IntKind.i64.wrap ((tx.size : Int) - (du : Int)) = (m : Int) := by rw [IntWalk.i64_in _ (by omega)]; omega
      have hwr2 : IntKind.i64.wrap ((du : Int) + (VfsS.clampN y m : Nat)) = (n : Int) := by rw [IntWalk.i64_in _ (by omega)]; omega
      have hw : IntKind.i64.wrap ((j : Int) + 1) = (j : Int) + 1 := IntWalk.i64_in _ (by omega)
      have b1 : (0 : Int) ≤ (j : Int) := by omega
      have b2 : (j : Int) < (midC U y j).files.length := by omega
      have b3 : (0 : Int) ≤ (n : Int) := by omega
      have b4 : (n : Int) ≤ tx.size := by omega
      have hbA : Below wr.heap.size wr (wr.alloc (.cells #[.string tx, .int .i64 (du : Int)] 119)) := (Below.refl _ wr).alloc (Nat.le_refl _) _
      have HP := Lib.hid (fun (Wn : World) (hbn : Below (wr.alloc (.cells #[.string tx, .int .i64 (du : Int)] 119)).heap.size (wr.alloc (.cells #[.string tx, .int .i64 (du : Int)] 119)) Wn) => rput_r ((hr.below hbA).below hbn) j hjT ⟨tx.extract 0 n, n⟩ ⟨by show n ≤ (tx.extract 0 n).size; rw [ByteArray.size_extract]; omega, by show (tx.extract 0 n).size ≤ _; rw [ByteArray.size_extract]; omega⟩)
      clear hm hn hcn hx hr hlen hU
      go_upto_region 8 with fail
      go_quiet ((go_at_call 69; exact Calls.quiet_of_same ((rclamp_c _ _ _).mono fun _ _ ⟨e1, e2⟩ => ⟨e1, e2⟩)))
      have hT1 := hT.to hbA
      have hsz1 := hbA.size
      have g0 : (wr.alloc (.cells #[.string tx, .int .i64 (du : Int)] 119)).cell? ⟨wr.heap.size, 0, none⟩ = some (.string tx) := by rw [cell_of (show _ = some (Obj.cells #[.string tx, .int .i64 (du : Int)] 119 (0, 0)) from Array.getElem?_push_size)]; rfl
      generalize wr.alloc (.cells #[.string tx, .int .i64 (du : Int)] 119) = W1 at *
      have d0 : W1.cell? ⟨w.heap.size, 0, none⟩ = some (.slice (some ⟨fb, fo, none⟩) (midC U y j).files.length fc1) := hT1.c 0 rfl
      have d1 : W1.cell? ⟨w.heap.size, 1, none⟩ = some (.slice na1 (midC U y j).now.length nc1) := hT1.c 1 rfl
      have d2 : W1.cell? ⟨w.heap.size, 2, none⟩ = some (.slice sa1 (midC U y j).sure.length sc1) := hT1.c 2 rfl
      have d3 : W1.cell? ⟨w.heap.size, 3, none⟩ = some (.slice aa1 (midC U y j).acts.length ac1) := hT1.c 3 rfl
      have d4 : W1.cell? ⟨w.heap.size, 4, none⟩ = some (.int .i64 (midC U y j).room) := hT1.c 4 rfl
      have d5 : W1.cell? ⟨w.heap.size, 5, none⟩ = some (.int .i64 (midC U y j).steps) := hT1.c 5 rfl
      have d6 : W1.cell? ⟨w.heap.size, 6, none⟩ = some (.int .i64 (midC U y j).limit) := hT1.c 6 rfl
      go_upto_region 9 with fail
      refine wp_region_quiet_tail 8 (by kernel_rfl) (by kernel_rfl) ?_
      simp only [List.take_succ_cons, List.take_zero, List.drop_succ_cons, List.drop_zero]
      iterate 8 quiet_step (fail)
      refine wpQuiet_nil ?_
      rintro Wn ⟨nr, hWn⟩
      have hbn : Below W1.heap.size W1 Wn := by rw [hWn]; exact below_dN (below_dN (Below.refl _ _) _) _
      clear d0 d1 d2 d3 d4 d5 d6 g0 hWn
      have hT1' := hT1.to hbn
      have hszn := hbn.size
      go_wp2_with (first | (go_at_call 68; refine (HP.out Wn hbn).mono ?_; rintro e w3 ⟨cs3, rfl, hr3, hb3⟩; have hT3 := hT1'.to hb3; have hs3 := hr3.size; have ho3 := hr3.one) | (refine wp_store0 hT3 rfl _ _ rfl rfl rfl rfl hs3 ho3 ?_; intro w2 hT2 hg2; have hr2 := hr3.in0 hT3 hg2))
      go_roundw
      case rel =>
        refine ⟨j + 1, cs3, by omega, by go_num, hT2, ?_⟩
        rw [← HPUT.out]
        have hs1 := hT.below.size
        exact hr2.sub (fun k hk _ => hk.elim id (fun h => .inr (by omega)))
      case measure => simp [intOf]; omega
    · have hd : decide ((j : Int) < ((midC U y j).files.length : Int)) = false := decide_eq_false (by omega)
      obtain rfl : j = S.files.length := by omega
      have hd' : decide (S.files.length < (midC U y S.files.length).files.length) = false := decide_eq_false (by omega)
      have f6 := hT.f 6
      have e6 : wr.cell? ⟨w.heap.size, 6, none⟩ = some (.int .i64 (midC U y S.files.length).limit) := hT.c 6 rfl
      obtain ⟨hT5, hg5⟩ := hT.set0 6 (.int .i64 (-1))
      have hx5 := (hx.in0 hT hg5).setLim (-1) (by omega)
      change TB w _ _ _ (rcells { midC U y S.files.length with limit := -1 } fa1 na1 sa1 aa1 fc1 nc1 sc1 ac1) fs0 at hT5
      have hone5 := oneFS { midC U y S.files.length with limit := -1 } fa1 na1 sa1 aa1 fc1 nc1 sc1 ac1
      have hr5 : RR (Ku E w.heap.size) (wr.setCell ⟨w.heap.size, 6, none⟩ (.int .i64 (-1))) (rcells { midC U y S.files.length with limit := -1 } fa1 na1 sa1 aa1 fc1 nc1 sc1 ac1) { midC U y S.files.length with limit := -1 } N := ⟨_, _, _, _, _, _, _, _, rfl, hx5⟩
      clear hx5 hx hr hg5 hlen
      go_wp2_with (first
        | (refine wp_load0 hT5 rfl _ rfl rfl rfl ?_)
        | (refine wp_store1 hT5 rfl _ _ rfl rfl rfl rfl rfl hone5 ?_; intro w4 hT4 hg4; have hr4 := hr5.in1 hT5 hg4))
      (try simp only [Exit.inBlock, Exit.then])
      refine bodyPost_ret (hT4.ret1 rfl rfl _ rfl) rfl ?_
      rw [HCR.out]
      exact ⟨_, rfl, hr4, hT4.below⟩
end
end Go.Proofs.YtfoamcobpfflbaaDoor
