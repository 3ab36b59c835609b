/- Texts of mine, joined: Packs in plain Lean: what the laws about records written once, and in order, ask. No program in sight. | Records that came in; have two unlike records one sum? | Records that came in, opened. -/
import Derived.Deep.CutRange
import Derived.Test.YtfoamcobpfflbaaDoorZ36
namespace Go.Proofs.YtfoamcobpfflbaaDoor
namespace PackS
open VfsS (St readS appendS cutS)

/-- No two unlike records have one sum. -/
def NoTwins (L0 : List (List Nat)) : Prop := ∀ x ∈ L0, ∀ y ∈ L0, Sha.sum x = Sha.sum y → x = y

theorem appendS_now (S : St) (nm b : ByteArray) : (appendS S nm b).1.now = S.now := by
  unfold appendS
  split
  · rfl
  · split
    · rfl
    · split
      · rfl
      · show (VfsS.stepS S).now = _
        rw [VfsS.stepS_now]

theorem used_one {S : St} {nm t : ByteArray} {i : Nat} (hn : S.now = [(nm, i)]) (ht : readS S nm = some t) : VfsS.used S = t.size := by
  unfold readS at ht
  rw [hn] at ht
  have hf : VfsS.find [(nm, i)] nm = some i := by rw [VfsS.find_cons, if_pos rfl]
  rw [hf] at ht
  injection ht with ht
  have ht : (VfsS.fl S i).text = t := ht
  unfold VfsS.used
  rw [hn]
  show (VfsS.fl S i).text.size + 0 = _
  rw [ht]; rfl

theorem frames_len_bl {t : ByteArray} {L : List (List Nat)} (h : bl t = frames L) : t.size = (frames L).length := by rw [← bl_len, h]

theorem rhas_mem {L : List (List Nat)} {d : List Nat} (h : d ∈ L) : (rhas L (Sha.sum d)).isSome = true := by
  unfold rhas
  rw [List.find?_isSome]
  exact ⟨d, h, by simp⟩

theorem Tied.used {S : St} {P : Pk} {nm : ByteArray} {L : List (List Nat)} {i : Nat} (h : Tied S P nm L) (hn : S.now = [(nm, i)]) : VfsS.used S = P.size := by
  obtain ⟨t, ht, hf⟩ := h.read
  rw [used_one hn ht, frames_len_bl hf, h.good.size]

theorem radd_now (S : St) (nm : ByteArray) (L : List (List Nat)) (d : List Nat) : (radd S nm L d).1.now = S.now := by
  unfold radd
  split
  · rfl
  · split
    · split <;> rfl
    · split
      · exact appendS_now _ _ _
      · exact appendS_now _ _ _

/-- What the law asks of one record. -/
theorem once {S : St} {P : Pk} {nm : ByteArray} {L L0 : List (List Nat)} {i : Nat} (h : Tied S P nm L) (hi : ∀ p ∈ S.now, p.2 < S.files.length) (hn : S.now = [(nm, i)]) (h0 : NoTwins L0) (hs : ∀ x ∈ L, x ∈ L0) {d : List Nat} (hd : ∀ x ∈ d, x < 256) (hm : d ∈ L0) :
    ((add P S d).2.2.2 ≠ 0 ∧ add P S d = (S, P, zid, (add P S d).2.2.2)) ∨
    ((add P S d).2.2.2 = 0 ∧ (add P S d).2.2.1 = Sha.sum d ∧ add (add P S d).2.1 (add P S d).1 d = ((add P S d).1, (add P S d).2.1, Sha.sum d, 0) ∧ get (add P S d).2.1 (add P S d).1 (Sha.sum d) = (d, 0) ∧
      VfsS.used (add P S d).1 = (add P S d).2.1.size ∧ (add P S d).1.now = [(nm, i)] ∧ ∃ L', Tied (add P S d).1 (add P S d).2.1 nm L' ∧ ∀ x ∈ L', x ∈ L0) := by
  obtain ⟨t, ht, hf⟩ := h.read
  -- behind a record that is there
  have again : ∀ {S1 : St} {P1 : Pk} {L1 : List (List Nat)}, Tied S1 P1 nm L1 → S1.now = [(nm, i)] → (∀ x ∈ L1, x ∈ L0) → ¬ 524288 < d.length → rhas L1 (Sha.sum d) = some d →
      add P1 S1 d = (S1, P1, Sha.sum d, 0) ∧ get P1 S1 (Sha.sum d) = (d, 0) := fun {S1 P1 L1} h1 _ _ hl hr => by
    obtain ⟨t1, ht1, hf1⟩ := h1.read
    have hg := h1.good.get ht1 hf1 (Sha.sum d)
    rw [hr] at hg
    refine ⟨?_, hg⟩
    unfold PackS.add
    rw [if_neg hl, h1.good.has_iff, hr, hg]
    simp
  by_cases h1 : 524288 < d.length
  · left
    unfold PackS.add
    rw [if_pos h1]
    exact ⟨by simp, rfl⟩
  · cases e : rhas L (Sha.sum d) with
    | some o =>
      right
      obtain ⟨e1, e2⟩ := rhas_sum e
      have ho : o = d := h0 o (hs o e2) d hm e1
      subst ho
      obtain ⟨a1, a2⟩ := again h hn hs h1 e
      rw [a1]
      exact ⟨rfl, rfl, a1, a2, h.used hn, hn, L, h, hs⟩
    | none =>
      have T := h.add hi hd
      have hno : ¬ PackS.has P (Sha.sum d) = true := by rw [h.good.has_iff, e]; simp
      rcases read_append (b := ofL (frame d)) ht hi with ⟨k1, k2⟩ | ⟨k1, k2⟩
      · left
        unfold PackS.add
        rw [if_neg h1, if_neg hno, h.good.name, if_pos k1, k2]
        exact ⟨k1, rfl⟩
      · right
        have hadd : PackS.add P S d = ((appendS S nm (ofL (frame d))).1, note P d, Sha.sum d, 0) := by
          unfold PackS.add
          rw [if_neg h1, if_neg hno, h.good.name, if_neg (by rw [k1]; simp)]
        have hradd : (radd S nm L d).2.1 = L ++ [d] := by
          unfold radd
          rw [if_neg h1, e]
          simp only
          rw [if_neg (by rw [k1]; simp)]
        have T1 := T.1
        rw [hradd] at T1
        rw [hadd] at T1 ⊢
        have hn1 : (appendS S nm (ofL (frame d))).1.now = [(nm, i)] := by rw [appendS_now]; exact hn
        have hs1 : ∀ x ∈ L ++ [d], x ∈ L0 := fun x hx => by
          rcases List.mem_append.1 hx with hx | hx
          · exact hs x hx
          · rw [List.mem_singleton] at hx; subst hx; exact hm
        have hr1 : rhas (L ++ [d]) (Sha.sum d) = some d := by rw [rhas_app, e]; simp
        obtain ⟨a1, a2⟩ := again T1 hn1 hs1 h1 hr1
        exact ⟨rfl, rfl, a1, a2, T1.used hn1, hn1, _, T1, hs1⟩

/-- The records behind one more. -/
def addL (L : List (List Nat)) (d : List Nat) : List (List Nat) := if (rhas L (Sha.sum d)).isSome then L else L ++ [d]
def recs (l : List (List Nat)) : List (List Nat) := l.foldl addL []
theorem recs_snoc (l : List (List Nat)) (d : List Nat) : recs (l ++ [d]) = addL (recs l) d := by unfold recs; rw [List.foldl_append]; rfl
theorem recs_sub : ∀ (l L : List (List Nat)), (l.foldl addL L).Sublist (L ++ l)
  | [], L => by rw [List.append_nil]; exact List.Sublist.refl _
  | d :: l, L => by
    rw [List.foldl_cons]
    refine (recs_sub l (addL L d)).trans ?_
    unfold addL
    split
    · exact List.Sublist.append (List.Sublist.refl _) (List.sublist_cons_self _ _)
    · rw [List.append_assoc]; exact List.Sublist.refl _
theorem recs_mem {l : List (List Nat)} {x : List Nat} (h : x ∈ recs l) : x ∈ l := by
  have := (recs_sub l []).subset h
  simpa using this
theorem recs_sublist (l : List (List Nat)) : (recs l).Sublist l := by
  have := recs_sub l []
  unfold recs
  simpa using this

/-- Each sum once: ids are the sums. -/
def IdsOk (L : List (List Nat)) : Prop := ids L = L.map Sha.sum ∧ ∀ i, i ∈ ids L ↔ (rhas L i).isSome = true
theorem IdsOk.add {L : List (List Nat)} (h : IdsOk L) (d : List Nat) : IdsOk (addL L d) := by
  obtain ⟨ih1, ih2⟩ := h
  unfold addL
  by_cases h : (rhas L (Sha.sum d)).isSome = true
  · rw [if_pos h]; exact ⟨ih1, ih2⟩
  · rw [if_neg h]
    have hid : ids (L ++ [d]) = ids L ++ [Sha.sum d] := by
      have : ids (L ++ [d]) = addId (ids L) d := by unfold ids; rw [List.foldl_append]; rfl
      rw [this, addId, if_neg (by rw [ih2]; exact h)]
    refine ⟨by rw [hid, List.map_append, ih1]; rfl, fun i => ?_⟩
    rw [hid, List.mem_append, ih2 i, rhas_app, List.mem_singleton]
    cases e2 : rhas L i with
    | some o => simp
    | none =>
      by_cases ei : Sha.sum d = i
      · simp only [if_pos ei]; simp [ei.symm]
      · simp only [if_neg ei]; simp; exact fun e => ei e.symm
theorem IdsOk.fold : ∀ (l : List (List Nat)) {L : List (List Nat)}, IdsOk L → IdsOk (l.foldl addL L)
  | [], _, h => h
  | d :: l, _, h => IdsOk.fold l (h.add d)
theorem ids_recs (l : List (List Nat)) : IdsOk (recs l) := IdsOk.fold l ⟨rfl, fun i => by simp [ids, rhas]⟩

/-- Room enough, no stop. -/
structure Roomy (S : St) (nm : ByteArray) (i : Nat) : Prop where
  now : S.now = [(nm, i)]
  room : S.room = 4194304
  lim : S.limit = -1

theorem roomy_append {S : St} {nm b : ByteArray} {i : Nat} (h : Roomy S nm i) (hu : VfsS.used S + b.size ≤ 4194304) : (appendS S nm b).2 = 0 ∧ Roomy (appendS S nm b).1 nm i := by
  unfold appendS
  have hf : VfsS.find S.now nm = some i := by rw [h.now, VfsS.find_cons, if_pos rfl]
  rw [hf]
  simp only
  rw [if_neg (by rw [h.room]; omega), if_neg (by rw [h.lim]; decide)]
  refine ⟨rfl, ⟨?_, ?_, ?_⟩⟩
  · show (VfsS.stepS S).now = _
    rw [VfsS.stepS_now]; exact h.now
  · show (VfsS.stepS S).room = _
    rw [VfsS.stepS_room]; exact h.room
  · show (VfsS.stepS S).limit = _
    unfold VfsS.stepS
    rw [if_neg (by rw [h.lim]; decide)]
    show (if 0 < S.limit then S.limit - 1 else S.limit) = -1
    rw [h.lim]; rfl

/-- One record more, in order. -/
theorem order_add {S : St} {P : Pk} {nm : ByteArray} {l L0 : List (List Nat)} {i : Nat} (h : Tied S P nm (recs l)) (hi : ∀ p ∈ S.now, p.2 < S.files.length) (hr : Roomy S nm i) (h0 : NoTwins L0) (hs : ∀ x ∈ l, x ∈ L0) (hu : VfsS.used S + 20012 ≤ 4194304) {d : List Nat} (hd : ∀ x ∈ d, x < 256) (hm : d ∈ L0) (hl : d.length ≤ 20000) :
    (add P S d).2.2.2 = 0 ∧ Tied (add P S d).1 (add P S d).2.1 nm (recs (l ++ [d])) ∧ Roomy (add P S d).1 nm i ∧ VfsS.used (add P S d).1 ≤ VfsS.used S + 20012 := by
  obtain ⟨t, ht, hf⟩ := h.read
  have T := h.add hi hd
  have hk : ¬ 524288 < d.length := by omega
  rw [recs_snoc]
  unfold addL
  cases e : rhas (recs l) (Sha.sum d) with
  | some o =>
    obtain ⟨e1, e2⟩ := rhas_sum e
    have ho : o = d := h0 o (hs o (recs_mem e2)) d hm e1
    subst ho
    have hg := h.good.get ht hf (Sha.sum o)
    rw [e] at hg
    have hadd : PackS.add P S o = (S, P, Sha.sum o, 0) := by
      unfold PackS.add
      rw [if_neg hk, h.good.has_iff, e, hg]
      simp
    rw [hadd]
    exact ⟨rfl, h, hr, by show VfsS.used S ≤ _; omega⟩
  | none =>
    have hno : ¬ PackS.has P (Sha.sum d) = true := by rw [h.good.has_iff, e]; simp
    have hfs : (ofL (frame d)).size = 12 + d.length := by rw [ofL_size, frame_len]
    obtain ⟨k1, k2⟩ := roomy_append (b := ofL (frame d)) hr (by rw [hfs]; omega)
    have hadd : PackS.add P S d = ((appendS S nm (ofL (frame d))).1, note P d, Sha.sum d, 0) := by
      unfold PackS.add
      rw [if_neg hk, if_neg hno, h.good.name, if_neg (by rw [k1]; simp)]
    have hradd : (radd S nm (recs l) d).2.1 = recs l ++ [d] := by
      unfold radd
      rw [if_neg hk, e]
      simp only
      rw [if_neg (by rw [k1]; simp)]
    have T1 := T.1
    rw [hradd] at T1
    rw [hadd] at T1 ⊢
    refine ⟨rfl, T1, k2, ?_⟩
    rw [T1.used k2.now, h.used hr.now]
    have hz : (note P d).size = P.size + (12 + d.length) := by
      unfold PackS.note
      rw [if_neg hno]
    show (note P d).size ≤ _
    rw [hz]
    omega

/-- Opened again: nothing turns. -/
theorem order_open {S : St} {P : Pk} {nm : ByteArray} {L : List (List Nat)} (h : Tied S P nm L) : opened S nm = (S, some (L.foldl note (new nm)), 0) ∧ Tied S (L.foldl note (new nm)) nm L := by
  obtain ⟨t, ht, hf⟩ := h.read
  have hs : scan (bl t) = (L, (frames L).length) := by rw [hf]; exact scan_of_frames L fun d hd => (h.len d hd).1
  have hg := Good.fold L (Good.new nm)
  rw [List.nil_append] at hg
  refine ⟨?_, ⟨hg, h.read, h.len⟩⟩
  unfold opened
  rw [ht]
  simp only [hs]
  rw [if_neg (by rw [← frames_len_bl hf]; omega)]

end PackS
end Go.Proofs.YtfoamcobpfflbaaDoor
namespace Go.Proofs.YtfoamcobpfflbaaDoor
open Go Go.RowKit Go.Maps

/-- Records that came in, row by row. -/
structure LsIn (W : World) (a : Option Addr) (c : Nat) (ps : List Prt) : Prop where
  row : Sl W a (prow ps)
  cap : ps.length ≤ c
  each : ∀ q ∈ ps, Sl W q.1 (nb q.2.2) ∧ (∀ x ∈ q.2.2, x < 256) ∧ q.2.2.length ≤ 1048576
  len : ps.length ≤ 1048576
theorem LsIn.below {W W' : World} {a : Option Addr} {c : Nat} {ps : List Prt} (h : LsIn W a c ps) (hb : Below W.heap.size W W') : LsIn W' a c ps :=
  ⟨h.row.below hb, h.cap, fun q hq => ⟨(h.each q hq).1.below hb, (h.each q hq).2⟩, h.len⟩
/-- A record's cell. -/
theorem LsIn.at {W : World} {a : Option Addr} {c : Nat} {ps : List Prt} (h : LsIn W a c ps) {i : Nat} (hi : i < ps.length) : ∃ b o, a = some ⟨b, o, none⟩ ∧ b < W.heap.size ∧ ∀ j (hj : j < ps.length), W.cell? ⟨b, o + j, none⟩ = some (.slice ps[j].1 ps[j].2.2.length ps[j].2.1) := by
  obtain ⟨b, o, e, hb, hc⟩ := h.row.at (k := i) (by rw [prow_len]; exact hi)
  refine ⟨b, o, e, hb, fun j hj => ?_⟩
  rw [hc j (by rw [prow_len]; exact hj)]
  unfold prow
  rw [List.getElem_map]

/-- A record's bytes lie behind its slice. -/
structure PrtIn (W : World) (a : Option Addr) (d : List Nat) : Prop where
  sl : Sl W a (nb d)

def recsIn (ps : List Prt) : List (List Nat) := ps.map fun q => q.2.2

theorem push_at {w : World} {o : Obj} {b : Nat} (h : w.heap.size = b) : (w.alloc o).heap[b]? = some o := by subst h; exact Array.getElem?_push_size
theorem at_push (w : World) (o : Obj) (b : Nat) (h : b = w.heap.size) : (w.alloc o).heap[b]? = some o := by subst h; exact Array.getElem?_push_size
/-- The sum of one record whose slice lies in a block. -/
theorem sum1_at {w : World} {b : Nat} {a : Option Addr} {c : Nat} {l : List Nat} {e : TypeId} {fr : Nat × Nat} (h : w.heap[b]? = some (.cells #[.slice a l.length c] e fr)) (hl : Sl w a (nb l)) (hb : ∀ x ∈ l, x < 256) (hn : l.length ≤ 100000000) :
    Calls Tryd.prog 43 #[.slice (some ⟨b, 0, none⟩) 1 1] w fun e w' => e = .returned (.agg (nums .u8 (Sha.sum l))) ∧ Below w.heap.size w w' := by
  have h := sum_c (w := w) (pa := some ⟨b, 0, none⟩) (pc := 1) [(a, c, l)] (.inr ⟨b, 0, rfl, (Array.getElem?_eq_some_iff.1 h).1, fun i u hu => by rw [Nat.zero_add]; simp only [World.cell?, h]; simpa using hu⟩) (fun q hq => by
    rw [List.mem_singleton] at hq; subst hq
    exact ⟨hl, hb⟩) (by simp) (by simpa using hn)
  refine h.mono ?_
  rintro e w' ⟨rfl, h2⟩
  exact ⟨by simp, h2⟩

theorem notwins_of {L : List (List Nat)} (h : ∀ i (hi : i < L.length) k (hk : k < i), Sha.sum L[i] = Sha.sum (L[k]'(by omega)) → L[i] = L[k]'(by omega)) : PackS.NoTwins L := by
  intro x hx y hy e
  obtain ⟨i, hi, rfl⟩ := List.mem_iff_getElem.1 hx
  obtain ⟨k, hk, rfl⟩ := List.mem_iff_getElem.1 hy
  rcases Nat.lt_trichotomy i k with h1 | h1 | h1
  · exact (h k hk i h1 e.symm).symm
  · subst h1; rfl
  · exact h i hi k h1 e

/-- No twins among the first pairs. -/
def NT (L : List (List Nat)) (i k : Nat) : Prop := ∀ i' (hi : i' < L.length) k' (hk : k' < i'), (i' < i ∨ i' = i ∧ k' < k) → Sha.sum L[i'] = Sha.sum (L[k']'(by omega)) → L[i'] = L[k']'(by omega)
theorem NT.zero (L : List (List Nat)) : NT L 0 0 := fun i' hi k' hk h => by omega
theorem NT.up {L : List (List Nat)} {i : Nat} (h : NT L i i) : NT L (i + 1) 0 := fun i' hi k' hk hh => h i' hi k' hk (by omega)
theorem NT.step {L : List (List Nat)} {i k : Nat} (h : NT L i k) (hi : i < L.length) (hk : k < i) (h1 : Sha.sum L[i] = Sha.sum (L[k]'(by omega)) → L[i] = L[k]'(by omega)) : NT L i (k + 1) := fun i' hi' k' hk' hh => by
  by_cases e : i' = i ∧ k' = k
  · obtain ⟨rfl, rfl⟩ := e; exact h1
  · exact h i' hi' k' hk' (by omega)
theorem NT.done {L : List (List Nat)} (h : NT L L.length 0) : PackS.NoTwins L := notwins_of fun i hi k hk => h i hi k hk (.inl hi)

set_option maxRecDepth 100000 in
set_option maxHeartbeats 2000000 in
theorem twins_c {w : World} {a : Option Addr} {c : Nat} {ps : List Prt} (h : LsIn w a c ps) :
    Calls Tryd.prog 40 #[.slice a ps.length c] w fun e w' => ∃ b, e = .returned (.bool b) ∧ (b = false → PackS.NoTwins (recsIn ps)) ∧ Below w.heap.size w w' := by
  have hl := h.len
  have hcap := h.cap
  have HH := Lib.hid h
  clear h
  go_enter Tryd.func40, Tryd.ntmps40
  go_wp2_with fail
  go_loopw [7] (fun iv wx => ∃ i : Nat, i ≤ ps.length ∧ iv = .int .i64 i ∧ Below w.heap.size w wx ∧ NT (recsIn ps) i 0) (fun iv _ => (ps.length - intOf iv).toNat)
  case atStart => exact ⟨0, Nat.zero_le _, rfl, Below.refl _ _, NT.zero _⟩
  case round =>
    obtain ⟨i, hi, rfl, hbr, hnt⟩ := hrel
    by_cases hil : i < ps.length
    · have hd : decide ((i : Int) < (ps.length : Int)) = true := decide_eq_true (by omega)
      go_wp2_with fail
      go_loopw [14] (fun kv wx => ∃ k : Nat, k ≤ i ∧ kv = .int .i64 k ∧ Below w.heap.size w wx ∧ NT (recsIn ps) i k) (fun kv _ => (i - intOf kv).toNat)
      case atStart => exact ⟨0, Nat.zero_le _, rfl, hbr, hnt⟩
      case round =>
        clear hbr hnt
        obtain ⟨k, hk, rfl, hbr, hnt⟩ := hrel
        by_cases hki : k < i
        · have hd2 : decide ((k : Int) < (i : Int)) = true := decide_eq_true (by omega)
          obtain ⟨b, o, rfl, hb, hc⟩ := HH.out.at hil
          have hci := (hbr.cell (p := ⟨b, o + i, none⟩) hb).trans (hc i hil)
          have hck := (hbr.cell (p := ⟨b, o + k, none⟩) hb).trans (hc k (by omega))
          have hei := HH.out.each ps[i] (List.getElem_mem hil)
          have hek := HH.out.each (ps[k]'(by omega)) (List.getElem_mem _)
          have hst := fun h1 => hnt.step (by unfold recsIn; rw [List.length_map]; exact hil) hki h1
          have hri : (recsIn ps)[i]'(by unfold recsIn; rw [List.length_map]; exact hil) = ps[i].2.2 := by unfold recsIn; rw [List.getElem_map]
          have hrk : (recsIn ps)[k]'(by unfold recsIn; rw [List.length_map]; omega) = (ps[k]'(by omega)).2.2 := by unfold recsIn; rw [List.getElem_map]
          rw [hri, hrk] at hst
          have HST := Lib.hid hst
          have HBR := Lib.hid hbr
          clear hst hri hrk hc
          generalize ps[i] = qi at *
          generalize ps[k]'(by omega) = qk at *
          obtain ⟨ai, ci, di⟩ := qi
          obtain ⟨ak, ck, dk⟩ := qk
          simp only at hci hck hei hek HST
          obtain ⟨hsi, hbi, hli⟩ := hei
          obtain ⟨hsk, hbk, hlk⟩ := hek
          have HCi : Hid (∀ W, Below wr.heap.size wr W → PrtIn W ai di) := fun W hW => ⟨(hsi.below hbr).below hW⟩
          have HCk : Hid (∀ W, Below wr.heap.size wr W → PrtIn W ak dk) := fun W hW => ⟨(hsk.below hbr).below hW⟩
          have HS : Hid (∀ W, Below wr.heap.size wr W → W.cell? ⟨b, o + i, none⟩ = some (.slice ai di.length ci) ∧ W.cell? ⟨b, o + k, none⟩ = some (.slice ak dk.length ck) ∧
              (convert 43 9 (.slice ai di.length ci)).run Tryd.prog W = .ok (.string (ofL di)) W ∧ (convert 43 9 (.slice ak dk.length ck)).run Tryd.prog W = .ok (.string (ofL dk)) W) := fun W hW => by
            have hbw : b < wr.heap.size := Nat.lt_of_lt_of_le hb hbr.size
            refine ⟨(hW.cell (p := ⟨b, o + i, none⟩) hbw).trans hci, (hW.cell (p := ⟨b, o + k, none⟩) hbw).trans hck, ?_, ?_⟩
            · have := run_str_of (P := Tryd.prog) Tryd.underlying43 Tryd.underlying5 Tryd.underlying9 (b := ofL di) (w := W) (by rw [byteCells_ofL hbi]; exact (HCi.out W hW).sl) ci
              rwa [ofL_size] at this
            · have := run_str_of (P := Tryd.prog) Tryd.underlying43 Tryd.underlying5 Tryd.underlying9 (b := ofL dk) (w := W) (by rw [byteCells_ofL hbk]; exact (HCk.out W hW).sl) ck
              rwa [ofL_size] at this
          have HSUMi : Hid (∀ W b, Below wr.heap.size wr W → W.heap[b]? = some (.cells #[.slice ai di.length ci] 43 (0, 0)) → Calls Tryd.prog 43 #[.slice (some ⟨b, 0, none⟩) 1 1] W fun e w' => e = .returned (.agg (nums .u8 (Sha.sum di))) ∧ Below W.heap.size W w') := fun W b hW hh => sum1_at hh (HCi.out W hW).sl hbi (by omega)
          have HSUMk : Hid (∀ W b, Below wr.heap.size wr W → W.heap[b]? = some (.cells #[.slice ak dk.length ck] 43 (0, 0)) → Calls Tryd.prog 43 #[.slice (some ⟨b, 0, none⟩) 1 1] W fun e w' => e = .returned (.agg (nums .u8 (Sha.sum dk))) ∧ Below W.heap.size W w') := fun W b hW hh => sum1_at hh (HCk.out W hW).sl hbk (by omega)
          have hz1 : ∀ o, (wr.drew.alloc o).heap.size = wr.heap.size + 1 := fun o => by simp
          have hz2 : ∀ o, wr.heap.size < (wr.drew.alloc o).heap.size := fun o => by simp
          have hz3 : ∀ o o', wr.heap.size < ((wr.drew.alloc o).alloc o').heap.size := fun o o' => by simp; omega
          have hz4 : ∀ o o', wr.heap.size + 1 < ((wr.drew.alloc o).alloc o').heap.size := fun o o' => by simp
          have HBD : Hid (Below wr.heap.size wr wr.drew) := below_dN (Below.refl _ wr) 1
          have hcmp : ((ofL di).toList == (ofL dk).toList) = decide (di = dk) := by rw [tl_eq, ofL_eq hbi hbk]
          have hw1 : IntKind.i64.wrap ((k : Int) + 1) = ((k + 1 : Nat) : Int) := IntWalk.i64_in _ (by omega)
          have b0 : (0 : Int) ≤ (k : Int) := by omega
          have b1 : (k : Int) < (ps.length : Int) := by omega
          have b2 : (0 : Int) ≤ (i : Int) := by omega
          have b3 : (i : Int) < (ps.length : Int) := by omega
          clear hci hck hsi hsk hbr hnt
          by_cases hdd : di = dk
          · rw [decide_eq_true hdd] at hcmp
            have HDD := Lib.hid hdd
            clear hdd
            have f0 := fun p => (HS.out _ (bw_below wr p)).1
            have f1 := fun p => (HS.out _ (bw_below wr p)).2.1
            have f2 := fun p => (HS.out _ (bw_below wr p)).2.2.1
            have f3 := fun p => (HS.out _ (bw_below wr p)).2.2.2
            go_wp2_with fail
            refine wp_region_bw (by kernel_rfl) (by kernel_rfl) ?_
            iterate 12 quiet_step (fail)
            iterate 13 go_big_quiet_skip
            quiet_step (fail)
            refine wpQuiet_nil ?_
            rintro Wn ⟨pn, hWn⟩
            have hbx : Below w.heap.size w Wn := HBR.out.trans ((show Below wr.heap.size wr Wn by rw [hWn]; exact bw_below _ _).mono HBR.out.size)
            clear hWn f0 f1 f2 f3
            go_wp2_with fail
            go_roundw
            case rel => exact ⟨k + 1, by omega, by first | rfl | go_num, hbx, HST.out fun _ => HDD.out⟩
            case measure => simp [intOf]; omega
          · rw [decide_eq_false hdd] at hcmp
            have heql : ∀ W, (binOp .eql 47 (.agg (nums .u8 (Sha.sum di))) (.agg (nums .u8 (Sha.sum dk)))).run Tryd.prog W = .ok (.bool (decide (Sha.sum di = Sha.sum dk))) W := fun W => id_eql (okId_sum di) (okId_sum dk) W
            obtain ⟨t, ht⟩ : ∃ t, decide (Sha.sum di = Sha.sum dk) = t := ⟨_, rfl⟩
            rw [ht] at heql
            have HT := Lib.hid ht
            have HDD := Lib.hid hdd
            clear ht hdd
            go_wp2_with fail
            go_cut [42] from 15 to 43 (fun v42 wx => v42 = .bool t ∧ Below w.heap.size w wx)
            case first =>
              go_region_held3 (fun W => W.cell? ⟨b, o + i, none⟩ = some (.slice ai di.length ci) ∧ W.cell? ⟨b, o + k, none⟩ = some (.slice ak dk.length ck) ∧
                (convert 43 9 (.slice ai di.length ci)).run Tryd.prog W = .ok (.string (ofL di)) W ∧ (convert 43 9 (.slice ak dk.length ck)).run Tryd.prog W = .ok (.string (ofL dk)) W)
                (first | exact HS.out _ (by first | exact HBD.out | exact HBD.out.alloc HBD.out.size _ | exact (HBD.out.alloc HBD.out.size _).alloc (HBD.out.alloc HBD.out.size _).size _ | exact hbz | exact hbz.alloc hbz.size _) | go_keep)
                (first
                  | (go_at_call 43; refine (HSUMi.out _ _ ?_ ?_).mono ?_; (first | exact HBD.out.alloc HBD.out.size _ | exact (HBD.out.alloc HBD.out.size _).alloc (HBD.out.alloc HBD.out.size _).size _ | exact hbz | exact hbz.alloc hbz.size _); (first | exact push_at rfl | exact push_at (hz1 _) | exact ((below_alloc _ _).block _ (hz2 _)).trans (push_at rfl) | exact (hkk _ (hz3 _ _)).trans (((below_alloc _ _).block _ (hz2 _)).trans (push_at rfl)) | exact (hkk _ (hz4 _ _)).trans (push_at (hz1 _)) | exact (hkk _ (hz3 _ _)).trans (push_at rfl)); rintro e w' ⟨rfl, hb'⟩; have hbz : Below wr.heap.size wr w' := (by first | exact (HBD.out.alloc HBD.out.size _).trans (hb'.mono (HBD.out.alloc HBD.out.size _).size) | exact ((HBD.out.alloc HBD.out.size _).alloc (HBD.out.alloc HBD.out.size _).size _).trans (hb'.mono ((HBD.out.alloc HBD.out.size _).alloc (HBD.out.alloc HBD.out.size _).size _).size) | exact hbz.trans (hb'.mono hbz.size) | exact (hbz.alloc hbz.size _).trans (hb'.mono (hbz.alloc hbz.size _).size)); have hkk := hb'.block)
                  | (go_at_call 43; refine (HSUMk.out _ _ ?_ ?_).mono ?_; (first | exact HBD.out.alloc HBD.out.size _ | exact (HBD.out.alloc HBD.out.size _).alloc (HBD.out.alloc HBD.out.size _).size _ | exact hbz | exact hbz.alloc hbz.size _); (first | exact push_at rfl | exact push_at (hz1 _) | exact ((below_alloc _ _).block _ (hz2 _)).trans (push_at rfl) | exact (hkk _ (hz3 _ _)).trans (((below_alloc _ _).block _ (hz2 _)).trans (push_at rfl)) | exact (hkk _ (hz4 _ _)).trans (push_at (hz1 _)) | exact (hkk _ (hz3 _ _)).trans (push_at rfl)); rintro e w' ⟨rfl, hb'⟩; have hbz : Below wr.heap.size wr w' := (by first | exact (HBD.out.alloc HBD.out.size _).trans (hb'.mono (HBD.out.alloc HBD.out.size _).size) | exact ((HBD.out.alloc HBD.out.size _).alloc (HBD.out.alloc HBD.out.size _).size _).trans (hb'.mono ((HBD.out.alloc HBD.out.size _).alloc (HBD.out.alloc HBD.out.size _).size _).size) | exact hbz.trans (hb'.mono hbz.size) | exact (hbz.alloc hbz.size _).trans (hb'.mono (hbz.alloc hbz.size _).size)); have hkk := hb'.block))
              all_goals
                go_wp2_with fail
                go_meet
                case rel => exact ⟨rfl, HBR.out.trans (hbz.mono HBR.out.size)⟩
            case rest =>
              obtain ⟨rfl, hbx⟩ := hcut
              cases t with
              | true =>
                go_wp2_with fail
                go_ret
                exact ⟨true, rfl, (fun h => by cases h), hbx⟩
              | false =>
                have hne : ¬ Sha.sum di = Sha.sum dk := of_decide_eq_false HT.out
                go_wp2_with fail
                go_roundw
                case rel => exact ⟨k + 1, by omega, by first | rfl | go_num, hbx, HST.out fun e => absurd e hne⟩
                case measure => simp [intOf]; omega
        · obtain rfl : k = i := by omega
          have hd2 : decide ((k : Int) < (k : Int)) = false := decide_eq_false (by omega)
          have hw1 : IntKind.i64.wrap ((k : Int) + 1) = ((k + 1 : Nat) : Int) := IntWalk.i64_in _ (by omega)
          go_wp2_with fail
          go_roundw
          case rel => exact ⟨k + 1, by omega, by first | rfl | go_num, hbr, hnt.up⟩
          case measure => simp [intOf]; omega
    · obtain rfl : i = ps.length := by omega
      have hd : decide ((ps.length : Int) < (ps.length : Int)) = false := decide_eq_false (by omega)
      go_wp2_with fail
      go_ret
      refine ⟨false, rfl, fun _ => ?_, hbr⟩
      refine NT.done ?_
      rw [show (recsIn ps).length = ps.length from List.length_map _]
      exact hnt
end Go.Proofs.YtfoamcobpfflbaaDoor
namespace Go.Proofs.YtfoamcobpfflbaaDoor
open Go Go.ChangeShapes Go.WideShapes Go.ChangeAt Go.RowKit

set_option maxRecDepth 100000 in
theorem open_ls {H : Type} {enc : TypeId × Value → H} {W : World} {base : Nat} {v : Value} {d : DataW H} {p : List MemPlace} (hv : Value.okWide Tryd.prog W .any base 69 v) (h : DataW.Trod enc Tryd.prog W 0 (fun _ => true) true 69 v d p) (hk : Rows.uptoBulk d ≤ 1048576) :
    ∃ (a : Option Addr) (c : Nat) (ps : List Prt), v = .slice a ps.length c ∧ LsIn W a c ps := by
  obtain ⟨a0, len, cap, rfl⟩ := okWide_slice Tryd.underlying69 hv
  obtain ⟨⟨a, c, l⟩, h1, h2, h3, h4, h5, h6, h7⟩ := (opn_slice2 (P := Tryd.prog) (W := W) (enc := enc) (k := 1) Tryd.underlying69 (by kernel_rfl) (by omega) (fun y a b hab h => ⟨h.1, by have := h.2.1; omega, h.2.2⟩) (fun _ => 0) (fun _ _ _ => Nat.zero_le _)
    (opn_bytes2 (P := Tryd.prog) (W := W) (enc := enc) Tryd.underlying43 (by kernel_rfl) Tryd.underlying5)).arg h
  simp [Value.cells] at h1
  obtain ⟨rfl, rfl, rfl⟩ := h1
  refine ⟨a0, cap, l.map fun z => (z.1, z.2.1, bl z.2.2), by rw [List.length_map], ?_, by rw [List.length_map]; exact h7.1, fun q hq => ?_, by rw [List.length_map]; simp only at h4; omega⟩
  · have : prow (l.map fun z => (z.1, z.2.1, bl z.2.2)) = l.flatMap fun y => [Value.slice y.1 y.2.2.size y.2.1] := by
      unfold prow
      rw [List.map_map, List.map_eq_flatMap]
      congr 1
      funext y
      simp [bl_len]
    rw [this]; exact h2
  · obtain ⟨z, hz, rfl⟩ := List.mem_map.1 hq
    obtain ⟨k1, k2, k3⟩ := h6 z hz
    exact ⟨by rw [← nb_ba]; exact k1, bl_lt _, by rw [bl_len]; omega⟩
end Go.Proofs.YtfoamcobpfflbaaDoor
