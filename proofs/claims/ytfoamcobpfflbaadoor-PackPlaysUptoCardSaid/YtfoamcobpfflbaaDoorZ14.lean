/- Texts of mine, joined: Rows of the call's own whose block may bear a frozen pair behind the row ('[]byte(s)'). Of every program. | Packs in plain Lean: frames, what bytes begin with, what a pack knows. No program in sight. -/
import Derived.Laws.IdiomStrings
import Derived.Test.YtfoamcobpfflbaaDoorZ13
namespace Go.Proofs.YtfoamcobpfflbaaDoor
open Go Go.RowKit

def OwnF (w : World) (e : TypeId) (size : Nat) (v : Value) (n : Nat) (xs : List Value) : Prop :=
  xs.length = n * size ∧ ((v = .slice none 0 0 ∧ n = 0) ∨ ∃ g o cap cur lo hi, v = .slice (some ⟨g, o, none⟩) n cap ∧ w.heap[g]? = some (.cells cur e (lo, hi)) ∧ (∀ q, q < o + cap * size → ¬ (lo ≤ q ∧ q < hi)) ∧ n ≤ cap ∧ cap ≤ maxLen ∧ o + cap * size ≤ cur.size ∧ ∀ j u, xs[j]? = some u → cur[o + j]? = some u)

theorem OwnF.lt {w : World} {e : TypeId} {size : Nat} {v : Value} {n : Nat} {xs : List Value} (h : OwnF w e size v n xs) {k : Nat} (hk : v.ownBlock = some k) : k < w.heap.size := by
  rcases h.2 with ⟨rfl, _⟩ | ⟨g, o, cap, cur, lo, hi, rfl, hg, _⟩
  · cases hk
  · simp [Value.ownBlock] at hk; subst hk; exact (Array.getElem?_eq_some_iff.1 hg).1

theorem OwnF.form {w : World} {e : TypeId} {size : Nat} {v : Value} {n : Nat} {xs : List Value} (h : OwnF w e size v n xs) : ∃ a c, v = .slice a n c ∧ n ≤ c ∧ c ≤ maxLen ∧ Sl w a xs := by
  have hl := h.1
  rcases h.2 with ⟨rfl, rfl⟩ | ⟨g, o, cap, cur, lo, hi, rfl, hg, -, hn, hc, hs, ht⟩
  · rw [Nat.zero_mul] at hl
    exact ⟨none, 0, rfl, Nat.le_refl _, Nat.zero_le _, .inl (List.eq_nil_of_length_eq_zero hl)⟩
  · refine ⟨_, cap, rfl, hn, hc, .inr ⟨g, o, rfl, (Array.getElem?_eq_some_iff.1 hg).1, fun j u hu => ?_⟩⟩
    simp [World.cell?, hg, ht j u hu]

theorem OwnF.block {w w' : World} {e : TypeId} {size : Nat} {v : Value} {n : Nat} {xs : List Value} (h : OwnF w e size v n xs) (hk : ∀ k, v.ownBlock = some k → w'.heap[k]? = w.heap[k]?) : OwnF w' e size v n xs := by
  refine ⟨h.1, ?_⟩
  rcases h.2 with h2 | ⟨g, o, cap, cur, lo, hi, rfl, hg, hr⟩
  · exact .inl h2
  · exact .inr ⟨g, o, cap, cur, lo, hi, rfl, by rw [hk g rfl]; exact hg, hr⟩

theorem OwnF.kept {w w' : World} {e : TypeId} {size : Nat} {v : Value} {n : Nat} {xs : List Value} {row : Option Nat} (h : OwnF w e size v n xs) (hg : w.grownBy w' row) (hne : v.ownBlock = none ∨ v.ownBlock ≠ row) : OwnF w' e size v n xs :=
  h.block fun k hk => hg.block k (h.lt hk) (by
    rw [← hk]
    rcases hne with h1 | h1
    · rw [hk] at h1; cases h1
    · exact h1)

theorem OwnF.below {w w' : World} {e : TypeId} {size : Nat} {v : Value} {n : Nat} {xs : List Value} (h : OwnF w e size v n xs) (hb : Below w.heap.size w w') : OwnF w' e size v n xs :=
  h.block fun k hk => hb.block k (h.lt hk)

theorem OwnF.alloc {w : World} {e : TypeId} {size : Nat} {v : Value} {n : Nat} {xs : List Value} (h : OwnF w e size v n xs) (o : Obj) : OwnF (w.alloc o) e size v n xs := h.kept (World.grownBy_alloc w o none) (by cases v.ownBlock <;> simp)

theorem OwnF.drewN {w : World} {e : TypeId} {size : Nat} {v : Value} {n : Nat} {xs : List Value} (h : OwnF w e size v n xs) (q : Nat) : OwnF (w.drewN q) e size v n xs := h

/-- '[]byte(s)'. -/
theorem own_bytes {P : Program} (w : World) (src dst e : TypeId) (s : ByteArray) (hs : P.underlying src = some .string) (hd : P.underlying dst = some (.slice e)) (he : P.underlying e = some (.int .u8)) (hn : s.size ≤ maxLen) :
    ∃ c w', (convert src dst (.string s)).run P w = .ok (.slice (some ⟨w.heap.size, 0, none⟩) s.size c) w' ∧ OwnF w' e 1 (.slice (some ⟨w.heap.size, 0, none⟩) s.size c) s.size (s.data.toList.map fun b => Value.int .u8 b.toNat) ∧ Below w.heap.size w w' := by
  have hge := grownCap_ge w s.size 0 e
  have hcm := grownCap_le_maxLen w s.size 0 e hn
  have hsz : (bytesRow s (grownCap w s.size 0 e)).size = grownCap w s.size 0 e := by
    unfold bytesRow
    rw [Array.size_append, Array.size_map, Array.size_replicate, show s.data.size = s.size from rfl]; omega
  refine ⟨_, _, run_bytes_of_string w src dst e s hs hd he, ⟨by simp, .inr ⟨w.heap.size, 0, _, bytesRow s (grownCap w s.size 0 e), _, _, rfl, (Go.MapKept.heap_alloc w.drew _).1, fun q hq => by omega, hge, hcm, by omega, fun j u hu => ?_⟩⟩, (below_dN (Below.refl _ w) 1).alloc (Nat.le_refl _) _⟩
  have hj := (List.getElem?_eq_some_iff.1 hu).1
  rw [List.length_map, Array.length_toList] at hj
  unfold bytesRow
  rw [Nat.zero_add, Array.getElem?_append_left (by rw [Array.size_map]; exact hj), Array.getElem?_map]
  rw [List.getElem?_map, Array.getElem?_toList] at hu
  exact hu

/-- 'append(v, ..)': whatever is appended. -/
theorem OwnF.app {P : Program} {w : World} {t tx ty e : TypeId} {z : Value} {size bytes : Nat} (E : Elem P t e z size bytes) (hzs : z.cells.size = size) {v : Value} {n : Nat} {xs : List Value} (h : OwnF w e size v n xs)
    {x : Value} {m : Nat} {news : List Value} (hs : Src P size tx x m news w) (h63 : n + m ≤ maxLen) (hbytes : (n + m) * bytes ≤ 140737488355328) :
    ∃ v' w', (Builtin.append_ #[t, tx] ty #[v, x]).run P w = .ok v' w' ∧ OwnF w' e size v' (n + m) (xs ++ news) ∧ w.grownBy w' v.ownBlock ∧ (∀ k, v'.ownBlock = some k → v.ownBlock = some k ∨ w.heap.size ≤ k) := by
  obtain ⟨i, hi, g1, g2, g3⟩ := info_parts E.info
  subst g2 g3
  have hnl := hs.newsLen
  have hlen : (xs ++ news).length = (n + m) * i.size := by rw [List.length_append, h.1, hnl, Nat.add_mul]
  have hsmall : n + m ≤ 9223372036854775807 := by simp only [maxLen] at h63; omega
  have grow : ∀ (bs : Option Addr) (sc : Nat), v = .slice bs n sc → sc < n + m → (Builtin.firstCells i.size n (.slice bs n sc)).run P w.drew = .ok xs.toArray w.drew →
      ∃ v' w', (Builtin.append_ #[t, tx] ty #[v, x]).run P w = .ok v' w' ∧ OwnF w' e i.size v' (n + m) (xs ++ news) ∧ w.grownBy w' v.ownBlock ∧ (∀ k, v'.ownBlock = some k → v.ownBlock = some k ∨ w.heap.size ≤ k) := by
    rintro bs sc rfl hgt hold
    have hrun := run_append_grow_src (P := P) w t tx ty e i z E.under hi g1 bs n sc xs hold x m news hs hgt (by omega) (growslice_fits hgt hbytes)
    have hge := grownCap_ge w (n + m) sc e
    have hcm := grownCap_le_maxLen w (n + m) sc e h63
    refine ⟨_, _, hrun, ⟨hlen, .inr ⟨w.heap.size, 0, _, _, 0, 0, rfl, heap_alloc_new w.drew _, (fun q _ => by omega), hge, hcm, ?_, fun j u hu => ?_⟩⟩, ⟨rfl, rfl, rfl, by simp, fun k hk _ => Below.heap_alloc w.drew _ k hk⟩, fun k hk => .inr ?_⟩
    · rw [Array.size_append, List.size_toArray, hlen, size_zeroCells, hzs, ← Nat.add_mul, Nat.zero_add]
      apply Nat.mul_le_mul_right
      omega
    · rw [Nat.zero_add, Array.getElem?_append_left (by rw [List.size_toArray]; exact (List.getElem?_eq_some_iff.1 hu).1), List.getElem?_toArray]
      exact hu
    · simp [Value.ownBlock] at hk; omega
  rcases h.2 with ⟨h1, h2⟩ | ⟨g, o, cap, cur, lo, hi2, rfl, hg, hfz, hn, hcm, hcs, ht⟩
  · subst h1 h2
    have hx0 : xs = [] := List.eq_nil_of_length_eq_zero (by rw [h.1, Nat.zero_mul])
    subst hx0
    by_cases hm : m = 0
    · subst hm
      have hn0 : news = [] := List.eq_nil_of_length_eq_zero (by rw [hnl, Nat.zero_mul])
      subst hn0
      exact ⟨_, w, run_append_nothing w t tx ty e i E.under hi none 0 0 (Nat.le_refl _) x hs, ⟨by simp, .inl ⟨rfl, rfl⟩⟩, ⟨rfl, rfl, rfl, Nat.le_refl _, fun _ _ _ => rfl⟩, fun k hk => .inl hk⟩
    · exact grow none 0 rfl (by omega) (run_firstCells_none w.drew i.size 0 0 0)
  · by_cases hfit : n + m ≤ cap
    · have hmul : (n + m) * i.size ≤ cap * i.size := Nat.mul_le_mul_right _ hfit
      rw [Nat.add_mul] at hmul
      have hin : o + n * i.size + news.length ≤ cur.size := by rw [hnl]; omega
      obtain ⟨cur', c1, c2, c3⟩ := setCells_block g news (o + n * i.size) w cur e (lo, hi2) hg hin
      refine ⟨_, _, run_append_room_src w t tx ty e i E.under hi g o n cap x m news hs hfit (fun j hj => ?_) (fun j hj => ?_), ⟨hlen, .inr ⟨g, o, cap, cur', lo, hi2, rfl, c1, hfz, hfit, hcm, by rw [c2]; exact hcs, fun j u hu => ?_⟩⟩, setCells_grown w g _ news, fun k hk => .inl hk⟩
      · have : o + n * i.size + j < cur.size := by omega
        simp [World.cell?, hg, this]
      · have := hfz (o + n * i.size + j) (by omega)
        simp only [World.frozen?, hg]
        simp; omega
      · rw [c3]
        by_cases hj : j < xs.length
        · rw [List.getElem?_append_left hj] at hu
          rw [if_neg (by rw [h.1] at hj; omega)]
          exact ht j u hu
        · rw [List.getElem?_append_right (by omega)] at hu
          have hju := (List.getElem?_eq_some_iff.1 hu).1
          have hx1 := h.1
          rw [if_pos (by omega), show o + j - (o + n * i.size) = j - xs.length by omega]
          exact hu
    · exact grow _ cap rfl (by omega) (run_firstCells_some w.drew i.size n _ n cap xs h.1 (fun j u hu => by
        rw [Addr.add_lit]
        show w.cell? ⟨g, o + j, none⟩ = some u
        simp [World.cell?, hg, ht j u hu]))

/-- .. at the operation, for the walk. -/
theorem wp_appF {P : Program} {ops : Array Oper} {rest : List Oper} {o : Oper} {a : Act} {Q : Exit → Act → World → Prop} {w : World} (hgd : o.guard = none) (s x : Operand) (t tx : TypeId)
    (ho : o.op = .call { callee := .builtin .append, args := #[s, x], argTypes := #[t, tx] })
    {e : TypeId} {z : Value} {size bytes : Nat} (E : Elem P t e z size bytes) (hzs : z.cells.size = size) {v xv : Value} {n m : Nat} {xs news : List Value}
    (hs : a.eval s = v) (hown : OwnF w e size v n xs) (hx : a.eval x = xv) (hsrc : Src P size tx xv m news w) (h63 : n + m ≤ maxLen) (hbytes : (n + m) * bytes ≤ 140737488355328)
    (h : ∀ v' w', OwnF w' e size v' (n + m) (xs ++ news) → w.grownBy w' v.ownBlock → (∀ k, v'.ownBlock = some k → v.ownBlock = some k ∨ w.heap.size ≤ k) → wpList P ops Q rest (a.put o.dst v') w') :
    wpList P ops Q (o :: rest) a w := by
  refine wpList_plain hgd fun K hK => ?_
  obtain ⟨v', w', hr, h2, h3, h4⟩ := hown.app (ty := o.type) E hzs hsrc h63 hbytes
  unfold Oper.wp execOp
  simp only [ho, resolve, invoke, builtin, Sem.run_bind, Sem.run_pure, Result.andThen_ok, List.map_toArray, List.map_cons, List.map_nil, hs, hx, hr]
  exact hK _ _ (h v' w' h2 h3 h4)

/-- 'append(T{}, x..)' of something: a new block, nothing old turns. -/
theorem run_append_new {P : Program} (w : World) {t tx ty e : TypeId} {z : Value} {size bytes : Nat} (E : Elem P t e z size bytes) (hzs : z.cells.size = size) (ad : Addr) {x : Value} {m : Nat} {news : List Value} (hs : Src P size tx x m news w) (hm : 0 < m) (h63 : m ≤ maxLen) (hbytes : m * bytes ≤ 140737488355328) :
    ∃ c w', (Builtin.append_ #[t, tx] ty #[.slice (some ad) 0 0, x]).run P w = .ok (.slice (some ⟨w.heap.size, 0, none⟩) m c) w' ∧ m ≤ c ∧ OwnG w' e size (.slice (some ⟨w.heap.size, 0, none⟩) m c) m news ∧ Below w.heap.size w w' := by
  obtain ⟨i, hi, g1, g2, g3⟩ := info_parts E.info
  subst g2 g3
  have hnl := hs.newsLen
  have hsmall : m ≤ 9223372036854775807 := by simp only [maxLen] at h63; omega
  have hold : (Builtin.firstCells i.size 0 (.slice (some ad) 0 0)).run P w.drew = .ok ([] : List Value).toArray w.drew := run_firstCells_some w.drew i.size 0 ad 0 0 [] (by simp) (fun j u hu => by cases hu)
  have hrun := run_append_grow_src (P := P) w t tx ty e i z E.under hi g1 (some ad) 0 0 [] hold x m news hs (by omega) (by omega) (growslice_fits (by omega) (by simpa using hbytes))
  rw [Nat.zero_add] at hrun
  have hge := grownCap_ge w m 0 e
  have hcm := grownCap_le_maxLen w m 0 e h63
  refine ⟨_, _, hrun, hge, ⟨hnl, .inr ⟨w.heap.size, 0, _, _, rfl, heap_alloc_new w.drew _, hge, hcm, ?_, fun j u hu => ?_⟩⟩, (below_dN (Below.refl _ w) 1).alloc (Nat.le_refl _) _⟩
  · rw [List.nil_append, Array.size_append, List.size_toArray, hnl, size_zeroCells, hzs, ← Nat.add_mul, Nat.zero_add]
    apply Nat.mul_le_mul_right
    omega
  · rw [Nat.zero_add, List.nil_append, Array.getElem?_append_left (by rw [List.size_toArray]; exact (List.getElem?_eq_some_iff.1 hu).1), List.getElem?_toArray]
    exact hu

/-- .. at the operation, for the walk. -/
theorem wp_appNew {P : Program} {ops : Array Oper} {rest : List Oper} {o : Oper} {a : Act} {Q : Exit → Act → World → Prop} {w : World} (hgd : o.guard = none) (s x : Operand) (t tx : TypeId)
    (ho : o.op = .call { callee := .builtin .append, args := #[s, x], argTypes := #[t, tx] })
    {e : TypeId} {z : Value} {size bytes : Nat} (E : Elem P t e z size bytes) (hzs : z.cells.size = size) {ad : Addr} {xv : Value} {m : Nat} {news : List Value}
    (hs : a.eval s = .slice (some ad) 0 0) (hx : a.eval x = xv) (hsrc : Src P size tx xv m news w) (hm : 0 < m) (h63 : m ≤ maxLen) (hbytes : m * bytes ≤ 140737488355328)
    (h : ∀ c w', m ≤ c → OwnG w' e size (.slice (some ⟨w.heap.size, 0, none⟩) m c) m news → Below w.heap.size w w' → wpList P ops Q rest (a.put o.dst (.slice (some ⟨w.heap.size, 0, none⟩) m c)) w') :
    wpList P ops Q (o :: rest) a w := by
  refine wpList_plain hgd fun K hK => ?_
  obtain ⟨c, w', hr, h2, h3, h4⟩ := run_append_new w (ty := o.type) E hzs ad hsrc hm h63 hbytes
  unfold Oper.wp execOp
  simp only [ho, resolve, invoke, builtin, Sem.run_bind, Sem.run_pure, Result.andThen_ok, List.map_toArray, List.map_cons, List.map_nil, hs, hx, hr]
  exact hK _ _ (h c w' h2 h3 h4)

theorem OwnG.cell {w : World} {e : TypeId} {size g n c : Nat} {xs : List Value} (h : OwnG w e size (.slice (some ⟨g, 0, none⟩) n c) n xs) {j : Nat} {u : Value} (hu : xs[j]? = some u) : w.cell? ⟨g, j, none⟩ = some u := by
  rcases h.2 with ⟨e, _⟩ | ⟨g', o, cap, cur, e, hg, -, -, -, ht⟩
  · cases e
  · injection e with e _ _
    injection e with e
    injection e with e1 e2
    subst e1 e2
    have := ht j u hu
    rw [Nat.zero_add] at this
    simp [World.cell?, hg, this]
end Go.Proofs.YtfoamcobpfflbaaDoor
namespace Go.Proofs.YtfoamcobpfflbaaDoor

/-- A text's bytes. -/
def bl (s : ByteArray) : List Nat := s.data.toList.map fun b => b.toNat
theorem bl_len (s : ByteArray) : (bl s).length = s.size := by unfold bl; rw [List.length_map]; rfl
theorem bl_lt (s : ByteArray) : ∀ x ∈ bl s, x < 256 := fun x hx => by obtain ⟨b, -, rfl⟩ := List.mem_map.1 hx; exact b.toNat_lt
/-- The text of some bytes. -/
def ofL (l : List Nat) : ByteArray := ⟨(l.map UInt8.ofNat).toArray⟩
theorem bl_ofL {l : List Nat} (h : ∀ x ∈ l, x < 256) : bl (ofL l) = l := by
  unfold bl ofL
  rw [List.map_map]
  conv => rhs; rw [← List.map_id l]
  apply List.map_congr_left
  intro x hx
  show (UInt8.ofNat x).toNat = x
  rw [UInt8.toNat_ofNat']
  exact Nat.mod_eq_of_lt (h x hx)
theorem bl_inj {s t : ByteArray} (h : bl s = bl t) : s = t := by
  apply PathS.ba_ext
  unfold bl at h
  exact List.map_inj_right (fun a b h => UInt8.toNat_inj.1 h) |>.1 h
theorem ofL_bl (s : ByteArray) : ofL (bl s) = s := bl_inj (bl_ofL (bl_lt s))
theorem ofL_size (l : List Nat) : (ofL l).size = l.length := by
  show ((l.map UInt8.ofNat).toArray).size = _
  simp
theorem bl_append (s t : ByteArray) : bl (s ++ t) = bl s ++ bl t := by
  unfold bl
  rw [show (s ++ t).data = s.data ++ t.data from ByteArray.data_append, Array.toList_append, List.map_append]
theorem bl_extract (s : ByteArray) (i j : Nat) : bl (s.extract i j) = ((bl s).take j).drop i := by
  unfold bl
  rw [ByteArray.data_extract, Array.toList_extract]
  rw [List.extract_eq_take_drop, List.map_take, List.map_drop, List.drop_take]
theorem bl_empty : bl ByteArray.empty = [] := rfl
theorem ofL_inj {l m : List Nat} (hl : ∀ x ∈ l, x < 256) (hm : ∀ x ∈ m, x < 256) (h : ofL l = ofL m) : l = m := by
  rw [← bl_ofL hl, h, bl_ofL hm]

namespace PackS
open VfsS (St readS appendS cutS)

def be4 (n : Nat) : List Nat := [n / 16777216 % 256, n / 65536 % 256, n / 256 % 256, n % 256]
/-- The number that some bytes say. -/
def val (l : List Nat) : Nat := l.foldl (fun n x => n * 256 + x) 0
def id8 (d : List Nat) : List Nat := (Sha.sum d).take 8
def frame (d : List Nat) : List Nat := be4 d.length ++ id8 d ++ d

theorem sum_len (d : List Nat) : (Sha.sum d).length = 32 := by unfold Sha.sum; simp
theorem sum_lt (d : List Nat) : ∀ x ∈ Sha.sum d, x < 256 := by
  intro x hx
  unfold Sha.sum at hx
  obtain ⟨i, -, rfl⟩ := List.mem_map.1 hx
  exact Nat.mod_lt _ (by omega)
theorem id8_len (d : List Nat) : (id8 d).length = 8 := by unfold id8; rw [List.length_take, sum_len]; rfl
theorem id8_lt (d : List Nat) : ∀ x ∈ id8 d, x < 256 := fun x hx => sum_lt d x (List.mem_of_mem_take hx)
theorem be4_len (n : Nat) : (be4 n).length = 4 := rfl
theorem be4_lt (n : Nat) : ∀ x ∈ be4 n, x < 256 := by
  intro x hx
  simp only [be4, List.mem_cons, List.mem_nil_iff, or_false] at hx
  omega
theorem frame_len (d : List Nat) : (frame d).length = 12 + d.length := by
  unfold frame; rw [List.length_append, List.length_append, be4_len, id8_len]
theorem frame_lt {d : List Nat} (h : ∀ x ∈ d, x < 256) : ∀ x ∈ frame d, x < 256 := by
  intro x hx
  unfold frame at hx
  rw [List.mem_append, List.mem_append] at hx
  rcases hx with (hx | hx) | hx
  · exact be4_lt _ x hx
  · exact id8_lt _ x hx
  · exact h x hx
theorem val_be4 {n : Nat} (h : n < 4294967296) : val (be4 n) = n := by
  simp only [val, be4, List.foldl_cons, List.foldl_nil]; omega
theorem be4_val {l : List Nat} (hl : l.length = 4) (h : ∀ x ∈ l, x < 256) : be4 (val l) = l := by
  match l, hl with
  | [a, b, c, d], _ =>
    have ha := h a (by simp)
    have hb := h b (by simp)
    have hc := h c (by simp)
    have hd := h d (by simp)
    have e : val [a, b, c, d] = ((a * 256 + b) * 256 + c) * 256 + d := by simp only [val, List.foldl_cons, List.foldl_nil]; omega
    rw [e]
    unfold be4
    congr 1
    · omega
    congr 1
    · omega
    congr 1
    · omega
    congr 1
    omega

theorem take_app {α : Type} {l m : List α} {n : Nat} (h : l.length = n) : (l ++ m).take n = l := by
  subst h; exact List.take_left
theorem drop_app {α : Type} {l m : List α} {n : Nat} (h : l.length = n) : (l ++ m).drop n = m := by
  subst h; exact List.drop_left

/-- How long the record is that some bytes begin with. -/
def nlen (b : List Nat) : Nat := val (b.take 4)
/-- Do some bytes begin with a record? -/
def good (b : List Nat) : Bool := decide (12 ≤ b.length) && decide (nlen b ≤ 524288) && decide (nlen b + 12 ≤ b.length) && decide (id8 ((b.drop 12).take (nlen b)) = (b.drop 4).take 8)
def rec1 (b : List Nat) : List Nat := (b.drop 12).take (nlen b)

theorem good_parts {b : List Nat} (h : good b = true) : 12 ≤ b.length ∧ nlen b ≤ 524288 ∧ nlen b + 12 ≤ b.length ∧ id8 (rec1 b) = (b.drop 4).take 8 := by
  unfold good at h
  simp only [Bool.and_eq_true, decide_eq_true_eq] at h
  exact ⟨h.1.1.1, h.1.1.2, h.1.2, h.2⟩

theorem rec1_len {b : List Nat} (h : good b = true) : (rec1 b).length = nlen b := by
  have := good_parts h
  unfold rec1
  rw [List.length_take, List.length_drop]; omega

/-- What begins with a record is that record's frame, and more. -/
theorem good_frame {b : List Nat} (h : good b = true) (hb : ∀ x ∈ b, x < 256) : b = frame (rec1 b) ++ b.drop (12 + nlen b) := by
  obtain ⟨h1, h2, h3, h4⟩ := good_parts h
  have hl := rec1_len h
  have e0 : be4 (rec1 b).length = b.take 4 := by
    rw [hl]
    exact be4_val (by rw [List.length_take]; omega) (fun x hx => hb x (List.mem_of_mem_take hx))
  have e1 : frame (rec1 b) = b.take (12 + nlen b) := by
    unfold frame
    rw [e0, h4, List.take_add, show (12 : Nat) = 4 + 8 from rfl, List.take_add]
    rfl
  rw [e1, List.take_append_drop]

theorem frame_good {d : List Nat} (hd : d.length ≤ 524288) (r : List Nat) : good (frame d ++ r) = true ∧ rec1 (frame d ++ r) = d ∧ nlen (frame d ++ r) = d.length := by
  have hl := frame_len d
  have e1 : (frame d ++ r).take 4 = be4 d.length := by
    unfold frame; rw [List.append_assoc, List.append_assoc]; exact take_app rfl
  have en : nlen (frame d ++ r) = d.length := by unfold nlen; rw [e1, val_be4 (by omega)]
  have e12 : (frame d ++ r).drop 12 = d ++ r := by
    unfold frame
    rw [List.append_assoc (be4 _ ++ _)]
    exact drop_app (by rw [List.length_append, be4_len, id8_len])
  have er : rec1 (frame d ++ r) = d := by unfold rec1; rw [en, e12]; exact take_app rfl
  have e8 : ((frame d ++ r).drop 4).take 8 = id8 d := by
    unfold frame
    rw [List.append_assoc, List.append_assoc, drop_app (be4_len _), take_app (id8_len _)]
  refine ⟨?_, er, en⟩
  unfold good
  simp only [Bool.and_eq_true, decide_eq_true_eq]
  refine ⟨⟨⟨by rw [List.length_append]; omega, by omega⟩, by rw [List.length_append]; omega⟩, ?_⟩
  rw [show ((frame d ++ r).drop 12).take (nlen (frame d ++ r)) = rec1 (frame d ++ r) from rfl, er, e8]

/-- The same by comparing heads. -/
theorem good_ref {b : List Nat} (hDb : ∀ x ∈ b, x < 256) (h12 : 12 ≤ b.length) : good b = (decide (nlen b ≤ 524288) && decide (nlen b + 12 ≤ b.length) && decide ((frame (rec1 b)).take 12 = b.take 12)) := by
  unfold good
  rw [decide_eq_true h12, Bool.true_and]
  by_cases h1 : nlen b ≤ 524288
  · by_cases h2 : nlen b + 12 ≤ b.length
    · rw [decide_eq_true h1, decide_eq_true h2]
      simp only [Bool.true_and]
      have hl : (rec1 b).length = nlen b := by unfold rec1; rw [List.length_take, List.length_drop]; omega
      have e0 : be4 (rec1 b).length = b.take 4 := by
        rw [hl]
        exact be4_val (by rw [List.length_take]; omega) (fun x hx => hDb x (List.mem_of_mem_take hx))
      have e1 : (frame (rec1 b)).take 12 = b.take 4 ++ id8 (rec1 b) := by
        unfold frame
        rw [e0]
        exact take_app (by rw [List.length_append, id8_len, List.length_take]; omega)
      have e2 : b.take 12 = b.take 4 ++ (b.drop 4).take 8 := by rw [show (12 : Nat) = 4 + 8 from rfl, List.take_add]
      rw [e1, e2]
      show decide (id8 (rec1 b) = (b.drop 4).take 8) = _
      by_cases e : id8 (rec1 b) = (b.drop 4).take 8
      · rw [decide_eq_true e, decide_eq_true (by rw [e])]
      · rw [decide_eq_false e, decide_eq_false (fun h => e (List.append_cancel_left h))]
    · rw [decide_eq_false h2]; simp
  · rw [decide_eq_false h1]; simp

/-- The records that some bytes begin with (k of them at most), and how many bytes they have. -/
def scanF : Nat → List Nat → List (List Nat) × Nat
  | 0, _ => ([], 0)
  | k + 1, b => if good b = true then (rec1 b :: (scanF k (b.drop (12 + nlen b))).1, 12 + nlen b + (scanF k (b.drop (12 + nlen b))).2) else ([], 0)
def scan (b : List Nat) : List (List Nat) × Nat := scanF b.length b

theorem scanF_more : ∀ (k : Nat) (b : List Nat) (j : Nat), b.length ≤ k → k ≤ j → scanF j b = scanF k b
  | 0, b, j, hb, _ => by
    have : b = [] := List.eq_nil_of_length_eq_zero (by omega)
    subst this
    cases j with
    | zero => rfl
    | succ j => rfl
  | k + 1, b, j, hb, hj => by
    obtain ⟨j, rfl⟩ : ∃ i, j = i + 1 := ⟨j - 1, by omega⟩
    unfold scanF
    by_cases g : good b = true
    · have := good_parts g
      rw [if_pos g, if_pos g, scanF_more k (b.drop (12 + nlen b)) j (by rw [List.length_drop]; omega) (by omega)]
    · rw [if_neg g, if_neg g]

theorem scan_bad {b : List Nat} (h : good b = false) : scan b = ([], 0) := by
  unfold scan
  cases hb : b.length with
  | zero => rfl
  | succ k => unfold scanF; rw [if_neg (by rw [h]; simp)]

theorem scan_good {b : List Nat} (h : good b = true) : scan b = (rec1 b :: (scan (b.drop (12 + nlen b))).1, 12 + nlen b + (scan (b.drop (12 + nlen b))).2) := by
  have hp := good_parts h
  unfold scan
  obtain ⟨k, hk⟩ : ∃ k, b.length = k + 1 := ⟨b.length - 1, by omega⟩
  rw [hk]
  show (if good b = true then _ else _) = _
  rw [if_pos h, scanF_more _ (b.drop (12 + nlen b)) k (Nat.le_refl _) (by rw [List.length_drop]; omega)]

/-- The frames of records, one behind the other. -/
def frames (L : List (List Nat)) : List Nat := L.flatMap frame

/-- What scan tells of bytes. -/
theorem scan_frames : ∀ (n : Nat) (b : List Nat), b.length ≤ n → (∀ x ∈ b, x < 256) → b.take (scan b).2 = frames (scan b).1 ∧ (scan b).2 = (frames (scan b).1).length ∧ (scan b).2 ≤ b.length ∧ (∀ d ∈ (scan b).1, d.length ≤ 524288 ∧ ∀ x ∈ d, x < 256) ∧ good (b.drop (scan b).2) = false
  | n, b, hn, hb => by
    by_cases g : good b = true
    · have hp := good_parts g
      cases n with
      | zero => omega
      | succ n =>
        obtain ⟨i1, i2, i3, i4, i5⟩ := scan_frames n (b.drop (12 + nlen b)) (by rw [List.length_drop]; omega) (fun x hx => hb x (List.mem_of_mem_drop hx))
        have hf := good_frame g hb
        have hl : (frame (rec1 b)).length = 12 + nlen b := by rw [frame_len, rec1_len g]
        rw [scan_good g]
        refine ⟨?_, ?_, ?_, ?_, ?_⟩
        · show b.take (12 + nlen b + _) = frame (rec1 b) ++ frames _
          rw [List.take_add, i1]
          congr 1
          have h9 : (frame (rec1 b) ++ b.drop (12 + nlen b)).take (12 + nlen b) = frame (rec1 b) := take_app hl
          rwa [← hf] at h9
        · show 12 + nlen b + _ = (frame (rec1 b) ++ frames _).length
          rw [List.length_append, hl, ← i2]
        · show 12 + nlen b + (scan (b.drop (12 + nlen b))).2 ≤ b.length
          rw [List.length_drop] at i3; omega
        · intro d hd
          rcases List.mem_cons.1 hd with e | e
          · subst e
            exact ⟨by rw [rec1_len g]; exact hp.2.1, fun x hx => hb x (List.mem_of_mem_drop (List.mem_of_mem_take hx))⟩
          · exact i4 d e
        · show good (b.drop (12 + nlen b + (scan (b.drop (12 + nlen b))).2)) = false
          rw [← List.drop_drop]; exact i5
    · have g2 : good b = false := by simpa using g
      rw [scan_bad g2]
      exact ⟨rfl, rfl, Nat.zero_le _, (fun d h => by cases h), g2⟩

theorem scan_of_frames : ∀ (L : List (List Nat)), (∀ d ∈ L, d.length ≤ 524288) → scan (frames L) = (L, (frames L).length)
  | [], _ => by rw [show frames [] = [] from rfl, scan_bad (by decide)]; rfl
  | d :: L, h => by
    obtain ⟨g1, g2, g3⟩ := frame_good (h d (by simp)) (frames L)
    have e : frames (d :: L) = frame d ++ frames L := rfl
    have hl := frame_len d
    rw [e, scan_good g1, g2, g3, drop_app hl, scan_of_frames L (fun x hx => h x (by simp [hx])), List.length_append, hl]

/-- What a pack knows. -/
structure Pk where
  name : ByteArray
  spots : List Nat → Option (Nat × Nat)
  order : List (List Nat)
  size : Nat

def new (name : ByteArray) : Pk := ⟨name, fun _ => none, [], 0⟩
def has (P : Pk) (i : List Nat) : Bool := (P.spots i).isSome
def note (P : Pk) (d : List Nat) : Pk :=
  if has P (Sha.sum d) = true then { P with size := P.size + (12 + d.length) }
  else { P with order := P.order ++ [Sha.sum d], spots := fun i => if i = Sha.sum d then some (P.size + 12, d.length) else P.spots i, size := P.size + (12 + d.length) }

/-- A record's bytes, or an error. -/
def get (P : Pk) (S : St) (i : List Nat) : List Nat × Int :=
  match P.spots i with
  | none => ([], 4)
  | some (a, n) => match readS S P.name with
    | none => ([], 4)
    | some t => if a + n ≤ t.size then (if Sha.sum (((bl t).drop a).take n) = i then (((bl t).drop a).take n, 0) else ([], 150)) else ([], 150)

def zid : List Nat := List.replicate 32 0

/-- The file system, the pack, the id, the error. -/
def add (P : Pk) (S : St) (d : List Nat) : St × Pk × List Nat × Int :=
  if 524288 < d.length then (S, P, zid, 2)
  else if has P (Sha.sum d) = true then
    (if (get P S (Sha.sum d)).2 ≠ 0 then (S, P, zid, (get P S (Sha.sum d)).2)
     else if (get P S (Sha.sum d)).1 = d then (S, P, Sha.sum d, 0) else (S, P, zid, 150))
  else if (appendS S P.name (ofL (frame d))).2 ≠ 0 then ((appendS S P.name (ofL (frame d))).1, P, zid, (appendS S P.name (ofL (frame d))).2)
  else ((appendS S P.name (ofL (frame d))).1, note P d, Sha.sum d, 0)

def opened (S : St) (name : ByteArray) : St × Option Pk × Int :=
  match readS S name with
  | none => (S, none, 4)
  | some t =>
    if (scan (bl t)).2 < t.size then
      (if (cutS S name (scan (bl t)).2).2 ≠ 0 then ((cutS S name (scan (bl t)).2).1, none, (cutS S name (scan (bl t)).2).2)
       else ((cutS S name (scan (bl t)).2).1, some ((scan (bl t)).1.foldl note (new name)), 0))
    else (S, some ((scan (bl t)).1.foldl note (new name)), 0)

/- The document's. -/
def rhas (L : List (List Nat)) (i : List Nat) : Option (List Nat) := L.find? fun d => decide (Sha.sum d = i)
def radd (S : St) (name : ByteArray) (L : List (List Nat)) (d : List Nat) : St × List (List Nat) × List Nat × Int :=
  if 524288 < d.length then (S, L, zid, 2)
  else match rhas L (Sha.sum d) with
    | some o => if o = d then (S, L, Sha.sum d, 0) else (S, L, zid, 150)
    | none => if (appendS S name (ofL (frame d))).2 ≠ 0 then ((appendS S name (ofL (frame d))).1, L, zid, (appendS S name (ofL (frame d))).2)
      else ((appendS S name (ofL (frame d))).1, L ++ [d], Sha.sum d, 0)
def ropened (S : St) (name : ByteArray) : St × List (List Nat) × Int :=
  match readS S name with
  | none => (S, [], 4)
  | some t =>
    if (scan (bl t)).2 < t.size then
      (if (cutS S name (scan (bl t)).2).2 ≠ 0 then ((cutS S name (scan (bl t)).2).1, [], (cutS S name (scan (bl t)).2).2)
       else ((cutS S name (scan (bl t)).2).1, (scan (bl t)).1, 0))
    else (S, (scan (bl t)).1, 0)
end PackS
end Go.Proofs.YtfoamcobpfflbaaDoor
