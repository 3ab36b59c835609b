/- Texts of mine, joined: Rows of the call's own whose block may bear a frozen pair behind the row ('[]byte(s)'). Of every program. | The longest common list of two lists: plain. No program in sight. | Paths in plain Lean: no program in sight. | Three lists of lines woven, texts cut into lines, in plain Lean. No program in sight. | Walks of the reference's path functions. -/
import Derived.Laws.IdiomStrings
import Derived.Lib.Hide
import Derived.Lib.Bytealg
import Derived.Test.YtpcipdkoncmdcaaGreatDoorRows
import Derived.Test.YtpcipdkoncmdcaaGreatDoorYJoinMerges1
namespace Go.Proofs.YtpcipdkoncmdcaaGreatDoor
open Go Go.RowKit
def OwnF (w : World) (e : TypeId) (size : Nat) (v : Value) (n : Nat) (xs : List Value) : Prop :=
  xs.length = n * size ∧ ((v = .slice none 0 0 ∧ n = 0) ∨ ∃ g o cap cur lo hi, v = .slice (some ⟨g, o, none⟩) n cap ∧ w.heap[g]? = some (.cells cur e (lo, hi)) ∧ (∀ q, q < o + cap * size → ¬ (lo ≤ q ∧ q < hi)) ∧ n ≤ cap ∧ cap ≤ maxLen ∧ o + cap * size ≤ cur.size ∧ ∀ j u, xs[j]? = some u → cur[o + j]? = some u)

theorem OwnF.lt {w : World} {e : TypeId} {size : Nat} {v : Value} {n : Nat} {xs : List Value} (h : OwnF w e size v n xs) {k : Nat} (hk : v.ownBlock = some k) : k < w.heap.size := by
  rcases h.2 with ⟨rfl, _⟩ | ⟨g, o, cap, cur, lo, hi, rfl, hg, _⟩
  · cases hk
  · simp [Value.ownBlock] at hk; subst hk; exact (Array.getElem?_eq_some_iff.1 hg).1

theorem OwnF.form {w : World} {e : TypeId} {size : Nat} {v : Value} {n : Nat} {xs : List Value} (h : OwnF w e size v n xs) : ∃ a c, v = .slice a n c ∧ n ≤ c ∧ c ≤ maxLen ∧ Sl w a xs := by
  have hl := h.1
  rcases h.2 with ⟨rfl, rfl⟩ | ⟨g, o, cap, cur, lo, hi, rfl, hg, -, hn, hc, hs, ht⟩
  · rw [Nat.zero_mul] at hl
    exact ⟨none, 0, rfl, Nat.le_refl _, Nat.zero_le _, .inl (List.eq_nil_of_length_eq_zero hl)⟩
  · refine ⟨_, cap, rfl, hn, hc, .inr ⟨g, o, rfl, (Array.getElem?_eq_some_iff.1 hg).1, fun j u hu => ?_⟩⟩
    simp [World.cell?, hg, ht j u hu]

theorem OwnF.block {w w' : World} {e : TypeId} {size : Nat} {v : Value} {n : Nat} {xs : List Value} (h : OwnF w e size v n xs) (hk : ∀ k, v.ownBlock = some k → w'.heap[k]? = w.heap[k]?) : OwnF w' e size v n xs := by
  refine ⟨h.1, ?_⟩
  rcases h.2 with h2 | ⟨g, o, cap, cur, lo, hi, rfl, hg, hr⟩
  · exact .inl h2
  · exact .inr ⟨g, o, cap, cur, lo, hi, rfl, by rw [hk g rfl]; exact hg, hr⟩

theorem OwnF.kept {w w' : World} {e : TypeId} {size : Nat} {v : Value} {n : Nat} {xs : List Value} {row : Option Nat} (h : OwnF w e size v n xs) (hg : w.grownBy w' row) (hne : v.ownBlock = none ∨ v.ownBlock ≠ row) : OwnF w' e size v n xs :=
  h.block fun k hk => hg.block k (h.lt hk) (by
    rw [← hk]
    rcases hne with h1 | h1
    · rw [hk] at h1; cases h1
    · exact h1)

theorem OwnF.below {w w' : World} {e : TypeId} {size : Nat} {v : Value} {n : Nat} {xs : List Value} (h : OwnF w e size v n xs) (hb : Below w.heap.size w w') : OwnF w' e size v n xs :=
  h.block fun k hk => hb.block k (h.lt hk)

theorem OwnF.alloc {w : World} {e : TypeId} {size : Nat} {v : Value} {n : Nat} {xs : List Value} (h : OwnF w e size v n xs) (o : Obj) : OwnF (w.alloc o) e size v n xs := h.kept (World.grownBy_alloc w o none) (by cases v.ownBlock <;> simp)

theorem OwnF.drewN {w : World} {e : TypeId} {size : Nat} {v : Value} {n : Nat} {xs : List Value} (h : OwnF w e size v n xs) (q : Nat) : OwnF (w.drewN q) e size v n xs := h

/-- '[]byte(s)'. -/
theorem own_bytes {P : Program} (w : World) (src dst e : TypeId) (s : ByteArray) (hs : P.underlying src = some .string) (hd : P.underlying dst = some (.slice e)) (he : P.underlying e = some (.int .u8)) (hn : s.size ≤ maxLen) :
    ∃ c w', (convert src dst (.string s)).run P w = .ok (.slice (some ⟨w.heap.size, 0, none⟩) s.size c) w' ∧ OwnF w' e 1 (.slice (some ⟨w.heap.size, 0, none⟩) s.size c) s.size (s.data.toList.map fun b => Value.int .u8 b.toNat) ∧ Below w.heap.size w w' := by
  have hge := grownCap_ge w s.size 0 e
  have hcm := grownCap_le_maxLen w s.size 0 e hn
  have hsz : (bytesRow s (grownCap w s.size 0 e)).size = grownCap w s.size 0 e := by
    unfold bytesRow
    rw [Array.size_append, Array.size_map, Array.size_replicate, show s.data.size = s.size from rfl]; omega
  refine ⟨_, _, run_bytes_of_string w src dst e s hs hd he, ⟨by simp, .inr ⟨w.heap.size, 0, _, bytesRow s (grownCap w s.size 0 e), _, _, rfl, (Go.MapKept.heap_alloc w.drew _).1, fun q hq => by omega, hge, hcm, by omega, fun j u hu => ?_⟩⟩, (below_dN (Below.refl _ w) 1).alloc (Nat.le_refl _) _⟩
  have hj := (List.getElem?_eq_some_iff.1 hu).1
  rw [List.length_map, Array.length_toList] at hj
  unfold bytesRow
  rw [Nat.zero_add, Array.getElem?_append_left (by rw [Array.size_map]; exact hj), Array.getElem?_map]
  rw [List.getElem?_map, Array.getElem?_toList] at hu
  exact hu

/-- 'append(v, ..)': whatever is appended. -/
theorem OwnF.app {P : Program} {w : World} {t tx ty e : TypeId} {z : Value} {size bytes : Nat} (E : Elem P t e z size bytes) (hzs : z.cells.size = size) {v : Value} {n : Nat} {xs : List Value} (h : OwnF w e size v n xs)
    {x : Value} {m : Nat} {news : List Value} (hs : Src P size tx x m news w) (h63 : n + m ≤ maxLen) (hbytes : (n + m) * bytes ≤ 140737488355328) :
    ∃ v' w', (Builtin.append_ #[t, tx] ty #[v, x]).run P w = .ok v' w' ∧ OwnF w' e size v' (n + m) (xs ++ news) ∧ w.grownBy w' v.ownBlock ∧ (∀ k, v'.ownBlock = some k → v.ownBlock = some k ∨ w.heap.size ≤ k) := by
  obtain ⟨i, hi, g1, g2, g3⟩ := info_parts E.info
  subst g2 g3
  have hnl := hs.newsLen
  have hlen : (xs ++ news).length = (n + m) * i.size := by rw [List.length_append, h.1, hnl, Nat.add_mul]
  have hsmall : n + m ≤ 9223372036854775807 := by simp only [maxLen] at h63; omega
  have grow : ∀ (bs : Option Addr) (sc : Nat), v = .slice bs n sc → sc < n + m → (Builtin.firstCells i.size n (.slice bs n sc)).run P w.drew = .ok xs.toArray w.drew →
      ∃ v' w', (Builtin.append_ #[t, tx] ty #[v, x]).run P w = .ok v' w' ∧ OwnF w' e i.size v' (n + m) (xs ++ news) ∧ w.grownBy w' v.ownBlock ∧ (∀ k, v'.ownBlock = some k → v.ownBlock = some k ∨ w.heap.size ≤ k) := by
    rintro bs sc rfl hgt hold
    have hrun := run_append_grow_src (P := P) w t tx ty e i z E.under hi g1 bs n sc xs hold x m news hs hgt (by omega) (growslice_fits hgt hbytes)
    have hge := grownCap_ge w (n + m) sc e
    have hcm := grownCap_le_maxLen w (n + m) sc e h63
    refine ⟨_, _, hrun, ⟨hlen, .inr ⟨w.heap.size, 0, _, _, 0, 0, rfl, heap_alloc_new w.drew _, (fun q _ => by omega), hge, hcm, ?_, fun j u hu => ?_⟩⟩, ⟨rfl, rfl, rfl, by simp, fun k hk _ => Below.heap_alloc w.drew _ k hk⟩, fun k hk => .inr ?_⟩
    · rw [Array.size_append, List.size_toArray, hlen, size_zeroCells, hzs, ← Nat.add_mul, Nat.zero_add]
      apply Nat.mul_le_mul_right
      omega
    · rw [Nat.zero_add, Array.getElem?_append_left (by rw [List.size_toArray]; exact (List.getElem?_eq_some_iff.1 hu).1), List.getElem?_toArray]
      exact hu
    · simp [Value.ownBlock] at hk; omega
  rcases h.2 with ⟨h1, h2⟩ | ⟨g, o, cap, cur, lo, hi2, rfl, hg, hfz, hn, hcm, hcs, ht⟩
  · subst h1 h2
    have hx0 : xs = [] := List.eq_nil_of_length_eq_zero (by rw [h.1, Nat.zero_mul])
    subst hx0
    by_cases hm : m = 0
    · subst hm
      have hn0 : news = [] := List.eq_nil_of_length_eq_zero (by rw [hnl, Nat.zero_mul])
      subst hn0
      exact ⟨_, w, run_append_nothing w t tx ty e i E.under hi none 0 0 (Nat.le_refl _) x hs, ⟨by simp, .inl ⟨rfl, rfl⟩⟩, ⟨rfl, rfl, rfl, Nat.le_refl _, fun _ _ _ => rfl⟩, fun k hk => .inl hk⟩
    · exact grow none 0 rfl (by omega) (run_firstCells_none w.drew i.size 0 0 0)
  · by_cases hfit : n + m ≤ cap
    · have hmul : (n + m) * i.size ≤ cap * i.size := Nat.mul_le_mul_right _ hfit
      rw [Nat.add_mul] at hmul
      have hin : o + n * i.size + news.length ≤ cur.size := by rw [hnl]; omega
      obtain ⟨cur', c1, c2, c3⟩ := setCells_block g news (o + n * i.size) w cur e (lo, hi2) hg hin
      refine ⟨_, _, run_append_room_src w t tx ty e i E.under hi g o n cap x m news hs hfit (fun j hj => ?_) (fun j hj => ?_), ⟨hlen, .inr ⟨g, o, cap, cur', lo, hi2, rfl, c1, hfz, hfit, hcm, by rw [c2]; exact hcs, fun j u hu => ?_⟩⟩, setCells_grown w g _ news, fun k hk => .inl hk⟩
      · have : o + n * i.size + j < cur.size := by omega
        simp [World.cell?, hg, this]
      · have := hfz (o + n * i.size + j) (by omega)
        simp only [World.frozen?, hg]
        simp; omega
      · rw [c3]
        by_cases hj : j < xs.length
        · rw [List.getElem?_append_left hj] at hu
          rw [if_neg (by rw [h.1] at hj; omega)]
          exact ht j u hu
        · rw [List.getElem?_append_right (by omega)] at hu
          have hju := (List.getElem?_eq_some_iff.1 hu).1
          have hx1 := h.1
          rw [if_pos (by omega), show o + j - (o + n * i.size) = j - xs.length by omega]
          exact hu
    · exact grow _ cap rfl (by omega) (run_firstCells_some w.drew i.size n _ n cap xs h.1 (fun j u hu => by
        rw [Addr.add_lit]
        show w.cell? ⟨g, o + j, none⟩ = some u
        simp [World.cell?, hg, ht j u hu]))

/-- 'append(T{}, x..)' of something: a new block, nothing old turns. -/
theorem run_append_new {P : Program} (w : World) {t tx ty e : TypeId} {z : Value} {size bytes : Nat} (E : Elem P t e z size bytes) (hzs : z.cells.size = size) (ad : Addr) {x : Value} {m : Nat} {news : List Value} (hs : Src P size tx x m news w) (hm : 0 < m) (h63 : m ≤ maxLen) (hbytes : m * bytes ≤ 140737488355328) :
    ∃ c w', (Builtin.append_ #[t, tx] ty #[.slice (some ad) 0 0, x]).run P w = .ok (.slice (some ⟨w.heap.size, 0, none⟩) m c) w' ∧ m ≤ c ∧ OwnG w' e size (.slice (some ⟨w.heap.size, 0, none⟩) m c) m news ∧ Below w.heap.size w w' := by
  obtain ⟨i, hi, g1, g2, g3⟩ := info_parts E.info
  subst g2 g3
  have hnl := hs.newsLen
  have hsmall : m ≤ 9223372036854775807 := by simp only [maxLen] at h63; omega
  have hold : (Builtin.firstCells i.size 0 (.slice (some ad) 0 0)).run P w.drew = .ok ([] : List Value).toArray w.drew := run_firstCells_some w.drew i.size 0 ad 0 0 [] (by simp) (fun j u hu => by cases hu)
  have hrun := run_append_grow_src (P := P) w t tx ty e i z E.under hi g1 (some ad) 0 0 [] hold x m news hs (by omega) (by omega) (growslice_fits (by omega) (by simpa using hbytes))
  rw [Nat.zero_add] at hrun
  have hge := grownCap_ge w m 0 e
  have hcm := grownCap_le_maxLen w m 0 e h63
  refine ⟨_, _, hrun, hge, ⟨hnl, .inr ⟨w.heap.size, 0, _, _, rfl, heap_alloc_new w.drew _, hge, hcm, ?_, fun j u hu => ?_⟩⟩, (below_dN (Below.refl _ w) 1).alloc (Nat.le_refl _) _⟩
  · rw [List.nil_append, Array.size_append, List.size_toArray, hnl, size_zeroCells, hzs, ← Nat.add_mul, Nat.zero_add]
    apply Nat.mul_le_mul_right
    omega
  · rw [Nat.zero_add, List.nil_append, Array.getElem?_append_left (by rw [List.size_toArray]; exact (List.getElem?_eq_some_iff.1 hu).1), List.getElem?_toArray]
    exact hu

/-- .. at the operation, for the walk. -/
theorem wp_appNew {P : Program} {ops : Array Oper} {rest : List Oper} {o : Oper} {a : Act} {Q : Exit → Act → World → Prop} {w : World} (hgd : o.guard = none) (s x : Operand) (t tx : TypeId)
    (ho : o.op = .call { callee := .builtin .append, args := #[s, x], argTypes := #[t, tx] })
    {e : TypeId} {z : Value} {size bytes : Nat} (E : Elem P t e z size bytes) (hzs : z.cells.size = size) {ad : Addr} {xv : Value} {m : Nat} {news : List Value}
    (hs : a.eval s = .slice (some ad) 0 0) (hx : a.eval x = xv) (hsrc : Src P size tx xv m news w) (hm : 0 < m) (h63 : m ≤ maxLen) (hbytes : m * bytes ≤ 140737488355328)
    (h : ∀ c w', m ≤ c → OwnG w' e size (.slice (some ⟨w.heap.size, 0, none⟩) m c) m news → Below w.heap.size w w' → wpList P ops Q rest (a.put o.dst (.slice (some ⟨w.heap.size, 0, none⟩) m c)) w') :
    wpList P ops Q (o :: rest) a w := by
  refine wpList_plain hgd fun K hK => ?_
  obtain ⟨c, w', hr, h2, h3, h4⟩ := run_append_new w (ty := o.type) E hzs ad hsrc hm h63 hbytes
  unfold Oper.wp execOp
  simp only [ho, resolve, invoke, builtin, Sem.run_bind, Sem.run_pure, Result.andThen_ok, List.map_toArray, List.map_cons, List.map_nil, hs, hx, hr]
  exact hK _ _ (h c w' h2 h3 h4)

theorem OwnG.cell {w : World} {e : TypeId} {size g n c : Nat} {xs : List Value} (h : OwnG w e size (.slice (some ⟨g, 0, none⟩) n c) n xs) {j : Nat} {u : Value} (hu : xs[j]? = some u) : w.cell? ⟨g, j, none⟩ = some u := by
  rcases h.2 with ⟨e, _⟩ | ⟨g', o, cap, cur, e, hg, -, -, -, ht⟩
  · cases e
  · injection e with e _ _
    injection e with e
    injection e with e1 e2
    subst e1 e2
    have := ht j u hu
    rw [Nat.zero_add] at this
    simp [World.cell?, hg, this]
end Go.Proofs.YtpcipdkoncmdcaaGreatDoor
namespace Go.Proofs.YtpcipdkoncmdcaaGreatDoor
namespace ScoreS
variable {β : Type} [DecidableEq β]
/-- How long the longest list is that stands in both. -/
def L : List β → List β → Nat
  | [], _ => 0
  | _ :: _, [] => 0
  | a :: x, b :: y => if a = b then L x y + 1 else max (L x (b :: y)) (L (a :: x) y)
termination_by x y => x.length + y.length
theorem L_nil (y : List β) : L [] y = 0 := by rw [L]
theorem L_nil' (x : List β) : L x [] = 0 := by cases x <;> rw [L]
theorem L_same (a : β) (x y : List β) : L (a :: x) (a :: y) = L x y + 1 := by rw [L, if_pos rfl]
theorem L_other {a b : β} (h : a ≠ b) (x y : List β) : L (a :: x) (b :: y) = max (L x (b :: y)) (L (a :: x) y) := by rw [L, if_neg h]

theorem L_symm : ∀ x y : List β, L x y = L y x
  | [], y => by rw [L_nil, L_nil']
  | a :: x, [] => by rw [L_nil, L_nil']
  | a :: x, b :: y => by
    by_cases h : a = b
    · subst h; rw [L_same, L_same, L_symm x y]
    · rw [L_other h, L_other (fun e => h e.symm), L_symm x (b :: y), L_symm (a :: x) y, Nat.max_comm]
termination_by x y => x.length + y.length
/-- A line more on the one side: at most one more. -/
theorem L_step : ∀ (a : β) (x y : List β), L x y ≤ L (a :: x) y ∧ L (a :: x) y ≤ L x y + 1
  | a, x, [] => by rw [L_nil', L_nil']; omega
  | a, [], b :: y => by
    have := L_step a [] y
    rw [L_nil] at this ⊢
    by_cases h : a = b
    · subst h; rw [L_same, L_nil]; omega
    · rw [L_other h, L_nil]; omega
  | a, c :: x, b :: y => by
    have h1 := L_step a (c :: x) y
    have h2 := L_step c x y
    have h3 := L_step c x (b :: y)
    have h4 : L (c :: x) y ≤ L (c :: x) (b :: y) ∧ L (c :: x) (b :: y) ≤ L (c :: x) y + 1 := by
      rw [L_symm (c :: x) y, L_symm (c :: x) (b :: y)]
      exact L_step b y (c :: x)
    by_cases h : a = b
    · subst h; rw [L_same]; omega
    · rw [L_other h]; omega
termination_by _ x y => x.length + y.length
theorem L_step' (b : β) (x y : List β) : L x y ≤ L x (b :: y) ∧ L x (b :: y) ≤ L x y + 1 := by
  rw [L_symm x y, L_symm x (b :: y)]; exact L_step b y x

/-- The table that asks all three ways. -/
theorem L_three (a b : β) (x y : List β) : L (a :: x) (b :: y) = if a = b then max (max (L x (b :: y)) (L (a :: x) y)) (L x y + 1) else max (L x (b :: y)) (L (a :: x) y) := by
  by_cases h : a = b
  · subst h
    have h1 := L_step a x y
    have h2 := L_step' a x y
    rw [if_pos rfl, L_same]; omega
  · rw [if_neg h, L_other h]

theorem L_le : ∀ x y : List β, L x y ≤ x.length
  | [], y => by rw [L_nil]; exact Nat.zero_le _
  | a :: x, y => Nat.le_trans (L_step a x y).2 (by simpa using L_le x y)

/-- The places of a longest common list, from the places i, k on. -/
def P (i k : Nat) : List β → List β → List (Nat × Nat)
  | [], _ => []
  | _ :: _, [] => []
  | a :: x, b :: y => if a = b then (i, k) :: P (i + 1) (k + 1) x y else if L (a :: x) y ≤ L x (b :: y) then P (i + 1) k x (b :: y) else P i (k + 1) (a :: x) y
termination_by x y => x.length + y.length
theorem P_length : ∀ (i k : Nat) (x y : List β), (P i k x y).length = L x y
  | i, k, [], y => by rw [P, L_nil]; rfl
  | i, k, a :: x, [] => by rw [P, L_nil']; rfl
  | i, k, a :: x, b :: y => by
    rw [P]
    by_cases h : a = b
    · rw [if_pos h, List.length_cons, P_length]; subst h; rw [L_same]
    · rw [if_neg h, L_other h]
      by_cases h2 : L (a :: x) y ≤ L x (b :: y)
      · rw [if_pos h2, P_length]; omega
      · rw [if_neg h2, P_length]; omega
termination_by _ _ x y => x.length + y.length
/-- The reference's test is the program's. -/
theorem turn_iff {a b : β} (h : a ≠ b) (x y : List β) : L x (b :: y) = L (a :: x) (b :: y) ↔ L (a :: x) y ≤ L x (b :: y) := by
  rw [L_other h]; omega

end ScoreS
end Go.Proofs.YtpcipdkoncmdcaaGreatDoor
namespace Go.Proofs.YtpcipdkoncmdcaaGreatDoor
namespace PathS
/-- Pieces so far, and where the next one begins (the reference's Split, k rounds). -/
def splitTo (s : ByteArray) : Nat → List ByteArray × Nat
  | 0 => ([], 0)
  | k + 1 => if k = s.size ∨ s[k]! = 47 then ((splitTo s k).1 ++ [s.extract (splitTo s k).2 k], k + 1) else splitTo s k

def split (s : ByteArray) : List ByteArray := if s.size = 0 then [] else (splitTo s (s.size + 1)).1

theorem splitTo_le (s : ByteArray) (k : Nat) : (splitTo s k).2 ≤ k := by
  induction k with
  | zero => simp [splitTo]
  | succ k ih => unfold splitTo; split <;> (try simp) <;> omega

theorem splitTo_len (s : ByteArray) (k : Nat) : (splitTo s k).1.length ≤ k := by
  induction k with
  | zero => simp [splitTo]
  | succ k ih => unfold splitTo; split <;> (try simp) <;> omega

def okB (c : UInt8) : Bool := !(decide (c < 32) || c == 127 || c == 47)

def nameL (l : List UInt8) : Bool := l != [] && l != [46] && l != [46, 46] && decide (l.length ≤ 64) && l.all okB

def name (s : ByteArray) : Bool := nameL s.data.toList

theorem nameL_no {l : List UInt8} (h : l = [] ∨ l = [46] ∨ l = [46, 46] ∨ 64 < l.length) : nameL l = false := by
  unfold nameL
  rcases h with h | h | h | h
  · simp [h]
  · simp [h]
  · simp [h]
  · have : decide (l.length ≤ 64) = false := by simpa using h
    rw [this]; simp

theorem nameL_rest {l : List UInt8} (h1 : ¬ l = []) (h2 : ¬ l = [46]) (h3 : ¬ l = [46, 46]) (h4 : l.length ≤ 64) : nameL l = (l.drop 0).all okB := by
  simp [nameL, h1, h2, h3, h4]

theorem name_no {s : ByteArray} (h : s.data.toList = [] ∨ s.data.toList = [46] ∨ s.data.toList = [46, 46] ∨ 64 < s.data.toList.length) : name s = false := nameL_no h
theorem name_rest {s : ByteArray} (h1 : ¬ s.data.toList = []) (h2 : ¬ s.data.toList = [46]) (h3 : ¬ s.data.toList = [46, 46]) (h4 : s.data.toList.length ≤ 64) : name s = (s.data.toList.drop 0).all okB := nameL_rest h1 h2 h3 h4

theorem drop_at (s : ByteArray) (k : Nat) (h : k < s.size) : s.data.toList.drop k = s[k] :: s.data.toList.drop (k + 1) := by
  rw [List.drop_eq_getElem_cons (by simpa using h)]; rfl

def check (s : ByteArray) : Int := if 255 < s.size ∨ 16 < (split s).length then 2 else if (split s).all name then (if (split s).length = 0 then 50 else 0) else 50

def cmpB (a b : ByteArray) : Int := if a.data.toList < b.data.toList then -1 else if a.data.toList = b.data.toList then 0 else 1

def cmpL : List ByteArray → List ByteArray → Int
  | [], [] => 0
  | [], _ :: _ => -1
  | _ :: _, [] => 1
  | a :: x, b :: y => if cmpB a b = 0 then cmpL x y else cmpB a b

def cmp (a b : ByteArray) : Int := cmpL (split a) (split b)

def under (p f : ByteArray) : Bool := if f.size = 0 then decide (p.size ≠ 0) else (f.data.toList ++ [47]).isPrefixOf p.data.toList

end PathS
end Go.Proofs.YtpcipdkoncmdcaaGreatDoor
namespace Go.Proofs.YtpcipdkoncmdcaaGreatDoor
namespace JoinS
/-- The lines of bytes, those in front already taken. -/
def lnA (acc : List UInt8) : List UInt8 → List ByteArray
  | [] => if acc.isEmpty then [] else [⟨acc.toArray⟩]
  | c :: r => if c = 10 then ⟨(acc ++ [c]).toArray⟩ :: lnA [] r else lnA (acc ++ [c]) r
/-- A text's lines. -/
def lns (t : ByteArray) : List ByteArray := lnA [] t.data.toList
/-- Lines, one behind the other. -/
def cat (l : List ByteArray) : ByteArray := ⟨(l.flatMap fun b => b.data.toList).toArray⟩
def isText (t : ByteArray) : Bool := t.data.toList.all fun c => decide (c ≠ 0)

/-- How long the first line is. -/
def cutAt (l : List UInt8) : Nat := if Lib.indexByte l 10 + 1 = 0 then l.length else (Lib.indexByte l 10 + 1).toNat

theorem idx_none {c : UInt8} : ∀ {l : List UInt8}, c ∉ l → Lib.indexByte l c = -1
  | [], _ => rfl
  | b :: l, h => by
    have h1 : (b == c) = false := by
      rw [beq_eq_false_iff_ne]; intro e; exact h (by simp [e])
    have h2 := idx_none (fun hc => h (List.mem_cons_of_mem _ hc) : c ∉ l)
    unfold Lib.indexByte
    rw [h1, h2]; rfl
theorem idx_some {c : UInt8} : ∀ {l r : List UInt8}, c ∉ l → Lib.indexByte (l ++ c :: r) c = l.length
  | [], r, _ => by unfold Lib.indexByte; simp
  | b :: l, r, h => by
    have h1 : (b == c) = false := by
      rw [beq_eq_false_iff_ne]; intro e; exact h (by simp [e])
    have h2 := idx_some (r := r) (fun hc => h (List.mem_cons_of_mem _ hc) : c ∉ l)
    rw [List.cons_append]
    unfold Lib.indexByte
    rw [h1, h2]
    have : ((l.length : Int) == -1) = false := by rw [beq_eq_false_iff_ne]; omega
    rw [this]; simp
theorem idx_pos {c : UInt8} {l : List UInt8} : 0 ≤ Lib.indexByte l c ↔ c ∈ l := by
  by_cases h : c ∈ l
  · obtain ⟨a, b, rfl, ha⟩ := List.eq_append_cons_of_mem h
    rw [idx_some ha]; simp
  · rw [idx_none h]; simp [h]
theorem idx_lt {c : UInt8} {l : List UInt8} : Lib.indexByte l c < l.length := by
  by_cases h : c ∈ l
  · obtain ⟨a, b, rfl, ha⟩ := List.eq_append_cons_of_mem h
    rw [idx_some ha]; simp; omega
  · rw [idx_none h]; omega
theorem idx_ge {c : UInt8} {l : List UInt8} : -1 ≤ Lib.indexByte l c := by
  by_cases h : c ∈ l
  · have := idx_pos.2 h; omega
  · rw [idx_none h]; omega

theorem lnA_cons (acc : List UInt8) (c : UInt8) (r : List UInt8) : lnA acc (c :: r) = if c = 10 then ⟨(acc ++ [c]).toArray⟩ :: lnA [] r else lnA (acc ++ [c]) r := rfl
theorem lnA_none : ∀ {l acc : List UInt8}, 10 ∉ l → lnA acc l = if (acc ++ l).isEmpty then [] else [⟨(acc ++ l).toArray⟩]
  | [], acc, _ => by rw [List.append_nil]; rfl
  | b :: l, acc, h => by
    have h1 : ¬ b = 10 := fun e => h (by simp [e])
    unfold lnA
    rw [if_neg h1, lnA_none (fun hc => h (List.mem_cons_of_mem _ hc)), List.append_assoc]; rfl
theorem lnA_some : ∀ {l acc r : List UInt8}, 10 ∉ l → lnA acc (l ++ 10 :: r) = ⟨(acc ++ l ++ [10]).toArray⟩ :: lnA [] r
  | [], acc, r, _ => by rw [List.nil_append, lnA_cons, if_pos rfl, List.append_nil]
  | b :: l, acc, r, h => by
    have h1 : ¬ b = 10 := fun e => h (by simp [e])
    rw [List.cons_append, lnA_cons, if_neg h1, lnA_some (fun hc => h (List.mem_cons_of_mem _ hc))]
    simp
theorem cut_pos {l : List UInt8} (h : l ≠ []) : 0 < cutAt l ∧ cutAt l ≤ l.length := by
  have h0 : 0 < l.length := List.length_pos_iff.2 h
  unfold cutAt
  split
  · omega
  · have := idx_lt (c := 10) (l := l); have := idx_ge (c := 10) (l := l); omega
theorem lnA_cut {l : List UInt8} (h : l ≠ []) : lnA [] l = ⟨(l.take (cutAt l)).toArray⟩ :: lnA [] (l.drop (cutAt l)) := by
  by_cases hm : (10 : UInt8) ∈ l
  · obtain ⟨a, b, rfl, ha⟩ := List.eq_append_cons_of_mem hm
    have hc : cutAt (a ++ 10 :: b) = (a ++ [10]).length := by
      unfold cutAt; rw [idx_some ha, if_neg (by omega)]; simp
    rw [lnA_some ha, hc, show a ++ 10 :: b = (a ++ [10]) ++ b by simp, List.take_left, List.drop_left]; simp
  · have hc : cutAt l = l.length := by unfold cutAt; rw [idx_none hm]; rfl
    rw [lnA_none hm, hc, List.take_length, List.drop_length]
    cases l with
    | nil => exact absurd rfl h
    | cons c r => rfl
theorem lns_nil {t : ByteArray} (h : t.size = 0) : lns t = [] := by
  unfold lns
  have : t.data.toList = [] := List.eq_nil_of_length_eq_zero (by rw [← Lib.size_eq]; exact h)
  rw [this]; rfl
theorem lns_cut {t : ByteArray} (h : t.size ≠ 0) : lns t = t.extract 0 (cutAt t.data.toList) :: lns (t.extract (cutAt t.data.toList) t.size) := by
  have h0 : t.data.toList ≠ [] := fun e => h (by rw [Lib.size_eq, e]; rfl)
  unfold lns
  rw [lnA_cut h0]
  congr 1
  · apply ByteArray.ext; apply Array.toList_inj.1
    rw [Lib.extract_data]; simp
  · congr 1
    rw [Lib.extract_data]
    rw [List.take_of_length_le (by rw [List.length_drop, Lib.size_eq]; omega)]
theorem lns_len (t : ByteArray) : (lns t).length ≤ t.size := by
  suffices h : ∀ (l acc : List UInt8), (lnA acc l).length ≤ l.length + (if acc.isEmpty then 0 else 1) by
    have := h t.data.toList []
    rw [← Lib.size_eq] at this; simpa [lns] using this
  intro l
  induction l with
  | nil => intro acc; unfold lnA; split <;> simp_all
  | cons c r ih =>
    intro acc
    unfold lnA
    split
    · have := ih []; simp at this ⊢; omega
    · have := ih (acc ++ [c]); simp at this ⊢; split <;> omega
section
variable {β : Type} [DecidableEq β]
/-- Where both lists of pairs name one line of the base. -/
def meets : List (Nat × Nat) → List (Nat × Nat) → List (Nat × Nat × Nat)
  | x :: a, y :: b => if x.1 = y.1 then (x.1, x.2, y.2) :: meets a b else if x.1 < y.1 then meets a (y :: b) else meets (x :: a) b
  | _, _ => []
termination_by a b => a.length + b.length
/-- Lines of the three lists that stand at one place. -/
structure Pt (β : Type) where
  b : List β
  o : List β
  t : List β

def kindOf (p : Pt β) : Nat :=
  if p.o = p.b ∧ p.t = p.b then 0 else if p.t = p.b then 1 else if p.o = p.b then 2 else if p.o = p.t then 3 else 4

/-- The parts between the places where all three meet, and those places. -/
def raw (bs os ts : List β) (i j k : Nat) : List (Nat × Nat × Nat) → List (Pt β)
  | [] => [⟨bs, os, ts⟩]
  | (x, y, z) :: r => ⟨bs.take (x - i), os.take (y - j), ts.take (z - k)⟩ :: ⟨(bs.drop (x - i)).take 1, (os.drop (y - j)).take 1, (ts.drop (z - k)).take 1⟩ ::
      raw (bs.drop (x - i + 1)) (os.drop (y - j + 1)) (ts.drop (z - k + 1)) (x + 1) (y + 1) (z + 1) r
end
def nl : ByteArray := ⟨#[10]⟩
/-- The last line with an end. -/
def closed (l : List ByteArray) : List ByteArray :=
  match l.getLast? with
  | none => []
  | some x => if Lib.hasSuffix x.data.toList [10] then l else l.dropLast ++ [x ++ nl]
def m1 (s : ByteArray) : ByteArray := ⟨#[60, 60, 60, 60, 60, 60, 60, 32]⟩ ++ s ++ nl
def m2 : ByteArray := ⟨#[124, 124, 124, 124, 124, 124, 124, 32, 98, 97, 115, 101, 10]⟩
def m3 : ByteArray := ⟨#[61, 61, 61, 61, 61, 61, 61, 10]⟩
def m4 (s : ByteArray) : ByteArray := ⟨#[62, 62, 62, 62, 62, 62, 62, 32]⟩ ++ s ++ nl
/-- What a part tells. -/
def emit (u v : ByteArray) (p : Pt ByteArray) : List ByteArray :=
  if kindOf p = 4 then [m1 u] ++ closed p.o ++ [m2] ++ closed p.b ++ [m3] ++ closed p.t ++ [m4 v] else if kindOf p = 2 then p.t else p.o
def tellAll (u v : ByteArray) (l : List (Pt ByteArray)) : List ByteArray := l.flatMap (emit u v)
def clean (l : List (Pt ByteArray)) : Bool := l.all fun p => decide (kindOf p ≠ 4)
/-- The raw parts of three lists. -/
def parts (b o t : List ByteArray) : List (Pt ByteArray) := raw b o t 0 0 0 (meets (ScoreS.P 0 0 b o) (ScoreS.P 0 0 b t))

theorem dl_last {α : Type} : ∀ {l : List α} {q : α}, l.getLast? = some q → l.dropLast ++ [q] = l
  | [], _, h => by cases h
  | a :: l, q, h => by
    have h1 : (a :: l) ≠ [] := by simp
    rw [List.getLast?_eq_some_getLast h1] at h
    injection h with h
    rw [← h]; exact List.dropLast_concat_getLast h1
/-- A part put behind others; parts without a change are put together. -/
def join (l : List (Pt ByteArray)) (p : Pt ByteArray) : List (Pt ByteArray) :=
  if p.b.length + p.o.length + p.t.length = 0 then l else
  match l.getLast? with
  | some q => if kindOf p = 0 ∧ kindOf q = 0 then l.dropLast ++ [⟨q.b ++ p.b, q.o ++ p.o, q.t ++ p.t⟩] else l ++ [p]
  | none => l ++ [p]

theorem kind0 {p : Pt ByteArray} : kindOf p = 0 ↔ p.o = p.b ∧ p.t = p.b := by
  unfold kindOf
  constructor
  · intro h; split at h
    · assumption
    · repeat' split at h
      all_goals omega
  · intro h; rw [if_pos h]
/-- All parts, put together. -/
def joinAll (l : List (Pt ByteArray)) (r : List (Pt ByteArray)) : List (Pt ByteArray) := r.foldl join l
end JoinS
end Go.Proofs.YtpcipdkoncmdcaaGreatDoor
namespace Go.Proofs.YtpcipdkoncmdcaaGreatDoor
open Go Go.RowKit
theorem ES : Elem Tryz.prog 82 9 (.string ByteArray.empty) 1 16 := ⟨by kernel_rfl, by kernel_rfl⟩

set_option maxRecDepth 100000 in
set_option maxHeartbeats 400000 in
theorem ref_split (s : ByteArray) (w : World) (hs : s.size ≤ 10000000) :
    Calls Tryz.prog 91 #[.string s] w fun e w' => ∃ v, e = .returned v ∧ Below w.heap.size w w' ∧ w'.ownsRow w.heap.size 9 1 v (PathS.split s).length ((PathS.split s).map Value.string) := by
  go_enter Tryz.func91, Tryz.ntmps91
  by_cases he : s.size = 0
  · have h1 : s.toList.isEmpty = true := by rw [isEmpty_iff]; simpa using he
    go_wp2_with fail
    go_ret
    exact ⟨_, rfl, Below.refl _ _, by simp only [PathS.split, he, if_true]; exact World.ownsRow_nil _ _ _ _⟩
  · have h1 : s.toList.isEmpty = false := by rw [isEmpty_iff]; simpa using he
    have hl : (PathS.splitTo s (s.size + 1)).1 = PathS.split s := by simp [PathS.split, he]
    have HL := Lib.hid hl; clear hl
    go_wp2_with fail
    go_loopw [3, 4, 5] (fun out fr i wr => ∃ k : Nat, k ≤ s.size + 1 ∧ i = .int .i64 k ∧ fr = .int .i64 (PathS.splitTo s k).2 ∧ wr.ownsRow w.heap.size 9 1 out (PathS.splitTo s k).1.length ((PathS.splitTo s k).1.map Value.string) ∧ Below w.heap.size w wr) (fun _ _ i _ => s.size + 1 - (intOf i).toNat)
    case atStart => exact ⟨0, by omega, rfl, rfl, World.ownsRow_made w #[] 0 (Nat.le_refl _) (by simp [maxLen]) rfl, (Below.refl _ _).alloc (Nat.le_refl _) _⟩
    case round =>
      obtain ⟨k, hk, rfl, rfl, hown, hb⟩ := hrel
      have hle := PathS.splitTo_le s k
      have hln := PathS.splitTo_len s k
      have HS : Hid (PathS.splitTo s (k + 1) = if k = s.size ∨ s[k]! = 47 then ((PathS.splitTo s k).1 ++ [s.extract (PathS.splitTo s k).2 k], k + 1) else PathS.splitTo s k) := by show _ = _; rfl
      generalize hA : (PathS.splitTo s k).1 = acc at hown hln HS
      have HA := Lib.hid hA; clear hA
      generalize hF : (PathS.splitTo s k).2 = f at hle HS
      have HF := Lib.hid hF; clear hF
      by_cases h2 : k = s.size + 1
      · have h3 : ¬ (k ≤ s.size) := by omega
        subst h2
        go_wp2_with fail
        go_ret
        exact ⟨_, rfl, hb, by rw [← HL.out, HA.out]; exact hown⟩
      · have h3 : k ≤ s.size := by omega
        by_cases h4 : k = s.size
        · have h5 : ((k : Int) == (s.size : Int)) = true := by simp [h4]
          have h5 : f ≤ s.size := by omega
          have HS' : Hid (PathS.splitTo s (k + 1) = (acc ++ [s.extract f k], k + 1)) := by show _ = _; rw [HS.out, if_pos (.inl h4)]
          go_wp2_with (at_builtin; refine wp_app1 rfl _ _ _ rfl ES rfl rfl hown rfl rfl (by omega) (by simp [maxLen]; omega) hb.size ?_)
          intro v' w' hown' _ hb'
          go_wp2_with fail
          go_roundw
          case rel => exact ⟨k + 1, by omega, by go_num, by rw [HS'.out]; go_num, by rw [HS'.out]; simpa [h4] using hown', hb.trans hb'⟩
          case measure => simp [intOf]; omega
        · have h5 : ((k : Int) == (s.size : Int)) = false := beq_eq_false_iff_ne.2 (by omega)
          have h6 : k < s.size := by omega
          have hget : s[k]! = s[k] := getElem!_pos s k h6
          by_cases h7 : s[k] = 47
          · have h8 : ((s[k].toNat : Int) == 47) = true := by rw [h7]; rfl
            have HS' : Hid (PathS.splitTo s (k + 1) = (acc ++ [s.extract f k], k + 1)) := by show _ = _; rw [HS.out, if_pos (.inr (by rw [hget]; exact h7))]
            clear h7 hget
            go_wp2_with (at_builtin; refine wp_app1 rfl _ _ _ rfl ES rfl rfl hown rfl rfl (by omega) (by simp [maxLen]; omega) hb.size ?_)
            intro v' w' hown' _ hb'
            go_wp2_with fail
            go_roundw
            case rel => exact ⟨k + 1, by omega, by go_num, by rw [HS'.out]; go_num, by rw [HS'.out]; simpa using hown', hb.trans hb'⟩
            case measure => simp [intOf]; omega
          · have h8 : ((s[k].toNat : Int) == 47) = false := by
              rw [beq_eq_false_iff_ne]; intro h; exact h7 (UInt8.toNat_inj.1 (by simpa using Int.ofNat.inj h))
            have HS' : Hid (PathS.splitTo s (k + 1) = PathS.splitTo s k) := by show _ = _; rw [HS.out, if_neg (by rw [hget]; simp [h4, h7])]
            clear h7 hget
            go_wp2_with fail
            go_roundw
            case rel => exact ⟨k + 1, by omega, by go_num, by rw [HS'.out, HF.out], by rw [HS'.out, HA.out]; exact hown, hb⟩
            case measure => simp [intOf]; omega
end Go.Proofs.YtpcipdkoncmdcaaGreatDoor
