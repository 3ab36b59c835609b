/- Texts of mine, joined: Rows that the call owns, at any place of their block, with a capacity of their own: reading, cutting, appending. Of every program. | A struct that fills a block: loaded and stored whole. Of every program. | A result that lies in memory as a whole block; arrays of numbers as functions. Of every program. -/
import Derived.Deep.Upon
import Derived.Deep.MidRow
import Derived.Test.YtfoamcobpfflbaaDoorZ1
namespace Go.Proofs.YtfoamcobpfflbaaDoor
open Go Go.RowKit

/-- The value v is a row of n elements of the type e, of so many cells each, that hold xs; nobody else's. -/
def OwnG (w : World) (e : TypeId) (size : Nat) (v : Value) (n : Nat) (xs : List Value) : Prop :=
  xs.length = n * size ∧ ((v = .slice none 0 0 ∧ n = 0) ∨ ∃ g o cap cur, v = .slice (some ⟨g, o, none⟩) n cap ∧ w.heap[g]? = some (.cells cur e (0, 0)) ∧ n ≤ cap ∧ cap ≤ maxLen ∧ o + cap * size ≤ cur.size ∧ ∀ j u, xs[j]? = some u → cur[o + j]? = some u)

theorem OwnG.nil (w : World) (e : TypeId) (size : Nat) : OwnG w e size (.slice none 0 0) 0 [] := ⟨by simp, .inl ⟨rfl, rfl⟩⟩

theorem OwnG.of_own {w : World} {base : Nat} {e : TypeId} {size : Nat} {v : Value} {n : Nat} {xs : List Value} (h : w.ownsRow base e size v n xs) : OwnG w e size v n xs := by
  obtain ⟨h1, h2⟩ := h
  refine ⟨h1, ?_⟩
  rcases h2 with h2 | ⟨g, cap, cur, rfl, hb, hg, hn, hc, hs, ht⟩
  · exact .inl h2
  · refine .inr ⟨g, 0, cap, cur, rfl, hg, hn, hc, by omega, fun j u hu => ?_⟩
    rw [← ht, List.getElem?_take] at hu
    split at hu
    · rw [Nat.zero_add]; simpa using hu
    · cases hu

theorem OwnG.lt {w : World} {e : TypeId} {size : Nat} {v : Value} {n : Nat} {xs : List Value} (h : OwnG w e size v n xs) {k : Nat} (hk : v.ownBlock = some k) : k < w.heap.size := by
  rcases h.2 with ⟨rfl, _⟩ | ⟨g, o, cap, cur, rfl, hg, _⟩
  · cases hk
  · simp [Value.ownBlock] at hk; subst hk; exact (Array.getElem?_eq_some_iff.1 hg).1

theorem OwnG.tag {w : World} {e : TypeId} {size : Nat} {v : Value} {n : Nat} {xs : List Value} (h : OwnG w e size v n xs) {k : Nat} (hk : v.ownBlock = some k) : ∃ cur, w.heap[k]? = some (.cells cur e (0, 0)) := by
  rcases h.2 with ⟨rfl, _⟩ | ⟨g, o, cap, cur, rfl, hg, _⟩
  · cases hk
  · simp [Value.ownBlock] at hk; subst hk; exact ⟨cur, hg⟩

theorem OwnG.form {w : World} {e : TypeId} {size : Nat} {v : Value} {n : Nat} {xs : List Value} (h : OwnG w e size v n xs) : ∃ a c, v = .slice a n c ∧ n ≤ c ∧ c ≤ maxLen ∧ Sl w a xs := by
  have hl := h.1
  rcases h.2 with ⟨rfl, rfl⟩ | ⟨g, o, cap, cur, rfl, hg, hn, hc, hs, ht⟩
  · rw [Nat.zero_mul] at hl
    exact ⟨none, 0, rfl, Nat.le_refl _, Nat.zero_le _, .inl (List.eq_nil_of_length_eq_zero hl)⟩
  · refine ⟨_, cap, rfl, hn, hc, .inr ⟨g, o, rfl, (Array.getElem?_eq_some_iff.1 hg).1, fun j u hu => ?_⟩⟩
    simp [World.cell?, hg, ht j u hu]

theorem OwnG.block {w w' : World} {e : TypeId} {size : Nat} {v : Value} {n : Nat} {xs : List Value} (h : OwnG w e size v n xs) (hk : ∀ k, v.ownBlock = some k → w'.heap[k]? = w.heap[k]?) : OwnG w' e size v n xs := by
  refine ⟨h.1, ?_⟩
  rcases h.2 with h2 | ⟨g, o, cap, cur, rfl, hg, hr⟩
  · exact .inl h2
  · exact .inr ⟨g, o, cap, cur, rfl, by rw [hk g rfl]; exact hg, hr⟩

theorem OwnG.kept {w w' : World} {e : TypeId} {size : Nat} {v : Value} {n : Nat} {xs : List Value} {row : Option Nat} (h : OwnG w e size v n xs) (hg : w.grownBy w' row) (hne : v.ownBlock = none ∨ v.ownBlock ≠ row) : OwnG w' e size v n xs :=
  h.block fun k hk => hg.block k (h.lt hk) (by
    rw [← hk]
    rcases hne with h1 | h1
    · rw [hk] at h1; cases h1
    · exact h1)

theorem OwnG.below {w w' : World} {e : TypeId} {size : Nat} {v : Value} {n : Nat} {xs : List Value} (h : OwnG w e size v n xs) (hb : Below w.heap.size w w') : OwnG w' e size v n xs :=
  h.block fun k hk => hb.block k (h.lt hk)

theorem OwnG.alloc {w : World} {e : TypeId} {size : Nat} {v : Value} {n : Nat} {xs : List Value} (h : OwnG w e size v n xs) (o : Obj) : OwnG (w.alloc o) e size v n xs := h.kept (World.grownBy_alloc w o none) (by cases v.ownBlock <;> simp)

theorem OwnG.drewN {w : World} {e : TypeId} {size : Nat} {v : Value} {n : Nat} {xs : List Value} (h : OwnG w e size v n xs) (q : Nat) : OwnG (w.drewN q) e size v n xs := h

/-- The first k elements, with any capacity that there is. -/
theorem OwnG.take {w : World} {e : TypeId} {size : Nat} {a : Option Addr} {n c : Nat} {xs : List Value} (h : OwnG w e size (.slice a n c) n xs) (k c' : Nat) (hk : k ≤ n) (hc' : k ≤ c') (hc : c' ≤ c) : OwnG w e size (.slice a k c') k (xs.take (k * size)) := by
  have hle : k * size ≤ n * size := Nat.mul_le_mul_right _ hk
  refine ⟨by rw [List.length_take, h.1]; omega, ?_⟩
  rcases h.2 with ⟨h1, h2⟩ | ⟨g, o, cap, cur, h1, hg, hn, hcm, hs, ht⟩
  · injection h1 with h1 h3 h4
    subst h1
    left
    have e1 : k = 0 := by omega
    have e2 : c' = 0 := by omega
    rw [e1, e2]; exact ⟨rfl, rfl⟩
  · injection h1 with h1 h3 h4
    subst h1 h4
    refine .inr ⟨g, o, c', cur, rfl, hg, hc', by omega, ?_, fun j u hu => ht j u ?_⟩
    · have := Nat.mul_le_mul_right size hc; omega
    · rw [List.getElem?_take] at hu
      split at hu
      · exact hu
      · cases hu

/-- Nothing, behind what there is. -/
theorem OwnG.rest {w : World} {e : TypeId} {size : Nat} {a : Option Addr} {n c : Nat} {xs : List Value} (h : OwnG w e size (.slice a n c) n xs) (k : Nat) (hk : k ≤ n) : OwnG w e size (.slice (if c = k then a else a.map fun x => ⟨x.block, x.off + k * size, x.spot⟩) (n - k) (c - k)) (n - k) (xs.drop (k * size)) := by
  refine ⟨by rw [List.length_drop, h.1, Nat.sub_mul], ?_⟩
  rcases h.2 with ⟨h1, h2⟩ | ⟨g, o, cap, cur, h1, hg, hn, hcm, hs, ht⟩
  · injection h1 with h1 h3 h4
    subst h1 h4
    left
    have e1 : n - k = 0 := by omega
    rw [e1]; simp
  · injection h1 with h1 h3 h4
    subst h1 h4
    by_cases e : c = k
    · rw [if_pos e]
      have e1 : n - k = 0 := by omega
      refine .inr ⟨g, o, c - k, cur, rfl, hg, by omega, by omega, ?_, fun j u hu => ?_⟩
      · have := Nat.mul_le_mul_right size (show c - k ≤ c by omega); omega
      · have := (List.getElem?_eq_some_iff.1 hu).1
        rw [List.length_drop, h.1, ← Nat.sub_mul, e1] at this
        omega
    · rw [if_neg e]
      refine .inr ⟨g, o + k * size, c - k, cur, rfl, hg, by omega, by omega, ?_, fun j u hu => ?_⟩
      · rw [Nat.sub_mul]
        have := Nat.mul_le_mul_right size (show k ≤ c by omega); omega
      · rw [List.getElem?_drop] at hu
        rw [Nat.add_assoc]; exact ht _ u hu

theorem OwnG.rest1 {w : World} {e : TypeId} {size : Nat} {a : Option Addr} {n c : Nat} {xs : List Value} (h : OwnG w e size (.slice a n c) n xs) (k : Nat) (hk : k ≤ n) (hc : c = k) : OwnG w e size (.slice a (n - k) 0) (n - k) (xs.drop (k * size)) := by
  have := h.rest k hk
  rw [if_pos hc, hc, Nat.sub_self] at this
  exact this

theorem OwnG.rest2 {w : World} {e : TypeId} {size : Nat} {a : Option Addr} {n c : Nat} {xs : List Value} (h : OwnG w e size (.slice a n c) n xs) (k : Nat) (hk : k ≤ n) : OwnG w e size (.slice (Option.map (fun x => x.add (k * size)) a) (n - k) (c - k)) (n - k) (xs.drop (k * size)) := by
  refine ⟨by rw [List.length_drop, h.1, Nat.sub_mul], ?_⟩
  rcases h.2 with ⟨h1, h2⟩ | ⟨g, o, cap, cur, h1, hg, hn, hcm, hs, ht⟩
  · injection h1 with h1 h3 h4
    subst h1 h4
    left
    have e1 : n - k = 0 := by omega
    rw [e1]; simp
  · injection h1 with h1 h3 h4
    subst h1 h4
    refine .inr ⟨g, o + k * size, c - k, cur, by simp [Addr.add_lit], hg, by omega, by omega, ?_, fun j u hu => ?_⟩
    · rw [Nat.sub_mul]
      have := Nat.mul_le_mul_right size (show k ≤ c by omega); omega
    · rw [List.getElem?_drop] at hu
      rw [Nat.add_assoc]; exact ht _ u hu

theorem setCells_block (g : Nat) : ∀ (vs : List Value) (o : Nat) (w : World) (cur : Array Value) (e : TypeId) (fr : Nat × Nat), w.heap[g]? = some (.cells cur e fr) → o + vs.length ≤ cur.size →
    ∃ cur', (w.setCells g o vs).heap[g]? = some (.cells cur' e fr) ∧ cur'.size = cur.size ∧ ∀ j, cur'[j]? = if o ≤ j ∧ j < o + vs.length then vs[j - o]? else cur[j]?
  | [], o, w, cur, e, fr, h, _ => ⟨cur, h, rfl, fun j => by rw [if_neg]; simp⟩
  | v :: r, o, w, cur, e, fr, h, hl => by
    rw [List.length_cons] at hl
    have h1 : (w.setCell ⟨g, o, none⟩ v).heap[g]? = some (.cells (cur.setIfInBounds o v) e fr) := by
      simp [World.setCell, Array.getElem?_modify, h]
    obtain ⟨cur', h2, h3, h4⟩ := setCells_block g r (o + 1) _ _ e fr h1 (by simp; omega)
    refine ⟨cur', h2, by rw [h3]; simp, fun j => ?_⟩
    rw [h4, List.length_cons]
    by_cases e1 : o + 1 ≤ j ∧ j < o + 1 + r.length
    · rw [if_pos e1, if_pos (by omega), show j - o = (j - (o + 1)) + 1 by omega, List.getElem?_cons_succ]
    · rw [if_neg e1]
      by_cases e2 : j = o
      · subst e2
        rw [if_pos (by omega), Nat.sub_self, List.getElem?_cons_zero, Array.getElem?_setIfInBounds_self, if_pos (by omega)]
      · rw [if_neg (by omega), Array.getElem?_setIfInBounds_ne (by omega)]

theorem setCells_grown (w : World) (g o : Nat) (vs : List Value) : w.grownBy (w.setCells g o vs) (some g) := by
  obtain ⟨h1, h2, _⟩ := World.keptBut_setCells g (may := fun _ => True) vs o w (fun _ _ => trivial)
  have hs : ∀ (vs : List Value) (o : Nat) (w : World), (w.setCells g o vs).heap.size = w.heap.size ∧ (w.setCells g o vs).tape = w.tape := by
    intro vs
    induction vs with
    | nil => intro o w; exact ⟨rfl, rfl⟩
    | cons v r ih => intro o w; rw [World.setCells]; obtain ⟨a1, a2⟩ := ih (o + 1) (w.setCell ⟨g, o, none⟩ v); rw [a1, a2]; simp [World.setCell]
  obtain ⟨s1, s2⟩ := hs vs o w
  refine ⟨h1, s2, h2, by omega, fun k hk hne => World.heap_setCells_other w g o vs hk (fun e => hne (by rw [e]))⟩

/-- 'append(v, ..)': whatever is appended. -/
theorem OwnG.app {P : Program} {w : World} {t tx ty e : TypeId} {z : Value} {size bytes : Nat} (E : Elem P t e z size bytes) (hzs : z.cells.size = size) {v : Value} {n : Nat} {xs : List Value} (h : OwnG w e size v n xs)
    {x : Value} {m : Nat} {news : List Value} (hs : Src P size tx x m news w) (h63 : n + m ≤ maxLen) (hbytes : (n + m) * bytes ≤ 140737488355328) :
    ∃ v' w', (Builtin.append_ #[t, tx] ty #[v, x]).run P w = .ok v' w' ∧ OwnG w' e size v' (n + m) (xs ++ news) ∧ w.grownBy w' v.ownBlock ∧ (∀ k, v'.ownBlock = some k → v.ownBlock = some k ∨ w.heap.size ≤ k) := by
  obtain ⟨i, hi, g1, g2, g3⟩ := info_parts E.info
  subst g2 g3
  have hnl := hs.newsLen
  have hlen : (xs ++ news).length = (n + m) * i.size := by rw [List.length_append, h.1, hnl, Nat.add_mul]
  have hsmall : n + m ≤ 9223372036854775807 := by simp only [maxLen] at h63; omega
  have grow : ∀ (bs : Option Addr) (sc : Nat), v = .slice bs n sc → sc < n + m → (Builtin.firstCells i.size n (.slice bs n sc)).run P w.drew = .ok xs.toArray w.drew →
      ∃ v' w', (Builtin.append_ #[t, tx] ty #[v, x]).run P w = .ok v' w' ∧ OwnG w' e i.size v' (n + m) (xs ++ news) ∧ w.grownBy w' v.ownBlock ∧ (∀ k, v'.ownBlock = some k → v.ownBlock = some k ∨ w.heap.size ≤ k) := by
    rintro bs sc rfl hgt hold
    have hrun := run_append_grow_src (P := P) w t tx ty e i z E.under hi g1 bs n sc xs hold x m news hs hgt (by omega) (growslice_fits hgt hbytes)
    have hge := grownCap_ge w (n + m) sc e
    have hcm := grownCap_le_maxLen w (n + m) sc e h63
    refine ⟨_, _, hrun, ⟨hlen, .inr ⟨w.heap.size, 0, _, _, rfl, heap_alloc_new w.drew _, hge, hcm, ?_, fun j u hu => ?_⟩⟩, ⟨rfl, rfl, rfl, by simp, fun k hk _ => Below.heap_alloc w.drew _ k hk⟩, fun k hk => .inr ?_⟩
    · rw [Array.size_append, List.size_toArray, hlen, size_zeroCells, hzs, ← Nat.add_mul, Nat.zero_add]
      apply Nat.mul_le_mul_right
      omega
    · rw [Nat.zero_add, Array.getElem?_append_left (by rw [List.size_toArray]; exact (List.getElem?_eq_some_iff.1 hu).1), List.getElem?_toArray]
      exact hu
    · simp [Value.ownBlock] at hk; omega
  rcases h.2 with ⟨h1, h2⟩ | ⟨g, o, cap, cur, rfl, hg, hn, hcm, hcs, ht⟩
  · subst h1 h2
    have hx0 : xs = [] := List.eq_nil_of_length_eq_zero (by rw [h.1, Nat.zero_mul])
    subst hx0
    by_cases hm : m = 0
    · subst hm
      have hn0 : news = [] := List.eq_nil_of_length_eq_zero (by rw [hnl, Nat.zero_mul])
      subst hn0
      exact ⟨_, w, run_append_nothing w t tx ty e i E.under hi none 0 0 (Nat.le_refl _) x hs, ⟨by simp, .inl ⟨rfl, rfl⟩⟩, ⟨rfl, rfl, rfl, Nat.le_refl _, fun _ _ _ => rfl⟩, fun k hk => .inl hk⟩
    · exact grow none 0 rfl (by omega) (run_firstCells_none w.drew i.size 0 0 0)
  · by_cases hfit : n + m ≤ cap
    · have hmul : (n + m) * i.size ≤ cap * i.size := Nat.mul_le_mul_right _ hfit
      rw [Nat.add_mul] at hmul
      have hin : o + n * i.size + news.length ≤ cur.size := by rw [hnl]; omega
      obtain ⟨cur', c1, c2, c3⟩ := setCells_block g news (o + n * i.size) w cur e (0, 0) hg hin
      refine ⟨_, _, run_append_room_src w t tx ty e i E.under hi g o n cap x m news hs hfit (fun j hj => ?_) (fun j hj => ?_), ⟨hlen, .inr ⟨g, o, cap, cur', rfl, c1, hfit, hcm, by rw [c2]; exact hcs, fun j u hu => ?_⟩⟩, setCells_grown w g _ news, fun k hk => .inl hk⟩
      · have : o + n * i.size + j < cur.size := by omega
        simp [World.cell?, hg, this]
      · simp [World.frozen?, hg]
      · rw [c3]
        by_cases hj : j < xs.length
        · rw [List.getElem?_append_left hj] at hu
          rw [if_neg (by rw [h.1] at hj; omega)]
          exact ht j u hu
        · rw [List.getElem?_append_right (by omega)] at hu
          have hju := (List.getElem?_eq_some_iff.1 hu).1
          have hx1 := h.1
          rw [if_pos (by omega), show o + j - (o + n * i.size) = j - xs.length by omega]
          exact hu
    · exact grow _ cap rfl (by omega) (run_firstCells_some w.drew i.size n _ n cap xs h.1 (fun j u hu => by
        rw [Addr.add_lit]
        show w.cell? ⟨g, o + j, none⟩ = some u
        simp [World.cell?, hg, ht j u hu]))

/-- .. at the operation, for the walk. -/
theorem wp_appG {P : Program} {ops : Array Oper} {rest : List Oper} {o : Oper} {a : Act} {Q : Exit → Act → World → Prop} {w : World} (hgd : o.guard = none) (s x : Operand) (t tx : TypeId)
    (ho : o.op = .call { callee := .builtin .append, args := #[s, x], argTypes := #[t, tx] })
    {e : TypeId} {z : Value} {size bytes : Nat} (E : Elem P t e z size bytes) (hzs : z.cells.size = size) {v xv : Value} {n m : Nat} {xs news : List Value}
    (hs : a.eval s = v) (hown : OwnG w e size v n xs) (hx : a.eval x = xv) (hsrc : Src P size tx xv m news w) (h63 : n + m ≤ maxLen) (hbytes : (n + m) * bytes ≤ 140737488355328)
    (h : ∀ v' w', OwnG w' e size v' (n + m) (xs ++ news) → w.grownBy w' v.ownBlock → (∀ k, v'.ownBlock = some k → v.ownBlock = some k ∨ w.heap.size ≤ k) → wpList P ops Q rest (a.put o.dst v') w') :
    wpList P ops Q (o :: rest) a w := by
  refine wpList_plain hgd fun K hK => ?_
  obtain ⟨v', w', hr, h2, h3, h4⟩ := hown.app (ty := o.type) E hzs hsrc h63 hbytes
  unfold Oper.wp execOp
  simp only [ho, resolve, invoke, builtin, Sem.run_bind, Sem.run_pure, Result.andThen_ok, List.map_toArray, List.map_cons, List.map_nil, hs, hx, hr]
  exact hK _ _ (h v' w' h2 h3 h4)

/-- .. as a step of a region that draws its order. -/
theorem step_appG {P : Program} {ops : Array Oper} {o : Oper} {a : Act} {K : Act → World → Prop} {Q : Exit → Act → World → Prop} {E : Prop} {w : World} (hgd : o.guard = none) (s x : Operand) (t tx : TypeId)
    (ho : o.op = .call { callee := .builtin .append, args := #[s, x], argTypes := #[t, tx] })
    {e : TypeId} {z : Value} {size bytes : Nat} (L : Elem P t e z size bytes) (hzs : z.cells.size = size) {v xv : Value} {n m : Nat} {xs news : List Value}
    (hs : a.eval s = v) (hown : OwnG w e size v n xs) (hx : a.eval x = xv) (hsrc : Src P size tx xv m news w) (h63 : n + m ≤ maxLen) (hbytes : (n + m) * bytes ≤ 140737488355328)
    (h : ∀ v' w', OwnG w' e size v' (n + m) (xs ++ news) → w.grownBy w' v.ownBlock → (∀ k, v'.ownBlock = some k → v.ownBlock = some k ∨ w.heap.size ≤ k) → K (a.put o.dst v') w') :
    if Region.wanted o (yielded ops a.tmps) = true then Oper.wp P o a w K Q else E := by
  have hw : Region.wanted o (yielded ops a.tmps) = true := by simp [Region.wanted, hgd]
  rw [if_pos hw]
  obtain ⟨v', w', hr, h2, h3, h4⟩ := hown.app (ty := o.type) L hzs hsrc h63 hbytes
  unfold Oper.wp execOp
  simp only [ho, resolve, invoke, builtin, Sem.run_bind, Sem.run_pure, Result.andThen_ok, List.map_toArray, List.map_cons, List.map_nil, hs, hx, hr]
  exact h v' w' h2 h3 h4

/-- What a slice of one new element yields. -/
theorem Src.ofNew {P : Program} {w : World} {size : Nat} {tx e' e : TypeId} (hk : P.underlying tx = some (.slice e')) {news : List Value} (hl : news.length = size) (h1 : ∀ u ∈ news, u.oneCell' = true) : Src P size tx (.slice (some ⟨w.heap.size, 0, none⟩) 1 1) 1 news (w.alloc (.cells news.toArray e)) :=
  Src.ofSlice _ hk _ 1 1 news (by omega) (fun j u hu => World.news_of_block (Go.MapKept.heap_alloc w _).1 j u hu) h1
end Go.Proofs.YtfoamcobpfflbaaDoor
namespace Go.Proofs.YtfoamcobpfflbaaDoor
open Go Go.RowKit

section
variable {P : Program} {ops : Array Oper} {rest : List Oper} {op : Oper} {a : Act} {w : World} {Q : Exit → Act → World → Prop}

/-- The whole block is loaded. -/
theorem wp_loadB (hgd : op.guard = none) (ty : TypeId) (x : Operand) (ho : op.op = .load ty x) (b : Nat) (hx : a.eval x = .pointer (some ⟨b, 0, none⟩)) {cs : Array Value} {e : TypeId} {fr : Nat × Nat} (hb : w.heap[b]? = some (.cells cs e fr)) (d : TypeDesc)
    (hu : P.underlying ty = some d) (hd : d.isRow = true) (hi : (P.info? ty).map (·.size) = some cs.toList.length) (h : wpList P ops Q rest (a.put op.dst (.agg cs)) w) : wpList P ops Q (op :: rest) a w :=
  wpList_load_mid hgd ty x ho b 0 hx cs.toList d (fun j v hj => by
    rw [Nat.zero_add]; simp only [World.cell?, hb]; rw [← Array.getElem?_toList]; exact hj) hu hd hi h

/-- The whole block is stored. -/
theorem wp_storeB (hgd : op.guard = none) (ty : TypeId) (x y : Operand) (ho : op.op = .store ty x y) (b : Nat) (new : Array Value) (hx : a.eval x = .pointer (some ⟨b, 0, none⟩)) (hy : a.eval y = .agg new) {old : Array Value} {e : TypeId} (hb : w.heap[b]? = some (.cells old e (0, 0)))
    (hsz : old.size = new.size) (hi : (P.info? ty).map (·.size) = some new.size) (h1 : new.all (·.oneCell') = true)
    (h : ∀ w' : World, w'.heap[b]? = some (.cells new e (0, 0)) → w.grownBy w' (some b) → wpList P ops Q rest (a.put op.dst undef) w') : wpList P ops Q (op :: rest) a w := by
  refine wpList_store_mid hgd ty x y ho b 0 new hx hy (fun j hj => ⟨?_, ?_⟩) hi h1 ?_
  · simp only [World.cell?, hb, Nat.zero_add]
    rw [Array.getElem?_eq_getElem (by omega)]; rfl
  · simp [World.frozen?, hb]
  · obtain ⟨cur', c1, c2, c3⟩ := setCells_block b new.toList 0 w old e (0, 0) hb (by simp; omega)
    have : cur' = new := by
      apply Array.ext_getElem?
      intro i
      rw [c3]
      by_cases hi : i < new.size
      · rw [if_pos (by simp; omega), Nat.sub_zero, Array.getElem?_toList]
      · rw [if_neg (by simp; omega), Array.getElem?_eq_none (by omega), Array.getElem?_eq_none (by omega)]
    subst this
    exact h _ c1 (setCells_grown w b 0 _)
end
end Go.Proofs.YtfoamcobpfflbaaDoor
namespace Go.Proofs.YtfoamcobpfflbaaDoor
open Go Go.RowKit

section
variable {P : Program} {w w' : World}

/-- A function's result is a whole block. -/
theorem results_cell {fn : Func} {t : Tmp} {ty : TypeId} (h : fn.results = #[.cell t ty]) {tmps : Array Value} {b : Nat} (ht : tmps.getD t undef = .pointer (some ⟨b, 0, none⟩)) {cs : Array Value} {e : TypeId} {fr : Nat × Nat} (hb : w.heap[b]? = some (.cells cs e fr)) {d : TypeDesc}
    (hu : P.underlying ty = some d) (hd : d.isRow = true) (hi : (P.info? ty).map (·.size) = some cs.toList.length) : (results fn tmps).run P w = .ok (.agg cs) w := by
  have hl := run_loadVar_mid (P := P) w b 0 ty cs.toList d (fun j v hj => by
    rw [Nat.zero_add]; simp only [World.cell?, hb]; rw [← Array.getElem?_toList]; exact hj) hu hd hi
  have ht' : tmps[t]?.getD undef = .pointer (some ⟨b, 0, none⟩) := by rw [← ht]; simp [Array.getD_eq_getD_getElem?]
  simp [results, h, ht', asAddr]
  exact hl

/-- 'x[i]' of an array by value, of one-cell elements. -/
theorem run_index_agg {t e : TypeId} {n : Nat} (h : P.underlying t = some (.array n e)) (hs : (P.info? e).map (·.size) = some 1) (ha : ∀ w : World, (isAgg e).run P w = .ok false w) {cs : Array Value} {k : IntKind} {i : Nat} (hi : i < n) {v : Value} (hv : cs[i]? = some v) (w : World) : (Instr.index t (.agg cs) (.int k i)).run P w = .ok v w := by
  obtain ⟨info, hq, h1⟩ := Option.map_eq_some_iff.1 hs
  simp [Instr.index, run_underlying h, asIntOf, hi, part, sizeOf, typeInfo, hq, h1, hv, ha]

theorem set_blk {w : World} {p : Nat} {cs : Array Value} {e : TypeId} {fr : Nat × Nat} (h : w.heap[p]? = some (.cells cs e fr)) (j : Nat) (v : Value) :
    (w.setCell ⟨p, j, none⟩ v).heap[p]? = some (.cells (cs.setIfInBounds j v) e fr) ∧ w.grownBy (w.setCell ⟨p, j, none⟩ v) (some p) := by
  refine ⟨by simp [World.setCell, Array.getElem?_modify, h], rfl, rfl, rfl, by simp [World.setCell], fun k hk hne => ?_⟩
  simp only [World.setCell]
  rw [Array.getElem?_modify, if_neg (fun e1 => hne (by rw [e1]))]

/-- An array of numbers: the i-th one is f i. -/
structure ArrF (w : World) (b : Nat) (e : TypeId) (k : IntKind) (n : Nat) (cs : Array Value) (f : Nat → Nat) : Prop where
  h : w.heap[b]? = some (.cells cs e (0, 0))
  sz : cs.size = n
  at_ : ∀ i, i < n → cs[i]? = some (.int k (f i))

theorem ArrF.lt {b : Nat} {e : TypeId} {k : IntKind} {n : Nat} {cs : Array Value} {f : Nat → Nat} (h : ArrF w b e k n cs f) : b < w.heap.size := (Array.getElem?_eq_some_iff.1 h.h).1
theorem ArrF.c {b : Nat} {e : TypeId} {k : IntKind} {n : Nat} {cs : Array Value} {f : Nat → Nat} (h : ArrF w b e k n cs f) (i : Nat) (hi : i < n) : w.cell? ⟨b, i, none⟩ = some (.int k (f i)) := by
  simp only [World.cell?, h.h]; exact h.at_ i hi
theorem ArrF.fz {b : Nat} {e : TypeId} {k : IntKind} {n : Nat} {cs : Array Value} {f : Nat → Nat} (h : ArrF w b e k n cs f) (i : Nat) : w.frozen? ⟨b, i, none⟩ = false := by simp [World.frozen?, h.h]
theorem ArrF.one {b : Nat} {e : TypeId} {k : IntKind} {n : Nat} {cs : Array Value} {f : Nat → Nat} (h : ArrF w b e k n cs f) : cs.all (·.oneCell') = true := by
  rw [Array.all_eq_true]
  intro i hi
  have := h.at_ i (by rw [← h.sz]; exact hi)
  rw [Array.getElem?_eq_getElem hi] at this
  injection this with this
  rw [this]; rfl
theorem ArrF.block {b : Nat} {e : TypeId} {k : IntKind} {n : Nat} {cs : Array Value} {f : Nat → Nat} (h : ArrF w b e k n cs f) (hb : w'.heap[b]? = w.heap[b]?) : ArrF w' b e k n cs f := ⟨hb.trans h.h, h.sz, h.at_⟩
theorem ArrF.below {b : Nat} {e : TypeId} {k : IntKind} {n : Nat} {cs : Array Value} {f : Nat → Nat} (h : ArrF w b e k n cs f) (hb : Below w.heap.size w w') : ArrF w' b e k n cs f := h.block (hb.block b h.lt)
theorem ArrF.kept {b : Nat} {e : TypeId} {k : IntKind} {n : Nat} {cs : Array Value} {f : Nat → Nat} {row : Option Nat} (h : ArrF w b e k n cs f) (hg : w.grownBy w' row) (hne : some b ≠ row) : ArrF w' b e k n cs f := h.block (hg.block b h.lt hne)
theorem ArrF.congr {b : Nat} {e : TypeId} {k : IntKind} {n : Nat} {cs : Array Value} {f g : Nat → Nat} (h : ArrF w b e k n cs f) (hfg : ∀ i, i < n → f i = g i) : ArrF w b e k n cs g := ⟨h.h, h.sz, fun i hi => by rw [← hfg i hi]; exact h.at_ i hi⟩
theorem ArrF.set {b : Nat} {e : TypeId} {k : IntKind} {n : Nat} {cs : Array Value} {f : Nat → Nat} (h : ArrF w b e k n cs f) (j : Nat) (v : Nat) :
    ArrF (w.setCell ⟨b, j, none⟩ (.int k v)) b e k n (cs.setIfInBounds j (.int k v)) (fun i => if i = j then v else f i) ∧ w.grownBy (w.setCell ⟨b, j, none⟩ (.int k v)) (some b) := by
  obtain ⟨s, g⟩ := set_blk h.h j (.int k v)
  refine ⟨⟨s, by simp [h.sz], fun i hi => ?_⟩, g⟩
  rw [Array.getElem?_setIfInBounds]
  by_cases hij : j = i
  · subst hij
    rw [if_pos rfl, if_pos (by rw [h.sz]; exact hi)]
    simp only [if_pos]
  · rw [if_neg hij]
    simp only [if_neg (fun e => hij e.symm : ¬ i = j)]
    exact h.at_ i hi
end
end Go.Proofs.YtfoamcobpfflbaaDoor
