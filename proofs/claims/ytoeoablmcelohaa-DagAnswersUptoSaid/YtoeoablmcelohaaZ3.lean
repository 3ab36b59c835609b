/- Texts of mine, joined: Rows that the call owns, at any place of their block, with a capacity of their own: reading, cutting, appending. Of every program. | A one-element append as a step of a region that draws its order. Of every program. | A struct that fills a block: loaded and stored whole. Of every program. | What the walks of a graph tell, in plain Lean. No program in sight. | Walks over the document's answer: nodes and names looked up. -/
import Derived.Deep.Upon
import Derived.Deep.RegionHeld3
import Derived.Deep.MidRow
import Derived.Test.YtoeoablmcelohaaShelf
import Derived.Test.YtoeoablmcelohaaZ2
namespace Go.Proofs.Ytoeoablmcelohaa
open Go Go.RowKit

/-- The value v is a row of n elements of the type e, of so many cells each, that hold xs; nobody else's. -/
def OwnG (w : World) (e : TypeId) (size : Nat) (v : Value) (n : Nat) (xs : List Value) : Prop :=
  xs.length = n * size ∧ ((v = .slice none 0 0 ∧ n = 0) ∨ ∃ g o cap cur, v = .slice (some ⟨g, o, none⟩) n cap ∧ w.heap[g]? = some (.cells cur e (0, 0)) ∧ n ≤ cap ∧ cap ≤ maxLen ∧ o + cap * size ≤ cur.size ∧ ∀ j u, xs[j]? = some u → cur[o + j]? = some u)

theorem OwnG.nil (w : World) (e : TypeId) (size : Nat) : OwnG w e size (.slice none 0 0) 0 [] := ⟨by simp, .inl ⟨rfl, rfl⟩⟩

theorem OwnG.of_own {w : World} {base : Nat} {e : TypeId} {size : Nat} {v : Value} {n : Nat} {xs : List Value} (h : w.ownsRow base e size v n xs) : OwnG w e size v n xs := by
  obtain ⟨h1, h2⟩ := h
  refine ⟨h1, ?_⟩
  rcases h2 with h2 | ⟨g, cap, cur, rfl, hb, hg, hn, hc, hs, ht⟩
  · exact .inl h2
  · refine .inr ⟨g, 0, cap, cur, rfl, hg, hn, hc, by omega, fun j u hu => ?_⟩
    rw [← ht, List.getElem?_take] at hu
    split at hu
    · rw [Nat.zero_add]; simpa using hu
    · cases hu

theorem OwnG.lt {w : World} {e : TypeId} {size : Nat} {v : Value} {n : Nat} {xs : List Value} (h : OwnG w e size v n xs) {k : Nat} (hk : v.ownBlock = some k) : k < w.heap.size := by
  rcases h.2 with ⟨rfl, _⟩ | ⟨g, o, cap, cur, rfl, hg, _⟩
  · cases hk
  · simp [Value.ownBlock] at hk; subst hk; exact (Array.getElem?_eq_some_iff.1 hg).1

theorem OwnG.tag {w : World} {e : TypeId} {size : Nat} {v : Value} {n : Nat} {xs : List Value} (h : OwnG w e size v n xs) {k : Nat} (hk : v.ownBlock = some k) : ∃ cur, w.heap[k]? = some (.cells cur e (0, 0)) := by
  rcases h.2 with ⟨rfl, _⟩ | ⟨g, o, cap, cur, rfl, hg, _⟩
  · cases hk
  · simp [Value.ownBlock] at hk; subst hk; exact ⟨cur, hg⟩

theorem OwnG.form {w : World} {e : TypeId} {size : Nat} {v : Value} {n : Nat} {xs : List Value} (h : OwnG w e size v n xs) : ∃ a c, v = .slice a n c ∧ n ≤ c ∧ c ≤ maxLen ∧ Sl w a xs := by
  have hl := h.1
  rcases h.2 with ⟨rfl, rfl⟩ | ⟨g, o, cap, cur, rfl, hg, hn, hc, hs, ht⟩
  · rw [Nat.zero_mul] at hl
    exact ⟨none, 0, rfl, Nat.le_refl _, Nat.zero_le _, .inl (List.eq_nil_of_length_eq_zero hl)⟩
  · refine ⟨_, cap, rfl, hn, hc, .inr ⟨g, o, rfl, (Array.getElem?_eq_some_iff.1 hg).1, fun j u hu => ?_⟩⟩
    simp [World.cell?, hg, ht j u hu]

theorem OwnG.block {w w' : World} {e : TypeId} {size : Nat} {v : Value} {n : Nat} {xs : List Value} (h : OwnG w e size v n xs) (hk : ∀ k, v.ownBlock = some k → w'.heap[k]? = w.heap[k]?) : OwnG w' e size v n xs := by
  refine ⟨h.1, ?_⟩
  rcases h.2 with h2 | ⟨g, o, cap, cur, rfl, hg, hr⟩
  · exact .inl h2
  · exact .inr ⟨g, o, cap, cur, rfl, by rw [hk g rfl]; exact hg, hr⟩

theorem OwnG.kept {w w' : World} {e : TypeId} {size : Nat} {v : Value} {n : Nat} {xs : List Value} {row : Option Nat} (h : OwnG w e size v n xs) (hg : w.grownBy w' row) (hne : v.ownBlock = none ∨ v.ownBlock ≠ row) : OwnG w' e size v n xs :=
  h.block fun k hk => hg.block k (h.lt hk) (by
    rw [← hk]
    rcases hne with h1 | h1
    · rw [hk] at h1; cases h1
    · exact h1)

theorem OwnG.below {w w' : World} {e : TypeId} {size : Nat} {v : Value} {n : Nat} {xs : List Value} (h : OwnG w e size v n xs) (hb : Below w.heap.size w w') : OwnG w' e size v n xs :=
  h.block fun k hk => hb.block k (h.lt hk)

theorem OwnG.alloc {w : World} {e : TypeId} {size : Nat} {v : Value} {n : Nat} {xs : List Value} (h : OwnG w e size v n xs) (o : Obj) : OwnG (w.alloc o) e size v n xs := h.kept (World.grownBy_alloc w o none) (by cases v.ownBlock <;> simp)

theorem OwnG.drewN {w : World} {e : TypeId} {size : Nat} {v : Value} {n : Nat} {xs : List Value} (h : OwnG w e size v n xs) (q : Nat) : OwnG (w.drewN q) e size v n xs := h

/-- The first k elements, with any capacity that there is. -/
theorem OwnG.take {w : World} {e : TypeId} {size : Nat} {a : Option Addr} {n c : Nat} {xs : List Value} (h : OwnG w e size (.slice a n c) n xs) (k c' : Nat) (hk : k ≤ n) (hc' : k ≤ c') (hc : c' ≤ c) : OwnG w e size (.slice a k c') k (xs.take (k * size)) := by
  have hle : k * size ≤ n * size := Nat.mul_le_mul_right _ hk
  refine ⟨by rw [List.length_take, h.1]; omega, ?_⟩
  rcases h.2 with ⟨h1, h2⟩ | ⟨g, o, cap, cur, h1, hg, hn, hcm, hs, ht⟩
  · injection h1 with h1 h3 h4
    subst h1
    left
    have e1 : k = 0 := by omega
    have e2 : c' = 0 := by omega
    rw [e1, e2]; exact ⟨rfl, rfl⟩
  · injection h1 with h1 h3 h4
    subst h1 h4
    refine .inr ⟨g, o, c', cur, rfl, hg, hc', by omega, ?_, fun j u hu => ht j u ?_⟩
    · have := Nat.mul_le_mul_right size hc; omega
    · rw [List.getElem?_take] at hu
      split at hu
      · exact hu
      · cases hu

/-- Nothing, behind what there is. -/
theorem OwnG.rest {w : World} {e : TypeId} {size : Nat} {a : Option Addr} {n c : Nat} {xs : List Value} (h : OwnG w e size (.slice a n c) n xs) (k : Nat) (hk : k ≤ n) : OwnG w e size (.slice (if c = k then a else a.map fun x => ⟨x.block, x.off + k * size, x.spot⟩) (n - k) (c - k)) (n - k) (xs.drop (k * size)) := by
  refine ⟨by rw [List.length_drop, h.1, Nat.sub_mul], ?_⟩
  rcases h.2 with ⟨h1, h2⟩ | ⟨g, o, cap, cur, h1, hg, hn, hcm, hs, ht⟩
  · injection h1 with h1 h3 h4
    subst h1 h4
    left
    have e1 : n - k = 0 := by omega
    rw [e1]; simp
  · injection h1 with h1 h3 h4
    subst h1 h4
    by_cases e : c = k
    · rw [if_pos e]
      have e1 : n - k = 0 := by omega
      refine .inr ⟨g, o, c - k, cur, rfl, hg, by omega, by omega, ?_, fun j u hu => ?_⟩
      · have := Nat.mul_le_mul_right size (show c - k ≤ c by omega); omega
      · have := (List.getElem?_eq_some_iff.1 hu).1
        rw [List.length_drop, h.1, ← Nat.sub_mul, e1] at this
        omega
    · rw [if_neg e]
      refine .inr ⟨g, o + k * size, c - k, cur, rfl, hg, by omega, by omega, ?_, fun j u hu => ?_⟩
      · rw [Nat.sub_mul]
        have := Nat.mul_le_mul_right size (show k ≤ c by omega); omega
      · rw [List.getElem?_drop] at hu
        rw [Nat.add_assoc]; exact ht _ u hu

theorem OwnG.rest1 {w : World} {e : TypeId} {size : Nat} {a : Option Addr} {n c : Nat} {xs : List Value} (h : OwnG w e size (.slice a n c) n xs) (k : Nat) (hk : k ≤ n) (hc : c = k) : OwnG w e size (.slice a (n - k) 0) (n - k) (xs.drop (k * size)) := by
  have := h.rest k hk
  rw [if_pos hc, hc, Nat.sub_self] at this
  exact this

theorem OwnG.rest2 {w : World} {e : TypeId} {size : Nat} {a : Option Addr} {n c : Nat} {xs : List Value} (h : OwnG w e size (.slice a n c) n xs) (k : Nat) (hk : k ≤ n) : OwnG w e size (.slice (Option.map (fun x => x.add (k * size)) a) (n - k) (c - k)) (n - k) (xs.drop (k * size)) := by
  refine ⟨by rw [List.length_drop, h.1, Nat.sub_mul], ?_⟩
  rcases h.2 with ⟨h1, h2⟩ | ⟨g, o, cap, cur, h1, hg, hn, hcm, hs, ht⟩
  · injection h1 with h1 h3 h4
    subst h1 h4
    left
    have e1 : n - k = 0 := by omega
    rw [e1]; simp
  · injection h1 with h1 h3 h4
    subst h1 h4
    refine .inr ⟨g, o + k * size, c - k, cur, by simp [Addr.add_lit], hg, by omega, by omega, ?_, fun j u hu => ?_⟩
    · rw [Nat.sub_mul]
      have := Nat.mul_le_mul_right size (show k ≤ c by omega); omega
    · rw [List.getElem?_drop] at hu
      rw [Nat.add_assoc]; exact ht _ u hu

theorem setCells_block (g : Nat) : ∀ (vs : List Value) (o : Nat) (w : World) (cur : Array Value) (e : TypeId) (fr : Nat × Nat), w.heap[g]? = some (.cells cur e fr) → o + vs.length ≤ cur.size →
    ∃ cur', (w.setCells g o vs).heap[g]? = some (.cells cur' e fr) ∧ cur'.size = cur.size ∧ ∀ j, cur'[j]? = if o ≤ j ∧ j < o + vs.length then vs[j - o]? else cur[j]?
  | [], o, w, cur, e, fr, h, _ => ⟨cur, h, rfl, fun j => by rw [if_neg]; simp⟩
  | v :: r, o, w, cur, e, fr, h, hl => by
    rw [List.length_cons] at hl
    have h1 : (w.setCell ⟨g, o, none⟩ v).heap[g]? = some (.cells (cur.setIfInBounds o v) e fr) := by
      simp [World.setCell, Array.getElem?_modify, h]
    obtain ⟨cur', h2, h3, h4⟩ := setCells_block g r (o + 1) _ _ e fr h1 (by simp; omega)
    refine ⟨cur', h2, by rw [h3]; simp, fun j => ?_⟩
    rw [h4, List.length_cons]
    by_cases e1 : o + 1 ≤ j ∧ j < o + 1 + r.length
    · rw [if_pos e1, if_pos (by omega), show j - o = (j - (o + 1)) + 1 by omega, List.getElem?_cons_succ]
    · rw [if_neg e1]
      by_cases e2 : j = o
      · subst e2
        rw [if_pos (by omega), Nat.sub_self, List.getElem?_cons_zero, Array.getElem?_setIfInBounds_self, if_pos (by omega)]
      · rw [if_neg (by omega), Array.getElem?_setIfInBounds_ne (by omega)]

theorem setCells_grown (w : World) (g o : Nat) (vs : List Value) : w.grownBy (w.setCells g o vs) (some g) := by
  obtain ⟨h1, h2, _⟩ := World.keptBut_setCells g (may := fun _ => True) vs o w (fun _ _ => trivial)
  have hs : ∀ (vs : List Value) (o : Nat) (w : World), (w.setCells g o vs).heap.size = w.heap.size ∧ (w.setCells g o vs).tape = w.tape := by
    intro vs
    induction vs with
    | nil => intro o w; exact ⟨rfl, rfl⟩
    | cons v r ih => intro o w; rw [World.setCells]; obtain ⟨a1, a2⟩ := ih (o + 1) (w.setCell ⟨g, o, none⟩ v); rw [a1, a2]; simp [World.setCell]
  obtain ⟨s1, s2⟩ := hs vs o w
  refine ⟨h1, s2, h2, by omega, fun k hk hne => World.heap_setCells_other w g o vs hk (fun e => hne (by rw [e]))⟩

/-- 'append(v, ..)': whatever is appended. -/
theorem OwnG.app {P : Program} {w : World} {t tx ty e : TypeId} {z : Value} {size bytes : Nat} (E : Elem P t e z size bytes) (hzs : z.cells.size = size) {v : Value} {n : Nat} {xs : List Value} (h : OwnG w e size v n xs)
    {x : Value} {m : Nat} {news : List Value} (hs : Src P size tx x m news w) (h63 : n + m ≤ maxLen) (hbytes : (n + m) * bytes ≤ 140737488355328) :
    ∃ v' w', (Builtin.append_ #[t, tx] ty #[v, x]).run P w = .ok v' w' ∧ OwnG w' e size v' (n + m) (xs ++ news) ∧ w.grownBy w' v.ownBlock ∧ (∀ k, v'.ownBlock = some k → v.ownBlock = some k ∨ w.heap.size ≤ k) := by
  obtain ⟨i, hi, g1, g2, g3⟩ := info_parts E.info
  subst g2 g3
  have hnl := hs.newsLen
  have hlen : (xs ++ news).length = (n + m) * i.size := by rw [List.length_append, h.1, hnl, Nat.add_mul]
  have hsmall : n + m ≤ 9223372036854775807 := by simp only [maxLen] at h63; omega
  have grow : ∀ (bs : Option Addr) (sc : Nat), v = .slice bs n sc → sc < n + m → (Builtin.firstCells i.size n (.slice bs n sc)).run P w.drew = .ok xs.toArray w.drew →
      ∃ v' w', (Builtin.append_ #[t, tx] ty #[v, x]).run P w = .ok v' w' ∧ OwnG w' e i.size v' (n + m) (xs ++ news) ∧ w.grownBy w' v.ownBlock ∧ (∀ k, v'.ownBlock = some k → v.ownBlock = some k ∨ w.heap.size ≤ k) := by
    rintro bs sc rfl hgt hold
    have hrun := run_append_grow_src (P := P) w t tx ty e i z E.under hi g1 bs n sc xs hold x m news hs hgt (by omega) (growslice_fits hgt hbytes)
    have hge := grownCap_ge w (n + m) sc e
    have hcm := grownCap_le_maxLen w (n + m) sc e h63
    refine ⟨_, _, hrun, ⟨hlen, .inr ⟨w.heap.size, 0, _, _, rfl, heap_alloc_new w.drew _, hge, hcm, ?_, fun j u hu => ?_⟩⟩, ⟨rfl, rfl, rfl, by simp, fun k hk _ => Below.heap_alloc w.drew _ k hk⟩, fun k hk => .inr ?_⟩
    · rw [Array.size_append, List.size_toArray, hlen, size_zeroCells, hzs, ← Nat.add_mul, Nat.zero_add]
      apply Nat.mul_le_mul_right
      omega
    · rw [Nat.zero_add, Array.getElem?_append_left (by rw [List.size_toArray]; exact (List.getElem?_eq_some_iff.1 hu).1), List.getElem?_toArray]
      exact hu
    · simp [Value.ownBlock] at hk; omega
  rcases h.2 with ⟨h1, h2⟩ | ⟨g, o, cap, cur, rfl, hg, hn, hcm, hcs, ht⟩
  · subst h1 h2
    have hx0 : xs = [] := List.eq_nil_of_length_eq_zero (by rw [h.1, Nat.zero_mul])
    subst hx0
    by_cases hm : m = 0
    · subst hm
      have hn0 : news = [] := List.eq_nil_of_length_eq_zero (by rw [hnl, Nat.zero_mul])
      subst hn0
      exact ⟨_, w, run_append_nothing w t tx ty e i E.under hi none 0 0 (Nat.le_refl _) x hs, ⟨by simp, .inl ⟨rfl, rfl⟩⟩, ⟨rfl, rfl, rfl, Nat.le_refl _, fun _ _ _ => rfl⟩, fun k hk => .inl hk⟩
    · exact grow none 0 rfl (by omega) (run_firstCells_none w.drew i.size 0 0 0)
  · by_cases hfit : n + m ≤ cap
    · have hmul : (n + m) * i.size ≤ cap * i.size := Nat.mul_le_mul_right _ hfit
      rw [Nat.add_mul] at hmul
      have hin : o + n * i.size + news.length ≤ cur.size := by rw [hnl]; omega
      obtain ⟨cur', c1, c2, c3⟩ := setCells_block g news (o + n * i.size) w cur e (0, 0) hg hin
      refine ⟨_, _, run_append_room_src w t tx ty e i E.under hi g o n cap x m news hs hfit (fun j hj => ?_) (fun j hj => ?_), ⟨hlen, .inr ⟨g, o, cap, cur', rfl, c1, hfit, hcm, by rw [c2]; exact hcs, fun j u hu => ?_⟩⟩, setCells_grown w g _ news, fun k hk => .inl hk⟩
      · have : o + n * i.size + j < cur.size := by omega
        simp [World.cell?, hg, this]
      · simp [World.frozen?, hg]
      · rw [c3]
        by_cases hj : j < xs.length
        · rw [List.getElem?_append_left hj] at hu
          rw [if_neg (by rw [h.1] at hj; omega)]
          exact ht j u hu
        · rw [List.getElem?_append_right (by omega)] at hu
          have hju := (List.getElem?_eq_some_iff.1 hu).1
          have hx1 := h.1
          rw [if_pos (by omega), show o + j - (o + n * i.size) = j - xs.length by omega]
          exact hu
    · exact grow _ cap rfl (by omega) (run_firstCells_some w.drew i.size n _ n cap xs h.1 (fun j u hu => by
        rw [Addr.add_lit]
        show w.cell? ⟨g, o + j, none⟩ = some u
        simp [World.cell?, hg, ht j u hu]))

/-- .. at the operation, for the walk. -/
theorem wp_appG {P : Program} {ops : Array Oper} {rest : List Oper} {o : Oper} {a : Act} {Q : Exit → Act → World → Prop} {w : World} (hgd : o.guard = none) (s x : Operand) (t tx : TypeId)
    (ho : o.op = .call { callee := .builtin .append, args := #[s, x], argTypes := #[t, tx] })
    {e : TypeId} {z : Value} {size bytes : Nat} (E : Elem P t e z size bytes) (hzs : z.cells.size = size) {v xv : Value} {n m : Nat} {xs news : List Value}
    (hs : a.eval s = v) (hown : OwnG w e size v n xs) (hx : a.eval x = xv) (hsrc : Src P size tx xv m news w) (h63 : n + m ≤ maxLen) (hbytes : (n + m) * bytes ≤ 140737488355328)
    (h : ∀ v' w', OwnG w' e size v' (n + m) (xs ++ news) → w.grownBy w' v.ownBlock → (∀ k, v'.ownBlock = some k → v.ownBlock = some k ∨ w.heap.size ≤ k) → wpList P ops Q rest (a.put o.dst v') w') :
    wpList P ops Q (o :: rest) a w := by
  refine wpList_plain hgd fun K hK => ?_
  obtain ⟨v', w', hr, h2, h3, h4⟩ := hown.app (ty := o.type) E hzs hsrc h63 hbytes
  unfold Oper.wp execOp
  simp only [ho, resolve, invoke, builtin, Sem.run_bind, Sem.run_pure, Result.andThen_ok, List.map_toArray, List.map_cons, List.map_nil, hs, hx, hr]
  exact hK _ _ (h v' w' h2 h3 h4)

/-- .. as a step of a region that draws its order. -/
theorem step_appG {P : Program} {ops : Array Oper} {o : Oper} {a : Act} {K : Act → World → Prop} {Q : Exit → Act → World → Prop} {E : Prop} {w : World} (hgd : o.guard = none) (s x : Operand) (t tx : TypeId)
    (ho : o.op = .call { callee := .builtin .append, args := #[s, x], argTypes := #[t, tx] })
    {e : TypeId} {z : Value} {size bytes : Nat} (L : Elem P t e z size bytes) (hzs : z.cells.size = size) {v xv : Value} {n m : Nat} {xs news : List Value}
    (hs : a.eval s = v) (hown : OwnG w e size v n xs) (hx : a.eval x = xv) (hsrc : Src P size tx xv m news w) (h63 : n + m ≤ maxLen) (hbytes : (n + m) * bytes ≤ 140737488355328)
    (h : ∀ v' w', OwnG w' e size v' (n + m) (xs ++ news) → w.grownBy w' v.ownBlock → (∀ k, v'.ownBlock = some k → v.ownBlock = some k ∨ w.heap.size ≤ k) → K (a.put o.dst v') w') :
    if Region.wanted o (yielded ops a.tmps) = true then Oper.wp P o a w K Q else E := by
  have hw : Region.wanted o (yielded ops a.tmps) = true := by simp [Region.wanted, hgd]
  rw [if_pos hw]
  obtain ⟨v', w', hr, h2, h3, h4⟩ := hown.app (ty := o.type) L hzs hsrc h63 hbytes
  unfold Oper.wp execOp
  simp only [ho, resolve, invoke, builtin, Sem.run_bind, Sem.run_pure, Result.andThen_ok, List.map_toArray, List.map_cons, List.map_nil, hs, hx, hr]
  exact h v' w' h2 h3 h4

/-- What a slice of one new element yields. -/
theorem Src.ofNew {P : Program} {w : World} {size : Nat} {tx e' e : TypeId} (hk : P.underlying tx = some (.slice e')) {news : List Value} (hl : news.length = size) (h1 : ∀ u ∈ news, u.oneCell' = true) : Src P size tx (.slice (some ⟨w.heap.size, 0, none⟩) 1 1) 1 news (w.alloc (.cells news.toArray e)) :=
  Src.ofSlice _ hk _ 1 1 news (by omega) (fun j u hu => World.news_of_block (Go.MapKept.heap_alloc w _).1 j u hu) h1
end Go.Proofs.Ytoeoablmcelohaa
namespace Go.Proofs.Ytoeoablmcelohaa
open Go Go.RowKit

theorem step_appN {P : Program} {ops : Array Oper} {o : Oper} {a : Act} {K : Act → World → Prop} {Q : Exit → Act → World → Prop} {E : Prop} {w : World} (hgd : o.guard = none) (s x : Operand) (t : TypeId)
    (ho : o.op = .call { callee := .builtin .append, args := #[s, x], argTypes := #[t, t] })
    {e : TypeId} {z : Value} {size bytes : Nat} (L : Elem P t e z size bytes) (hzs : z.cells.size = size) (hsz : 0 < size) {base : Nat} {v : Value} {n : Nat} {xs : List Value} {news : List Value}
    (hs : a.eval s = v) (hown : w.ownsRow base e size v n xs) (hx : a.eval x = .slice (some ⟨w.heap.size, 0, none⟩) 1 1) (hl : news.length = size) (h1 : ∀ u ∈ news, u.oneCell' = true)
    (hn : (n + 1) * bytes ≤ 140737488355328) (h63 : n + 1 ≤ maxLen) (hbase : base ≤ w.heap.size)
    (h : ∀ v' w', w'.ownsRow base e size v' (n + 1) (xs ++ news) → w.grownBy w' v.ownBlock → Below base w w' → K (a.put o.dst v') w') :
    if Region.wanted o (yielded ops a.tmps) = true then Oper.wp P o a (w.alloc (.cells news.toArray e)) K Q else E := by
  obtain ⟨i, hi, g1, g2, g3⟩ := info_parts L.info
  refine step_append_lies _ hgd s x t ho base e i z size bytes L.under hi g1 g2 g3 hzs hsz v n xs hs (hown.alloc _) ⟨w.heap.size, 0, none⟩ 1 1 news hx (by omega) (fun j u hu => ?_) h1 (by decide) h63 hn ?_ _ rfl ?_
  · exact World.news_of_block (Go.MapKept.heap_alloc w _).1 j u hu
  · have : (w.alloc (.cells news.toArray e)).heap.size = w.heap.size + 1 := by simp
    omega
  · intro g cap w' h4 h5 _ _
    have h6 : w.grownBy w' v.ownBlock := (World.grownBy_alloc w _ _).trans h5
    exact h _ w' h4 h6 (below_of_grown hown h6 hbase)
end Go.Proofs.Ytoeoablmcelohaa
namespace Go.Proofs.Ytoeoablmcelohaa
open Go Go.RowKit

section
variable {P : Program} {ops : Array Oper} {rest : List Oper} {op : Oper} {a : Act} {w : World} {Q : Exit → Act → World → Prop}

/-- The whole block is loaded. -/
theorem wp_loadB (hgd : op.guard = none) (ty : TypeId) (x : Operand) (ho : op.op = .load ty x) (b : Nat) (hx : a.eval x = .pointer (some ⟨b, 0, none⟩)) {cs : Array Value} {e : TypeId} {fr : Nat × Nat} (hb : w.heap[b]? = some (.cells cs e fr)) (d : TypeDesc)
    (hu : P.underlying ty = some d) (hd : d.isRow = true) (hi : (P.info? ty).map (·.size) = some cs.toList.length) (h : wpList P ops Q rest (a.put op.dst (.agg cs)) w) : wpList P ops Q (op :: rest) a w :=
  wpList_load_mid hgd ty x ho b 0 hx cs.toList d (fun j v hj => by
    rw [Nat.zero_add]; simp only [World.cell?, hb]; rw [← Array.getElem?_toList]; exact hj) hu hd hi h

/-- The whole block is stored. -/
theorem wp_storeB (hgd : op.guard = none) (ty : TypeId) (x y : Operand) (ho : op.op = .store ty x y) (b : Nat) (new : Array Value) (hx : a.eval x = .pointer (some ⟨b, 0, none⟩)) (hy : a.eval y = .agg new) {old : Array Value} {e : TypeId} (hb : w.heap[b]? = some (.cells old e (0, 0)))
    (hsz : old.size = new.size) (hi : (P.info? ty).map (·.size) = some new.size) (h1 : new.all (·.oneCell') = true)
    (h : ∀ w' : World, w'.heap[b]? = some (.cells new e (0, 0)) → w.grownBy w' (some b) → wpList P ops Q rest (a.put op.dst undef) w') : wpList P ops Q (op :: rest) a w := by
  refine wpList_store_mid hgd ty x y ho b 0 new hx hy (fun j hj => ⟨?_, ?_⟩) hi h1 ?_
  · simp only [World.cell?, hb, Nat.zero_add]
    rw [Array.getElem?_eq_getElem (by omega)]; rfl
  · simp [World.frozen?, hb]
  · obtain ⟨cur', c1, c2, c3⟩ := setCells_block b new.toList 0 w old e (0, 0) hb (by simp; omega)
    have : cur' = new := by
      apply Array.ext_getElem?
      intro i
      rw [c3]
      by_cases hi : i < new.size
      · rw [if_pos (by simp; omega), Nat.sub_zero, Array.getElem?_toList]
      · rw [if_neg (by simp; omega), Array.getElem?_eq_none (by omega), Array.getElem?_eq_none (by omega)]
    subst this
    exact h _ c1 (setCells_grown w b 0 _)
end
end Go.Proofs.Ytoeoablmcelohaa
namespace Go.Proofs.Ytoeoablmcelohaa
namespace DagS
section
open Classical
variable {g : List Nd} {a b c x y : ByteArray} {l V : List Nat} {i j : Nat}
/-- Down to j, over nodes behind it. -/
theorem Wf.frd_down (h : Wf g) (hf : Fr g i j) : Frd (fun k => decide (k > j)) (par g) i j := by
  induction hf with
  | refl => exact .refl _
  | step a b c ih =>
    have := h.fr_le c
    have := h.par_lt _ _ b
    exact .step (by rw [decide_eq_true_iff]; omega) b ih
/-- What is told of one node, over nodes behind the one asked for. -/
theorem Wf.comes_iff (h : Wf g) (ht : Told (fun k => decide (k > (find g b).getD 0)) (par g) (ids g [a]) V 0) : b ∈ V.map (nm g) ↔ Comes g a b := by
  rw [List.mem_map]
  constructor
  · rintro ⟨i, hi, rfl⟩
    obtain ⟨f, hf, hfr⟩ := ((ht.mem i).1 hi).1
    obtain ⟨s, hs, e⟩ := mem_ids.1 hf
    rw [List.mem_singleton] at hs
    subst hs
    have hfr : Fr g f i := hfr.mono fun _ _ => rfl
    have := h.fr_le hfr
    have := find_lt e
    exact ⟨f, i, e, h.dist.find (by omega), hfr⟩
  · rintro ⟨i, j, e1, e2, hf⟩
    refine ⟨j, (ht.mem j).2 ⟨⟨i, mem_ids.2 ⟨a, .head _, e1⟩, ?_⟩, Nat.zero_le _⟩, find_nm e2⟩
    rw [e2]
    exact h.frd_down hf
/-- All that some nodes come from. -/
theorem Wf.told_anc (h : Wf g) {l : List ByteArray} (ht : Told (fun _ => true) (par g) (ids g l) V 0) : V.reverse = upto g.length (ancS g l) :=
  upto_of ht.desc fun i => by rw [ht.mem i]; exact ⟨fun hi => ⟨h.anc_lt hi.1, hi.1⟩, fun hi => ⟨hi.2, Nat.zero_le _⟩⟩
/-- What is told where nothing that is known is looked behind. -/
theorem Wf.told_miss (h : Wf g) {want have' : List ByteArray} (ht : Told (fun k => decide (¬ ancS g have' k)) (par g) (ids g want) V 0) :
    (V.filter fun i => decide (¬ ancS g have' i)).reverse = upto g.length fun i => ancS g want i ∧ ¬ ancS g have' i := by
  have hcl : ∀ {i j : Nat}, Fr g i j → ancS g have' i → ancS g have' j := fun {i j} hf hi => by
    obtain ⟨s, hs, k, e, hk⟩ := anc_iff.1 hi
    exact anc_iff.2 ⟨s, hs, k, e, hk.trans hf⟩
  have hfr : ∀ {i j : Nat}, Fr g i j → ¬ ancS g have' j → Frd (fun k => decide (¬ ancS g have' k)) (par g) i j := fun {i j} hf => by
    induction hf with
    | refl => exact fun _ => .refl _
    | step a b c ih =>
      intro hn
      exact .step (by rw [decide_eq_true_iff]; exact fun hk => hn (hcl ((Frd.step a b c)) hk)) b (ih hn)
  refine upto_of (ht.desc.filter _) fun i => ?_
  rw [List.mem_filter, ht.mem, decide_eq_true_iff]
  constructor
  · rintro ⟨⟨⟨f, hf, hi⟩, _⟩, hn⟩
    have hA : ancS g want i := ⟨f, hf, hi.mono fun _ _ => rfl⟩
    exact ⟨h.anc_lt hA, hA, hn⟩
  · rintro ⟨_, ⟨f, hf, hi⟩, hn⟩
    exact ⟨⟨⟨f, hf, hfr hi hn⟩, Nat.zero_le _⟩, hn⟩

/-- Where both come from. -/
def Both (g : List Nd) (a b : ByteArray) (i : Nat) : Prop := ancS g [a] i ∧ ancS g [b] i
/-- One of these from which no other one comes. -/
def Max (g : List Nd) (a b : ByteArray) (i : Nat) : Prop := Both g a b i ∧ ∀ k, Both g a b k → Fr g k i → k = i
/-- While the bases are told: 'V' what was looked at, 'out' the bases among it, 'm' where the mark is still 3. -/
structure Bs (g : List Nd) (a b : ByteArray) (V out : List Nat) (m : Nat → Prop) : Prop where
  outs : ∀ i, i ∈ out ↔ i ∈ V ∧ Max g a b i
  mark : ∀ i, i < g.length → (m i ↔ Both g a b i ∧ ∀ t ∈ out, ¬ Fr g t i)
theorem Bs.start {m : Nat → Prop} (hm : ∀ i, i < g.length → (m i ↔ Both g a b i)) : Bs g a b [] [] m :=
  ⟨fun _ => ⟨fun h => (nomatch h), fun h => (nomatch h.1)⟩, fun i hi => by rw [hm i hi]; exact ⟨fun h => ⟨h, fun _ ht => (nomatch ht)⟩, fun h => h.1⟩⟩
theorem Both.lt (h : Wf g) (hb : Both g a b i) : i < g.length := h.anc_lt hb.1
/-- Of the next one the mark tells whether it is a base. -/
theorem Bs.next (h : Wf g) {out : List Nat} {m : Nat → Prop} (s : Bs g a b V out m) (hi : i < g.length) (hV : ∀ k, Both g a b k → i < k → k ∈ V) (hV2 : ∀ k ∈ V, i < k) : m i ↔ Max g a b i := by
  rw [s.mark i hi]
  constructor
  · rintro ⟨h1, h2⟩
    refine ⟨h1, fun k hk hf => Classical.byContradiction fun hne => ?_⟩
    obtain ⟨t, t1, t2, t3⟩ := h.greatest (Both g a b) _ k (Nat.le_refl _) (hk.lt h) hk (fun k hk => hk.lt h)
    have h3 := h.fr_le hf
    have h4 := h.fr_le t2
    exact h2 t ((s.outs t).2 ⟨hV t t1 (by omega), t1, t3⟩) (t2.trans hf)
  · rintro ⟨h1, h2⟩
    refine ⟨h1, fun t ht hf => ?_⟩
    obtain ⟨h3, h4, _⟩ := (s.outs t).1 ht
    have := h2 t h4 hf
    have := hV2 t h3
    omega
theorem Bs.no {m : Nat → Prop} (s : Bs g a b V l m) (hn : ¬ Max g a b i) : Bs g a b (V ++ [i]) l m :=
  ⟨fun k => by
    rw [s.outs k, List.mem_append, List.mem_singleton]
    exact ⟨fun h => ⟨.inl h.1, h.2⟩, fun h => ⟨h.1.resolve_right fun e => hn (e ▸ h.2), h.2⟩⟩, s.mark⟩
theorem Bs.yes {m m' : Nat → Prop} (s : Bs g a b V l m) (hn : Max g a b i) (hm : ∀ k, k < g.length → (m' k ↔ m k ∧ ¬ Fr g i k)) : Bs g a b (V ++ [i]) (l ++ [i]) m' :=
  ⟨fun k => by
    rw [List.mem_append, List.mem_append, List.mem_singleton, s.outs k]
    constructor
    · rintro (h | rfl)
      · exact ⟨.inl h.1, h.2⟩
      · exact ⟨.inr rfl, hn⟩
    · rintro ⟨h | rfl, h2⟩
      · exact .inl ⟨h, h2⟩
      · exact .inr rfl, fun k hk => by
    rw [hm k hk, s.mark k hk]
    constructor
    · rintro ⟨⟨h1, h2⟩, h3⟩
      exact ⟨h1, fun t ht => (List.mem_append.1 ht).elim (h2 t) fun e => by rw [List.mem_singleton] at e; exact e ▸ h3⟩
    · rintro ⟨h1, h2⟩
      exact ⟨⟨h1, fun t ht => h2 t (List.mem_append.2 (.inl ht))⟩, h2 i (List.mem_append.2 (.inr (.head _)))⟩⟩
theorem Bs.done (h : Wf g) {out : List Nat} {m : Nat → Prop} (s : Bs g a b V out m) (hV : ∀ k, Both g a b k → k ∈ V) {l : List ByteArray} (hl : Srt l) (hm : ∀ x, x ∈ l ↔ x ∈ out.map (nm g)) : l = basesL g a b := by
  have hb1 : ∀ {k}, Both g a b k ↔ k < g.length ∧ Comes g a (nm g k) ∧ Comes g b (nm g k) := fun {k} => by
    constructor
    · intro hk
      have hlt := hk.lt h
      obtain ⟨s1, q1, k1, e1, f1⟩ := anc_iff.1 hk.1
      obtain ⟨s2, q2, k2, e2, f2⟩ := anc_iff.1 hk.2
      rw [List.mem_singleton] at q1 q2
      subst q1 q2
      exact ⟨hlt, ⟨k1, k, e1, h.dist.find hlt, f1⟩, ⟨k2, k, e2, h.dist.find hlt, f2⟩⟩
    · rintro ⟨hlt, ⟨k1, j1, e1, f1, r1⟩, ⟨k2, j2, e2, f2, r2⟩⟩
      rw [h.dist.find hlt] at f1 f2
      injection f1 with f1; injection f2 with f2
      subst f1 f2
      exact ⟨anc_iff.2 ⟨a, .head _, k1, e1, r1⟩, anc_iff.2 ⟨b, .head _, k2, e2, r2⟩⟩
  refine srt_ext hl (tips_srt _ _) fun x => ?_
  show _ ↔ x ∈ tipsL g (bothL g a b)
  rw [hm, mem_tips, List.mem_map]
  constructor
  · rintro ⟨k, hk, rfl⟩
    obtain ⟨h1, h2, h3⟩ := (s.outs k).1 hk
    obtain ⟨hlt, c1, c2⟩ := hb1.1 h2
    refine ⟨h.mem_both.2 ⟨c1, c2⟩, c1.right, fun y hy => ?_⟩
    by_cases hc : Comes g y (nm g k)
    · obtain ⟨d1, d2⟩ := h.mem_both.1 hy
      obtain ⟨p, p', e1, e2, hf⟩ := hc
      rw [h.dist.find hlt] at e2
      injection e2 with e2
      subst e2
      have hy2 := find_nm e1
      have := h3 p (hb1.2 ⟨find_lt e1, by rw [hy2]; exact d1, by rw [hy2]; exact d2⟩) hf
      subst this
      exact .inl hy2.symm
    · exact .inr hc
  · rintro ⟨h1, h2, h3⟩
    obtain ⟨c1, c2⟩ := h.mem_both.1 h1
    cases e : find g x with
    | none => exact absurd e h2
    | some k =>
      have hx := find_nm e
      have hlt := find_lt e
      have hb : Both g a b k := hb1.2 ⟨hlt, by rw [hx]; exact c1, by rw [hx]; exact c2⟩
      refine ⟨k, (s.outs k).2 ⟨hV k hb, hb, fun p hp hf => ?_⟩, hx⟩
      obtain ⟨hp1, p1, p2⟩ := hb1.1 hp
      rcases h3 (nm g p) (h.mem_both.2 ⟨p1, p2⟩) with e5 | e5
      · rw [← hx] at e5
        exact h.dist.inj hp1 hlt e5
      · exact absurd ⟨p, k, h.dist.find hp1, e, hf⟩ e5
end
end DagS
end Go.Proofs.Ytoeoablmcelohaa
namespace Go.Proofs.Ytoeoablmcelohaa
open Go Go.RowKit
open DagS (Nd nm pars par ids Wf)
open Classical

/-- Texts as cells. -/
def trow (l : List ByteArray) : List Value := l.map Value.string
theorem trow_len (l : List ByteArray) : (trow l).length = l.length := List.length_map _
theorem trow_at (l : List ByteArray) (i : Nat) (h : i < (trow l).length) : (trow l)[i] = .string (l[i]'(by rwa [trow_len] at h)) := List.getElem_map _
theorem trow_append (l m : List ByteArray) : trow (l ++ m) = trow l ++ trow m := List.map_append
theorem trow_one (l : List ByteArray) : ∀ u ∈ trow l, u.oneCell' = true := fun u h => by
  obtain ⟨s, _, rfl⟩ := List.mem_map.1 h
  rfl
theorem str_eqb {a b : ByteArray} (h : a ≠ b) : (a.toList == b.toList) = false := by
  rw [beq_eq_false_iff_ne, Lib.toList_data, Lib.toList_data]
  intro e; apply h; exact DagS.ba_eq e

/-- A place, or -1. -/
def nix : Option Nat → Int
  | none => -1
  | some i => i

/-- Nodes as cells. -/
def gcells : List Nd → List (Option Addr × Nat) → List Value
  | x :: g, p :: ps => .string x.name :: .slice p.1 x.pars.length p.2 :: gcells g ps
  | _, _ => []
theorem gcells_len : ∀ (g : List Nd) (ps : List (Option Addr × Nat)), ps.length = g.length → (gcells g ps).length = g.length * 2
  | [], [], _ => rfl
  | [], _ :: _, h => by cases h
  | _ :: _, [], h => by cases h
  | x :: g, p :: ps, h => by rw [gcells, List.length_cons, List.length_cons, gcells_len g ps (by simpa using h), List.length_cons]; omega
theorem gcells_append : ∀ (g : List Nd) (ps : List (Option Addr × Nat)) (g' : List Nd) (ps' : List (Option Addr × Nat)), ps.length = g.length → gcells (g ++ g') (ps ++ ps') = gcells g ps ++ gcells g' ps'
  | [], [], _, _, _ => rfl
  | [], _ :: _, _, _, h => by cases h
  | _ :: _, [], _, _, h => by cases h
  | x :: g, p :: ps, g', ps', h => by rw [List.cons_append, List.cons_append, gcells, gcells, gcells_append g ps g' ps' (by simpa using h)]; rfl
theorem gcells_at : ∀ (g : List Nd) (ps : List (Option Addr × Nat)) (_ : ps.length = g.length) (i : Nat) (hi : i < g.length) (hi' : i < ps.length),
    (gcells g ps)[i * 2]? = some (.string g[i].name) ∧ (gcells g ps)[i * 2 + 1]? = some (.slice ps[i].1 g[i].pars.length ps[i].2)
  | [], _, _, i, hi, _ => by cases hi
  | _ :: _, [], h, _, _, _ => by cases h
  | x :: g, p :: ps, h, 0, _, _ => ⟨rfl, rfl⟩
  | x :: g, p :: ps, h, i + 1, hi, hi' => by
    have := gcells_at g ps (by simpa using h) i (by simpa using hi) (by simpa using hi')
    rw [gcells, show (i + 1) * 2 = i * 2 + 1 + 1 by omega]
    simpa using this

/-- At address a the document's graph can be read. -/
def GR (w : World) (a : Option Addr) (g : List Nd) : Prop :=
  ∃ ps : List (Option Addr × Nat), ps.length = g.length ∧ Sl w a (gcells g ps) ∧ ∀ (i : Nat) (hi : i < g.length) (hi' : i < ps.length), Sl w ps[i].1 (trow g[i].pars)
theorem GR.nil (w : World) (a : Option Addr) : GR w a [] := ⟨[], rfl, .nil _ _, fun _ h => (nomatch h)⟩
theorem GR.below {w w' : World} {a : Option Addr} {g : List Nd} (h : GR w a g) (hb : Below w.heap.size w w') : GR w' a g := by
  obtain ⟨ps, h1, h2, h3⟩ := h
  exact ⟨ps, h1, h2.below hb, fun i hi hi' => (h3 i hi hi').below hb⟩
theorem GR.at {w : World} {a : Option Addr} {g : List Nd} (h : GR w a g) {i : Nat} (hi : i < g.length) :
    ∃ b o pa pc, a = some ⟨b, o, none⟩ ∧ b < w.heap.size ∧ w.cell? ⟨b, o + i * 2, none⟩ = some (.string g[i].name) ∧ w.cell? ⟨b, o + i * 2 + 1, none⟩ = some (.slice pa g[i].pars.length pc) ∧ Sl w pa (trow g[i].pars) := by
  obtain ⟨ps, h1, h2, h3⟩ := h
  obtain ⟨r1, r2⟩ := gcells_at g ps h1 i hi (by omega)
  rcases h2 with h2 | ⟨b, o, e, hb, hc⟩
  · have := gcells_len g ps h1
    rw [h2] at this
    simp at this
    omega
  · refine ⟨b, o, (ps[i]'(by omega)).1, (ps[i]'(by omega)).2, e, hb, hc _ _ r1, ?_, h3 i hi (by omega)⟩
    have := hc _ _ r2
    rwa [← Nat.add_assoc] at this

theorem find_drop (g : List Nd) (s : ByteArray) (j : Nat) (hj : j < g.length) : DagS.find (g.drop j) s = if g[j].name = s then some 0 else (DagS.find (g.drop (j + 1)) s).map (· + 1) := by
  rw [List.drop_eq_getElem_cons hj, DagS.find]

set_option maxRecDepth 100000 in
theorem find_c {w : World} {a : Option Addr} {c : Nat} {g : List Nd} (h : GR w a g) (hl : g.length ≤ 100000000) (s : ByteArray) :
    Calls Try.prog 11 #[.slice a g.length c, .string s] w fun e w' => e = .returned (.int .i64 (nix (DagS.find g s))) ∧ w' = w := by
  go_enter Try.func11, Try.ntmps11
  go_wp2_with fail
  go_loop [5] (fun iv => ∃ j : Nat, j ≤ g.length ∧ iv = .int .i64 j ∧ Hid (DagS.find g s = (DagS.find (g.drop j) s).map (· + j))) (fun iv => (g.length - intOf iv).toNat)
  case atStart => exact ⟨0, Nat.zero_le _, rfl, by show _ = _; rw [List.drop_zero]; cases DagS.find g s <;> rfl⟩
  case round =>
    obtain ⟨j, hj, rfl, hf⟩ := hrel
    by_cases hjl : j < g.length
    · have hd : decide ((j : Int) < (g.length : Int)) = true := decide_eq_true (by omega)
      obtain ⟨b, o, pa, pc, rfl, hbl, q0, -, -⟩ := h.at hjl
      have hw : IntKind.i64.wrap ((j : Int) + 1) = ((j + 1 : Nat) : Int) := IntWalk.i64_in _ (by omega)
      have HD := Lib.hid (find_drop g s j hjl)
      have hji : (j : Int) < g.length := by omega
      have hj0 : (0 : Int) ≤ j := by omega
      generalize g[j] = pr at *
      by_cases he : pr.name = s
      · subst he
        have HR : Hid (DagS.find g pr.name = some j) := by show _ = _; rw [hf.out, HD.out, if_pos rfl]; simp
        go_wp2_with fail
        go_ret
        exact ⟨ret_i64 (by rw [HR.out]; rfl), rfl⟩
      · have hne := str_eqb he
        have HR : Hid (DagS.find g s = (DagS.find (g.drop (j + 1)) s).map (· + (j + 1))) := by
          show _ = _; rw [hf.out, HD.out, if_neg he, Option.map_map]; congr 1; funext x; simp; omega
        go_wp2_with fail
        go_round
        case rel => exact ⟨j + 1, by omega, by first | rfl | go_num, HR⟩
        case measure => simp [intOf]; omega
    · have hd : decide ((j : Int) < (g.length : Int)) = false := decide_eq_false (by omega)
      have HR : Hid (DagS.find g s = none) := by show _ = _; rw [hf.out, List.drop_eq_nil_of_le (by omega)]; rfl
      go_wp2_with fail
      go_ret
      exact ⟨ret_i64 (by rw [HR.out]; rfl), rfl⟩

set_option maxRecDepth 100000 in
theorem in_c {w : World} {a : Option Addr} {c : Nat} {l : List ByteArray} (h : Sl w a (trow l)) (hl : l.length ≤ 100000000) (s : ByteArray) :
    Calls Try.prog 44 #[.slice a l.length c, .string s] w fun e w' => e = .returned (.bool (decide (s ∈ l))) ∧ w' = w := by
  go_enter Try.func44, Try.ntmps44
  go_wp2_with fail
  go_loop [5] (fun iv => ∃ j : Nat, j ≤ l.length ∧ iv = .int .i64 j ∧ Hid (s ∈ l ↔ s ∈ l.drop j)) (fun iv => (l.length - intOf iv).toNat)
  case atStart => exact ⟨0, Nat.zero_le _, rfl, by show _ ↔ _; rw [List.drop_zero]⟩
  case round =>
    obtain ⟨j, hj, rfl, hf⟩ := hrel
    by_cases hjl : j < l.length
    · have hd : decide ((j : Int) < (l.length : Int)) = true := decide_eq_true (by omega)
      obtain ⟨b, o, rfl, hbl, hcel⟩ := h.at (k := j) (by rw [trow_len]; exact hjl)
      have q0 := hcel j (by rw [trow_len]; exact hjl)
      rw [trow_at] at q0
      have hw : IntKind.i64.wrap ((j : Int) + 1) = ((j + 1 : Nat) : Int) := IntWalk.i64_in _ (by omega)
      have HD := Lib.hid (List.drop_eq_getElem_cons hjl)
      have hji : (j : Int) < l.length := by omega
      have hj0 : (0 : Int) ≤ j := by omega
      clear hcel
      generalize l[j] = x at *
      by_cases he : x = s
      · subst he
        have HR : Hid (decide (x ∈ l) = true) := by show _ = _; rw [decide_eq_true_iff, hf.out, HD.out]; exact .head _
        go_wp2_with fail
        go_ret
        exact ⟨by rw [HR.out]; rfl, rfl⟩
      · have hne := str_eqb he
        have HR : Hid (s ∈ l ↔ s ∈ l.drop (j + 1)) := by
          show _ ↔ _; rw [hf.out, HD.out, List.mem_cons]; exact ⟨fun h => h.resolve_left fun e => he e.symm, .inr⟩
        go_wp2_with fail
        go_round
        case rel => exact ⟨j + 1, by omega, by first | rfl | go_num, HR⟩
        case measure => simp [intOf]; omega
    · have hd : decide ((j : Int) < (l.length : Int)) = false := decide_eq_false (by omega)
      have HR : Hid (decide (s ∈ l) = false) := by show _ = _; rw [decide_eq_false_iff_not, hf.out, List.drop_eq_nil_of_le (by omega)]; exact fun h => (nomatch h)
      go_wp2_with fail
      go_ret
      exact ⟨by rw [HR.out]; rfl, rfl⟩
end Go.Proofs.Ytoeoablmcelohaa
