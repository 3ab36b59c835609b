/- Texts of mine, joined: Walks over the document's answer: a change of names. -/
import Derived.Test.YtfoamcobpfflbaaDoorZ39
namespace Go.Proofs.YtfoamcobpfflbaaDoor
open Go Go.RowKit
open VfsS (File Chg Nm St find doL)

/-- Changes as cells. -/
def chrow (l : List Chg) : List Value := l.flatMap fun a => [.string a.src, .string a.dst, .int .i64 (fileI a.file)]

theorem chrow_len (l : List Chg) : (chrow l).length = l.length * 3 := by
  induction l with
  | nil => rfl
  | cons a l ih => rw [chrow, List.flatMap_cons, List.length_append, show (l.flatMap _).length = l.length * 3 from ih]; simp; omega

theorem chrow_append (l m : List Chg) : chrow (l ++ m) = chrow l ++ chrow m := by unfold chrow; rw [List.flatMap_append]

theorem chrow_drop (l : List Chg) (j : Nat) : (chrow l).drop (j * 3) = chrow (l.drop j) := by
  by_cases hj : j ≤ l.length
  · conv => lhs; rw [← List.take_append_drop j l, chrow_append]
    have hl : (chrow (l.take j)).length = j * 3 := by rw [chrow_len, List.length_take]; congr 1; omega
    rw [← hl, List.drop_left]
  · rw [List.drop_eq_nil_of_le (by rw [chrow_len]; omega), List.drop_eq_nil_of_le (by omega)]; rfl

theorem chrow_at (l : List Chg) (j : Nat) (hj : j < l.length) : (chrow l)[j * 3]? = some (.string l[j].src) ∧ (chrow l)[j * 3 + 1]? = some (.string l[j].dst) ∧ (chrow l)[j * 3 + 2]? = some (.int .i64 (fileI l[j].file)) := by
  have h : (chrow l).drop (j * 3) = [.string l[j].src, .string l[j].dst, .int .i64 (fileI l[j].file)] ++ chrow (l.drop (j + 1)) := by
    rw [chrow_drop, List.drop_eq_getElem_cons hj]; rfl
  have g : ∀ i, (chrow l)[j * 3 + i]? = ([.string l[j].src, .string l[j].dst, .int .i64 (fileI l[j].file)] ++ chrow (l.drop (j + 1)))[i]? := fun i => by rw [← h, List.getElem?_drop]
  exact ⟨by simpa using g 0, by simpa using g 1, by simpa using g 2⟩

theorem one_chgs (l : List Chg) : ∀ u ∈ chrow l, u.oneCell' = true := fun u hu => by
  obtain ⟨p, _, hp⟩ := List.mem_flatMap.1 hu
  simp at hp
  rcases hp with rfl | rfl | rfl <;> rfl

theorem chgElem : Elem Tryd.prog 34 122 (.agg #[.string ByteArray.empty, .string ByteArray.empty, .int .i64 0]) 3 40 := ⟨by kernel_rfl, by kernel_rfl⟩

set_option maxRecDepth 100000 in
set_option maxHeartbeats 1000000 in
theorem rchange_c {w : World} {S : St} {fa na sa aa : Option Addr} {fn fc nc sn sc ac : Nat} (hn : OwnG w 152 2 (.slice na S.now.length nc) S.now.length (nrow S.now)) (ha : OwnG w 122 3 (.slice aa S.acts.length ac) S.acts.length (chrow S.acts))
    (hnl : S.now.length ≤ 90000000) (hal : S.acts.length ≤ 90000000) (room steps limit : Int) (ch : Chg) (hfi : ∀ i, ch.file = some i → i ≤ 100000000) :
    Calls Tryd.prog 61 #[RVv fa fn fc na S.now.length nc sa sn sc aa S.acts.length ac room steps limit, .agg #[.string ch.src, .string ch.dst, .int .i64 (fileI ch.file)]] w fun e w' =>
      ∃ ga gc ba bc, e = .returned (RVv fa fn fc ga (doL S.now ch).length gc sa sn sc ba (S.acts.length + 1) bc room steps limit) ∧ OwnG w' 152 2 (.slice ga (doL S.now ch).length gc) (doL S.now ch).length (nrow (doL S.now ch)) ∧ OwnG w' 122 3 (.slice ba (S.acts.length + 1) bc) (S.acts.length + 1) (chrow (S.acts ++ [ch])) ∧
        (∀ k, (Value.slice ga (doL S.now ch).length gc).ownBlock = some k → (Value.slice na S.now.length nc).ownBlock = some k ∨ w.heap.size ≤ k) ∧ (∀ k, (Value.slice ba (S.acts.length + 1) bc).ownBlock = some k → w.heap.size ≤ k) ∧ Below w.heap.size w w' := by
  unfold RVv
  go_enter Tryd.func61, Tryd.ntmps61
  go_upto_region 1 with fail
  obtain ⟨hB1, hB2, hB3, hbW, hsz⟩ := alloc3 w (.cells #[.slice fa fn fc, .slice na S.now.length nc, .slice sa sn sc, .slice aa S.acts.length ac, .int .i64 room, .int .i64 steps, .int .i64 limit] 36) (.cells #[.string ch.src, .string ch.dst, .int .i64 (fileI ch.file)] 122) (.cells #[.slice none 0 0, .slice none 0 0, .slice none 0 0, .slice none 0 0, .int .i64 0, .int .i64 0, .int .i64 0] 36)
  generalize hW : ((w.alloc (.cells #[.slice fa fn fc, .slice na S.now.length nc, .slice sa sn sc, .slice aa S.acts.length ac, .int .i64 room, .int .i64 steps, .int .i64 limit] 36)).alloc (.cells #[.string ch.src, .string ch.dst, .int .i64 (fileI ch.file)] 122)).alloc (.cells #[.slice none 0 0, .slice none 0 0, .slice none 0 0, .slice none 0 0, .int .i64 0, .int .i64 0, .int .i64 0] 36) = W at *
  clear hW
  have HSZ := Lib.hid hsz
  clear hsz
  have l1 := (Array.getElem?_eq_some_iff.1 hB1).1
  have l2 := (Array.getElem?_eq_some_iff.1 hB2).1
  have l3 := (Array.getElem?_eq_some_iff.1 hB3).1
  have c1 : W.cell? ⟨w.heap.size, 1, none⟩ = some (.slice na S.now.length nc) := by rw [cell_of hB1]; rfl
  have HDO := Lib.hid (rdo_c (hn.below hbW) hnl ch hfi)
  go_upto_region 2 with (first
    | (refine wp_loadB rfl 122 _ rfl (w.heap.size + 1) rfl hB2 _ Tryd.underlying122 rfl (by kernel_rfl) ?_)
    | (go_at_call 87; refine HDO.out.mono ?_; rintro e w1 ⟨v1, rfl, ho1, hk1, hb1⟩; obtain ⟨ga, gc, rfl, hgc, hgm, hgs⟩ := ho1.form; have D1 := (hb1.block _ l1).trans hB1; have c1' : w1.cell? ⟨w.heap.size, 1, none⟩ = some (.slice na S.now.length nc) := (by rw [cell_of D1]; rfl); have z1 := frozen_of D1 1))
  obtain ⟨s2, g2⟩ := set_block D1 1 (.slice ga (doL S.now ch).length gc)
  have kb2 : ∀ k o, W.heap[k]? = some o → k ≠ w.heap.size → (w1.setCell ⟨w.heap.size, 1, none⟩ (.slice ga (doL S.now ch).length gc)).heap[k]? = some o := fun k o h hk => by
    have hlt := (Array.getElem?_eq_some_iff.1 h).1
    have h1 := (hb1.block k hlt).trans h
    exact (g2.block k (Array.getElem?_eq_some_iff.1 h1).1 (by intro e; injection e with e; exact hk e)).trans h1
  have E2 := kb2 _ _ hB2 (by omega)
  have E3 := kb2 _ _ hB3 (by omega)
  have E1 : (w1.setCell ⟨w.heap.size, 1, none⟩ (.slice ga (doL S.now ch).length gc)).heap[w.heap.size]? = some (.cells #[.slice fa fn fc, .slice ga (doL S.now ch).length gc, .slice sa sn sc, .slice aa S.acts.length ac, .int .i64 room, .int .i64 steps, .int .i64 limit] 36 (0, 0)) := by simpa using s2
  have hb2 : Below w.heap.size w (w1.setCell ⟨w.heap.size, 1, none⟩ (.slice ga (doL S.now ch).length gc)) := (hbW.trans (hb1.mono hbW.size)).grown g2 (by have := hbW.size; have := hb1.size; omega) (fun k e => by injection e with e; omega)
  have ha2 := ha.below hb2
  have ho2 := ho1.kept g2 (by
    cases hk : (Value.slice ga (doL S.now ch).length gc).ownBlock with
    | none => exact .inl rfl
    | some k =>
      right; intro e; injection e with e; subst e
      obtain ⟨cur, hc⟩ := ho1.tag hk
      rw [D1] at hc; injection hc with hc; injection hc with _ hc _; exact absurd hc (by decide))
  generalize w1.setCell ⟨w.heap.size, 1, none⟩ (.slice ga (doL S.now ch).length gc) = w2 at *
  have m1 := (Array.getElem?_eq_some_iff.1 E1).1
  have m2 := (Array.getElem?_eq_some_iff.1 E2).1
  have m3 := (Array.getElem?_eq_some_iff.1 E3).1
  have hbA : Below w2.heap.size w2 (w2.alloc (.cells #[] 122)) := (Below.refl _ w2).alloc (Nat.le_refl _) _
  have c3 : (w2.alloc (.cells #[] 122)).cell? ⟨w.heap.size, 3, none⟩ = some (.slice aa S.acts.length ac) := by rw [cell_of ((hbA.block _ m1).trans E1)]; rfl
  have hs1 := src_ownG (P := Tryd.prog) (tx := 34) Tryd.underlying34 (ha2.alloc (.cells #[] 122)) (one_chgs _)
  have hmx : 0 + S.acts.length ≤ maxLen := by rw [show maxLen = 9223372036854775807 from rfl]; omega
  have hby : (0 + S.acts.length) * 40 ≤ 140737488355328 := by omega
  go_upto_region 3 with (at_builtin; refine wp_appG rfl _ _ _ _ rfl chgElem rfl rfl (OwnG.empty _ _ _) rfl hs1 hmx hby ?_; intro v3 w3 hp3 hg3 hv3)
  have kb3 : ∀ k o, w2.heap[k]? = some o → w3.heap[k]? = some o := fun k o h => by
    have hk := (Array.getElem?_eq_some_iff.1 h).1
    exact (hg3.block k (by simp; omega) (fun e => by have e : some k = some w2.heap.size := e; injection e with e; omega)).trans ((hbA.block k hk).trans h)
  have F1 := kb3 _ _ E1
  have F2 := kb3 _ _ E2
  have F3 := kb3 _ _ E3
  have hb3 : Below w2.heap.size w2 w3 := hbA.grown hg3 (by simp) (fun k e => by have e : some w2.heap.size = some k := e; injection e with e; omega)
  have hv3' : ∀ k, v3.ownBlock = some k → w2.heap.size ≤ k := fun k hk => by
    rcases hv3 k hk with e | e
    · have e : some w2.heap.size = some k := e; injection e with e; omega
    · simp at e; omega
  have ho3 := ho2.below hb3
  clear hs1 hmx hby c3 hg3 hv3 hbA
  have hsn := Src.ofNew (P := Tryd.prog) (w := w3) (tx := 34) (e := 122) Tryd.underlying34 (show [Value.string ch.src, Value.string ch.dst, Value.int .i64 (fileI ch.file)].length = 3 from rfl) (by intro u hu; simp at hu; rcases hu with rfl | rfl | rfl <;> rfl)
  have hmx2 : 0 + S.acts.length + 1 ≤ maxLen := by rw [show maxLen = 9223372036854775807 from rfl]; omega
  have hby2 : (0 + S.acts.length + 1) * 40 ≤ 140737488355328 := by omega
  go_upto_region 4 with (first
    | (refine wp_loadB rfl 122 _ rfl (w.heap.size + 1) rfl F2 _ Tryd.underlying122 rfl (by kernel_rfl) ?_)
    | (at_builtin; refine wp_appG rfl _ _ _ _ rfl chgElem rfl rfl (hp3.alloc _) rfl hsn hmx2 hby2 ?_; intro v4 w4 hp4 hg4 hv4; obtain ⟨ba, bc, rfl, hbc, hbm, hbs⟩ := hp4.form; have kb4 : ∀ k o, w3.heap[k]? = some o → k < w2.heap.size → w4.heap[k]? = some o := (fun k o h hk2 => by have hk := (Array.getElem?_eq_some_iff.1 h).1; exact (hg4.block k (by simp; omega) (fun e => by have := hv3' k e.symm; omega)).trans (((World.grownBy_alloc w3 (.cells #[.string ch.src, .string ch.dst, .int .i64 (fileI ch.file)] 122) none).block k hk (by simp)).trans h)); have G1 := kb4 _ _ F1 m1; have G3 := kb4 _ _ F3 m3; have c4 : w4.cell? ⟨w.heap.size, 3, none⟩ = some (.slice aa S.acts.length ac) := (by rw [cell_of G1]; rfl); have z4 := frozen_of G1 3))
  rw [Nat.zero_add] at hp4 hv4
  have hv4' : ∀ k, (Value.slice ba (S.acts.length + 1) bc).ownBlock = some k → w2.heap.size ≤ k := fun k hk => by
    rcases hv4 k (by simpa using hk) with e | e
    · exact hv3' k e
    · have := hb3.size; simp at e; omega
  have hb4 : Below w2.heap.size w2 w4 := (hb3.alloc hb3.size _).grown hg4 (by have := hb3.size; simp; omega) hv3'
  obtain ⟨s5, g5⟩ := set_block G1 3 (.slice ba (S.acts.length + 1) bc)
  have s5' : (w4.setCell ⟨w.heap.size, 3, none⟩ (.slice ba (S.acts.length + 1) bc)).heap[w.heap.size]? = some (.cells #[Value.slice fa fn fc, .slice ga (doL S.now ch).length gc, .slice sa sn sc, .slice ba (S.acts.length + 1) bc, .int .i64 room, .int .i64 steps, .int .i64 limit] 36 (0, 0)) := by simpa using s5
  have B5 := (g5.block _ (Array.getElem?_eq_some_iff.1 G3).1 (by intro e; injection e with e; omega)).trans G3
  have hb5 : Below w.heap.size w (w4.setCell ⟨w.heap.size, 3, none⟩ (.slice ba (S.acts.length + 1) bc)) := (hb2.trans (hb4.mono hb2.size)).grown g5 (by have := hb2.size; have := hb4.size; omega) (fun k e => by injection e with e; omega)
  have hn5 := (ho2.below hb4).kept g5 (by
    cases hk : (Value.slice ga (doL S.now ch).length gc).ownBlock with
    | none => exact .inl rfl
    | some k =>
      right; intro e; injection e with e; subst e
      obtain ⟨cur, hc⟩ := ho2.tag hk
      rw [E1] at hc; injection hc with hc; injection hc with _ hc _; exact absurd hc (by decide))
  have hp5 := hp4.kept g5 (by
    cases hk : (Value.slice ba (S.acts.length + 1) bc).ownBlock with
    | none => exact .inl rfl
    | some k =>
      right; intro e; injection e with e; have := hv4' _ hk; omega)
  generalize w4.setCell ⟨w.heap.size, 3, none⟩ (.slice ba (S.acts.length + 1) bc) = w5 at *
  have hone : (#[Value.slice fa fn fc, .slice ga (doL S.now ch).length gc, .slice sa sn sc, .slice ba (S.acts.length + 1) bc, .int .i64 room, .int .i64 steps, .int .i64 limit] : Array Value).all (·.oneCell') = true := by simp [Value.oneCell']
  go_wp2_with (first
    | (refine wp_loadB rfl 36 _ rfl w.heap.size rfl s5' _ Tryd.underlying36 rfl (by kernel_rfl) ?_)
    | (refine wp_storeB rfl 36 _ _ rfl (w.heap.size + 1 + 1) #[Value.slice fa fn fc, .slice ga (doL S.now ch).length gc, .slice sa sn sc, .slice ba (S.acts.length + 1) bc, .int .i64 room, .int .i64 steps, .int .i64 limit] rfl rfl B5 rfl (by kernel_rfl) hone ?_; intro w6 h6 g6; have r0 : w6.cell? ⟨w.heap.size + 1 + 1, 0, none⟩ = some (Value.slice fa fn fc) := (by rw [cell_of h6]; rfl); have r1 : w6.cell? ⟨w.heap.size + 1 + 1, 1, none⟩ = some (.slice ga (doL S.now ch).length gc) := (by rw [cell_of h6]; rfl); have r2 : w6.cell? ⟨w.heap.size + 1 + 1, 2, none⟩ = some (.slice sa sn sc) := (by rw [cell_of h6]; rfl); have r3 : w6.cell? ⟨w.heap.size + 1 + 1, 3, none⟩ = some (.slice ba (S.acts.length + 1) bc) := (by rw [cell_of h6]; rfl); have r4 : w6.cell? ⟨w.heap.size + 1 + 1, 4, none⟩ = some (.int .i64 room) := (by rw [cell_of h6]; rfl); have r5 : w6.cell? ⟨w.heap.size + 1 + 1, 5, none⟩ = some (.int .i64 steps) := (by rw [cell_of h6]; rfl); have r6 : w6.cell? ⟨w.heap.size + 1 + 1, 6, none⟩ = some (.int .i64 limit) := (by rw [cell_of h6]; rfl)))
  (try simp only [Exit.inBlock, Exit.then])
  refine bodyPost_ret (by simp [results, Tryd.results61, go_sem, r0, r1, r2, r3, r4, r5, r6]; try rfl) rfl ?_
  refine ⟨ga, gc, ba, bc, rfl, hn5.kept g6 ?_, ?_, fun k hk => ?_, fun k hk => ?_, hb5.grown g6 (by have := hb5.size; omega) (fun k e => by injection e with e; omega)⟩
  · cases hk : (Value.slice ga (doL S.now ch).length gc).ownBlock with
    | none => exact .inl rfl
    | some k =>
      right; intro e; injection e with e; subst e
      obtain ⟨cur, hc⟩ := hn5.tag hk
      rw [B5] at hc; injection hc with hc; injection hc with _ hc _; exact absurd hc (by decide)
  · rw [chrow_append]
    refine hp5.kept g6 ?_
    cases hk : (Value.slice ba (S.acts.length + 1) bc).ownBlock with
    | none => exact .inl rfl
    | some k =>
      right; intro e; injection e with e; have := hv4' _ hk; omega
  · rcases hk1 k hk with e | e
    · exact .inl e
    · right; have := hbW.size; omega
  · have := hv4' k hk; have := hb2.size; omega
end Go.Proofs.YtfoamcobpfflbaaDoor
