/- Texts of mine, joined: Walk: the program's SHA-256. -/
import Derived.Test.YtfoamcobpfflbaaDoorZ12
namespace Go.Proofs.YtfoamcobpfflbaaDoor
open Go Go.RowKit

theorem nb_append (l m : List Nat) : nb (l ++ m) = nb l ++ nb m := by simp [nb]
theorem nb_drop (l : List Nat) (n : Nat) : (nb l).drop n = nb (l.drop n) := by simp [nb, List.map_drop]
theorem nb_one (l : List Nat) : ∀ u ∈ nb l, u.oneCell' = true := fun u hu => by obtain ⟨x, -, rfl⟩ := List.mem_map.1 hu; rfl

theorem src_nb {w : World} {a : Option Addr} {c : Nat} {l : List Nat} (h : Sl w a (nb l)) : Src Tryd.prog 1 43 (.slice a l.length c) l.length (nb l) w := by
  rcases h with e | ⟨g, o, rfl, _, hc⟩
  · have e2 : l.length = 0 := by rw [← nb_len l, e]; rfl
    rw [e, e2]
    cases a with
    | none => exact Src.ofNil w Tryd.underlying43 c
    | some ad => exact Src.ofSlice w Tryd.underlying43 ad 0 c [] (by simp) (fun j u hu => by cases hu) (fun u hu => by cases hu)
  · exact Src.ofSlice w Tryd.underlying43 _ l.length c (nb l) (by rw [nb_len, Nat.mul_one]) (fun j u hu => by rw [Addr.add_lit]; exact hc j u hu) (nb_one l)

/-- A slice's length. -/
def slLen : Value → Nat
  | .slice _ n _ => n
  | _ => 0

/-- A sum under way: k blocks of T's are in the state; the rest lies in the row v. -/
structure SM (w wx : World) (b3 : Nat) (v : Value) (T R : List Nat) (k : Nat) : Prop where
  b : Below w.heap.size w wx
  s : ∃ h cs, ArrF wx b3 145 .u32 8 cs h ∧ Sha.Upto T k R h
  r : OwnG wx 5 1 v R.length (nb R)
  lo : w.heap.size ≤ b3
  new : ∀ k, v.ownBlock = some k → w.heap.size ≤ k
  bt : ∀ x ∈ T, x < 256

theorem SM.ne {w wx : World} {b3 k : Nat} {v : Value} {T R : List Nat} (h : SM w wx b3 v T R k) : v.ownBlock ≠ some b3 := fun e => by
  obtain ⟨f, cs, ha, -⟩ := h.s
  obtain ⟨cur, hc⟩ := h.r.tag e
  rw [ha.h] at hc; injection hc with hc; injection hc with _ hc _; exact absurd hc (by decide)

theorem SM.rb {w wx : World} {b3 k : Nat} {v : Value} {T R : List Nat} (h : SM w wx b3 v T R k) : ∀ x ∈ R, x < 256 := fun x hx => by
  obtain ⟨f, cs, -, hu⟩ := h.s
  rw [hu.r] at hx
  exact h.bt x (List.mem_of_mem_drop hx)

/-- Bytes more. -/
theorem SM.app {w wx w' : World} {b3 k : Nat} {v v' : Value} {T R X : List Nat} (h : SM w wx b3 v T R k) (hX : ∀ x ∈ X, x < 256) (ho : OwnG w' 5 1 v' (R.length + X.length) (nb R ++ nb X)) (hg : wx.grownBy w' v.ownBlock) (hv : ∀ k, v'.ownBlock = some k → v.ownBlock = some k ∨ wx.heap.size ≤ k) : SM w w' b3 v' (T ++ X) (R ++ X) k := by
  obtain ⟨f, cs, ha, hu⟩ := h.s
  have hbz := h.b.size
  refine ⟨h.b.grown hg h.b.size (fun k e => h.new k e), ⟨f, cs, ha.kept hg (fun e => h.ne e.symm), hu.app X⟩, by rw [List.length_append, nb_append]; exact ho, h.lo, fun k hk => (hv k hk).elim (h.new k) (fun h => by omega), fun x hx => (List.mem_append.1 hx).elim (h.bt x) (hX x)⟩

theorem SM.alloc {w wx : World} {b3 k : Nat} {v : Value} {T R : List Nat} (h : SM w wx b3 v T R k) (o : Obj) : SM w (wx.alloc o) b3 v T R k := by
  obtain ⟨f, cs, ha, hu⟩ := h.s
  have hb : Below wx.heap.size wx (wx.alloc o) := (Below.refl _ wx).alloc (Nat.le_refl _) o
  exact ⟨h.b.trans (hb.mono h.b.size), ⟨f, cs, ha.below hb, hu⟩, h.r.alloc o, h.lo, h.new, h.bt⟩
theorem SM.drewN {w wx : World} {b3 k : Nat} {v : Value} {T R : List Nat} (h : SM w wx b3 v T R k) (q : Nat) : SM w (wx.drewN q) b3 v T R k := by
  obtain ⟨f, cs, ha, hu⟩ := h.s
  exact ⟨below_dN h.b q, ⟨f, cs, ⟨ha.h, ha.sz, ha.at_⟩, hu⟩, h.r, h.lo, h.new, h.bt⟩

/-- A block is taken in, then the row is cut. -/
theorem SM.blk {w wx : World} {b3 k : Nat} {a : Option Addr} {c : Nat} {T R : List Nat} (h : SM w wx b3 (.slice a R.length c) T R k) (h64 : 64 ≤ R.length) :
    Calls Tryd.prog 78 #[.pointer (some ⟨b3, 0, none⟩), .slice a R.length c] wx fun e w' => e = .returned (.tuple #[]) ∧
      (c = 64 → SM w w' b3 (.slice a (R.length - 64) 0) T (R.drop 64) (k + 1)) ∧ SM w w' b3 (.slice (a.map fun x => x.add 64) (R.length - 64) (c - 64)) T (R.drop 64) (k + 1) := by
  obtain ⟨f, cs, ha, hu⟩ := h.s
  obtain ⟨a', c', e1, hlc, -, hsl⟩ := h.r.form
  cases e1
  refine (block_c ha hu.bd hsl h64 hlc h.rb).mono ?_
  rintro e w' ⟨rfl, ⟨cs', ha'⟩, ho⟩
  have hbz := h.b.size
  have hlo := h.lo
  have hb' : Below w.heap.size w w' := h.b.trans ⟨ho.os, ho.tape, ho.output, ho.size, fun k hk => ho.block k (by omega) (fun e => by have : k = b3 := e; omega)⟩
  have hr' : OwnG w' 5 1 (.slice a R.length c) R.length (nb R) := h.r.block fun k hk => ho.block k (h.r.lt hk) (fun e => h.ne (by rw [hk, show k = b3 from e]))
  have hu' := hu.step h64
  have hl : (R.drop 64).length = R.length - 64 := List.length_drop
  refine ⟨rfl, fun hc => ⟨hb', ⟨_, cs', ha', hu'⟩, ?_, h.lo, fun k hk => h.new k ?_, h.bt⟩, ⟨hb', ⟨_, cs', ha', hu'⟩, ?_, h.lo, fun k hk => h.new k ?_, h.bt⟩⟩
  · have := hr'.rest1 64 h64 hc
    rw [Nat.mul_one, nb_drop] at this
    rw [hl]; exact this
  · cases a with
    | none => cases hk
    | some x => exact hk
  · have := hr'.rest2 64 h64
    rw [Nat.mul_one, nb_drop] at this
    rw [hl]; exact this
  · cases a with
    | none => cases hk
    | some x => exact hk

/-- The id's own block. -/
structure IA (w0 wx : World) (bi : Nat) (F : Nat → Nat) : Prop where
  b : Below w0.heap.size w0 wx
  a : ∃ cs, ArrF wx bi 47 .u8 32 cs F
  lo : w0.heap.size ≤ bi
theorem IA.c {w0 wx : World} {bi : Nat} {F : Nat → Nat} (h : IA w0 wx bi F) (i : Nat) (hi : i < 32) : wx.cell? ⟨bi, i, none⟩ = some (.int .u8 (F i)) := by obtain ⟨cs, h⟩ := h.a; exact h.c i hi
theorem IA.fz {w0 wx : World} {bi : Nat} {F : Nat → Nat} (h : IA w0 wx bi F) (i : Nat) : wx.frozen? ⟨bi, i, none⟩ = false := by obtain ⟨cs, h⟩ := h.a; exact h.fz i
theorem IA.set {w0 wx : World} {bi : Nat} {F G : Nat → Nat} (h : IA w0 wx bi F) (j : Nat) (v : Nat) (e : ∀ i, i < 32 → (if i = j then v else F i) = G i) : IA w0 (wx.setCell ⟨bi, j, none⟩ (.int .u8 v)) bi G := by
  obtain ⟨cs, ha⟩ := h.a
  have hlo := h.lo
  obtain ⟨h1, h2⟩ := ha.set j v
  exact ⟨h.b.grown h2 h.b.size (fun k e => by injection e with e; omega), ⟨_, h1.congr e⟩, h.lo⟩
theorem IA.congr {w0 wx : World} {bi : Nat} {F G : Nat → Nat} (h : IA w0 wx bi F) (e : ∀ i, i < 32 → F i = G i) : IA w0 wx bi G := by
  obtain ⟨cs, ha⟩ := h.a
  exact ⟨h.b, ⟨cs, ha.congr e⟩, h.lo⟩
theorem out_num {f : Nat → Nat} {n c : Nat} (hc : c < 4) : ((f n : Int) / 2 ^ (24 - 8 * c) % 256) = ((Sha.out f (4 * n + c) : Nat) : Int) := by
  unfold Sha.out
  rw [show (4 * n + c) / 4 = n by omega, show (4 * n + c) % 4 = c by omega, show (256 : Nat) ^ (3 - c) = 2 ^ (24 - 8 * c) by rw [show 24 - 8 * c = 8 * (3 - c) by omega, Nat.pow_mul], Int.natCast_emod, Int.natCast_ediv, Int.natCast_pow]
  rfl

/-- The first j parts' bytes. -/
def cat (ps : List (Option Addr × Nat × List Nat)) (j : Nat) : List Nat := (ps.take j).flatMap fun q => q.2.2
theorem cat_zero (ps : List (Option Addr × Nat × List Nat)) : cat ps 0 = [] := rfl
theorem cat_succ (ps : List (Option Addr × Nat × List Nat)) (j : Nat) (h : j < ps.length) : cat ps (j + 1) = cat ps j ++ ps[j].2.2 := by
  unfold cat; rw [List.take_succ_eq_append_getElem h, List.flatMap_append]; simp
theorem cat_all (ps : List (Option Addr × Nat × List Nat)) : cat ps ps.length = ps.flatMap fun q => q.2.2 := by unfold cat; rw [List.take_length]
theorem cat_le (ps : List (Option Addr × Nat × List Nat)) (j : Nat) : (cat ps j).length ≤ (ps.flatMap fun q => q.2.2).length := by
  have h : ps.flatMap (fun q => q.2.2) = cat ps j ++ (ps.drop j).flatMap fun q => q.2.2 := by
    unfold cat; rw [← List.flatMap_append, List.take_append_drop]
  rw [h, List.length_append]; omega

set_option maxRecDepth 100000 in
set_option maxHeartbeats 2000000 in
theorem sum_c {w : World} {pa : Option Addr} {pc : Nat} (ps : List (Option Addr × Nat × List Nat)) (hp : Sl w pa (ps.map fun q => Value.slice q.1 q.2.2.length q.2.1)) (hq : ∀ q ∈ ps, Sl w q.1 (nb q.2.2) ∧ ∀ x ∈ q.2.2, x < 256) (hpl : ps.length ≤ 100000000) (htot : (ps.flatMap fun q => q.2.2).length ≤ 100000000) :
    Calls Tryd.prog 43 #[.slice pa ps.length pc] w fun e w' => e = .returned (.agg (nums .u8 (Sha.sum (ps.flatMap fun q => q.2.2)))) ∧ Below w.heap.size w w' := by
  go_enter Tryd.func43, Tryd.ntmps43
  go_upto_region 1 with fail
  have hid : (w.alloc (.cells #[Value.int .u8 0, Value.int .u8 0, Value.int .u8 0, Value.int .u8 0, Value.int .u8 0, Value.int .u8 0, Value.int .u8 0, Value.int .u8 0, Value.int .u8 0, Value.int .u8 0, Value.int .u8 0, Value.int .u8 0, Value.int .u8 0, Value.int .u8 0, Value.int .u8 0, Value.int .u8 0, Value.int .u8 0, Value.int .u8 0, Value.int .u8 0, Value.int .u8 0, Value.int .u8 0, Value.int .u8 0, Value.int .u8 0, Value.int .u8 0, Value.int .u8 0, Value.int .u8 0, Value.int .u8 0, Value.int .u8 0, Value.int .u8 0, Value.int .u8 0, Value.int .u8 0, Value.int .u8 0] 47)).heap[w.heap.size]? = some (.cells (nums .u8 (List.replicate 32 0)) 47 (0, 0)) := Array.getElem?_push_size
  have hb0 : Below w.heap.size w (w.alloc (.cells #[Value.int .u8 0, Value.int .u8 0, Value.int .u8 0, Value.int .u8 0, Value.int .u8 0, Value.int .u8 0, Value.int .u8 0, Value.int .u8 0, Value.int .u8 0, Value.int .u8 0, Value.int .u8 0, Value.int .u8 0, Value.int .u8 0, Value.int .u8 0, Value.int .u8 0, Value.int .u8 0, Value.int .u8 0, Value.int .u8 0, Value.int .u8 0, Value.int .u8 0, Value.int .u8 0, Value.int .u8 0, Value.int .u8 0, Value.int .u8 0, Value.int .u8 0, Value.int .u8 0, Value.int .u8 0, Value.int .u8 0, Value.int .u8 0, Value.int .u8 0, Value.int .u8 0, Value.int .u8 0] 47)) := (Below.refl _ w).alloc (Nat.le_refl _) _
  have HS0 : Hid ((w.alloc (.cells #[Value.int .u8 0, Value.int .u8 0, Value.int .u8 0, Value.int .u8 0, Value.int .u8 0, Value.int .u8 0, Value.int .u8 0, Value.int .u8 0, Value.int .u8 0, Value.int .u8 0, Value.int .u8 0, Value.int .u8 0, Value.int .u8 0, Value.int .u8 0, Value.int .u8 0, Value.int .u8 0, Value.int .u8 0, Value.int .u8 0, Value.int .u8 0, Value.int .u8 0, Value.int .u8 0, Value.int .u8 0, Value.int .u8 0, Value.int .u8 0, Value.int .u8 0, Value.int .u8 0, Value.int .u8 0, Value.int .u8 0, Value.int .u8 0, Value.int .u8 0, Value.int .u8 0, Value.int .u8 0] 47)).heap.size = w.heap.size + 1) := by show _ = _; simp
  generalize w.alloc (.cells #[Value.int .u8 0, Value.int .u8 0, Value.int .u8 0, Value.int .u8 0, Value.int .u8 0, Value.int .u8 0, Value.int .u8 0, Value.int .u8 0, Value.int .u8 0, Value.int .u8 0, Value.int .u8 0, Value.int .u8 0, Value.int .u8 0, Value.int .u8 0, Value.int .u8 0, Value.int .u8 0, Value.int .u8 0, Value.int .u8 0, Value.int .u8 0, Value.int .u8 0, Value.int .u8 0, Value.int .u8 0, Value.int .u8 0, Value.int .u8 0, Value.int .u8 0, Value.int .u8 0, Value.int .u8 0, Value.int .u8 0, Value.int .u8 0, Value.int .u8 0, Value.int .u8 0, Value.int .u8 0] 47) = w0 at *
  have hB : ∀ cs, (w0.alloc (.cells cs 145)).heap[w0.heap.size]? = some (.cells cs 145 (0, 0)) := fun cs => (Go.MapKept.heap_alloc w0 (.cells cs 145)).1
  go_upto_region 2 with (first
    | (refine wp_storeB rfl 145 _ _ rfl w0.heap.size (nums .u32 Sha.HS) rfl rfl (hB _) (by kernel_rfl) (by kernel_rfl) (by kernel_rfl) ?_; intro w1 h1 g1))
  have hlow : Below w0.heap.size w0 w1 := ((Below.refl _ w0).alloc (Nat.le_refl _) _).grown g1 (by simp) (fun k e => by injection e; omega)
  have hM : SM w0 w1 w0.heap.size (.slice none 0 0) [] [] 0 := ⟨hlow, ⟨_, _, arr_nums Sha.HS h1, Sha.Upto.zero []⟩, OwnG.nil _ _ _, Nat.le_refl _, (fun k hk => by cases hk), (fun x hx => by cases hx)⟩
  have hp0 := hp.below hb0
  have hq0 : ∀ q ∈ ps, Sl w0 q.1 (nb q.2.2) ∧ ∀ x ∈ q.2.2, x < 256 := fun q h => ⟨(hq q h).1.below hb0, (hq q h).2⟩
  have HQ := Lib.hid hq0
  have HB0 := Lib.hid hb0
  have HID := Lib.hid hid
  clear hq hq0 hb0 hid h1 g1 hlow hB hp
  go_upto_region 5 with fail
  go_loopw [4, 5, 16] (fun rv nv iv wx => ∃ (j : Nat) (k : Nat) (R : List Nat), j ≤ ps.length ∧ iv = .int .i64 j ∧ nv = .int .u64 (cat ps j).length ∧ SM w0 wx w0.heap.size rv (cat ps j) R k ∧ R.length < 64) (fun _ _ iv _ => (ps.length - intOf iv).toNat)
  case atStart => exact ⟨0, 0, [], Nat.zero_le _, rfl, rfl, hM, by decide⟩
  case round =>
    clear hM
    obtain ⟨j, k, R, hj, rfl, rfl, hM, hR⟩ := hrel
    by_cases hjl : j < ps.length
    · have hd : decide ((j : Int) < (ps.length : Int)) = true := decide_eq_true (by omega)
      have HC := Lib.hid (cat_succ ps j hjl)
      have hcl := cat_le ps (j + 1)
      obtain ⟨hx1, hx2⟩ := HQ.out _ (List.getElem_mem hjl)
      obtain ⟨pb, po, rfl, hpb, hcel⟩ := (hp0.below hM.b).at (k := j) (by rw [List.length_map]; exact hjl)
      have q0 : wr.cell? ⟨pb, po + j, none⟩ = some (.slice ps[j].1 ps[j].2.2.length ps[j].2.1) := by
        have := hcel j (by rw [List.length_map]; exact hjl)
        rw [this, List.getElem_map]
      have b1 : (0 : Int) ≤ (j : Int) := by omega
      have b2 : (j : Int) < ps.length := by omega
      have hw : IntKind.i64.wrap ((j : Int) + 1) = (j : Int) + 1 := IntWalk.i64_in _ (by omega)
      rw [HC.out, List.length_append] at hcl
      generalize ps[j] = pj at *
      obtain ⟨pad, pcap, pl⟩ := pj
      simp only at hx1 hx2 q0 hcl HC
      have wl1 : IntKind.u64.wrap (pl.length : Int) = (pl.length : Int) := wrap_u64n _ (by omega)
      have wl2 : IntKind.u64.wrap (((cat ps j).length : Int) + (pl.length : Int)) = ((cat ps j).length : Int) + (pl.length : Int) := by rw [← Int.natCast_add]; exact wrap_u64n _ (by omega)
      have hsrc := src_nb (c := pcap) (hx1.below hM.b)
      obtain ⟨ra, rc, rfl, hrc, hrm, -⟩ := hM.r.form
      have HM := Lib.hid hM
      have hMr := hM.r
      clear hM hcel
      go_upto_region 9 with (at_builtin; refine wp_appG rfl _ _ _ _ rfl byteElem rfl rfl hMr rfl hsrc (by simp [maxLen]; omega) (by omega) ?_; intro v2 w2 ho2 hg2 hv2)
      have hM2 := HM.out.app hx2 ho2 hg2 hv2
      have hl2 : (R ++ pl).length = R.length + pl.length := List.length_append
      have hRl : (R ++ pl).length ≤ 100000064 := by omega
      clear hl2 HM hMr ho2 hg2 hv2 hsrc hx1 q0 hR hrc hrm wl1 wl2
      rw [← HC.out] at hM2
      generalize R ++ pl = R0 at *
      go_loopw [4] (fun rv wx => ∃ (k : Nat) (R : List Nat), R.length ≤ 100000064 ∧ SM w0 wx w0.heap.size rv (cat ps (j + 1)) R k) (fun rv _ => slLen rv)
      case atStart => exact ⟨k, R0, hRl, hM2⟩
      case round =>
        clear hM2 hRl
        obtain ⟨k, R, hRl, hM⟩ := hrel
        have hd0 := hd
        clear hd
        obtain ⟨ra, rc, rfl, hrc, hrm, -⟩ := hM.r.form
        by_cases h64 : 64 ≤ R.length
        · have hd : decide ((R.length : Int) ≥ 64) = true := decide_eq_true (by omega)
          have hd' : decide (64 ≤ (R.length : Int)) = true := decide_eq_true (by omega)
          have hB := Lib.hid (hM.blk h64)
          have i1 : (64 : Int) ≤ (R.length : Int) := by omega
          have hl := Lib.hid (List.length_drop (i := 64) (l := R))
          clear hM
          go_upto_region 11 with (go_at_call 78; refine hB.out.mono ?_; rintro e w3 ⟨rfl, hS1, hS2⟩)
          have HS1 := Lib.hid hS1
          have HS2 := Lib.hid hS2
          clear hS1 hS2 hB
          rcases Nat.decEq rc 64 with hne | heq
          · go_wp2_with fail
            go_roundw
            case rel => exact ⟨k + 1, R.drop 64, by rw [hl.out]; omega, HS2.out⟩
            case measure => show R.length - 64 < R.length; omega
          · subst heq
            go_wp2_with fail
            go_roundw
            case rel => exact ⟨k + 1, R.drop 64, by rw [hl.out]; omega, by have := HS1.out rfl; rwa [show R.length - 64 = 0 by omega] at this⟩
            case measure => show 0 < R.length; omega
        · have hd : decide ((R.length : Int) ≥ 64) = false := decide_eq_false (by omega)
          have hd' : decide (64 ≤ (R.length : Int)) = false := decide_eq_false (by omega)
          have hn : ((cat ps j).length : Int) + (pl.length : Int) = ((cat ps (j + 1)).length : Int) := by rw [HC.out, List.length_append]; omega
          have hn := Lib.hid hn
          have HM := Lib.hid hM
          clear hM
          go_wp2_with fail
          go_roundw
          case rel => exact ⟨j + 1, k, R, by omega, by go_num, by rw [hn.out], HM.out, by omega⟩
          case measure => simp [intOf]; omega
    · have hd : decide ((j : Int) < (ps.length : Int)) = false := decide_eq_false (by omega)
      obtain rfl : j = ps.length := by omega
      rw [cat_all] at hM ⊢
      generalize hT : (ps.flatMap fun q => q.2.2) = T at *
      obtain ⟨ra, rc, rfl, hrc, hrm, -⟩ := hM.r.form
      have hM1 := hM.alloc (.cells #[.int .u8 128] 5)
      have hsrc : Src Tryd.prog 1 43 (.slice (some ⟨wr.heap.size, 0, none⟩) 1 1) 1 (nb [128]) (wr.alloc (.cells #[.int .u8 128] 5)) := Src.ofNew (e := 5) (news := nb [128]) Tryd.underlying43 rfl (nb_one _)
      have hMr := hM1.r
      have HM1 := Lib.hid hM1
      have HT := Lib.hid hT
      obtain ⟨f0, cs0, -, hu⟩ := hM.s
      have hRT : Hid (R.length = T.length - 64 * k ∧ 64 * k ≤ T.length) := ⟨hu.len, hu.le⟩
      clear hM hM1 hT hu hp0 HQ hjl hj
      go_upto_region 14 with (at_builtin; refine wp_appG rfl _ _ _ _ rfl byteElem rfl rfl hMr rfl hsrc (by simp [maxLen]; omega) (by omega) ?_; intro v2 w2 ho2 hg2 hv2)
      have hM2 := HM1.out.app (X := [128]) (by simp) ho2 hg2 hv2
      have hl2 : (R ++ [128]).length = R.length + 1 := by simp
      clear HM1 hMr ho2 hg2 hv2 hsrc hrc hrm
      go_loopw [4] (fun rv wx => ∃ (z : Nat) (R' : List Nat), z ≤ (119 - T.length % 64) % 64 ∧ R'.length = R.length + 1 + z ∧ SM w0 wx w0.heap.size rv (T ++ [128] ++ List.replicate z 0) R' k) (fun rv _ => R.length + 65 - slLen rv)
      case atStart => exact ⟨0, R ++ [128], by omega, by rw [hl2], by simpa using hM2⟩
      case round =>
        clear hM2 hl2
        obtain ⟨z, R', hz, hR', hM⟩ := hrel
        have hd0 := hd
        clear hd
        obtain ⟨ra, rc, rfl, hrc, hrm, -⟩ := hM.r.form
        by_cases h56 : z < (119 - T.length % 64) % 64
        · have hm56 : (((R'.length : Int) % 64) != 56) = true := by
            have := hRT.out
            rw [bne_iff_ne]; omega
          have h63 : R'.length + 1 ≤ maxLen := by simp [maxLen]; omega
          have h47 : (R'.length + 1) * 1 ≤ 140737488355328 := by omega
          have hM1 := hM.alloc (.cells #[.int .u8 0] 5)
          have hsrc : Src Tryd.prog 1 43 (.slice (some ⟨wr.heap.size, 0, none⟩) 1 1) 1 (nb [0]) (wr.alloc (.cells #[.int .u8 0] 5)) := Src.ofNew (e := 5) (news := nb [0]) Tryd.underlying43 rfl (nb_one _)
          have hMr := hM1.r
          have HM1 := Lib.hid hM1
          have HR' := Lib.hid hR'
          clear hM hM1 hR' hrm
          go_wp2_with (at_builtin; refine wp_appG rfl _ _ _ _ rfl byteElem rfl rfl hMr rfl hsrc h63 h47 ?_; intro v2 w2 ho2 hg2 hv2; have HM2 := Lib.hid (HM1.out.app (X := [0]) (by simp) ho2 hg2 hv2))
          obtain ⟨rb, rcb, rfl, -, -, -⟩ := HM2.out.r.form
          go_roundw
          case rel => exact ⟨z + 1, R' ++ [0], by omega, by rw [List.length_append, HR'.out]; rfl, by
            have := HM2.out
            rw [List.append_assoc (T ++ [128]), show [0] = List.replicate 1 0 from rfl, List.replicate_append_replicate] at this
            exact this⟩
          case measure =>
            have := HR'.out
            show R.length + 65 - (R' ++ [0]).length < R.length + 65 - R'.length
            rw [List.length_append]; simp; omega
        · have hz2 : z = (119 - T.length % 64) % 64 := by omega
          have hm56 : (((R'.length : Int) % 64) != 56) = false := by
            have := hRT.out
            rw [bne_eq_false_iff_eq]; omega
          subst hz2
          have HR' : Hid (R'.length = R.length + 1 + (119 - T.length % 64) % 64) := hR'
          clear hz h56 hrc hrm hR'
          generalize hT1 : T ++ [128] ++ List.replicate ((119 - T.length % 64) % 64) 0 = T1 at *
          have HT1 := Lib.hid hT1
          clear hT1
          go_upto_region 17 with fail
          have hd1 := hd0
          clear hd0
          go_loopw [4, 8] (fun rv iv wx => ∃ (c : Nat) (i : Int) (R'' : List Nat), c ≤ 8 ∧ i = 56 - 8 * (c : Int) ∧ iv = .int .i64 i ∧ R''.length = R'.length + c ∧ SM w0 wx w0.heap.size rv (T1 ++ (List.range c).map fun i => T.length * 8 / 256 ^ (7 - i) % 256) R'' k) (fun rv _ _ => R'.length + 8 - slLen rv)
          case atStart => exact ⟨0, 56, R', by omega, by omega, rfl, rfl, by simpa using hM⟩
          case round =>
            clear hM
            obtain ⟨c, i, R'', hc, hi, rfl, hRc, hM⟩ := hrel
            obtain ⟨ra, rc, rfl, hrc, hrm, -⟩ := hM.r.form
            by_cases hc8 : c < 8
            · obtain ⟨s, rfl⟩ : ∃ s : Nat, i = s := ⟨56 - 8 * c, by omega⟩
              have hd : decide ((s : Int) ≥ 0) = true := decide_eq_true (by omega)
              have hd' : decide ((0 : Int) ≤ (s : Int)) = true := decide_eq_true (by omega)
              have s0 : (0 : Int) ≤ (s : Int) := by omega
              have s1 : (s : Int) ≤ 64 := by omega
              have hs8 : s = 8 * (7 - c) := by omega
              have hby : ((T.length : Int) * 8 / 2 ^ s % 256) = ((T.length * 8 / 256 ^ (7 - c) % 256 : Nat) : Int) := by
                rw [hs8, show (256 : Nat) ^ (7 - c) = 2 ^ (8 * (7 - c)) by rw [Nat.pow_mul], Int.natCast_emod, Int.natCast_ediv, Int.natCast_pow]
                simp
              have h63 : R''.length + 1 ≤ maxLen := by have := HR'.out; simp [maxLen]; omega
              have h47 : (R''.length + 1) * 1 ≤ 140737488355328 := by have := HR'.out; omega
              have hyl : T.length * 8 / 256 ^ (7 - c) % 256 < 256 := Nat.mod_lt _ (by omega)
              have HY : Hid ((List.range (c + 1)).map (fun i => T.length * 8 / 256 ^ (7 - i) % 256) = (List.range c).map (fun i => T.length * 8 / 256 ^ (7 - i) % 256) ++ [T.length * 8 / 256 ^ (7 - c) % 256]) := by
                show _ = _
                rw [List.range_succ, List.map_append]; rfl
              have HYL := Lib.hid hyl
              have HI := Lib.hid hi
              have HRc := Lib.hid hRc
              generalize T.length * 8 / 256 ^ (7 - c) % 256 = y at *
              have hM1 := hM.alloc (.cells #[.int .u8 y] 5)
              have hsrc : Src Tryd.prog 1 43 (.slice (some ⟨wr.heap.size, 0, none⟩) 1 1) 1 (nb [y]) (wr.alloc (.cells #[.int .u8 y] 5)) := Src.ofNew (e := 5) (news := nb [y]) Tryd.underlying43 rfl (nb_one _)
              have hMr := hM1.r
              have HM1 := Lib.hid hM1
              have hw8 : IntKind.i64.wrap ((s : Int) - 8) = (s : Int) - 8 := IntWalk.i64_in _ (by omega)
              clear hM hM1 hyl hrm hi hRc hs8
              go_wp2_with (at_builtin; refine wp_appG rfl _ _ _ _ rfl byteElem rfl rfl hMr rfl hsrc h63 h47 ?_; intro v2 w2 ho2 hg2 hv2; have HM2 := Lib.hid (HM1.out.app (X := [y]) (by have := HYL.out; simpa using this) ho2 hg2 hv2))
              obtain ⟨rb, rcb, rfl, -, -, -⟩ := HM2.out.r.form
              go_roundw
              case rel => exact ⟨c + 1, (s : Int) - 8, R'' ++ [y], by omega, by have := HI.out; omega, rfl, by rw [List.length_append, HRc.out]; rfl, by
                have := HM2.out
                rw [List.append_assoc, ← HY.out] at this
                exact this⟩
              case measure =>
                have := HRc.out
                show R'.length + 8 - (R'' ++ [y]).length < R'.length + 8 - R''.length
                rw [List.length_append]; simp; omega
            · have hd : decide (i ≥ 0) = false := decide_eq_false (by omega)
              have hd' : decide (0 ≤ i) = false := decide_eq_false (by omega)
              have hc9 : c = 8 := by omega
              subst hc9
              have hP : T1 ++ (List.range 8).map (fun i => T.length * 8 / 256 ^ (7 - i) % 256) = Sha.pad T := by rw [← HT1.out]; rfl
              rw [hP] at hM
              clear hP hRc hc hc8 hi hrc hrm HT1 HR' hm56
              go_upto_region 20 with fail
              have hd2 := hd
              clear hd
              go_loopw [4] (fun rv wx => ∃ (k : Nat) (R : List Nat), R.length ≤ 200000000 ∧ SM w0 wx w0.heap.size rv (Sha.pad T) R k) (fun rv _ => slLen rv)
              case atStart => exact ⟨k, R'', by
                obtain ⟨f, cs, -, hu⟩ := hM.s
                have := hu.len
                have := Sha.pad_len T
                omega, hM⟩
              case round =>
                clear hM
                obtain ⟨k, R, hRl, hM⟩ := hrel
                obtain ⟨ra, rc, rfl, hrc, hrm, -⟩ := hM.r.form
                obtain ⟨f1, cs1, hA1, hu1⟩ := hM.s
                have hul := hu1.len
                have hum := Sha.pad_mod T
                have hule := hu1.le
                by_cases h0 : 0 < R.length
                · have h64 : 64 ≤ R.length := by omega
                  have hd : decide ((R.length : Int) > 0) = true := decide_eq_true (by omega)
                  have hd' : decide (0 < (R.length : Int)) = true := decide_eq_true (by omega)
                  have hB := Lib.hid (hM.blk h64)
                  have i1 : (64 : Int) ≤ (R.length : Int) := by omega
                  have hl := Lib.hid (List.length_drop (i := 64) (l := R))
                  clear hM hA1 hu1 hul hum hule h0
                  go_upto_region 22 with (go_at_call 78; refine hB.out.mono ?_; rintro e w3 ⟨rfl, hS1, hS2⟩)
                  have HS1 := Lib.hid hS1
                  have HS2 := Lib.hid hS2
                  clear hS1 hS2 hB
                  rcases Nat.decEq rc 64 with hne | heq
                  · go_wp2_with fail
                    go_roundw
                    case rel => exact ⟨k + 1, R.drop 64, by rw [hl.out]; omega, HS2.out⟩
                    case measure => show R.length - 64 < R.length; omega
                  · subst heq
                    go_wp2_with fail
                    go_roundw
                    case rel => exact ⟨k + 1, R.drop 64, by rw [hl.out]; omega, by have := HS1.out rfl; rwa [show R.length - 64 = 0 by omega] at this⟩
                    case measure => show 0 < R.length; omega
                · have hd : decide ((R.length : Int) > 0) = false := decide_eq_false (by omega)
                  have hd' : decide (0 < (R.length : Int)) = false := decide_eq_false (by omega)
                  have HSUM := Lib.hid (hu1.last (by omega))
                  have hfb := hu1.bd
                  have hlow := hM.b
                  have hlo := hM.lo
                  have HA1 := Lib.hid hA1
                  have hr0 : R.length = 0 := by omega
                  clear hM hul hum hule hu1 hrc hrm
                  have hI : ((wr.alloc (.cells #[Value.int .u8 0, Value.int .u8 0, Value.int .u8 0, Value.int .u8 0, Value.int .u8 0, Value.int .u8 0, Value.int .u8 0, Value.int .u8 0, Value.int .u8 0, Value.int .u8 0, Value.int .u8 0, Value.int .u8 0, Value.int .u8 0, Value.int .u8 0, Value.int .u8 0, Value.int .u8 0, Value.int .u8 0, Value.int .u8 0, Value.int .u8 0, Value.int .u8 0, Value.int .u8 0, Value.int .u8 0, Value.int .u8 0, Value.int .u8 0, Value.int .u8 0, Value.int .u8 0, Value.int .u8 0, Value.int .u8 0, Value.int .u8 0, Value.int .u8 0, Value.int .u8 0, Value.int .u8 0] 47))).heap[wr.heap.size]? = some (.cells (nums .u8 (List.replicate 32 0)) 47 (0, 0)) := Array.getElem?_push_size
                  have hbI : Below wr.heap.size wr (wr.alloc (.cells #[Value.int .u8 0, Value.int .u8 0, Value.int .u8 0, Value.int .u8 0, Value.int .u8 0, Value.int .u8 0, Value.int .u8 0, Value.int .u8 0, Value.int .u8 0, Value.int .u8 0, Value.int .u8 0, Value.int .u8 0, Value.int .u8 0, Value.int .u8 0, Value.int .u8 0, Value.int .u8 0, Value.int .u8 0, Value.int .u8 0, Value.int .u8 0, Value.int .u8 0, Value.int .u8 0, Value.int .u8 0, Value.int .u8 0, Value.int .u8 0, Value.int .u8 0, Value.int .u8 0, Value.int .u8 0, Value.int .u8 0, Value.int .u8 0, Value.int .u8 0, Value.int .u8 0, Value.int .u8 0] 47)) := (Below.refl _ wr).alloc (Nat.le_refl _) _
                  rw [hr0] at hd hd' h0 ⊢
                  clear hr0 hd hd' h0
                  go_upto_region 24 with fail
                  generalize wr.alloc (.cells #[Value.int .u8 0, Value.int .u8 0, Value.int .u8 0, Value.int .u8 0, Value.int .u8 0, Value.int .u8 0, Value.int .u8 0, Value.int .u8 0, Value.int .u8 0, Value.int .u8 0, Value.int .u8 0, Value.int .u8 0, Value.int .u8 0, Value.int .u8 0, Value.int .u8 0, Value.int .u8 0, Value.int .u8 0, Value.int .u8 0, Value.int .u8 0, Value.int .u8 0, Value.int .u8 0, Value.int .u8 0, Value.int .u8 0, Value.int .u8 0, Value.int .u8 0, Value.int .u8 0, Value.int .u8 0, Value.int .u8 0, Value.int .u8 0, Value.int .u8 0, Value.int .u8 0, Value.int .u8 0] 47) = wi at *
                  have hA2 := HA1.out.below hbI
                  have hAh := hA2.h
                  have hAsz := hA2.sz
                  go_upto_region 25 with (refine wp_loadB rfl 145 _ rfl w0.heap.size rfl hAh _ Tryd.underlying145 rfl (by rw [Array.length_toList, hAsz]; kernel_rfl) ?_)
                  have hIA : IA w0 wi wr.heap.size (fun q => if q < 4 * 0 then Sha.out f1 q else 0) := ⟨hlow.trans (hbI.mono hlow.size), ⟨_, (arr_nums (List.replicate 32 0) hI).congr fun q hq => by
                    rw [if_neg (by omega), List.getD_eq_getElem?_getD, List.getElem?_eq_getElem hq, List.getElem_replicate]; rfl⟩, hlow.size⟩
                  have HAT := Lib.hid hA2.at_
                  generalize wr.heap.size = bi at *
                  clear hI hbI hA2 hAh HA1 hA1
                  go_loopw [66] (fun iv wx => ∃ n : Nat, n ≤ 8 ∧ iv = .int .i64 n ∧ IA w0 wx bi (fun q => if q < 4 * n then Sha.out f1 q else 0)) (fun iv _ => (8 - intOf iv).toNat)
                  case atStart => exact ⟨0, by omega, rfl, hIA⟩
                  case round =>
                    clear hIA
                    obtain ⟨n, hn, rfl, hIA⟩ := hrel
                    by_cases hn8 : n < 8
                    · have hd : decide ((n : Int) < 8) = true := decide_eq_true (by omega)
                      have hix : ∀ W : World, (Instr.index 145 (.agg cs1) (.int .i64 n)).run Tryd.prog W = .ok (.int .u32 (f1 n)) W := run_index_agg Tryd.underlying145 (by kernel_rfl) (fun w => by simp [isAgg, run_underlying Tryd.underlying143]; try rfl) hn8 (HAT.out n hn8)
                      go_upto_region 28 with fail
                      go_loopw [70] (fun iv wx => ∃ c : Nat, c ≤ 4 ∧ iv = .int .i64 c ∧ IA w0 wx bi (fun q => if q < 4 * n + c then Sha.out f1 q else 0)) (fun iv _ => (4 - intOf iv).toNat)
                      case atStart => exact ⟨0, by omega, rfl, hIA⟩
                      case round =>
                        clear hIA
                        obtain ⟨c, hc, rfl, hIA⟩ := hrel
                        by_cases hc4 : c < 4
                        · have hdd : decide ((c : Int) < 4) = true := decide_eq_true (by omega)
                          have w1 : IntKind.i64.wrap (4 * (n : Int)) = 4 * (n : Int) := IntWalk.i64_in _ (by omega)
                          have w2 : IntKind.i64.wrap (4 * (n : Int) + (c : Int)) = ((4 * n + c : Nat) : Int) := by rw [IntWalk.i64_in _ (by omega)]; omega
                          have w3 : IntKind.i64.wrap (8 * (c : Int)) = 8 * (c : Int) := IntWalk.i64_in _ (by omega)
                          have w4 : IntKind.i64.wrap (24 - 8 * (c : Int)) = ((24 - 8 * c : Nat) : Int) := by rw [IntWalk.i64_in _ (by omega)]; omega
                          have w5 : IntKind.i64.wrap ((c : Int) + 1) = (c : Int) + 1 := IntWalk.i64_in _ (by omega)
                          have hby := out_num (f := f1) (n := n) hc4
                          have ci := hIA.c (4 * n + c) (by omega)
                          have fi := hIA.fz (4 * n + c)
                          have sl : 24 - 8 * c ≤ 64 := by omega
                          have il : 4 * n + c < 32 := by omega
                          have HSET : Hid (IA w0 (wr.setCell ⟨bi, 4 * n + c, none⟩ (.int .u8 (Sha.out f1 (4 * n + c)))) bi (fun q => if q < 4 * n + (c + 1) then Sha.out f1 q else 0)) := hIA.set _ _ fun q hq => by
                            by_cases e : q = 4 * n + c
                            · subst e; rw [if_pos rfl, if_pos (by omega)]
                            · rw [if_neg e]
                              by_cases e2 : q < 4 * n + c
                              · rw [if_pos e2, if_pos (by omega)]
                              · rw [if_neg e2, if_neg (by omega)]
                          clear hIA
                          generalize Sha.out f1 (4 * n + c) = y at *
                          go_wp2_with fail
                          go_roundw
                          case rel => exact ⟨c + 1, by omega, by go_num, HSET.out⟩
                          case measure => simp [intOf]; omega
                        · have hdd : decide ((c : Int) < 4) = false := decide_eq_false (by omega)
                          have hw1 : IntKind.i64.wrap ((n : Int) + 1) = (n : Int) + 1 := IntWalk.i64_in _ (by omega)
                          have HI4 : Hid (IA w0 wr bi (fun q => if q < 4 * (n + 1) then Sha.out f1 q else 0)) := hIA.congr fun q _ => by
                            by_cases e : q < 4 * n + c
                            · rw [if_pos e, if_pos (by omega)]
                            · rw [if_neg e, if_neg (by omega)]
                          clear hIA
                          go_wp2_with fail
                          go_roundw
                          case rel => exact ⟨n + 1, by omega, by go_num, HI4.out⟩
                          case measure => simp [intOf]; omega
                    · have hd : decide ((n : Int) < 8) = false := decide_eq_false (by omega)
                      obtain ⟨csI, hAI⟩ := hIA.a
                      have hb9 := hIA.b
                      have HS9 := HS0.out
                      have hres : wr.heap[w.heap.size]? = some (.cells (nums .u8 (List.replicate 32 0)) 47 (0, 0)) := (hb9.block _ (by omega)).trans HID.out
                      have hAIh := hAI.h
                      have hAIs := hAI.sz
                      have hAIo := hAI.one
                      have hEQ : Hid (csI = nums .u8 (Sha.sum T)) := by
                        show _ = _
                        rw [HSUM.out]
                        apply Array.ext_getElem?
                        intro q
                        by_cases hq : q < 32
                        · rw [hAI.at_ q hq, if_pos (by omega)]
                          unfold nums
                          rw [List.getElem?_toArray, List.getElem?_map, List.getElem?_map, List.getElem?_range hq]; rfl
                        · rw [Array.getElem?_eq_none (by omega), Array.getElem?_eq_none (by simp [nums]; omega)]
                      clear hIA HS9 hAI
                      have HB9 := Lib.hid hb9
                      clear hb9
                      go_wp2_with (first
                        | (refine wp_loadB rfl 47 _ rfl bi rfl hAIh _ Tryd.underlying47 rfl (by rw [Array.length_toList, hAIs]; kernel_rfl) ?_)
                        | (refine wp_storeB rfl 47 _ _ rfl w.heap.size csI rfl rfl hres (by rw [hAIs]; kernel_rfl) (by rw [hAIs]; kernel_rfl) hAIo ?_; intro w9 h9 g9))
                      (try simp only [Exit.inBlock, Exit.then])
                      refine bodyPost_ret (results_cell Tryd.results43 rfl h9 Tryd.underlying47 rfl (by rw [Array.length_toList, hAIs]; kernel_rfl)) rfl ?_
                      rw [hEQ.out, HT.out]
                      refine ⟨rfl, ?_⟩
                      have hbb := HB0.out.trans (HB9.out.mono HB0.out.size)
                      exact hbb.grown g9 hbb.size (fun k e => by injection e with e; omega)
end Go.Proofs.YtfoamcobpfflbaaDoor
