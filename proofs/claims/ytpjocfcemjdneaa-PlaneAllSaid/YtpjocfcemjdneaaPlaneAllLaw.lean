/- aquatintlaw10.PlaneAll, walked. -/
import Derived.Test.YtpjocfcemjdneaaPlaneAll
import Derived.Test.YtpjocfcemjdneaaRPlane
import Derived.Test.YtpjocfcemjdneaaRange2
import Derived.Test.YtpjocfcemjdneaaRectEq
import Derived.Test.YtpjocfcemjdneaaRows
namespace Go.Proofs.Ytpjocfcemjdneaa
open Go.RowKit Go.Shelf Go.ChangeShapes
attribute [local go_sem] Oper.semAt_some
set_option maxRecDepth 100000
theorem Ar.cellsOf {w w' : World} {size n : Nat} {u : Value} {xs : List Value} (h : Ar w size u n xs) (hc : CellsOf w w') : Ar w' size u n xs := by
  refine ⟨h.1, ?_⟩
  rcases h.2 with h0 | ⟨a, cap, rfl, h1, h2, hx⟩
  · exact .inl h0
  · refine .inr ⟨a, cap, rfl, h1, h2, fun j v hj => ?_⟩
    have hj := hx j v hj
    unfold World.cell? at hj ⊢
    split at hj
    · rename_i cs t f hk
      rw [hc.block _ _ _ _ hk]
      exact hj
    · cases hj
theorem blk_ne {W : World} {g k : Nat} {cs ds : Array Value} {t t' : TypeId} (h : Blk W g cs t) (h' : Blk W k ds t') (ht : t ≠ t') : g ≠ k := by
  rintro rfl
  have := h.symm.trans h'
  simp at this
  exact ht this.2
theorem load_bool (g : Nat) (v : Value) (hv : ∃ b, v = .bool b) (w : World) (h : w.cell? ⟨g, 0, none⟩ = some v) : (loadVar 4 ⟨g, 0, none⟩).run Try.prog w = .ok v w := by
  obtain ⟨b, rfl⟩ := hv
  go_simp
theorem range_prefix (n : Nat) (pre : List Nat) (x : Nat) (h : pre.length < n) (hp : (pre ++ [x]) <+: List.range n) : x = pre.length := by
  obtain ⟨t, ht⟩ := hp
  have e := congrArg (fun l => l[pre.length]?) ht
  simpa [h] using e
namespace planeAll
/-- Between two rounds: k have come; boxes: the plane, the stop, the result, the count. -/
structure Rd (N C : Nat) (st : Int) (x : PlaneArg) (w : World) (k : Nat) (W : World) : Prop where
  bC : Blk W C #[.int .i64 k] 3
  bP : Blk W N #[.int .i64 x.c, .int .i64 x.r, x.u] 24
  bS : Blk W (N + 1) #[.int .u8 st] 5
  bR : Blk W (N + 1 + 1) #[.bool false] 4
  hB : Below N w W
  hN : N ≤ W.heap.size
theorem Rd.below {N C : Nat} {st : Int} {x : PlaneArg} {w : World} {k : Nat} {W W' : World} (h : Rd N C st x w k W) (hb : Below W.heap.size W W') : Rd N C st x w k W' :=
  ⟨h.bC.below hb h.bC.lt, h.bP.below hb h.bP.lt, h.bS.below hb h.bS.lt, h.bR.below hb h.bR.lt, h.hB.trans (hb.mono h.hN), Nat.le_trans h.hN hb.size⟩
theorem Rd.own (N C : Nat) (st : Int) (x : PlaneArg) (w : World) (B : Nat) (hw : N ≤ w.heap.size) (hB : N ≤ B) : OwnFrom B (fun (pre : List Nat) W => Rd N C st x w pre.length W) := by
  intro s X Y row hs hg hr
  have hc := CellsOf.of hg (fun r e => (hr r e).2)
  exact ⟨hc.blk hs.bC, hc.blk hs.bP, hc.blk hs.bS, hc.blk hs.bR, ownFrom_below (β := Unit) hw hB () X Y row hs.hB hg hr, Nat.le_trans hs.hN hg.size⟩
theorem Rd.next {N C : Nat} {st : Int} {x : PlaneArg} {w : World} {k : Nat} {W : World} (h : Rd N C st x w k W) (hc : N ≤ C) (k' : Nat) (hk : k' = k + 1) : Rd N C st x w k' (W.setCell ⟨C, 0, none⟩ (.int .i64 ((k : Int) + 1))) := by
  subst hk
  have hb : ∀ (g : Nat) (cs : Array Value) (t : TypeId), t ≠ 3 → Blk W g cs t → Blk (W.setCell ⟨C, 0, none⟩ (.int .i64 ((k : Int) + 1))) g cs t := fun g cs t ht hg => hg.other _ _ (blk_ne hg h.bC ht)
  refine ⟨h.bC.set 0 _, hb _ _ _ (by decide) h.bP, hb _ _ _ (by decide) h.bS, hb _ _ _ (by decide) h.bR, h.hB.setCell (p := ⟨C, 0, none⟩) hc _, by simpa using h.hN⟩
/-- A round has left. -/
structure Out (N n : Nat) (w : World) (cd : Code) (pre : List Nat) (W : World) : Prop where
  cd : cd = .ret
  res : ∃ v, Blk W (N + 1 + 1) #[.bool v] 4 ∧ (pre <+: List.range n → v = true)
  hB : Below N w W
theorem Out.own (N n : Nat) (w : World) (cd : Code) (B : Nat) (hw : N ≤ w.heap.size) (hB : N ≤ B) : OwnFrom B (Out N n w cd) := by
  intro s X Y row hs hg hr
  have hc := CellsOf.of hg (fun r e => (hr r e).2)
  exact ⟨hs.cd, hs.res.imp fun v h => ⟨hc.blk h.1, h.2⟩, ownFrom_below (β := Unit) hw hB () X Y row hs.hB hg hr⟩
set_option maxHeartbeats 4000000 in
theorem walk (st : Int) (hst : 0 ≤ st) (hst2 : st ≤ 255) (x : PlaneArg) (v0 : Value) (w : World) (h : IsPlane w v0 x) :
    Calls Try.prog 3 #[v0, .int .u8 st] w fun e w' => e = .returned (.bool true) ∧ Below w.heap.size w w' := by
  obtain ⟨rfl, hA, h64, _, _, _⟩ := h
  obtain ⟨c, r, u, bs⟩ := x
  simp only at hA h64 ⊢
  obtain ⟨bu, cap, rfl, hcap, hcm⟩ := hA.len
  have hbl : bs.length ≤ 9223372036854775807 := Nat.le_trans hcap (Nat.le_trans hcm (by unfold maxLen; decide))
  obtain ⟨N, hN⟩ : ∃ N, N = w.heap.size := ⟨_, rfl⟩
  have HN := Lib.hid hN
  rw [← hN]
  clear hN
  refine (callsIn_wide (n := 9)).1 ?_
  refine callsIn_of_wp_marks Try.func3 rfl trivial ?_ rfl
  simp only [Try.ntmps3, List.size_toArray, List.length_cons, List.length_nil, Nat.reduceAdd, Nat.reduceSub, Array.replicate_succ, Array.replicate_zero, List.push_toArray, List.append_toArray, List.nil_append, List.cons_append]
  refine wpIn_wide.2 ?_
  go_upto_region 1 with fail
  refine wp_world (fun W => Blk W N #[.int .i64 c, .int .i64 r, .slice bu bs.length cap] 24 ∧ Blk W (N + 1) #[.int .u8 st] 5 ∧ Blk W (N + 1 + 1) #[.bool false] 4 ∧ Below N w W ∧ N ≤ W.heap.size) ?_ ?_
  · rw [HN.out]
    exact ⟨((Blk.new _ _ _).alloc _).alloc _, by simpa using (Blk.new' (w.alloc _) _ _ (by simp)).alloc _, Blk.new' _ _ _ (by simp), (((Below.refl _ _).alloc (Nat.le_refl _) _).alloc (by simp) _).alloc (by simp; omega) _, by simp; omega⟩
  have hhN := HN.out
  rw [← hhN]
  clear hhN
  rintro W0 ⟨bP, bS, bR, hB, hNW⟩
  by_cases hf : bs.length ≤ 400
  · have tf : decide (bs.length ≤ 400) = true := by simpa using hf
    go_upto_region 3 with (first
      | (go_at_call 10; refine (law_few _ _ _ _ _ hbl _).mono ?_; rintro e w2 ⟨rfl, hb2⟩)
      | (go_at_call 9; refine (awake10 _).mono ?_; rintro e w1 ⟨rfl, hb1⟩; have bP1 := bP.below hb1 bP.lt; have p0 := bP1.cell 0; have p1 := bP1.cell 1; have p2 := bP1.cell 2))
    have hb12 := hb1.trans (hb2.mono hb1.size)
    obtain ⟨C, hC⟩ : ∃ C, C = w2.heap.size := ⟨_, rfl⟩
    have HC := Lib.hid hC
    have hNC : N ≤ C := by rw [hC]; exact Nat.le_trans hNW hb12.size
    have hRC : N + 1 + 1 < C := by rw [hC]; exact Nat.lt_of_lt_of_le bR.lt hb12.size
    replace bP := bP.below hb12 bP.lt
    replace bS := bS.below hb12 bS.lt
    replace bR := bR.below hb12 bR.lt
    replace hB := hB.trans (hb12.mono hNW)
    clear hC hb1 hb2 hb12 bP1 p0 p1 p2 hNW
    go_upto_region 4 with fail
    have hAa : Below w2.heap.size w2 (w2.alloc (.cells #[.int .i64 0] 3)) := (Below.refl _ _).alloc (Nat.le_refl _) _
    refine wp_world (fun W => Rd N C st ⟨c, r, .slice bu bs.length cap, bs⟩ w 0 W) ?_ ?_
    · exact ⟨Blk.new' _ _ _ HC.out, bP.below hAa bP.lt, bS.below hAa bS.lt, bR.below hAa bR.lt, hB.trans (hAa.mono (by rw [← HC.out]; exact hNC)), by simp [← HC.out]; omega⟩
    rw [← HC.out]
    clear bP bS bR hB hAa
    rintro W3 hI
    obtain ⟨bC, bP, bS, bR, hB, hNW⟩ := id hI
    simp only at bP
    have p0 := bP.cell 0
    have p1 := bP.cell 1
    have p2 := bP.cell 2
    go_wp2_with (go_at_call 11; refine (plane_all _ _ _ _).mono ?_; rintro e w4 ⟨rfl, rfl⟩)
    obtain ⟨B, hBn⟩ : ∃ B, B = W3.heap.size := ⟨_, rfl⟩
    rw [← hBn]
    have hCB : C < B := by rw [hBn]; exact bC.lt
    have hNB : N ≤ B := by rw [hBn]; exact hNW
    have hb4 : Below W3.heap.size W3 (W3.alloc (.cells #[.int .i64 c, .int .i64 r, .slice bu bs.length cap] 24)) := (Below.refl _ _).alloc (Nat.le_refl _) _
    refine wp_world (fun W => Blk W B #[.int .i64 c, .int .i64 r, .slice bu bs.length cap] 24 ∧ Rd N C st ⟨c, r, .slice bu bs.length cap, bs⟩ w 0 W) ⟨Blk.new' _ _ _ hBn, hI.below hb4⟩ ?_
    clear hBn hb4 hI bC bP bS bR hB hNW p0 p1 p2
    rintro W4 ⟨bB, hI⟩
    have hNw : N ≤ w.heap.size := by rw [HN.out]; exact Nat.le_refl _
    have hBW := bB.lt
    have hNW4 : N ≤ W4.heap.size := hI.hN
    have hseq := fun n => plane_stops_any B n c r (.slice bu bs.length cap) bs h64 B W4 (Nat.le_refl _) bB (hA.below (by rw [← HN.out]; exact hI.hB))
    obtain ⟨k, hk⟩ : ∃ k, c.toNat = k := ⟨_, rfl⟩
    rw [hk] at hseq
    have HK := Lib.hid hk
    clear hk
    refine wp_rangeFunc_x (n := 9) B (fun t (i : Nat) a W => ∃ b1 b2, Blk W b1 #[.int .i64 ((i : Int) / (k : Int)), .int .i64 ((i : Int) % (k : Int)), .int .i64 1, .int .i64 1] 31 ∧ Blk W b2 (ints .i16 (Pl.blk bs i)) 34 ∧ a = { tmps := [(18, .agg #[.int .i64 ((i : Int) / (k : Int)), .int .i64 ((i : Int) % (k : Int)), .int .i64 1, .int .i64 1]), (19, .agg (ints .i16 (Pl.blk bs i))), (6, .pointer (some ⟨b1, 0, none⟩)), (7, .pointer (some ⟨b2, 0, none⟩))].foldl (fun t (p : Nat × Value) => t.setIfInBounds p.1 p.2) t, defers := [] }) ?hX (by omega) (gf := 30) (lb := #[.pointer (some ⟨B, 0, none⟩)]) rfl (enters_of Try.func30 (by kernel_rfl) rfl)
      (hseq _) (fun _ => rfl)
      (fun pre W => Rd N C st ⟨c, r, .slice bu bs.length cap, bs⟩ w pre.length W) (Out N (Pl.many c r bs.length) w) (Rd.own _ _ _ _ _ _ hNw (by omega)) (fun cd => Out.own _ _ _ cd _ hNw (by omega)) hI
      ?assign ?body ?done ?stop
    case hX =>
      rintro t x a' X Y ⟨b1, b2, h3, h4, h5⟩ hc
      exact ⟨b1, b2, hc.blk h3, hc.blk h4, h5⟩
    case assign =>
      rintro l pre x W K hI hK
      have hx64 := Pl.blk_len h64 x
      obtain ⟨y, hy⟩ : ∃ y, Pl.blk bs x = y := ⟨_, rfl⟩
      rw [hy] at hx64
      simp only [Pl.encs, hy] at hK ⊢
      have bZ1 : Blk (W.alloc (.cells #[.int .i64 0, .int .i64 0, .int .i64 0, .int .i64 0] 31)) W.heap.size #[.int .i64 0, .int .i64 0, .int .i64 0, .int .i64 0] 31 := Blk.new _ _ _
      gi_wp2_with (first
        | (refine wpListIn_store_row ⟨some l, rfl⟩ rfl 31 _ _ rfl W.heap.size _ rfl rfl 31 _ bZ1 (by kernel_rfl) rfl (by simp [Value.oneCell']) ?_)
        | (refine wpListIn_store_row ⟨some l, rfl⟩ rfl 34 _ _ rfl (W.heap.size + 1) (ints .i16 y) rfl rfl 34 _ (Blk.new' _ (ints .i16 (List.replicate 64 0)) _ (by simp)) (by rw [ints_size, hx64]; kernel_rfl) (by rw [ints_size, ints_size, hx64]; rfl) (ints_one _ _) ?_))
      have hB1 : Below W.heap.size W ((W.alloc (.cells #[.int .i64 0, .int .i64 0, .int .i64 0, .int .i64 0] 31)).setRow W.heap.size #[.int .i64 ((x : Int) / (k : Int)), .int .i64 ((x : Int) % (k : Int)), .int .i64 1, .int .i64 1]) := Below.setRow ((Below.refl _ _).alloc (Nat.le_refl _) _) (Nat.le_refl _) _
      have hB2 := Below.setRow (hB1.alloc (by simp) (.cells (ints .i16 (List.replicate 64 0)) 34)) (g := W.heap.size + 1) (by omega) (ints .i16 y)
      refine hK _ _ hB2 (hI.below hB2) ⟨W.heap.size, W.heap.size + 1, ?_, ?_, rfl⟩
      · exact ((bZ1.row _).alloc _).rowOther _ _ (by omega)
      · exact (Blk.new' _ (ints .i16 (List.replicate 64 0)) _ (by simp)).row _
    case body =>
      rintro l pre x a' W hl hI ⟨b1, b2, h1, h2, rfl⟩ hlm
      obtain ⟨bC, bP, bS, bR, hB1, hN1⟩ := id hI
      simp only at bP
      have hA1 := hA.below (w' := W) (by rw [← HN.out]; exact hB1)
      simp only [List.foldl_cons, List.foldl_nil, List.setIfInBounds_toArray, List.set_cons_zero, List.set_cons_succ]
      obtain ⟨hkc, hk1, hlt⟩ : c = (k : Int) ∧ 1 ≤ k ∧ pre.length < bs.length := by
        unfold Pl.many at hlm
        by_cases hr : Pl.right c r bs.length = true
        · rw [if_pos hr] at hlm
          unfold Pl.right at hr
          simp only [Bool.and_eq_true, beq_iff_eq] at hr
          have := Pl.sized_ok hr.1
          have := HK.out
          omega
        · rw [if_neg hr] at hlm
          omega
      subst hkc
      have hq1 : IntKind.i64.wrap ((pre.length : Int) / (k : Int)) = (pre.length : Int) / (k : Int) := by
        have := IntWalk.i64_quo pre.length k (by omega)
        rwa [Int.tdiv_eq_ediv_of_nonneg (by omega)] at this
      have hkN : ¬ k = 0 := by omega
      have tg : decide ((bs.length : Int) ≤ (pre.length : Int)) = false := by simpa using hlt
      have tg2 : decide (bs.length ≤ pre.length) = false := by simpa using hlt
      have hx0 : (0 : Int) ≤ (pre.length : Int) := by omega
      have hx1 : (pre.length : Int) < (bs.length : Int) := by omega
      have hlx := Pl.blk_len h64 x
      have hlp := Pl.blk_len h64 pre.length
      have hgp := Pl.blk_get hlt
      obtain ⟨ad, cp, hsl, _, _⟩ := hA1.some (by omega)
      obtain ⟨rfl, rfl⟩ : bu = some ad ∧ cap = cp := by simpa using hsl
      gi_wp2
      have hKB : Below W.heap.size W W.drew := (Below.refl _ _).drew
      refine wpIn_region_det (fun W' => Below W.heap.size W W') (by kernel_rfl) (by kernel_rfl) (by kernel_rfl) (by rintro ⟨a, w, h⟩; exact h) hKB ?_
      refine det_pure (v := .int .i64 pre.length) (by rfl) (fun w1 hS => by have cy := (bC.below hS bC.lt).cell 0; go_simp; try with_reducible rfl) ?_
      simp only [Act.put, List.setIfInBounds_toArray, List.set_cons_zero, List.set_cons_succ]
      (repeat (first | (refine det_skip (by rfl) ?_; simp only [Act.put, List.setIfInBounds_toArray, List.set_cons_zero, List.set_cons_succ]) | (refine det_pure (v := ?_) (by rfl) ?_ ?_; rotate_left; (intro wS hS; go_simp; try with_reducible rfl); simp only [Act.put, List.setIfInBounds_toArray, List.set_cons_zero, List.set_cons_succ])))
      refine det_pure (v := .slice (some ad) bs.length cap) (by rfl) (fun w1 hS => by have cy := (bP.below hS bP.lt).cell 2; go_simp; try with_reducible rfl) ?_
      simp only [Act.put, List.setIfInBounds_toArray, List.set_cons_zero, List.set_cons_succ]
      (repeat (first | (refine det_skip (by rfl) ?_; simp only [Act.put, List.setIfInBounds_toArray, List.set_cons_zero, List.set_cons_succ]) | (refine det_pure (v := ?_) (by rfl) ?_ ?_; rotate_left; (intro wS hS; go_simp; try with_reducible rfl); simp only [Act.put, List.setIfInBounds_toArray, List.set_cons_zero, List.set_cons_succ])))
      refine det_load_row (by rfl) 34 _ rfl b2 rfl 34 _ _ (fun w1 hS => h2.below hS h2.lt) Try.underlying34 rfl (by rw [ints_size, hlx]; kernel_rfl) ?_
      simp only [Act.put, List.setIfInBounds_toArray, List.set_cons_zero, List.set_cons_succ]
      (repeat (first | (refine det_skip (by rfl) ?_; simp only [Act.put, List.setIfInBounds_toArray, List.set_cons_zero, List.set_cons_succ]) | (refine det_pure (v := ?_) (by rfl) ?_ ?_; rotate_left; (intro wS hS; go_simp; try with_reducible rfl); simp only [Act.put, List.setIfInBounds_toArray, List.set_cons_zero, List.set_cons_succ])))
      refine det_pure (v := .slice (some ad) bs.length cap) (by rfl) (fun w1 hS => by have cy := (bP.below hS bP.lt).cell 2; go_simp; try with_reducible rfl) ?_
      simp only [Act.put, List.setIfInBounds_toArray, List.set_cons_zero, List.set_cons_succ]
      refine det_pure (v := .int .i64 pre.length) (by rfl) (fun w1 hS => by have cy := (bC.below hS bC.lt).cell 0; go_simp; try with_reducible rfl) ?_
      simp only [Act.put, List.setIfInBounds_toArray, List.set_cons_zero, List.set_cons_succ]
      refine det_pure (v := .pointer (some (ad.add (pre.length * 64)))) (by rfl) (fun w1 hS => by go_simp; try with_reducible rfl) ?_
      simp only [Act.put, List.setIfInBounds_toArray, List.set_cons_zero, List.set_cons_succ]
      refine det_pure (by rfl) (fun w1 hS => ar_loadx (hA1.below hS) h64 pre.length hlt _ hgp _ rfl rfl) ?_
      simp only [Act.put, List.setIfInBounds_toArray, List.set_cons_zero, List.set_cons_succ]
      refine det_pure (by rfl) (fun w1 _ => run_exec_neq_ints 34 _ _ _ rfl 32 64 .i16 (Pl.blk bs x) (Pl.blk bs pre.length) rfl rfl Try.underlying34 Try.underlying32 (by kernel_rfl) hlx hlp (by kernel_rfl)) ?_
      simp only [Act.put, List.setIfInBounds_toArray, List.set_cons_zero, List.set_cons_succ]
      by_cases hbe : Pl.blk bs x = Pl.blk bs pre.length
      · have hbd : decide (Pl.blk bs x = Pl.blk bs pre.length) = true := by simpa using hbe
        rw [hbd]
        (repeat (first | (refine det_skip (by rfl) ?_; simp only [Act.put, List.setIfInBounds_toArray, List.set_cons_zero, List.set_cons_succ]) | (refine det_pure (v := ?_) (by rfl) ?_ ?_; rotate_left; (intro wS hS; go_simp; try with_reducible rfl); simp only [Act.put, List.setIfInBounds_toArray, List.set_cons_zero, List.set_cons_succ])))
        refine det_load_row (by rfl) 31 _ rfl b1 rfl 31 _ _ (fun w1 hS => h1.below hS h1.lt) Try.underlying31 rfl (by kernel_rfl) ?_
        simp only [Act.put, List.setIfInBounds_toArray, List.set_cons_zero, List.set_cons_succ]
        refine det_pure (v := .int .i64 pre.length) (by rfl) (fun w1 hS => by have cy := (bC.below hS bC.lt).cell 0; go_simp; try with_reducible rfl) ?_
        simp only [Act.put, List.setIfInBounds_toArray, List.set_cons_zero, List.set_cons_succ]
        (repeat (first | (refine det_skip (by rfl) ?_; simp only [Act.put, List.setIfInBounds_toArray, List.set_cons_zero, List.set_cons_succ]) | (refine det_pure (v := ?_) (by rfl) ?_ ?_; rotate_left; (intro wS hS; go_simp; try with_reducible rfl); simp only [Act.put, List.setIfInBounds_toArray, List.set_cons_zero, List.set_cons_succ])))
        refine det_pure (v := .int .i64 (k : Int)) (by rfl) (fun w1 hS => by have cy := (bP.below hS bP.lt).cell 0; go_simp; try with_reducible rfl) ?_
        simp only [Act.put, List.setIfInBounds_toArray, List.set_cons_zero, List.set_cons_succ]
        (repeat (first | (refine det_skip (by rfl) ?_; simp only [Act.put, List.setIfInBounds_toArray, List.set_cons_zero, List.set_cons_succ]) | (refine det_pure (v := ?_) (by rfl) ?_ ?_; rotate_left; (intro wS hS; go_simp; try with_reducible rfl); simp only [Act.put, List.setIfInBounds_toArray, List.set_cons_zero, List.set_cons_succ])))
        refine det_pure (v := .int .i64 pre.length) (by rfl) (fun w1 hS => by have cy := (bC.below hS bC.lt).cell 0; go_simp; try with_reducible rfl) ?_
        simp only [Act.put, List.setIfInBounds_toArray, List.set_cons_zero, List.set_cons_succ]
        (repeat (first | (refine det_skip (by rfl) ?_; simp only [Act.put, List.setIfInBounds_toArray, List.set_cons_zero, List.set_cons_succ]) | (refine det_pure (v := ?_) (by rfl) ?_ ?_; rotate_left; (intro wS hS; go_simp; try with_reducible rfl); simp only [Act.put, List.setIfInBounds_toArray, List.set_cons_zero, List.set_cons_succ])))
        refine det_pure (v := .int .i64 (k : Int)) (by rfl) (fun w1 hS => by have cy := (bP.below hS bP.lt).cell 0; go_simp; try with_reducible rfl) ?_
        simp only [Act.put, List.setIfInBounds_toArray, List.set_cons_zero, List.set_cons_succ]
        (repeat (first | (refine det_skip (by rfl) ?_; simp only [Act.put, List.setIfInBounds_toArray, List.set_cons_zero, List.set_cons_succ]) | (refine det_pure (v := ?_) (by rfl) ?_ ?_; rotate_left; (intro wS hS; go_simp; try with_reducible rfl); simp only [Act.put, List.setIfInBounds_toArray, List.set_cons_zero, List.set_cons_succ])))
        refine det_pure (by rfl) (fun w1 _ => run_exec_neq_rect _ _ _ rfl ((x : Int) / k, (x : Int) % k, 1, 1) ((pre.length : Int) / k, (pre.length : Int) % k, 1, 1) rfl rfl) ?_
        simp only [Act.put, List.setIfInBounds_toArray, List.set_cons_zero, List.set_cons_succ]
        have hlR : N + 1 + 1 < C := hRC
        by_cases hxn : x = pre.length
        · have hde : decide (((x : Int) / (k : Int), (x : Int) % (k : Int), (1 : Int), (1 : Int)) ≠ ((pre.length : Int) / (k : Int), (pre.length : Int) % (k : Int), 1, 1)) = false := by simp [hxn]
          rw [hde]
          (repeat (first | (refine det_skip (by rfl) ?_; simp only [Act.put, List.setIfInBounds_toArray, List.set_cons_zero, List.set_cons_succ]) | (refine det_pure (v := ?_) (by rfl) ?_ ?_; rotate_left; (intro wS hS; go_simp; try with_reducible rfl); simp only [Act.put, List.setIfInBounds_toArray, List.set_cons_zero, List.set_cons_succ])))
          refine det_nil ?_
          intro W7 hb7
          have bR7 := bR.below hb7 bR.lt
          have r7 := bR7.cell 0
          have f7 := bR7.free 0
          have bC7 := bC.below hb7 bC.lt
          have g7 := bC7.cell 0
          have h7 := bC7.free 0
          have s7 := (bS.below hb7 bS.lt).cell 0
          have hc3 : N + 1 ≠ C := by omega
          have hc4 : N + 1 + 1 ≠ C := by omega
          gi_wp2
          all_goals first
            | exact ⟨((KeepsFrom.of_below hb7).trans ((KeepsOthers.setCell _ _ _).from _)).trans ((KeepsOthers.setCell _ _ _).from _), rfl, ⟨true, (bR7.other _ _ hc4).set 0 _, fun _ => rfl⟩, ((hB1.trans (hb7.mono hN1)).setCell (p := ⟨C, 0, none⟩) hNC _).setCell (p := ⟨N + 1 + 1, 0, none⟩) (by show N ≤ N + 1 + 1; omega) _⟩
            | exact ⟨(KeepsFrom.of_below hb7).trans ((KeepsOthers.setCell _ _ _).from _), (KeepC.below hb7).trans (KeepC.set _ _ _ hCB), (hI.below hb7).next hNC _ (by simp)⟩
        · have hde : decide (((x : Int) / (k : Int), (x : Int) % (k : Int), (1 : Int), (1 : Int)) ≠ ((pre.length : Int) / (k : Int), (pre.length : Int) % (k : Int), 1, 1)) = true := by
            simp only [ne_eq, Prod.mk.injEq, and_true, decide_eq_true_eq]
            rintro ⟨h1, h2⟩
            have h3 := Int.mul_ediv_add_emod (x : Int) (k : Int)
            have h4 := Int.mul_ediv_add_emod (pre.length : Int) (k : Int)
            rw [h1, h2, h4] at h3
            exact hxn (by omega)
          rw [hde]
          (repeat (first | (refine det_skip (by rfl) ?_; simp only [Act.put, List.setIfInBounds_toArray, List.set_cons_zero, List.set_cons_succ]) | (refine det_pure (v := ?_) (by rfl) ?_ ?_; rotate_left; (intro wS hS; go_simp; try with_reducible rfl); simp only [Act.put, List.setIfInBounds_toArray, List.set_cons_zero, List.set_cons_succ])))
          refine det_nil ?_
          intro W7 hb7
          have bR7 := bR.below hb7 bR.lt
          have r7 := bR7.cell 0
          have f7 := bR7.free 0
          gi_wp2
          exact ⟨(KeepsFrom.of_below hb7).trans ((KeepsOthers.setCell _ _ _).from _), rfl, ⟨false, bR7.set 0 _, fun h => absurd (range_prefix _ pre x hlm h) hxn⟩, (hB1.trans (hb7.mono hN1)).setCell (p := ⟨N + 1 + 1, 0, none⟩) (by show N ≤ N + 1 + 1; omega) _⟩
      · have hbd : decide (Pl.blk bs x = Pl.blk bs pre.length) = false := by simpa using hbe
        rw [hbd]
        (repeat (first | (refine det_skip (by rfl) ?_; simp only [Act.put, List.setIfInBounds_toArray, List.set_cons_zero, List.set_cons_succ]) | (refine det_pure (v := ?_) (by rfl) ?_ ?_; rotate_left; (intro wS hS; go_simp; try with_reducible rfl); simp only [Act.put, List.setIfInBounds_toArray, List.set_cons_zero, List.set_cons_succ])))
        refine det_nil ?_
        intro W7 hb7
        have bR7 := bR.below hb7 bR.lt
        have r7 := bR7.cell 0
        have f7 := bR7.free 0
        gi_wp2
        exact ⟨(KeepsFrom.of_below hb7).trans ((KeepsOthers.setCell _ _ _).from _), rfl, ⟨false, bR7.set 0 _, fun h => absurd (congrArg (Pl.blk bs) (range_prefix _ pre x hlm h)) hbe⟩, (hB1.trans (hb7.mono hN1)).setCell (p := ⟨N + 1 + 1, 0, none⟩) (by show N ≤ N + 1 + 1; omega) _⟩
    case done =>
      rintro D ys W hD rfl hI2 hK
      obtain ⟨bC, bP, bS, bR, hB1, hN1⟩ := hI2
      simp only [List.length_range] at bC
      simp only at bP
      have p0 := bP.cell 0
      have p1 := bP.cell 1
      have p2 := bP.cell 2
      have c0 := bC.cell 0
      have r7 := bR.cell 0
      have f7 := bR.free 0
      have hr := ref_right c r bs.length bu cap W
      have fin : ∀ W7 (a : Act) (_ : a.defers = [{ target := .collected D, args := #[] }]) (_ : a.tmps.getD 4 undef = .pointer (some ⟨N + 1 + 1, 0, none⟩)), Below W.heap.size W W7 → bodyPostM Fence.wide 9 Try.prog Try.f3 (fun e w' => e = .returned (.bool true) ∧ Below N w w') .ret a (W7.setCell ⟨N + 1 + 1, 0, none⟩ (.bool true)) := by
        rintro W7 ⟨tmps, defers⟩ rfl ht hb7
        have bR7 := (bR.below hb7 bR.lt).set 0 (.bool true)
        have hK7 := (hb7.block D (Array.getElem?_eq_some_iff.1 hK).1).trans hK
        have hKE := (KeepsOthers.setCell W7 ⟨N + 1 + 1, 0, none⟩ (.bool true)).same D _ hK7 rfl
        exact leave_mark hKE (results_box rfl _ _ (N + 1 + 1) _ _ ht (bR7.putObj hKE rfl) (load_bool _ _ ⟨_, rfl⟩)) ⟨rfl, ((hB1.trans (hb7.mono hN1)).setCell (p := ⟨N + 1 + 1, 0, none⟩) (by show N ≤ N + 1 + 1; omega) _).trans (belowK_b hNW4 _ D _ _ hD hKE rfl rfl)⟩
      by_cases hrt : Pl.right c r bs.length = true
      · have hm : Pl.many c r bs.length = bs.length := if_pos hrt
        rw [hm] at c0
        go_wp2_with fail
        exact fin _ _ rfl rfl (Below.refl _ _)
      · have hm : Pl.many c r bs.length = 0 := if_neg hrt
        rw [hm] at c0
        have hrf : Pl.right c r bs.length = false := by simpa using hrt
        rw [hrf] at hr
        by_cases h0 : bs.length = 0
        · obtain rfl : bs = [] := List.eq_nil_of_length_eq_zero h0
          go_wp2_with fail
          exact fin _ _ rfl rfl (Below.refl _ _)
        · have tz : decide (((0 : Nat) : Int) = (bs.length : Int)) = false := by simp; omega
          go_wp2_with (go_at_call 12; refine hr.mono ?_; rintro e W7 ⟨rfl, hb7⟩; have c7 := (bC.below hb7 bC.lt).cell 0; rw [hm] at c7; have bR7 := bR.below hb7 bR.lt; have r7 := bR7.cell 0; have f7 := bR7.free 0)
          exact fin _ _ rfl rfl hb7
    case stop =>
      rintro D cd pre W hD hpre ⟨rfl, ⟨v, bR, hv⟩, hB1⟩ hK
      obtain rfl := hv hpre
      go_wp2_with fail
      exact leave_mark hK (results_box rfl _ _ (N + 1 + 1) _ _ rfl (bR.putObj hK rfl) (load_bool _ _ ⟨_, rfl⟩)) ⟨rfl, hB1.trans (belowK_b hNW4 _ D _ _ hD hK rfl rfl)⟩
  · have tf : decide (bs.length ≤ 400) = false := by simpa using hf
    go_upto_region 2 with (first
      | (go_at_call 10; refine (law_few _ _ _ _ _ hbl _).mono ?_; rintro e w2 ⟨rfl, hb2⟩)
      | (go_at_call 9; refine (awake10 _).mono ?_; rintro e w1 ⟨rfl, hb1⟩; have bP1 := bP.below hb1 bP.lt; have p0 := bP1.cell 0; have p1 := bP1.cell 1; have p2 := bP1.cell 2))
    have hb12 := hb1.trans (hb2.mono hb1.size)
    go_wp2_with (go_at_call 9; refine (awake10 _).mono ?_; rintro e w3 ⟨rfl, hb3⟩; have hb13 := hb12.trans (hb3.mono hb12.size); have bR3 := bR.below hb13 bR.lt; have r3 := bR3.cell 0; have f3 := bR3.free 0)
    refine leave_plain (results_box rfl _ _ (N + 1 + 1) _ _ rfl (bR3.set 0 _) (load_bool _ _ ⟨_, rfl⟩)) ?_
    exact ⟨rfl, (hB.trans (hb13.mono hNW)).setCell (p := ⟨N + 1 + 1, 0, none⟩) (by show N ≤ N + 1 + 1; omega) _⟩
end planeAll
theorem planeAll.core (v0 : Value) (a0 : PlaneArg) (a1 : Int) (w1 : (Lit.int .u8 a1).wf = true) (W : World) (s0 : IsPlane W v0 a0) :
    Calls Try.prog 3 #[v0, .int .u8 a1] W fun e w' => e = .returned (.bool true) ∧ Below W.heap.size W w' :=
  planeAll.walk a1 (bounds_u8 w1).1 (bounds_u8 w1).2 a0 v0 W s0
end Go.Proofs.Ytpjocfcemjdneaa
