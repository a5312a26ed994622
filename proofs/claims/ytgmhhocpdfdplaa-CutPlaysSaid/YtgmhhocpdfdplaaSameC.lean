/- Package image: sameComp; slices.EqualFunc of components at it; Same. -/
import Derived.Test.YtgmhhocpdfdplaaSameE
namespace Go.Proofs.Ytgmhhocpdfdplaa
open Go.RowKit
set_option maxRecDepth 100000
set_option maxHeartbeats 8000000
/-- A component's own numbers. -/
def cd (c : CompArg) : (Int × Int × Int × Int) × Int × Int × List (List Int) := ((c.id, c.h, c.v, c.q), c.c, c.r, c.bs)
def CompArg.val (c : CompArg) : Value := .agg #[.int .i64 c.id, .int .i64 c.h, .int .i64 c.v, .int .i64 c.q, .int .i64 c.c, .int .i64 c.r, c.u]
theorem comp_same (a b : CompArg) (hl : a.bs.length ≤ 1000000) (w : World) (ha : a.Ok w) (hb : b.Ok w) :
    Calls Try.prog 79 #[a.val, b.val] w fun e w' => e = .returned (.bool (decide (cd a = cd b))) ∧ Below w.heap.size w w' := by
  obtain ⟨R, hR⟩ : ∃ R, decide (cd a = cd b) = R := ⟨_, rfl⟩
  rw [hR]
  have HR := Lib.hid hR
  obtain ⟨N, hN⟩ : ∃ N, N = w.heap.size := ⟨_, rfl⟩
  have HN := Lib.hid hN
  rw [← hN]
  obtain ⟨ab, acap, hau, -, -⟩ := ha.ar.len
  obtain ⟨bb, bcap, hbu, -, -⟩ := hb.ar.len
  unfold CompArg.val
  have hps := fun W h1 h2 => plane_same a.c a.r b.c b.r a.u b.u a.bs b.bs ha.h64 hb.h64 W h1 h2 (by omega)
  rw [hau, hbu] at hps
  have HA := ha.ar
  have HB := hb.ar
  rw [hau] at HA
  rw [hbu] at HB
  rw [hau, hbu]
  clear hN hR hau hbu ha hb
  unfold cd at HR
  generalize a.id = a0 at *
  generalize a.h = a1 at *
  generalize a.v = a2 at *
  generalize a.q = a3 at *
  generalize a.c = a4 at *
  generalize a.r = a5 at *
  generalize a.bs = a6 at *
  generalize b.id = b0 at *
  generalize b.h = b1 at *
  generalize b.v = b2 at *
  generalize b.q = b3 at *
  generalize b.c = b4 at *
  generalize b.r = b5 at *
  generalize b.bs = b6 at *
  go_enter Try.func79, Try.ntmps79
  go_upto_region 1 with fail
  refine wp_world (fun W => Blk W N #[.int .i64 a0, .int .i64 a1, .int .i64 a2, .int .i64 a3, .int .i64 a4, .int .i64 a5, .slice ab a6.length acap] 63 ∧ Blk W (N + 1) #[.int .i64 b0, .int .i64 b1, .int .i64 b2, .int .i64 b3, .int .i64 b4, .int .i64 b5, .slice bb b6.length bcap] 63 ∧ Below N w W ∧ N ≤ W.heap.size) ?_ ?_
  · rw [HN.out]
    exact ⟨(Blk.new _ _ _).alloc _, Blk.new' _ _ _ (by simp), ((Below.refl _ _).alloc (Nat.le_refl _) _).alloc (by simp) _, by simp; omega⟩
  have hhN := HN.out
  rw [← hhN]
  clear hhN
  rintro W ⟨bN, bM, hB, hNW⟩
  have hp := hps W (HA.below (by rw [← HN.out]; exact hB)) (HB.below (by rw [← HN.out]; exact hB))
  clear hps HA HB
  have p0 := bN.cell 0; have p1 := bN.cell 1; have p2 := bN.cell 2; have p3 := bN.cell 3; have p4 := bN.cell 4; have p5 := bN.cell 5; have p6 := bN.cell 6
  have q0 := bM.cell 0; have q1 := bM.cell 1; have q2 := bM.cell 2; have q3 := bM.cell 3; have q4 := bM.cell 4; have q5 := bM.cell 5; have q6 := bM.cell 6
  by_cases h0 : a0 = b0
  · by_cases h1 : a1 = b1
    · by_cases h2 : a2 = b2
      · by_cases h3 : a3 = b3
        · subst h0 h1 h2 h3
          have e1 : decide (a4 = b4 ∧ a5 = b5 ∧ a6 = b6) = R := by rw [← HR.out]; simp
          rw [e1] at hp
          clear e1
          go_wp2_with (go_at_call 129; refine hp.mono ?_; rintro e w1 ⟨rfl, hb1⟩)
          go_ret
          exact ⟨rfl, hB.trans (hb1.mono hNW)⟩
        · have t3 : decide (a3 = b3) = false := by simpa using h3
          have t3' : (a3 == b3) = false := by simpa using h3
          obtain rfl : R = false := by rw [← HR.out]; simp [h3]
          subst h0 h1 h2
          clear h3
          go_wp2_with fail
          go_ret
          exact ⟨rfl, hB⟩
      · have t3 : decide (a2 = b2) = false := by simpa using h2
        have t3' : (a2 == b2) = false := by simpa using h2
        obtain rfl : R = false := by rw [← HR.out]; simp [h2]
        subst h0 h1
        clear h2
        go_wp2_with fail
        go_ret
        exact ⟨rfl, hB⟩
    · have t3 : decide (a1 = b1) = false := by simpa using h1
      have t3' : (a1 == b1) = false := by simpa using h1
      obtain rfl : R = false := by rw [← HR.out]; simp [h1]
      subst h0
      clear h1
      go_wp2_with fail
      go_ret
      exact ⟨rfl, hB⟩
  · have t3 : decide (a0 = b0) = false := by simpa using h0
    have t3' : (a0 == b0) = false := by simpa using h0
    obtain rfl : R = false := by rw [← HR.out]; simp [h0]
    clear h0
    go_wp2_with fail
    go_ret
    exact ⟨rfl, hB⟩
theorem comps_equal (u v : Value) (xs ys : List CompArg) (w : World) (hA : IsComps w u xs) (hB : IsComps w v ys) (hn : xs.length ≤ 1000000) (hl : ∀ c ∈ xs, c.bs.length ≤ 1000000) :
    Calls Try.prog 78 #[u, v, .func (.func 79) #[] #[]] w fun e w' => e = .returned (.bool (decide (xs.map cd = ys.map cd))) ∧ Below w.heap.size w w' := by
  obtain ⟨au, ca, rfl⟩ := hA.len
  obtain ⟨bv, cb, rfl⟩ := hB.len
  have HLB := Lib.hid hl
  clear hl
  by_cases hl : xs.length = ys.length
  · rw [← hl] at hB ⊢
    have HL := Lib.hid hl
    clear hl
    go_enter Try.func78, Try.ntmps78
    go_wp2_with fail
    go_loopw [17] (fun i wr => ∃ j : Nat, j ≤ xs.length ∧ i = .int .i64 j ∧ Below w.heap.size w wr ∧ EqTo (xs.map cd) (ys.map cd) j) (fun i _ => xs.length - (intOf i).toNat)
    case atStart => exact ⟨0, Nat.zero_le _, rfl, Below.refl _ _, EqTo.zero _ _⟩
    case round =>
      obtain ⟨j, hj, rfl, hb, hE⟩ := hrel
      by_cases hlt : j < xs.length
      · have tj : decide (j < xs.length) = true := by simpa using hlt
        have hlt2 : j < ys.length := by rw [← HL.out]; exact hlt
        have hA' := hA.below hb
        have hB2 : IsComps wr (.slice bv ys.length cb) ys := by have h := hB.below hb; rw [HL.out] at h; exact h
        obtain ⟨a, rfl, c0, c1, c2, c3, c4, c5, c6⟩ := hA'.at hlt
        have hj0 : (0 : Int) ≤ (j : Int) := by omega
        have hj1 : (j : Int) < (xs.length : Int) := by omega
        have hsm := fun W h1 h2 => comp_same (xs[j]'hlt) (ys[j]'hlt2) (HLB.out _ (List.getElem_mem hlt)) W h1 h2
        have HOa := hA'.ok _ (List.getElem_mem hlt)
        have HOb := hB2.ok _ (List.getElem_mem hlt2)
        obtain ⟨ub, ucap, hu, -, -⟩ := HOa.ar.len
        obtain ⟨zb, zcap, hz, -, -⟩ := HOb.ar.len
        have hstep : ∀ b, decide (cd (xs[j]'hlt) = cd (ys[j]'hlt2)) = b → (b = true → EqTo (xs.map cd) (ys.map cd) (j + 1)) ∧ (b = false → decide (xs.map cd = ys.map cd) = false) := fun b hb => by
          subst hb
          refine ⟨fun h => hE.step (by simp [hlt, hlt2, of_decide_eq_true h]), fun h => decide_eq_false fun he => of_decide_eq_false h ?_⟩
          have := congrArg (fun l => l[j]?) he
          simpa [hlt, hlt2] using this
        unfold CompArg.val at hsm
        rw [hu] at c6
        rw [hu, hz] at hsm
        obtain ⟨b, hb0⟩ : ∃ b, decide (cd (xs[j]'hlt) = cd (ys[j]'hlt2)) = b := ⟨_, rfl⟩
        rw [hb0] at hsm
        have hst := hstep b hb0
        clear hstep hb0
        obtain ⟨M, hM⟩ : ∃ M, M = wr.heap.size := ⟨_, rfl⟩
        have hMw : w.heap.size ≤ M := by rw [hM]; exact hb.size
        go_upto_region 6 with fail
        refine wp_world (fun W => Blk W M #[.int .i64 (xs[j]'hlt).id, .int .i64 (xs[j]'hlt).h, .int .i64 (xs[j]'hlt).v, .int .i64 (xs[j]'hlt).q, .int .i64 (xs[j]'hlt).c, .int .i64 (xs[j]'hlt).r, .slice ub (xs[j]'hlt).bs.length ucap] 63 ∧ Below wr.heap.size wr W) ⟨Blk.new' _ _ _ hM, (Below.refl _ _).alloc (Nat.le_refl _) _⟩ ?_
        rw [← hM]
        clear c0 c1 c2 c3 c4 c5 c6
        rintro W ⟨bM, hbW⟩
        rw [hM] at hbW
        obtain ⟨a', ha', d0, d1, d2, d3, d4, d5, d6⟩ := (hB2.below hbW).at hlt2
        subst ha'
        rw [hz] at d6
        have hj2 : (j : Int) < (ys.length : Int) := by omega
        obtain ⟨K, hK⟩ : ∃ K, K = W.heap.size := ⟨_, rfl⟩
        go_upto_region 7 with fail
        have hal := (Below.refl W.heap.size W).alloc (Nat.le_refl _) (.cells #[.int .i64 (ys[j]'hlt2).id, .int .i64 (ys[j]'hlt2).h, .int .i64 (ys[j]'hlt2).v, .int .i64 (ys[j]'hlt2).q, .int .i64 (ys[j]'hlt2).c, .int .i64 (ys[j]'hlt2).r, .slice zb (ys[j]'hlt2).bs.length zcap] 63)
        refine wp_world (fun W => Blk W M #[.int .i64 (xs[j]'hlt).id, .int .i64 (xs[j]'hlt).h, .int .i64 (xs[j]'hlt).v, .int .i64 (xs[j]'hlt).q, .int .i64 (xs[j]'hlt).c, .int .i64 (xs[j]'hlt).r, .slice ub (xs[j]'hlt).bs.length ucap] 63 ∧ Blk W K #[.int .i64 (ys[j]'hlt2).id, .int .i64 (ys[j]'hlt2).h, .int .i64 (ys[j]'hlt2).v, .int .i64 (ys[j]'hlt2).q, .int .i64 (ys[j]'hlt2).c, .int .i64 (ys[j]'hlt2).r, .slice zb (ys[j]'hlt2).bs.length zcap] 63 ∧ Below wr.heap.size wr W) ⟨bM.below hal bM.lt, Blk.new' _ _ _ hK, hbW.trans (hal.mono hbW.size)⟩ ?_
        rw [← hK]
        clear d0 d1 d2 d3 d4 d5 d6 hal bM hbW hK
        rintro W2 ⟨bM, bK, hbW⟩
        have hs2 := hsm W2 (HOa.below hbW) (HOb.below hbW)
        have hBW := hb.trans (hbW.mono hb.size)
        clear hsm HOa HOb hbW hM hA' hB2 hu hz
        generalize (xs[j]'hlt).id = x0 at *
        generalize (xs[j]'hlt).h = x1 at *
        generalize (xs[j]'hlt).v = x2 at *
        generalize (xs[j]'hlt).q = x3 at *
        generalize (xs[j]'hlt).c = x4 at *
        generalize (xs[j]'hlt).r = x5 at *
        generalize (xs[j]'hlt).bs.length = x6 at *
        generalize (ys[j]'hlt2).id = y0 at *
        generalize (ys[j]'hlt2).h = y1 at *
        generalize (ys[j]'hlt2).v = y2 at *
        generalize (ys[j]'hlt2).q = y3 at *
        generalize (ys[j]'hlt2).c = y4 at *
        generalize (ys[j]'hlt2).r = y5 at *
        generalize (ys[j]'hlt2).bs.length = y6 at *
        cases b
        · have hd := Lib.hid (hst.2 rfl)
          clear hst hE
          go_wp2_with (first | (refine wpList_load_row rfl 63 _ rfl M rfl 63 _ _ _ bM Try.underlying63 rfl (by kernel_rfl) ?_) | (refine wpList_load_row rfl 63 _ rfl K rfl 63 _ _ _ bK Try.underlying63 rfl (by kernel_rfl) ?_) | (go_at_call 79; refine hs2.mono ?_; rintro e w3 ⟨rfl, hb3⟩))
          go_ret
          exact ⟨by rw [hd.out]; rfl, hBW.trans (hb3.mono hBW.size)⟩
        · have hE2 := Lib.hid (hst.1 rfl)
          clear hst hE
          go_wp2_with (first | (refine wpList_load_row rfl 63 _ rfl M rfl 63 _ _ _ bM Try.underlying63 rfl (by kernel_rfl) ?_) | (refine wpList_load_row rfl 63 _ rfl K rfl 63 _ _ _ bK Try.underlying63 rfl (by kernel_rfl) ?_) | (go_at_call 79; refine hs2.mono ?_; rintro e w3 ⟨rfl, hb3⟩))
          exact ⟨⟨j + 1, by omega, by go_num, hBW.trans (hb3.mono hBW.size), hE2.out⟩, by simp [intOf]; omega⟩
      · have tj : decide (j < xs.length) = false := by simpa using hlt
        obtain rfl : j = xs.length := by omega
        have he := Lib.hid (decide_eq_true (hE.all (by simp) (by simp [HL.out])))
        clear hE
        go_wp2_with fail
        go_ret
        exact ⟨by rw [he.out]; rfl, hb⟩
  · have tl : decide ((xs.length : Int) = (ys.length : Int)) = false := by simp; omega
    have hne : ¬ xs.map cd = ys.map cd := fun h => hl (by simpa using congrArg List.length h)
    have hd := Lib.hid (decide_eq_false hne)
    clear hne
    go_enter Try.func78, Try.ntmps78
    go_wp2_with fail
    go_ret
    exact ⟨by rw [hd.out]; rfl, Below.refl _ _⟩
/-- Are two images alike? -/
def sameB (x y : ImgArg) : Bool := decide (x.w = y.w ∧ x.h = y.h ∧ x.cs.map cd = y.cs.map cd ∧ x.qs.map qd = y.qs.map qd ∧ x.ts.map td = y.ts.map td)
/-- Two images in blocks N and N + 1. -/
structure TwoI (N : Nat) (x y : ImgArg) (w W : World) : Prop where
  bN : Blk W N #[.int .i64 x.w, .int .i64 x.h, x.cu, x.qu, x.tu] 26
  bM : Blk W (N + 1) #[.int .i64 y.w, .int .i64 y.h, y.cu, y.qu, y.tu] 26
  hx : IsImg W (.agg #[.int .i64 x.w, .int .i64 x.h, x.cu, x.qu, x.tu]) x
  hy : IsImg W (.agg #[.int .i64 y.w, .int .i64 y.h, y.cu, y.qu, y.tu]) y
  hM : w.heap.size ≤ N
  hB : Below w.heap.size w W
theorem TwoI.below {N : Nat} {x y : ImgArg} {w W W' : World} (h : TwoI N x y w W) (hb : Below W.heap.size W W') : TwoI N x y w W' :=
  ⟨h.bN.below hb h.bN.lt, h.bM.below hb h.bM.lt, h.hx.below hb, h.hy.below hb, h.hM, h.hB.trans (hb.mono h.hB.size)⟩
theorem TwoI.begin {x y : ImgArg} {w : World} (h1 : IsImg w x.val x) (h2 : IsImg w y.val y) : TwoI w.heap.size x y w ((w.alloc (.cells #[.int .i64 x.w, .int .i64 x.h, x.cu, x.qu, x.tu] 26)).alloc (.cells #[.int .i64 y.w, .int .i64 y.h, y.cu, y.qu, y.tu] 26)) := by
  have hb : Below w.heap.size w ((w.alloc (.cells #[.int .i64 x.w, .int .i64 x.h, x.cu, x.qu, x.tu] 26)).alloc (.cells #[.int .i64 y.w, .int .i64 y.h, y.cu, y.qu, y.tu] 26)) := ((Below.refl _ _).alloc (Nat.le_refl _) _).alloc (by simp) _
  exact ⟨(Blk.new _ _ _).alloc _, Blk.new' _ _ _ (by simp), h1.below hb, h2.below hb, Nat.le_refl _, hb⟩
theorem img_same (x y : ImgArg) (hf : FewOk x) (w : World) (h1 : IsImg w x.val x) (h2 : IsImg w y.val y) :
    Calls Try.prog 29 #[x.val, y.val] w fun e w' => e = .returned (.bool (sameB x y)) ∧ Below w.heap.size w w' := by
  obtain ⟨R, hR⟩ : ∃ R, sameB x y = R := ⟨_, rfl⟩
  rw [hR]
  unfold sameB at hR
  have HR := Lib.hid hR
  have hT := TwoI.begin h1 h2
  have hc := fun W (h : TwoI w.heap.size x y w W) => comps_equal x.cu y.cu x.cs y.cs W h.hx.cs h.hy.cs (by have := hf.c20; omega) (fun c hc => by have := hf.b300 c hc; omega)
  have hq := fun W (h : TwoI w.heap.size x y w W) => quants_equal x.qu y.qu x.qs y.qs W h.hx.qs h.hy.qs (by have := hf.q20; omega)
  have ht := fun W (h : TwoI w.heap.size x y w W) => tags_equal x.tu y.tu x.ts y.ts W h.hx.ts h.hy.ts (by have := hf.t100; omega)
  unfold ImgArg.val
  obtain ⟨C, hC⟩ : ∃ C, decide (x.cs.map cd = y.cs.map cd) = C := ⟨_, rfl⟩
  obtain ⟨Q, hQ⟩ : ∃ C, decide (x.qs.map qd = y.qs.map qd) = C := ⟨_, rfl⟩
  obtain ⟨T, hT'⟩ : ∃ C, decide (x.ts.map td = y.ts.map td) = C := ⟨_, rfl⟩
  rw [hC] at hc
  rw [hQ] at hq
  rw [hT'] at ht
  have HC := Lib.hid hC; have HQ := Lib.hid hQ; have HT := Lib.hid hT'
  obtain ⟨N, hN⟩ : ∃ N, N = w.heap.size := ⟨_, rfl⟩
  have HN := Lib.hid hN
  rw [← hN] at hT hc hq ht
  clear hC hQ hT' hR hN h1 h2
  go_enter Try.func29, Try.ntmps29
  go_upto_region 1 with fail
  refine wp_world (TwoI N x y w) hT ?_
  rw [← HN.out]
  clear hT
  intro W hT
  have p0 := hT.bN.cell 0; have p1 := hT.bN.cell 1; have p2 := hT.bN.cell 2
  have q0 := hT.bM.cell 0; have q1 := hT.bM.cell 1; have q2 := hT.bM.cell 2
  by_cases e0 : x.w = y.w
  · by_cases e1 : x.h = y.h
    · have t0 : (x.w == y.w) = true := by simpa using e0
      have t0' : decide (x.w = y.w) = true := by simpa using e0
      have t1 : (x.h == y.h) = true := by simpa using e1
      have t1' : decide (x.h = y.h) = true := by simpa using e1
      have hr : decide (x.cs.map cd = y.cs.map cd ∧ x.qs.map qd = y.qs.map qd ∧ x.ts.map td = y.ts.map td) = R := by rw [← HR.out]; simp [e0, e1]
      have hr2 : (C && (Q && T)) = R := by rw [← hr, ← HC.out, ← HQ.out, ← HT.out]; simp
      clear hr e0 e1
      have HR2 := Lib.hid hr2
      clear hr2
      cases C
      · obtain rfl : R = false := by rw [← HR2.out]; rfl
        go_wp2_with (go_at_call 78; refine (hc _ hT).mono ?_; rintro e w1 ⟨rfl, hb1⟩)
        go_ret
        rw [HN.out]
        exact ⟨rfl, (hT.below hb1).hB⟩
      · cases Q
        · obtain rfl : R = false := by rw [← HR2.out]; rfl
          go_wp2_with (first | (go_at_call 78; refine (hc _ hT).mono ?_; rintro e w1 ⟨rfl, hb1⟩; have hT1 := hT.below hb1; have p3 := hT1.bN.cell 3; have q3 := hT1.bM.cell 3) | (go_at_call 80; refine (hq _ hT1).mono ?_; rintro e w2 ⟨rfl, hb2⟩))
          go_ret
          rw [HN.out]
          exact ⟨rfl, (hT1.below hb2).hB⟩
        · obtain rfl : T = R := by rw [← HR2.out]; simp
          go_wp2_with (first | (go_at_call 78; refine (hc _ hT).mono ?_; rintro e w1 ⟨rfl, hb1⟩; have hT1 := hT.below hb1; have p3 := hT1.bN.cell 3; have q3 := hT1.bM.cell 3) | (go_at_call 80; refine (hq _ hT1).mono ?_; rintro e w2 ⟨rfl, hb2⟩; have hT2 := hT1.below hb2; have p4 := hT2.bN.cell 4; have q4 := hT2.bM.cell 4) | (go_at_call 81; refine (ht _ hT2).mono ?_; rintro e w3 ⟨rfl, hb3⟩))
          go_ret
          rw [HN.out]
          exact ⟨rfl, (hT2.below hb3).hB⟩
    · have t0 : (x.w == y.w) = true := by simpa using e0
      have t0' : decide (x.w = y.w) = true := by simpa using e0
      have t1 : (x.h == y.h) = false := by simpa using e1
      have t1' : decide (x.h = y.h) = false := by simpa using e1
      obtain rfl : R = false := by rw [← HR.out]; simp [e1]
      clear e0 e1
      go_wp2_with fail
      go_ret
      rw [HN.out]
      exact ⟨rfl, hT.hB⟩
  · have t0 : (x.w == y.w) = false := by simpa using e0
    have t0' : decide (x.w = y.w) = false := by simpa using e0
    obtain rfl : R = false := by rw [← HR.out]; simp [e0]
    clear e0
    go_wp2_with fail
    go_ret
    rw [HN.out]
    exact ⟨rfl, hT.hB⟩
end Go.Proofs.Ytgmhhocpdfdplaa
