/- Texts on one foundation, joined: RSame, R11s. -/
import Derived.Test.YtgmhhocpdfdplaaGreatGJ
import Derived.Test.YtgmhhocpdfdplaaGreatGM
import Derived.BigRegion
/- The reference's Same of planes, walked. -/
namespace Go.Proofs.YtgmhhocpdfdplaaGreat
open Go.RowKit
set_option maxRecDepth 100000
set_option maxHeartbeats 4000000
theorem ref_same (c r c2 r2 : Int) (u v : Value) (xs ys : List (List Int)) (ha64 : Right64 xs) (hb64 : Right64 ys) (w : World) (hA : Ar w 64 u xs.length (bcells xs)) (hB : Ar w 64 v ys.length (bcells ys)) (hn : xs.length ≤ 9223372036854775806) :
    Calls Tryz.prog 19 #[.agg #[.int .i64 c, .int .i64 r, u], .agg #[.int .i64 c2, .int .i64 r2, v]] w fun e w' => e = .returned (.bool (decide (c = c2 ∧ r = r2 ∧ xs = ys))) ∧ Below w.heap.size w w' := by
  obtain ⟨au, ca, rfl, -, -⟩ := hA.len
  obtain ⟨bv, cb, rfl, -, -⟩ := hB.len
  obtain ⟨N, hN⟩ : ∃ N, N = w.heap.size := ⟨_, rfl⟩
  have HN := Lib.hid hN
  rw [← hN]
  clear hN
  go_enter Tryz.func19, Tryz.ntmps19
  go_upto_region 1 with fail
  refine wp_world (fun W => (Blk W N #[.int .i64 c, .int .i64 r, .slice au xs.length ca] 46 ∧ Blk W (N + 1) #[.int .i64 c2, .int .i64 r2, .slice bv ys.length cb] 46) ∧ Below N w W) ?_ ?_
  · rw [HN.out]
    exact ⟨⟨(Blk.new _ _ _).alloc _, Blk.new' _ _ _ (by simp)⟩, ((Below.refl _ _).alloc (Nat.le_refl _) _).alloc (by simp) _⟩
  have hhN := HN.out
  rw [← hhN]
  clear hhN
  rintro W0 ⟨⟨b0, b1⟩, hB0⟩
  have q0 := b0.cell 0
  have q1 := b0.cell 1
  have q2 := b0.cell 2
  have p0 := b1.cell 0
  have p1 := b1.cell 1
  have p2 := b1.cell 2
  by_cases h1 : c = c2
  · by_cases h2 : r = r2
    · subst h1 h2
      by_cases hl : xs.length = ys.length
      · have HL := Lib.hid hl
        rw [← hl] at hB b1 p2
        clear hl
        go_wp2_with fail
        go_loopw [5] (fun i wr => ∃ j : Nat, j ≤ xs.length ∧ i = .int .i64 j ∧ ((Blk wr N #[.int .i64 c, .int .i64 r, .slice au xs.length ca] 46 ∧ Blk wr (N + 1) #[.int .i64 c, .int .i64 r, .slice bv xs.length cb] 46) ∧ Below N w wr) ∧ ∀ k, k < j → Pl.blk xs k = Pl.blk ys k) (fun i _ => xs.length - (intOf i).toNat)
        case atStart => exact ⟨0, Nat.zero_le _, rfl, ⟨⟨b0, b1⟩, hB0⟩, fun k hk => absurd hk (by omega)⟩
        case round =>
          clear b0 b1 hB0 q0 q1 q2 p0 p1 p2
          obtain ⟨j, hj, rfl, ⟨⟨b0, b1⟩, hB0⟩, hE⟩ := hrel
          have q2 := b0.cell 2
          by_cases hlt : j < xs.length
          · have tj : decide (j < xs.length) = true := by simpa using hlt
            have hlt2 : j < ys.length := by rw [← HL.out]; exact hlt
            obtain ⟨ad, ca', he, -, -⟩ := hA.some (by omega)
            obtain ⟨rfl, rfl⟩ : au = some ad ∧ ca = ca' := by simpa using he
            obtain ⟨bd, cb', he2, -, -⟩ := hB.some (by omega)
            obtain ⟨rfl, rfl⟩ : bv = some bd ∧ cb = cb' := by simpa using he2
            have hj0 : (0 : Int) ≤ (j : Int) := by omega
            have hj1 : (j : Int) < (xs.length : Int) := by omega
            have hB2 : Ar w 64 (.slice (some bd) ys.length cb) ys.length (bcells ys) := by have h := hB; rw [HL.out] at h; exact h
            clear he he2
            go_upto_region 6 with fail
            refine wp_region_det (fun W => (Blk W N #[.int .i64 c, .int .i64 r, .slice (some ad) xs.length ca] 46 ∧ Blk W (N + 1) #[.int .i64 c, .int .i64 r, .slice (some bd) xs.length cb] 46) ∧ Below N w W) (by kernel_rfl) (by kernel_rfl) ⟨⟨b0.drew, b1.drew⟩, hB0.drew⟩ ?_
            clear b0 b1 hB0 q2
            (repeat (first | (refine det_skip (by rfl) ?_; simp only [Act.put, List.setIfInBounds_toArray, List.set_cons_zero, List.set_cons_succ]) | (refine det_pure (v := ?_) (by rfl) ?_ ?_; rotate_left; (intro wS hS; go_simp; try with_reducible rfl); simp only [Act.put, List.setIfInBounds_toArray, List.set_cons_zero, List.set_cons_succ])))
            refine det_pure (v := .slice (some ad) xs.length ca) (by rfl) (fun w1 hS => by have cy := hS.1.1.cell 2; go_simp; try with_reducible rfl) ?_
            simp only [Act.put, List.setIfInBounds_toArray, List.set_cons_zero, List.set_cons_succ]
            (repeat (first | (refine det_skip (by rfl) ?_; simp only [Act.put, List.setIfInBounds_toArray, List.set_cons_zero, List.set_cons_succ]) | (refine det_pure (v := ?_) (by rfl) ?_ ?_; rotate_left; (intro wS hS; go_simp; try with_reducible rfl); simp only [Act.put, List.setIfInBounds_toArray, List.set_cons_zero, List.set_cons_succ])))
            refine det_pure (by rfl) (fun w1 hS => ar_loadx (hA.below (by rw [← HN.out]; exact hS.2)) ha64 j hlt _ (Pl.blk_get hlt) _ rfl rfl) ?_
            simp only [Act.put, List.setIfInBounds_toArray, List.set_cons_zero, List.set_cons_succ]
            (repeat (first | (refine det_skip (by rfl) ?_; simp only [Act.put, List.setIfInBounds_toArray, List.set_cons_zero, List.set_cons_succ]) | (refine det_pure (v := ?_) (by rfl) ?_ ?_; rotate_left; (intro wS hS; go_simp; try with_reducible rfl); simp only [Act.put, List.setIfInBounds_toArray, List.set_cons_zero, List.set_cons_succ])))
            refine det_pure (v := .slice (some bd) xs.length cb) (by rfl) (fun w1 hS => by have cy := hS.1.2.cell 2; go_simp; try with_reducible rfl) ?_
            simp only [Act.put, List.setIfInBounds_toArray, List.set_cons_zero, List.set_cons_succ]
            (repeat (first | (refine det_skip (by rfl) ?_; simp only [Act.put, List.setIfInBounds_toArray, List.set_cons_zero, List.set_cons_succ]) | (refine det_pure (v := ?_) (by rfl) ?_ ?_; rotate_left; (intro wS hS; go_simp; try with_reducible rfl); simp only [Act.put, List.setIfInBounds_toArray, List.set_cons_zero, List.set_cons_succ])))
            refine det_pure (by rfl) (fun w1 hS => ar_loadx (hB2.below (by rw [← HN.out]; exact hS.2)) hb64 j hlt2 _ (Pl.blk_get hlt2) _ rfl rfl) ?_
            simp only [Act.put, List.setIfInBounds_toArray, List.set_cons_zero, List.set_cons_succ]
            refine det_pure (by rfl) (fun w1 _ => run_exec_neq_ints 66 _ _ _ rfl 64 64 .i16 (Pl.blk xs j) (Pl.blk ys j) rfl rfl Tryz.underlying66 Tryz.underlying64 (by kernel_rfl) (Pl.blk_len ha64 j) (Pl.blk_len hb64 j) (by kernel_rfl)) ?_
            simp only [Act.put, List.setIfInBounds_toArray, List.set_cons_zero, List.set_cons_succ]
            refine det_nil ?_
            rintro W2 ⟨⟨b0, b1⟩, hB0⟩
            by_cases he : Pl.blk xs j = Pl.blk ys j
            · rw [decide_eq_true he]
              go_wp2_with fail
              exact ⟨⟨j + 1, by omega, by go_num, ⟨⟨b0, b1⟩, hB0⟩, fun k hk => by
                by_cases hkj : k = j
                · rw [hkj]; exact he
                · exact hE k (by omega)⟩, by simp [intOf]; omega⟩
            · rw [decide_eq_false he]
              have : ¬ xs = ys := fun h => he (by rw [h])
              go_wp2_with fail
              go_ret
              exact ⟨rfl, hB0⟩
          · have tj : decide (j < xs.length) = false := by simpa using hlt
            obtain rfl : j = xs.length := by omega
            go_wp2_with fail
            go_ret
            have : xs = ys := List.ext_getElem HL.out (fun i h1 h2 => by rw [blk_getL h1, blk_getL h2]; exact hE i h1)
            subst this
            simp only [decide_true]
            exact ⟨rfl, hB0⟩
      · have tl : decide ((xs.length : Int) = (ys.length : Int)) = false := by simp; omega
        have : ¬ xs = ys := fun h => hl (by rw [h])
        go_wp2_with fail
        go_ret
        exact ⟨rfl, hB0⟩
    · have t2 : decide (r = r2) = false := by simpa using h2
      subst h1
      go_wp2_with fail
      go_ret
      exact ⟨by simp, hB0⟩
  · have t1 : decide (c = c2) = false := by simpa using h1
    go_wp2_with fail
    go_ret
    exact ⟨by simp [h1], hB0⟩
end Go.Proofs.YtgmhhocpdfdplaaGreat
/- The reference's Same of images, walked. -/
namespace Go.Proofs.YtgmhhocpdfdplaaGreat
open Go.RowKit
set_option maxRecDepth 100000
set_option maxHeartbeats 8000000
theorem TwoI.xs {N : Nat} {x y : ImgArg} {w W : World} (h : TwoI N x y w W) {v : Value} (e : x.cu = v) : IsComps W v x.cs := by rw [← e]; exact h.hx.cs
theorem TwoI.ys {N : Nat} {x y : ImgArg} {w W : World} (h : TwoI N x y w W) {v : Value} (e : y.cu = v) : IsComps W v y.cs := by rw [← e]; exact h.hy.cs
theorem TwoI.xq {N : Nat} {x y : ImgArg} {w W : World} (h : TwoI N x y w W) {v : Value} (e : x.qu = v) : IsQuants W v x.qs := by rw [← e]; exact h.hx.qs
theorem TwoI.yq {N : Nat} {x y : ImgArg} {w W : World} (h : TwoI N x y w W) {v : Value} (e : y.qu = v) : IsQuants W v y.qs := by rw [← e]; exact h.hy.qs
theorem TwoI.xt {N : Nat} {x y : ImgArg} {w W : World} (h : TwoI N x y w W) {v : Value} (e : x.tu = v) : IsTags W v x.ts := by rw [← e]; exact h.hx.ts
theorem TwoI.yt {N : Nat} {x y : ImgArg} {w W : World} (h : TwoI N x y w W) {v : Value} (e : y.tu = v) : IsTags W v y.ts := by rw [← e]; exact h.hy.ts
theorem TwoI.rows {N : Nat} {x y : ImgArg} {w W W' : World} (h : TwoI N x y w W) (hb : Below W.heap.size W W') : TwoI N x y w W' := h.below hb
theorem ref11_same (x y : ImgArg) (hf : FewOk x) (w : World) (h1 : IsImg w x.val x) (h2 : IsImg w y.val y) :
    Calls Tryz.prog 9 #[x.val, y.val] w fun e w' => e = .returned (.bool (sameB x y)) ∧ Below w.heap.size w w' := by
  obtain ⟨R, hR⟩ : ∃ R, sameB x y = R := ⟨_, rfl⟩
  rw [hR]
  unfold sameB at hR
  have HR := Lib.hid hR
  have hT := TwoI.begin h1 h2
  obtain ⟨cb, ccap, hcu⟩ := h1.cs.len
  obtain ⟨qb, qcap, hqu⟩ := h1.qs.len
  obtain ⟨tb, tcap, htu⟩ := h1.ts.len
  obtain ⟨db, dcap, hdu⟩ := h2.cs.len
  obtain ⟨rb, rcap, hru⟩ := h2.qs.len
  obtain ⟨sb, scap, hsu⟩ := h2.ts.len
  have HCU := Lib.hid hcu; have HQU := Lib.hid hqu; have HTU := Lib.hid htu
  have HDU := Lib.hid hdu; have HRU := Lib.hid hru; have HSU := Lib.hid hsu
  have c20 := hf.c20
  have q20 := hf.q20
  have t100 := hf.t100
  have HF := Lib.hid hf
  unfold ImgArg.val
  obtain ⟨N, hN⟩ : ∃ N, N = w.heap.size := ⟨_, rfl⟩
  have HN := Lib.hid hN
  rw [← hN] at hT
  clear hcu hqu htu hdu hru hsu hN hR hf
  go_enter Tryz.func9, Tryz.ntmps9
  go_upto_region 1 with fail
  refine wp_world (TwoI N x y w) hT ?_
  rw [← HN.out]
  clear hT h1 h2
  intro W hT
  have p0 := hT.bN.cell 0; have p1 := hT.bN.cell 1
  have q0 := hT.bM.cell 0; have q1 := hT.bM.cell 1
  have p2 : W.cell? ⟨N, 2, none⟩ = some (.slice cb x.cs.length ccap) := by rw [← HCU.out]; exact hT.bN.cell 2
  have p3 : W.cell? ⟨N, 3, none⟩ = some (.slice qb x.qs.length qcap) := by rw [← HQU.out]; exact hT.bN.cell 3
  have p4 : W.cell? ⟨N, 4, none⟩ = some (.slice tb x.ts.length tcap) := by rw [← HTU.out]; exact hT.bN.cell 4
  have q2 : W.cell? ⟨N + 1, 2, none⟩ = some (.slice db y.cs.length dcap) := by rw [← HDU.out]; exact hT.bM.cell 2
  have q3 : W.cell? ⟨N + 1, 3, none⟩ = some (.slice rb y.qs.length rcap) := by rw [← HRU.out]; exact hT.bM.cell 3
  have q4 : W.cell? ⟨N + 1, 4, none⟩ = some (.slice sb y.ts.length scap) := by rw [← HSU.out]; exact hT.bM.cell 4
  have lenF : ∀ {α β : Type} {f : α → β} {l m : List α}, l.map f = m.map f → l.length = m.length := fun h => by simpa using congrArg List.length h
  by_cases e0 : x.w = y.w
  rotate_left
  · have t0 : decide (x.w = y.w) = false := by simpa using e0
    have t0' : (x.w != y.w) = true := by simpa using e0
    obtain rfl : R = false := by rw [← HR.out]; simp [e0]
    clear e0
    go_wp2_with fail
    go_ret
    rw [HN.out]
    exact ⟨rfl, hT.hB⟩
  by_cases e1 : x.h = y.h
  rotate_left
  · have t0 : decide (x.w = y.w) = true := by simpa using e0
    have t0' : (x.w != y.w) = false := by simpa using e0
    have t1 : decide (x.h = y.h) = false := by simpa using e1
    have t1' : (x.h != y.h) = true := by simpa using e1
    obtain rfl : R = false := by rw [← HR.out]; simp [e1]
    clear e0 e1
    go_wp2_with fail
    go_ret
    rw [HN.out]
    exact ⟨rfl, hT.hB⟩
  have t0 : decide (x.w = y.w) = true := by simpa using e0
  have t0' : (x.w != y.w) = false := by simpa using e0
  have t1 : decide (x.h = y.h) = true := by simpa using e1
  have t1' : (x.h != y.h) = false := by simpa using e1
  have hr : decide (x.cs.map cd = y.cs.map cd ∧ x.qs.map qd = y.qs.map qd ∧ x.ts.map td = y.ts.map td) = R := by rw [← HR.out]; simp [e0, e1]
  have HR2 := Lib.hid hr
  clear hr e0 e1 HR
  by_cases e2 : x.cs.length = y.cs.length
  rotate_left
  · have t2 : decide (x.cs.length = y.cs.length) = false := by simpa using e2
    have t2' : decide ((x.cs.length : Int) = (y.cs.length : Int)) = false := by simp; omega
    have t2'' : ((x.cs.length : Int) != (y.cs.length : Int)) = true := by simp; omega
    obtain rfl : R = false := by rw [← HR2.out]; exact decide_eq_false fun h => e2 (lenF h.1)
    clear e2
    go_wp2_with fail
    go_ret
    rw [HN.out]
    exact ⟨rfl, hT.hB⟩
  by_cases e3 : x.qs.length = y.qs.length
  rotate_left
  · have t2 : decide (x.cs.length = y.cs.length) = true := by simpa using e2
    have t2' : decide ((x.cs.length : Int) = (y.cs.length : Int)) = true := by simp; omega
    have t2'' : ((x.cs.length : Int) != (y.cs.length : Int)) = false := by simp; omega
    have t3 : decide (x.qs.length = y.qs.length) = false := by simpa using e3
    have t3' : decide ((x.qs.length : Int) = (y.qs.length : Int)) = false := by simp; omega
    have t3'' : ((x.qs.length : Int) != (y.qs.length : Int)) = true := by simp; omega
    obtain rfl : R = false := by rw [← HR2.out]; exact decide_eq_false fun h => e3 (lenF h.2.1)
    clear e2 e3
    go_wp2_with fail
    go_ret
    rw [HN.out]
    exact ⟨rfl, hT.hB⟩
  by_cases e4 : x.ts.length = y.ts.length
  rotate_left
  · have t2 : decide (x.cs.length = y.cs.length) = true := by simpa using e2
    have t2' : decide ((x.cs.length : Int) = (y.cs.length : Int)) = true := by simp; omega
    have t2'' : ((x.cs.length : Int) != (y.cs.length : Int)) = false := by simp; omega
    have t3 : decide (x.qs.length = y.qs.length) = true := by simpa using e3
    have t3' : decide ((x.qs.length : Int) = (y.qs.length : Int)) = true := by simp; omega
    have t3'' : ((x.qs.length : Int) != (y.qs.length : Int)) = false := by simp; omega
    have t4 : decide (x.ts.length = y.ts.length) = false := by simpa using e4
    have t4' : decide ((x.ts.length : Int) = (y.ts.length : Int)) = false := by simp; omega
    have t4'' : ((x.ts.length : Int) != (y.ts.length : Int)) = true := by simp; omega
    obtain rfl : R = false := by rw [← HR2.out]; exact decide_eq_false fun h => e4 (lenF h.2.2)
    clear e2 e3 e4
    go_wp2_with fail
    go_ret
    rw [HN.out]
    exact ⟨rfl, hT.hB⟩
  have t2 : decide (x.cs.length = y.cs.length) = true := by simpa using e2
  have t2' : decide ((x.cs.length : Int) = (y.cs.length : Int)) = true := by simp; omega
  have t2'' : ((x.cs.length : Int) != (y.cs.length : Int)) = false := by simp; omega
  have t3 : decide (x.qs.length = y.qs.length) = true := by simpa using e3
  have t3' : decide ((x.qs.length : Int) = (y.qs.length : Int)) = true := by simp; omega
  have t3'' : ((x.qs.length : Int) != (y.qs.length : Int)) = false := by simp; omega
  have t4 : decide (x.ts.length = y.ts.length) = true := by simpa using e4
  have t4' : decide ((x.ts.length : Int) = (y.ts.length : Int)) = true := by simp; omega
  have t4'' : ((x.ts.length : Int) != (y.ts.length : Int)) = false := by simp; omega
  have E2 := Lib.hid e2; have E3 := Lib.hid e3; have E4 := Lib.hid e4
  clear e2 e3 e4
  go_wp2
  go_loopw [5] (fun iv wr => ∃ j : Nat, j ≤ x.cs.length ∧ iv = .int .i64 j ∧ EqTo (x.cs.map cd) (y.cs.map cd) j ∧ TwoI N x y w wr) (fun iv _ => x.cs.length - (intOf iv).toNat)
  case atStart => exact ⟨0, Nat.zero_le _, rfl, EqTo.zero _ _, hT⟩
  case round =>
    clear hT p0 p1 p2 p3 p4 q0 q1 q2 q3 q4
    obtain ⟨j, hj, rfl, hE, hT⟩ := hrel
    have p2 : wr.cell? ⟨N, 2, none⟩ = some (.slice cb x.cs.length ccap) := by rw [← HCU.out]; exact hT.bN.cell 2
    by_cases hlt : j < x.cs.length
    · have tl : decide (j < x.cs.length) = true := by simpa using hlt
      have hlt2 : j < y.cs.length := by rw [← E2.out]; exact hlt
      have hA' : IsComps wr (.slice cb x.cs.length ccap) x.cs := hT.xs HCU.out
      have hB2 : IsComps wr (.slice db y.cs.length dcap) y.cs := hT.ys HDU.out
      have HOa := hA'.ok _ (List.getElem_mem hlt)
      have HOb := hB2.ok _ (List.getElem_mem hlt2)
      obtain ⟨a, rfl, -⟩ := hA'.at hlt
      obtain ⟨d, rfl, -⟩ := hB2.at hlt2
      have hj0 : (0 : Int) ≤ (j : Int) := by omega
      have hj1 : (j : Int) < (x.cs.length : Int) := by omega
      have hj2 : (j : Int) < (y.cs.length : Int) := by omega
      obtain ⟨ub, ucap, hu, -, -⟩ := HOa.ar.len
      obtain ⟨zb, zcap, hz, -, -⟩ := HOb.ar.len
      have hps := fun W h1 h2 => ref_same (x.cs[j]'hlt).c (x.cs[j]'hlt).r (y.cs[j]'hlt2).c (y.cs[j]'hlt2).r (x.cs[j]'hlt).u (y.cs[j]'hlt2).u (x.cs[j]'hlt).bs (y.cs[j]'hlt2).bs HOa.h64 HOb.h64 W h1 h2 (by have := HF.out.b300 _ (List.getElem_mem hlt); omega)
      rw [hu, hz] at hps
      have HA := HOa.ar
      have HB := HOb.ar
      rw [hu] at HA
      rw [hz] at HB
      obtain ⟨b, hb0⟩ : ∃ b, decide (cd (x.cs[j]'hlt) = cd (y.cs[j]'hlt2)) = b := ⟨_, rfl⟩
      have hst : (b = true → EqTo (x.cs.map cd) (y.cs.map cd) (j + 1)) ∧ (b = false → R = false) := by
        subst hb0
        refine ⟨fun h => hE.step (by simp [hlt, hlt2, of_decide_eq_true h]), fun h => ?_⟩
        rw [← HR2.out]
        refine decide_eq_false fun he => of_decide_eq_false h ?_
        have := congrArg (fun l => l[j]?) he.1
        simpa [hlt, hlt2] using this
      have HB0 := Lib.hid hb0
      have HST := Lib.hid hst
      clear hb0 hst hE
      have cp : ∀ W, Below wr.heap.size wr W → W.cell? ⟨N, 2, none⟩ = some (.slice (some a) x.cs.length ccap) := fun W hb => by rw [← HCU.out]; exact (hT.below hb).bN.cell 2
      have cq : ∀ W, Below wr.heap.size wr W → W.cell? ⟨N + 1, 2, none⟩ = some (.slice (some d) y.cs.length dcap) := fun W hb => by rw [← HDU.out]; exact (hT.below hb).bM.cell 2
      go_upto_region 6 with fail
      go_cut [6, 7] from 56 to 65 (fun s6 s7 wx => ∃ g1 g2 : Nat, s6 = .pointer (some ⟨g1, 0, none⟩) ∧ s7 = .pointer (some ⟨g2, 0, none⟩) ∧ Blk wx g1 #[.int .i64 (x.cs[j]'hlt).id, .int .i64 (x.cs[j]'hlt).h, .int .i64 (x.cs[j]'hlt).v, .int .i64 (x.cs[j]'hlt).q, .int .i64 (x.cs[j]'hlt).c, .int .i64 (x.cs[j]'hlt).r, .slice ub (x.cs[j]'hlt).bs.length ucap] 48 ∧ Blk wx g2 #[.int .i64 (y.cs[j]'hlt2).id, .int .i64 (y.cs[j]'hlt2).h, .int .i64 (y.cs[j]'hlt2).v, .int .i64 (y.cs[j]'hlt2).q, .int .i64 (y.cs[j]'hlt2).c, .int .i64 (y.cs[j]'hlt2).r, .slice zb (y.cs[j]'hlt2).bs.length zcap] 48 ∧ Below wr.heap.size wr wx)
      case first =>
        obtain ⟨a', ha', c0, c1, c2, c3, c4, c5, c6⟩ := hA'.at hlt
        cases ha'
        obtain ⟨d', hd', d0, d1, d2, d3, d4, d5, d6⟩ := hB2.at hlt2
        cases hd'
        rw [hu] at c6
        rw [hz] at d6
        have cy := cp wr (Below.refl _ _)
        have cz := cq wr (Below.refl _ _)
        have zz := hT.bN.lt
        have zy := hT.bM.lt
        have y1 := World.block_lt_of_cell? wr _ c1
        have y2 := World.block_lt_of_cell? wr _ d1
        have y3 := World.block_lt_of_cell? wr _ c0
        have y4 := World.block_lt_of_cell? wr _ d0
        simp only at y1 y2
        have y5 : wr.heap.size ≠ (a.add (j * 7)).block := Nat.ne_of_gt y1
        have y6 : wr.heap.size ≠ (d.add (j * 7)).block := Nat.ne_of_gt y2
        go_region
        all_goals go_wp2_with fail
        all_goals go_meet
        · exact ⟨_, _, rfl, rfl, ((Blk.new _ _ _).alloc _).drew, (Blk.new' _ _ _ (by simp)).drew, (((Below.refl _ _).alloc (Nat.le_refl _) _).alloc (by simp) _).drew⟩
        · exact ⟨_, _, rfl, rfl, (Blk.new' _ _ _ (by simp)).drew, ((Blk.new _ _ _).alloc _).drew, (((Below.refl _ _).alloc (Nat.le_refl _) _).alloc (by simp) _).drew⟩
      clear cp cq
      obtain ⟨g1, g2, rfl, rfl, bN, bM, hG⟩ := hcut
      have hp := hps wc (HA.below hG) (HB.below hG)
      have hT4 := hT.below hG
      clear hps HA HB HOa HOb hA' hB2 hT hu hz p2
      have HB1 := HB0.out
      unfold cd at HB1
      have HBB := Lib.hid HB1
      clear HB1 HB0
      generalize (x.cs[j]'hlt).id = a0 at *
      generalize (x.cs[j]'hlt).h = a1 at *
      generalize (x.cs[j]'hlt).v = a2 at *
      generalize (x.cs[j]'hlt).q = a3 at *
      generalize (x.cs[j]'hlt).c = a4 at *
      generalize (x.cs[j]'hlt).r = a5 at *
      generalize (x.cs[j]'hlt).bs = a6 at *
      generalize (y.cs[j]'hlt2).id = b0 at *
      generalize (y.cs[j]'hlt2).h = b1 at *
      generalize (y.cs[j]'hlt2).v = b2 at *
      generalize (y.cs[j]'hlt2).q = b3 at *
      generalize (y.cs[j]'hlt2).c = b4 at *
      generalize (y.cs[j]'hlt2).r = b5 at *
      generalize (y.cs[j]'hlt2).bs = b6 at *
      have p0 := bN.cell 0; have p1 := bN.cell 1; have p2 := bN.cell 2; have p3 := bN.cell 3; have p4 := bN.cell 4; have p5 := bN.cell 5; have p6 := bN.cell 6
      have q0 := bM.cell 0; have q1 := bM.cell 1; have q2 := bM.cell 2; have q3 := bM.cell 3; have q4 := bM.cell 4; have q5 := bM.cell 5; have q6 := bM.cell 6
      by_cases h0 : a0 = b0
      · by_cases h1 : a1 = b1
        · by_cases h2 : a2 = b2
          · by_cases h3 : a3 = b3
            · subst h0 h1 h2 h3
              have e1 : decide (a4 = b4 ∧ a5 = b5 ∧ a6 = b6) = b := by rw [← HBB.out]; simp
              rw [e1] at hp
              clear e1
              cases b
              · obtain rfl : R = false := HST.out.2 rfl
                go_wp2_with (go_at_call 19; refine hp.mono ?_; rintro e w1 ⟨rfl, hb1⟩)
                go_ret
                rw [HN.out]
                exact ⟨rfl, (hT4.below hb1).hB⟩
              · have hE2 := Lib.hid (HST.out.1 rfl)
                clear HST
                go_wp2_with (go_at_call 19; refine hp.mono ?_; rintro e w1 ⟨rfl, hb1⟩)
                exact ⟨⟨j + 1, by omega, by go_num, hE2.out, hT4.below hb1⟩, by simp [intOf]; omega⟩
            · have t3 : decide (a3 = b3) = false := by simpa using h3
              have t3' : (a3 != b3) = true := by simpa using h3
              obtain rfl : R = false := HST.out.2 (by rw [← HBB.out]; simp [h3])
              subst h0 h1 h2
              clear h3
              go_wp2_with fail
              go_ret
              rw [HN.out]
              exact ⟨rfl, hT4.hB⟩
          · have t3 : decide (a2 = b2) = false := by simpa using h2
            have t3' : (a2 != b2) = true := by simpa using h2
            obtain rfl : R = false := HST.out.2 (by rw [← HBB.out]; simp [h2])
            subst h0 h1
            clear h2
            go_wp2_with fail
            go_ret
            rw [HN.out]
            exact ⟨rfl, hT4.hB⟩
        · have t3 : decide (a1 = b1) = false := by simpa using h1
          have t3' : (a1 != b1) = true := by simpa using h1
          obtain rfl : R = false := HST.out.2 (by rw [← HBB.out]; simp [h1])
          subst h0
          clear h1
          go_wp2_with fail
          go_ret
          rw [HN.out]
          exact ⟨rfl, hT4.hB⟩
      · have t3 : decide (a0 = b0) = false := by simpa using h0
        have t3' : (a0 != b0) = true := by simpa using h0
        obtain rfl : R = false := HST.out.2 (by rw [← HBB.out]; simp [h0])
        clear h0
        go_wp2_with fail
        go_ret
        rw [HN.out]
        exact ⟨rfl, hT4.hB⟩
    · obtain rfl : j = x.cs.length := by omega
      have tl : decide (x.cs.length < x.cs.length) = false := by simp
      have hr : decide (x.qs.map qd = y.qs.map qd ∧ x.ts.map td = y.ts.map td) = R := by rw [← HR2.out]; simp [hE.all (by simp) (by simp [E2.out])]
      have HR3 := Lib.hid hr
      clear hr HR2 hE
      go_wp2
      go_loopw [8] (fun iv wr => ∃ j : Nat, j ≤ x.qs.length ∧ iv = .int .i64 j ∧ EqTo (x.qs.map qd) (y.qs.map qd) j ∧ TwoI N x y w wr) (fun iv _ => x.qs.length - (intOf iv).toNat)
      case atStart => exact ⟨0, Nat.zero_le _, rfl, EqTo.zero _ _, hT⟩
      case round =>
        clear hT
        obtain ⟨j, hj, rfl, hE, hT⟩ := hrel
        have p2 : wr.cell? ⟨N, 3, none⟩ = some (.slice qb x.qs.length qcap) := by rw [← HQU.out]; exact hT.bN.cell 3
        by_cases hlt : j < x.qs.length
        · have tl : decide (j < x.qs.length) = true := by simpa using hlt
          have hlt2 : j < y.qs.length := by rw [← E3.out]; exact hlt
          have hA' := hT.xq HQU.out
          have hB2 := hT.yq HRU.out
          obtain ⟨a, rfl⟩ : ∃ a, qb = some a := by
            obtain ⟨a', cap', he, -⟩ := hA'.el.at (Below.refl _ _) (i := j) (by simpa using hlt)
            exact ⟨a', (Value.slice.inj he).1⟩
          obtain ⟨d, rfl⟩ : ∃ a, rb = some a := by
            obtain ⟨a', cap', he, -⟩ := hB2.el.at (Below.refl _ _) (i := j) (by simpa using hlt2)
            exact ⟨a', (Value.slice.inj he).1⟩
          have hj0 : (0 : Int) ≤ (j : Int) := by omega
          have hj1 : (j : Int) < (x.qs.length : Int) := by omega
          have hj2 : (j : Int) < (y.qs.length : Int) := by omega
          have cp : ∀ W, Below wr.heap.size wr W → W.cell? ⟨N, 3, none⟩ = some (.slice (some a) x.qs.length qcap) := fun W hb => by rw [← HQU.out]; exact (hT.below hb).bN.cell 3
          have cq : ∀ W, Below wr.heap.size wr W → W.cell? ⟨N + 1, 3, none⟩ = some (.slice (some d) y.qs.length rcap) := fun W hb => by rw [← HRU.out]; exact (hT.below hb).bM.cell 3
          go_upto_region 12 with fail
          refine wp_region_det (fun W => Below wr.heap.size wr W) (by kernel_rfl) (by kernel_rfl) (Below.refl _ _).drew ?_
          (first | (refine det_skip (by rfl) ?_; simp only [Act.put, List.setIfInBounds_toArray, List.set_cons_zero, List.set_cons_succ]) | (refine det_pure (v := ?_) (by rfl) ?_ ?_; rotate_left; (intro wS hS; go_simp; try with_reducible rfl); simp only [Act.put, List.setIfInBounds_toArray, List.set_cons_zero, List.set_cons_succ]))
          refine det_pure (v := .slice (some a) x.qs.length qcap) (by rfl) (fun w1 hS => by have cy := cp w1 hS; go_simp; try with_reducible rfl) ?_
          simp only [Act.put, List.setIfInBounds_toArray, List.set_cons_zero, List.set_cons_succ]
          (first | (refine det_skip (by rfl) ?_; simp only [Act.put, List.setIfInBounds_toArray, List.set_cons_zero, List.set_cons_succ]) | (refine det_pure (v := ?_) (by rfl) ?_ ?_; rotate_left; (intro wS hS; go_simp; try with_reducible rfl); simp only [Act.put, List.setIfInBounds_toArray, List.set_cons_zero, List.set_cons_succ]))
          (first | (refine det_skip (by rfl) ?_; simp only [Act.put, List.setIfInBounds_toArray, List.set_cons_zero, List.set_cons_succ]) | (refine det_pure (v := ?_) (by rfl) ?_ ?_; rotate_left; (intro wS hS; go_simp; try with_reducible rfl); simp only [Act.put, List.setIfInBounds_toArray, List.set_cons_zero, List.set_cons_succ]))
          refine det_pure (by rfl) (fun w1 hS => q_load (hA'.below hS) hlt _ rfl rfl) ?_
          simp only [Act.put, List.setIfInBounds_toArray, List.set_cons_zero, List.set_cons_succ]
          (first | (refine det_skip (by rfl) ?_; simp only [Act.put, List.setIfInBounds_toArray, List.set_cons_zero, List.set_cons_succ]) | (refine det_pure (v := ?_) (by rfl) ?_ ?_; rotate_left; (intro wS hS; go_simp; try with_reducible rfl); simp only [Act.put, List.setIfInBounds_toArray, List.set_cons_zero, List.set_cons_succ]))
          refine det_pure (v := .slice (some d) y.qs.length rcap) (by rfl) (fun w1 hS => by have cy := cq w1 hS; go_simp; try with_reducible rfl) ?_
          simp only [Act.put, List.setIfInBounds_toArray, List.set_cons_zero, List.set_cons_succ]
          (first | (refine det_skip (by rfl) ?_; simp only [Act.put, List.setIfInBounds_toArray, List.set_cons_zero, List.set_cons_succ]) | (refine det_pure (v := ?_) (by rfl) ?_ ?_; rotate_left; (intro wS hS; go_simp; try with_reducible rfl); simp only [Act.put, List.setIfInBounds_toArray, List.set_cons_zero, List.set_cons_succ]))
          (first | (refine det_skip (by rfl) ?_; simp only [Act.put, List.setIfInBounds_toArray, List.set_cons_zero, List.set_cons_succ]) | (refine det_pure (v := ?_) (by rfl) ?_ ?_; rotate_left; (intro wS hS; go_simp; try with_reducible rfl); simp only [Act.put, List.setIfInBounds_toArray, List.set_cons_zero, List.set_cons_succ]))
          refine det_pure (by rfl) (fun w1 hS => q_load (hB2.below hS) hlt2 _ rfl rfl) ?_
          simp only [Act.put, List.setIfInBounds_toArray, List.set_cons_zero, List.set_cons_succ]
          refine det_pure (by rfl) (fun w1 _ => run_exec_neq_quant _ _ _ rfl (x.qs[j]'hlt) (y.qs[j]'hlt2) (hA'.ok _ (List.getElem_mem hlt)) (hB2.ok _ (List.getElem_mem hlt2)) rfl rfl) ?_
          simp only [Act.put, List.setIfInBounds_toArray, List.set_cons_zero, List.set_cons_succ]
          refine det_nil ?_
          intro W2 hb2
          have hT2 := hT.below hb2
          clear cp cq p2
          by_cases he : qd (x.qs[j]'hlt) = qd (y.qs[j]'hlt2)
          · rw [decide_eq_true he]
            have hE2 := Lib.hid (hE.step (by simp [hlt, hlt2, he]))
            clear he hE
            go_wp2_with fail
            exact ⟨⟨j + 1, by omega, by go_num, hE2.out, hT2⟩, by simp [intOf]; omega⟩
          · rw [decide_eq_false he]
            obtain rfl : R = false := by
              rw [← HR3.out]
              refine decide_eq_false fun h => he ?_
              have := congrArg (fun l => l[j]?) h.1
              simpa [hlt, hlt2] using this
            clear he hE
            go_wp2_with fail
            go_ret
            rw [HN.out]
            exact ⟨rfl, hT2.hB⟩
        · obtain rfl : j = x.qs.length := by omega
          have tl : decide (x.qs.length < x.qs.length) = false := by simp
          have hr : decide (x.ts.map td = y.ts.map td) = R := by rw [← HR3.out]; simp [hE.all (by simp) (by simp [E3.out])]
          have HR4 := Lib.hid hr
          clear hr HR3 hE
          go_wp2
          go_loopw [9] (fun iv wr => ∃ j : Nat, j ≤ x.ts.length ∧ iv = .int .i64 j ∧ EqTo (x.ts.map td) (y.ts.map td) j ∧ TwoI N x y w wr) (fun iv _ => x.ts.length - (intOf iv).toNat)
          case atStart => exact ⟨0, Nat.zero_le _, rfl, EqTo.zero _ _, hT⟩
          case round =>
            clear hT
            obtain ⟨j, hj, rfl, hE, hT⟩ := hrel
            have p2 : wr.cell? ⟨N, 4, none⟩ = some (.slice tb x.ts.length tcap) := by rw [← HTU.out]; exact hT.bN.cell 4
            by_cases hlt : j < x.ts.length
            · have tl : decide (j < x.ts.length) = true := by simpa using hlt
              have hlt2 : j < y.ts.length := by rw [← E4.out]; exact hlt
              have hA' := hT.xt HTU.out
              have hB2 := hT.yt HSU.out
              obtain ⟨a, rfl⟩ : ∃ a, tb = some a := by
                obtain ⟨a', cap', he, -⟩ := hA'.el.at (Below.refl _ _) (i := j) (by simpa using hlt)
                exact ⟨a', (Value.slice.inj he).1⟩
              obtain ⟨d, rfl⟩ : ∃ a, sb = some a := by
                obtain ⟨a', cap', he, -⟩ := hB2.el.at (Below.refl _ _) (i := j) (by simpa using hlt2)
                exact ⟨a', (Value.slice.inj he).1⟩
              have hj0 : (0 : Int) ≤ (j : Int) := by omega
              have hj1 : (j : Int) < (x.ts.length : Int) := by omega
              have hj2 : (j : Int) < (y.ts.length : Int) := by omega
              have cp : ∀ W, Below wr.heap.size wr W → W.cell? ⟨N, 4, none⟩ = some (.slice (some a) x.ts.length tcap) := fun W hb => by rw [← HTU.out]; exact (hT.below hb).bN.cell 4
              have cq : ∀ W, Below wr.heap.size wr W → W.cell? ⟨N + 1, 4, none⟩ = some (.slice (some d) y.ts.length scap) := fun W hb => by rw [← HSU.out]; exact (hT.below hb).bM.cell 4
              go_upto_region 17 with fail
              refine wp_region_det (fun W => Below wr.heap.size wr W) (by kernel_rfl) (by kernel_rfl) (Below.refl _ _).drew ?_
              (first | (refine det_skip (by rfl) ?_; simp only [Act.put, List.setIfInBounds_toArray, List.set_cons_zero, List.set_cons_succ]) | (refine det_pure (v := ?_) (by rfl) ?_ ?_; rotate_left; (intro wS hS; go_simp; try with_reducible rfl); simp only [Act.put, List.setIfInBounds_toArray, List.set_cons_zero, List.set_cons_succ]))
              refine det_pure (v := .slice (some a) x.ts.length tcap) (by rfl) (fun w1 hS => by have cy := cp w1 hS; go_simp; try with_reducible rfl) ?_
              simp only [Act.put, List.setIfInBounds_toArray, List.set_cons_zero, List.set_cons_succ]
              (first | (refine det_skip (by rfl) ?_; simp only [Act.put, List.setIfInBounds_toArray, List.set_cons_zero, List.set_cons_succ]) | (refine det_pure (v := ?_) (by rfl) ?_ ?_; rotate_left; (intro wS hS; go_simp; try with_reducible rfl); simp only [Act.put, List.setIfInBounds_toArray, List.set_cons_zero, List.set_cons_succ]))
              (first | (refine det_skip (by rfl) ?_; simp only [Act.put, List.setIfInBounds_toArray, List.set_cons_zero, List.set_cons_succ]) | (refine det_pure (v := ?_) (by rfl) ?_ ?_; rotate_left; (intro wS hS; go_simp; try with_reducible rfl); simp only [Act.put, List.setIfInBounds_toArray, List.set_cons_zero, List.set_cons_succ]))
              refine det_pure (v := .agg #[.int .i64 (x.ts[j]'hlt).kind, .string (x.ts[j]'hlt).body]) (by rfl) (fun w1 hS => by obtain ⟨a', ha', c0, c1⟩ := (hA'.below hS).at hlt; cases ha'; go_simp; try rfl) ?_
              simp only [Act.put, List.setIfInBounds_toArray, List.set_cons_zero, List.set_cons_succ]
              (first | (refine det_skip (by rfl) ?_; simp only [Act.put, List.setIfInBounds_toArray, List.set_cons_zero, List.set_cons_succ]) | (refine det_pure (v := ?_) (by rfl) ?_ ?_; rotate_left; (intro wS hS; go_simp; try with_reducible rfl); simp only [Act.put, List.setIfInBounds_toArray, List.set_cons_zero, List.set_cons_succ]))
              refine det_pure (v := .slice (some d) y.ts.length scap) (by rfl) (fun w1 hS => by have cy := cq w1 hS; go_simp; try with_reducible rfl) ?_
              simp only [Act.put, List.setIfInBounds_toArray, List.set_cons_zero, List.set_cons_succ]
              (first | (refine det_skip (by rfl) ?_; simp only [Act.put, List.setIfInBounds_toArray, List.set_cons_zero, List.set_cons_succ]) | (refine det_pure (v := ?_) (by rfl) ?_ ?_; rotate_left; (intro wS hS; go_simp; try with_reducible rfl); simp only [Act.put, List.setIfInBounds_toArray, List.set_cons_zero, List.set_cons_succ]))
              (first | (refine det_skip (by rfl) ?_; simp only [Act.put, List.setIfInBounds_toArray, List.set_cons_zero, List.set_cons_succ]) | (refine det_pure (v := ?_) (by rfl) ?_ ?_; rotate_left; (intro wS hS; go_simp; try with_reducible rfl); simp only [Act.put, List.setIfInBounds_toArray, List.set_cons_zero, List.set_cons_succ]))
              refine det_pure (v := .agg #[.int .i64 (y.ts[j]'hlt2).kind, .string (y.ts[j]'hlt2).body]) (by rfl) (fun w1 hS => by obtain ⟨a', ha', c0, c1⟩ := (hB2.below hS).at hlt2; cases ha'; go_simp; try rfl) ?_
              simp only [Act.put, List.setIfInBounds_toArray, List.set_cons_zero, List.set_cons_succ]
              refine det_pure (by rfl) (fun w1 _ => run_exec_neq_tag _ _ _ rfl (x.ts[j]'hlt) (y.ts[j]'hlt2) rfl rfl) ?_
              simp only [Act.put, List.setIfInBounds_toArray, List.set_cons_zero, List.set_cons_succ]
              refine det_nil ?_
              intro W2 hb2
              have hT2 := hT.below hb2
              clear cp cq p2
              by_cases he : td (x.ts[j]'hlt) = td (y.ts[j]'hlt2)
              · rw [decide_eq_true he]
                have hE2 := Lib.hid (hE.step (by simp [hlt, hlt2, he]))
                clear he hE
                go_wp2_with fail
                exact ⟨⟨j + 1, by omega, by go_num, hE2.out, hT2⟩, by simp [intOf]; omega⟩
              · rw [decide_eq_false he]
                obtain rfl : R = false := by
                  rw [← HR4.out]
                  refine decide_eq_false fun h => he ?_
                  have := congrArg (fun l => l[j]?) h
                  simpa [hlt, hlt2] using this
                clear he hE
                go_wp2_with fail
                go_ret
                rw [HN.out]
                exact ⟨rfl, hT2.hB⟩
            · obtain rfl : j = x.ts.length := by omega
              have tl : decide (x.ts.length < x.ts.length) = false := by simp
              obtain rfl : R = true := by rw [← HR4.out]; exact decide_eq_true (hE.all (by simp) (by simp [E4.out]))
              clear HR4 hE
              go_wp2
              go_ret
              rw [HN.out]
              exact ⟨rfl, hT.hB⟩
end Go.Proofs.YtgmhhocpdfdplaaGreat
