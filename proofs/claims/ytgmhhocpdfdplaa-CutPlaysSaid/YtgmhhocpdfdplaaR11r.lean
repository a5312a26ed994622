/- The reference's Right of an image, walked. -/
import Derived.Test.YtgmhhocpdfdplaaR11f
import Derived.Test.YtgmhhocpdfdplaaR11t
import Derived.Test.YtgmhhocpdfdplaaGF
import Derived.Test.YtgmhhocpdfdplaaRPlane
namespace Go.Proofs.Ytgmhhocpdfdplaa
open Go.RowKit
set_option maxRecDepth 100000
set_option maxHeartbeats 8000000
theorem imgE_eq (x : ImgArg) : imgE x = if frE x = 0 then (if compsE x.cs = 0 then (if tablesE x = 0 then (if planesE x = 0 then (if blocksE x.cs = 0 then (if tagsE x.ts = 0 then 0 else tagsE x.ts) else blocksE x.cs) else planesE x) else tablesE x) else compsE x.cs) else frE x := rfl
/-- The image's box, the frame's. -/
structure RJ (N F lo : Nat) (x : ImgArg) (vs : Array Value) (gv : Value) (w W : World) : Prop where
  l : LI N x w W
  bF : Blk W F vs 44
  gr : frE x = 0 → vs[5]? = some gv ∧ Row W lo 107 4 gv x.cs.length ((frG x).map GridV.cells).flatten
theorem RJ.below {N F lo : Nat} {x : ImgArg} {vs : Array Value} {gv : Value} {w W W' : World} (h : RJ N F lo x vs gv w W) (hb : Below W.heap.size W W') : RJ N F lo x vs gv w W' :=
  ⟨h.l.below hb, h.bF.below hb h.bF.lt, fun h0 => ⟨(h.gr h0).1, Row.grow (h.gr h0).2 hb⟩⟩
theorem RefNew.vs {x : ImgArg} {lo : Nat} {r : Ending} {w' : World} (h : RefNew x.w x.h (psOf x.cs) lo r w') :
    ∃ vs gv, r = .returned (.tuple #[.agg vs, .int .i64 (frE x)]) ∧ vs.size = 6 ∧ vs.all (·.oneCell') = true ∧ (frE x = 0 → vs[5]? = some gv ∧ Row w' lo 107 4 gv x.cs.length ((frG x).map GridV.cells).flatten) := by
  obtain ⟨v, rfl, h1, h2⟩ := h
  by_cases h0 : frE x = 0
  · obtain ⟨u, gv, rfl, hu, hg⟩ := h2 h0
    obtain ⟨ub, uc, rfl⟩ := hu.len
    obtain ⟨gb, gc, rfl⟩ := hg.len
    refine ⟨_, _, rfl, rfl, by simp [Value.oneCell'], fun _ => ⟨rfl, ?_⟩⟩
    have hl := frG_len x
    unfold frG at hl
    rw [hl] at hg
    rw [hl]
    exact hg
  · obtain rfl := h1 h0
    exact ⟨zeroRF, .slice none 0 0, rfl, rfl, by simp [zeroRF, Value.oneCell'], fun h => absurd h h0⟩
theorem tab_stop {e : Nat → Int} {n i : Nat} {R c v : Int} (hi : i < n) (hfe : firstE e n 0 = firstE e (n - i) i) (h5 : e i = v) (hv : v ≠ 0) (hR : (if firstE e n 0 = 0 then c else firstE e n 0) = R) : R = v := by
  rw [hfe, show n - i = (n - (i + 1)) + 1 by omega, firstE_stop e _ i (by rw [h5]; exact hv), h5, if_neg hv] at hR
  exact hR.symm
theorem first_stop {e : Nat → Int} {n i : Nat} {v : Int} (hi : i < n) (hfe : firstE e n 0 = firstE e (n - i) i) (h5 : e i = v) (hv : v ≠ 0) : firstE e n 0 = v := by
  rw [hfe, show n - i = (n - (i + 1)) + 1 by omega, firstE_stop e _ i (by rw [h5]; exact hv), h5]
theorem ref_right11 (x : ImgArg) (hf : FewOk x) (w : World) (h : IsImg w x.val x) :
    Calls Try.prog 22 #[x.val] w fun r w' => r = .returned (.int .i64 (imgE x)) ∧ Below w.heap.size w w' := by
  have hc20 := hf.c20
  obtain ⟨cb, ccap, hcu⟩ := h.cs.len
  have HCU := Lib.hid hcu
  obtain ⟨tb, tcap, htu⟩ := h.ts.len
  have HTU := Lib.hid htu
  have hL := LI.begin h
  obtain ⟨N, hN⟩ : ∃ N, N = w.heap.size := ⟨_, rfl⟩
  rw [← hN] at hL
  have HN := Lib.hid hN
  have hfr := fun W h => ref_frame x W h hf.c20
  have hco := fun W h => ref_comps x.val x W h hf
  have hta := fun W h => ref_tables x hf W h
  obtain ⟨R, hR⟩ : ∃ R, imgE x = R := ⟨_, rfl⟩
  rw [hR]
  rw [imgE_eq] at hR
  have HR := Lib.hid hR
  clear hN h hcu hR htu
  unfold ImgArg.val at *
  go_enter Try.func22, Try.ntmps22
  go_upto_region 1 with fail
  refine wp_world (LI N x w) hL ?_
  rw [← HN.out]
  clear hL
  intro W hL
  go_upto_region 2 with (first
    | (refine wpList_load_row rfl 26 _ rfl N rfl 26 _ _ _ hL.bN Try.underlying26 rfl (by kernel_rfl) ?_)
    | (go_at_call 25; refine (hfr _ hL.img).mono ?_; rintro r w1 ⟨hv, hb1⟩; obtain ⟨vs, gv, rfl, hs6, h1c, hgr⟩ := hv.vs; have hL1 := hL.below hb1; obtain ⟨F, hF⟩ : ∃ F, F = w1.heap.size := ⟨_, rfl⟩; have HF := Lib.hid hF; clear hF hv)
    | (refine wpList_store_row rfl 44 _ _ rfl F _ (by rw [HF.out]; rfl) rfl 44 _ (Blk.new' _ _ _ HF.out) (by rw [hs6]; kernel_rfl) (by rw [hs6]; rfl) h1c ?_; simp only [Act.put]))
  have hN1 : N < w1.heap.size := hL1.bN.lt
  have hfw : Below w1.heap.size w1 ((w1.alloc (.cells zeroRF 44)).setRow F vs) := Below.setRow ((Below.refl _ _).alloc (Nat.le_refl _) _) (Nat.le_of_eq HF.out.symm) _
  try rw [← HF.out]
  refine wp_world (RJ N F W.heap.size x vs gv w) ⟨hL1.below hfw, (Blk.new' _ _ _ HF.out).row _, fun h0 => ⟨(hgr h0).1, Row.grow (hgr h0).2 hfw⟩⟩ ?_
  clear hfw hgr hL1 hb1 hL h1c hfr
  intro W1 hJ
  clear hN1 HF
  generalize W.heap.size = lo at *
  clear w1 W
  have HS6 := Lib.hid hs6
  clear hs6
  by_cases h1 : frE x = 0
  · have hR := HR.out
    rw [if_pos h1] at hR
    rw [h1]
    obtain ⟨c, hc⟩ : ∃ c, compsE x.cs = c := ⟨_, rfl⟩
    rw [hc] at hco hR
    by_cases h2 : c = 0
    · subst h2
      rw [if_pos rfl] at hR
      obtain ⟨c, hc2⟩ : ∃ c, tablesE x = c := ⟨_, rfl⟩
      rw [hc2] at hta hR
      by_cases h3 : c = 0
      · subst h3
        rw [if_pos rfl] at hR
        have HR2 := Lib.hid hR
        have H1 := Lib.hid h1
        clear hR h1 hc hc2 HR
        go_upto_region 9 with (first
          | (refine wpList_load_row rfl 26 _ rfl N rfl 26 _ _ _ hJ.l.bN Try.underlying26 rfl (by kernel_rfl) ?_)
          | (go_at_call 64; refine (hco _ hJ.l.img).mono ?_; rintro r w1 ⟨rfl, hb1⟩; replace hJ := hJ.below hb1)
          | (go_at_call 65; refine (hta _ hJ.l.img).mono ?_; rintro r w1 ⟨rfl, hb1⟩; replace hJ := hJ.below hb1))
        clear hco hta hb1
        go_wp2
        obtain ⟨e, he⟩ : ∃ e : Nat → Int, (fun i => planeE ((frG x).getD i ⟨0, 0, 0, 0⟩) (x.cs.getD i noComp)) = e := ⟨_, rfl⟩
        have hR := HR2.out
        unfold planesE at hR
        rw [he] at hR
        have HR := Lib.hid hR
        have HGL := Lib.hid (frG_len x)
        have HE := Lib.hid he
        clear he hR HR2
        have HEL := Lib.hid (show ∀ W, RJ N F lo x vs gv w W → Elems W 4 gv ((frG x).map GridV.cells) from fun W h =>
          Ar.elems (h.gr H1.out).2.ar (fun c hc => by obtain ⟨p, _, rfl⟩ := List.mem_map.1 hc; rfl) (by rw [List.length_map, HGL.out]) (by simp only [maxLen]; omega))
        go_loopw [5] (fun iv wr => ∃ i : Nat, i ≤ x.cs.length ∧ iv = .int .i64 i ∧ firstE e x.cs.length 0 = firstE e (x.cs.length - i) i ∧ RJ N F lo x vs gv w wr) (fun iv _ => x.cs.length - (intOf iv).toNat)
        case atStart => exact ⟨0, Nat.zero_le _, rfl, rfl, hJ⟩
        case round =>
          clear hJ
          obtain ⟨i, hi, rfl, hfe, hJ⟩ := hrel
          have q2 : wr.cell? ⟨N, 2, none⟩ = some (.slice cb x.cs.length ccap) := by rw [← HCU.out]; exact hJ.l.bN.cell 2
          by_cases hlt : i < x.cs.length
          · have tl : decide (i < x.cs.length) = true := by simpa using hlt
            have hcs : IsComps wr (.slice cb x.cs.length ccap) x.cs := by have := hJ.l.img.cs; rwa [HCU.out] at this
            obtain ⟨a, rfl, -, -, -, -, c4, c5, c6⟩ := hcs.at hlt
            obtain ⟨ub, uc, hu, -⟩ := (hcs.ok _ (List.getElem_mem hlt)).ar.len
            obtain ⟨ga, gcap, hgv, -⟩ := (HEL.out wr hJ).get (by decide) (i := i) (by rw [List.length_map, HGL.out]; exact hlt)
            rw [List.length_map, HGL.out] at hgv
            subst hgv
            have hgl : i < (frG x).length := by rw [HGL.out]; exact hlt
            obtain ⟨⟨g0, g1, g2, g3⟩, hg⟩ : ∃ g, (frG x)[i]'hgl = g := ⟨_, rfl⟩
            have hei : e i = planeE ⟨g0, g1, g2, g3⟩ (x.cs[i]'hlt) := by
              rw [← HE.out]
              simp only [comp_getD hlt]
              rw [← hg, List.getD_eq_getElem?_getD, List.getElem?_eq_getElem hgl, Option.getD_some]
            have HG := Lib.hid (show ∀ W, RJ N F lo x vs (.slice (some ga) x.cs.length gcap) w W → W.cell? ⟨F, 5, none⟩ = some (.slice (some ga) x.cs.length gcap) ∧ W.cell? (ga.add (i * 4)) = some (.int .i64 g0) ∧ W.cell? ⟨(ga.add (i * 4)).block, (ga.add (i * 4)).off + 1, none⟩ = some (.int .i64 g1) from fun W h => by
              obtain ⟨a', cap', he, d0, dj⟩ := (HEL.out W h).get (by decide) (i := i) (by rw [List.length_map]; exact hgl)
              simp only [Value.slice.injEq, Option.some.injEq] at he
              obtain ⟨rfl, -, -⟩ := he
              rw [getD_map' _ _ _ _ hgl, hg] at d0 dj
              exact ⟨(h.bF.cell 5).trans (h.gr H1.out).1, d0, dj 1 (by decide) (by decide)⟩)
            have j0 : (0 : Int) ≤ (i : Int) := by omega
            have j1 : (i : Int) < (x.cs.length : Int) := by omega
            unfold planeE at hei
            rw [hu] at c6
            have HFE := Lib.hid hfe
            clear hfe hcs hg hgl hu
            generalize (x.cs[i]'hlt).bs.length = un at *
            generalize (x.cs[i]'hlt).c = x4 at *
            generalize (x.cs[i]'hlt).r = x5 at *
            have hpr := fun W => ref_right x4 x5 un ub uc W
            obtain ⟨pr, hp⟩ : ∃ pr, Pl.right x4 x5 un = pr := ⟨_, rfl⟩
            rw [hp] at hpr hei
            clear hp
            obtain ⟨K, hK⟩ : ∃ K, K = wr.heap.size := ⟨_, rfl⟩
            have HK := Lib.hid hK
            have hbe : Below wr.heap.size wr (wr.alloc (.cells #[.int .i64 x4, .int .i64 x5, .slice ub un uc] 61)) := (Below.refl _ _).alloc (Nat.le_refl _) _
            clear hK
            go_upto_region 13 with fail
            rw [← HK.out]
            refine wp_world (fun W => RJ N F lo x vs (.slice (some ga) x.cs.length gcap) w W ∧ Blk W K #[.int .i64 x4, .int .i64 x5, .slice ub un uc] 61) ⟨hJ.below hbe, Blk.new' _ _ _ HK.out⟩ ?_
            clear hJ hbe q2 c4 c5 c6 HK
            rintro W ⟨hJ, bK⟩
            clear wr
            refine wp_region_det (fun W => RJ N F lo x vs (.slice (some ga) x.cs.length gcap) w W ∧ Blk W K #[.int .i64 x4, .int .i64 x5, .slice ub un uc] 61) (by kernel_rfl) (by kernel_rfl) ⟨hJ.below (Below.refl _ _).drew, bK.drew⟩ ?_
            clear hJ bK
            refine det_pure (by rfl) (fun w1 hS => run_exec_load_row 61 _ rfl K rfl 61 _ _ hS.2 Try.underlying61 rfl (by kernel_rfl)) ?_
            simp only [Act.put, List.setIfInBounds_toArray, List.set_cons_zero, List.set_cons_succ]
            refine det_call (v := .bool pr) (by rfl) (by intro wS hS; go_simp; first | done | exact ⟨rfl, rfl⟩) (fun W hS => (hpr W).mono fun e w' hh => ⟨hh.1, hS.1.below hh.2, hS.2.below hh.2 hS.2.lt⟩) ?_
            simp only [Act.put, List.setIfInBounds_toArray, List.set_cons_zero, List.set_cons_succ]
            clear hpr
            cases pr
            · (repeat (first | (refine det_skip (by rfl) ?_; simp only [Act.put, List.setIfInBounds_toArray, List.set_cons_zero, List.set_cons_succ]) | (refine det_pure (v := ?_) (by rfl) ?_ ?_; rotate_left; (intro wS hS; have k0 := hS.2.cell 0; have k1 := hS.2.cell 1; obtain ⟨f5, g0c, g1c⟩ := HG.out wS hS.1; go_simp; try with_reducible rfl); simp only [Act.put, List.setIfInBounds_toArray, List.set_cons_zero, List.set_cons_succ])))
              refine det_nil ?_
              rintro W7 ⟨hJ, -⟩
              have h5 : e i = 4 := by rw [hei]; exact if_neg (fun h => by cases h.1.1)
              have hR5 := tab_stop hlt HFE.out h5 (by decide) HR.out
              clear h5 hei
              subst hR5
              go_wp2
              go_ret
              exact ⟨rfl, hJ.l.hB⟩
            · by_cases h4 : x4 = g0
              · by_cases h5 : x5 = g1
                · have h0 : e i = 0 := by rw [hei]; exact if_pos ⟨⟨rfl, h4⟩, h5⟩
                  have HN2 := Lib.hid (tab_next hlt HFE.out h0)
                  have t1 : (x4 != g0) = false := by simpa using h4
                  have t2 : (x5 != g1) = false := by simpa using h5
                  clear h0 hei h4 h5
                  (repeat (first | (refine det_skip (by rfl) ?_; simp only [Act.put, List.setIfInBounds_toArray, List.set_cons_zero, List.set_cons_succ]) | (refine det_pure (v := ?_) (by rfl) ?_ ?_; rotate_left; (intro wS hS; have k0 := hS.2.cell 0; have k1 := hS.2.cell 1; obtain ⟨f5, g0c, g1c⟩ := HG.out wS hS.1; go_simp; try with_reducible rfl); simp only [Act.put, List.setIfInBounds_toArray, List.set_cons_zero, List.set_cons_succ])))
                  refine det_nil ?_
                  rintro W7 ⟨hJ, -⟩
                  go_wp2
                  go_roundw
                  case rel => exact ⟨i + 1, by omega, by go_num, HN2.out, hJ⟩
                  case measure => simp [intOf]; omega
                · have t1 : (x4 != g0) = false := by simpa using h4
                  have t2 : (x5 != g1) = true := by simpa using h5
                  have H5 := Lib.hid h5
                  clear h4 h5
                  (repeat (first | (refine det_skip (by rfl) ?_; simp only [Act.put, List.setIfInBounds_toArray, List.set_cons_zero, List.set_cons_succ]) | (refine det_pure (v := ?_) (by rfl) ?_ ?_; rotate_left; (intro wS hS; have k0 := hS.2.cell 0; have k1 := hS.2.cell 1; obtain ⟨f5, g0c, g1c⟩ := HG.out wS hS.1; go_simp; try with_reducible rfl); simp only [Act.put, List.setIfInBounds_toArray, List.set_cons_zero, List.set_cons_succ])))
                  refine det_nil ?_
                  rintro W7 ⟨hJ, -⟩
                  have h5 : e i = 4 := by rw [hei]; exact if_neg (fun h => H5.out h.2)
                  have hR5 := tab_stop hlt HFE.out h5 (by decide) HR.out
                  clear h5 hei
                  subst hR5
                  go_wp2
                  go_ret
                  exact ⟨rfl, hJ.l.hB⟩
              · have t1 : (x4 != g0) = true := by simpa using h4
                have H4 := Lib.hid h4
                clear h4
                (repeat (first | (refine det_skip (by rfl) ?_; simp only [Act.put, List.setIfInBounds_toArray, List.set_cons_zero, List.set_cons_succ]) | (refine det_pure (v := ?_) (by rfl) ?_ ?_; rotate_left; (intro wS hS; have k0 := hS.2.cell 0; have k1 := hS.2.cell 1; obtain ⟨f5, g0c, g1c⟩ := HG.out wS hS.1; go_simp; try with_reducible rfl); simp only [Act.put, List.setIfInBounds_toArray, List.set_cons_zero, List.set_cons_succ])))
                refine det_nil ?_
                rintro W7 ⟨hJ, -⟩
                have h5 : e i = 4 := by rw [hei]; exact if_neg (fun h => H4.out h.1.2)
                have hR5 := tab_stop hlt HFE.out h5 (by decide) HR.out
                clear h5 hei
                subst hR5
                go_wp2
                go_ret
                exact ⟨rfl, hJ.l.hB⟩
          · have tl : decide (i < x.cs.length) = false := by simpa using hlt
            rw [show x.cs.length - i = 0 by omega] at hfe
            have hR := HR.out
            rw [if_pos (show firstE e x.cs.length 0 = 0 from hfe)] at hR
            obtain ⟨e2, he2⟩ : ∃ e2 : Nat → Int, (fun i => compBE (x.cs.getD i noComp)) = e2 := ⟨_, rfl⟩
            have hbe : blocksE x.cs = firstE e2 x.cs.length 0 := by rw [← he2]; rfl
            rw [hbe] at hR
            have HR3 := Lib.hid hR
            have HE2 := Lib.hid (show ∀ i (hi : i < x.cs.length), e2 i = compBE (x.cs[i]'hi) from fun i hi => by rw [← he2]; simp only [comp_getD hi])
            clear hR hbe he2 hfe
            clear HR HE HEL
            go_wp2
            clear q2
            obtain ⟨wo, hwo⟩ : ∃ wo : World, wo = wr := ⟨_, rfl⟩
            subst hwo
            go_loopw [7] (fun iv wr => ∃ i : Nat, i ≤ x.cs.length ∧ iv = .int .i64 i ∧ firstE e2 x.cs.length 0 = firstE e2 (x.cs.length - i) i ∧ RJ N F lo x vs gv w wr) (fun iv _ => x.cs.length - (intOf iv).toNat)
            case atStart => exact ⟨0, Nat.zero_le _, rfl, rfl, hJ⟩
            case round =>
              clear hJ hlt hi tl
              obtain ⟨i, hi, rfl, hfe, hJ⟩ := hrel
              have q2 : wr.cell? ⟨N, 2, none⟩ = some (.slice cb x.cs.length ccap) := by rw [← HCU.out]; exact hJ.l.bN.cell 2
              by_cases hlt : i < x.cs.length
              · have tl : decide (i < x.cs.length) = true := by simpa using hlt
                have hcs : ∀ W, RJ N F lo x vs gv w W → IsComps W (.slice cb x.cs.length ccap) x.cs := fun W h => by have := h.l.img.cs; rwa [HCU.out] at this
                obtain ⟨a, rfl, -⟩ := (hcs wr hJ).at hlt
                obtain ⟨ub, uc, hu, -⟩ := ((hcs wr hJ).ok _ (List.getElem_mem hlt)).ar.len
                have h64 := ((hcs wr hJ).ok _ (List.getElem_mem hlt)).h64
                have hb3 := hf.b300 _ (List.getElem_mem hlt)
                have HC6 := Lib.hid (show ∀ W, RJ N F lo x vs gv w W → W.cell? ⟨N, 2, none⟩ = some (.slice (some a) x.cs.length ccap) ∧ W.cell? ⟨(a.add (i * 7)).block, (a.add (i * 7)).off + 4 + 2, none⟩ = some (.slice ub (x.cs[i]'hlt).bs.length uc) ∧ Ar W 64 (.slice ub (x.cs[i]'hlt).bs.length uc) (x.cs[i]'hlt).bs.length (bcells (x.cs[i]'hlt).bs) from fun W h => by
                  obtain ⟨a2, ha, -, -, -, -, -, -, c6⟩ := (hcs W h).at hlt
                  have har := ((hcs W h).ok _ (List.getElem_mem hlt)).ar
                  cases ha
                  rw [hu] at c6 har
                  exact ⟨by rw [← HCU.out]; exact h.l.bN.cell 2, c6, har⟩)
                have hei := HE2.out i hlt
                unfold compBE at hei
                generalize (x.cs[i]'hlt).bs = bs at *
                obtain ⟨e3, he3⟩ : ∃ e3 : Nat → Int, (fun k => blockE (bs.getD k [])) = e3 := ⟨_, rfl⟩
                rw [he3] at hei
                have HE3 := Lib.hid he3
                have HEI := Lib.hid hei
                have HFE := Lib.hid hfe
                obtain ⟨-, c6, -⟩ := HC6.out wr hJ
                have j0 : (0 : Int) ≤ (i : Int) := by omega
                have j1 : (i : Int) < (x.cs.length : Int) := by omega
                clear hcs hu hei he3 hfe
                go_wp2
                clear c6 q2
                obtain ⟨wo, hwo⟩ : ∃ wo : World, wo = wr := ⟨_, rfl⟩
                subst hwo
                go_loopw [8] (fun kv wq => ∃ k : Nat, k ≤ bs.length ∧ kv = .int .i64 k ∧ firstE e3 bs.length 0 = firstE e3 (bs.length - k) k ∧ RJ N F lo x vs gv w wq) (fun kv _ => bs.length - (intOf kv).toNat)
                case atStart => exact ⟨0, Nat.zero_le _, rfl, rfl, hJ⟩
                case round =>
                  clear hJ
                  obtain ⟨k, hk, rfl, hfk, hJ⟩ := hrel
                  obtain ⟨q2, c6, hA⟩ := HC6.out wr hJ
                  have HFK := Lib.hid hfk
                  clear hfk
                  by_cases hkl : k < bs.length
                  · have tk : decide (k < bs.length) = true := by simpa using hkl
                    obtain ⟨ad, cp, hsl, -, -⟩ := hA.some (by omega)
                    obtain ⟨rfl, rfl⟩ : ub = some ad ∧ uc = cp := by simpa using hsl
                    have k0 : (0 : Int) ≤ (k : Int) := by omega
                    have k1 : (k : Int) < (bs.length : Int) := by omega
                    obtain ⟨y, hy⟩ : ∃ y, bs.getD k [] = y := ⟨_, rfl⟩
                    have hy64 : y.length = 64 := by rw [← hy, List.getD_eq_getElem?_getD, List.getElem?_eq_getElem hkl]; exact h64 _ (List.getElem_mem hkl)
                    have hek : e3 k = blockE y := by rw [← HE3.out]; show blockE (bs.getD k []) = _; rw [hy]
                    unfold blockE at hek
                    have hrr := fun W => ref_ranged y hy64 W
                    obtain ⟨rb, hrb⟩ : ∃ rb, rangedB y = rb := ⟨_, rfl⟩
                    rw [hrb] at hrr hek
                    have HEK := Lib.hid hek
                    have HY64 := Lib.hid hy64
                    clear hek hrb hy64 hsl
                    cases rb
                    · go_wp2_with (first | (refine Great.wpList_runTo rfl _ rfl _ _ (ar_loady hA h64 k hkl y hy _ rfl rfl) ?_; simp only [Act.put, List.setIfInBounds_toArray, List.set_cons_zero, List.set_cons_succ]) | (go_at_call 67; refine (hrr _).mono ?_; rintro r w1 ⟨rfl, hb1⟩; replace hJ := hJ.below hb1))
                      have h5 : e2 i = 10 := by rw [HEI.out]; exact first_stop hkl HFK.out HEK.out (by decide)
                      have hR5 := tab_stop hlt HFE.out h5 (by decide) HR3.out
                      clear h5
                      subst hR5
                      go_ret
                      exact ⟨rfl, hJ.l.hB⟩
                    · go_wp2_with (first | (refine Great.wpList_runTo rfl _ rfl _ _ (ar_loady hA h64 k hkl y hy _ rfl rfl) ?_; simp only [Act.put, List.setIfInBounds_toArray, List.set_cons_zero, List.set_cons_succ]) | (go_at_call 67; refine (hrr _).mono ?_; rintro r w1 ⟨rfl, hb1⟩; replace hJ := hJ.below hb1))
                      have HN2 := Lib.hid (tab_next hkl HFK.out HEK.out)
                      go_roundw
                      case rel => exact ⟨k + 1, by omega, by go_num, HN2.out, hJ⟩
                      case measure => simp [intOf]; omega
                  · have tk : decide (k < bs.length) = false := by simpa using hkl
                    have h0 : e2 i = 0 := by rw [HEI.out, HFK.out, show bs.length - k = 0 by omega]; rfl
                    have HN2 := Lib.hid (tab_next hlt HFE.out h0)
                    clear h0
                    go_wp2
                    go_roundw
                    case rel => exact ⟨i + 1, by omega, by go_num, HN2.out, hJ⟩
                    case measure => simp [intOf]; omega
              · have tl : decide (i < x.cs.length) = false := by simpa using hlt
                rw [show x.cs.length - i = 0 by omega] at hfe
                have hR := HR3.out
                rw [if_pos (show firstE e2 x.cs.length 0 = 0 from hfe)] at hR
                have hT : tagsE x.ts = R := by
                  rw [← hR]
                  split
                  · assumption
                  · rfl
                unfold tagsE at hT
                have q4 : wr.cell? ⟨N, 4, none⟩ = some (.slice tb x.ts.length tcap) := by rw [← HTU.out]; exact hJ.l.bN.cell 4
                clear hR HR3 HE2 hfe
                by_cases h6 : 64 < x.ts.length
                · have t6 : decide ((x.ts.length : Int) > 64) = true := by simp; omega
                  have t6' : decide (64 < x.ts.length) = true := by simpa using h6
                  rw [if_pos h6] at hT
                  subst hT
                  go_wp2
                  go_ret
                  exact ⟨rfl, hJ.l.hB⟩
                · have t6 : decide ((x.ts.length : Int) > 64) = false := by simp; omega
                  have t6' : decide (64 < x.ts.length) = false := by simpa using h6
                  rw [if_neg h6] at hT
                  obtain ⟨e5, he5⟩ : ∃ e5 : Nat → Int, (fun i => tagE (x.ts.getD i ⟨0, ⟨#[]⟩⟩)) = e5 := ⟨_, rfl⟩
                  rw [he5] at hT
                  have HRT := Lib.hid hT
                  have HE5 := Lib.hid (show ∀ i (hi : i < x.ts.length), e5 i = tagE (x.ts[i]'hi) from fun i hi => by rw [← he5]; simp only [List.getD_eq_getElem?_getD, List.getElem?_eq_getElem hi, Option.getD_some])
                  clear hT he5
                  go_wp2
                  clear q4 q2
                  obtain ⟨wo, hwo⟩ : ∃ wo : World, wo = wr := ⟨_, rfl⟩
                  subst hwo
                  go_loopw [9] (fun iv wr => ∃ i : Nat, i ≤ x.ts.length ∧ iv = .int .i64 i ∧ firstE e5 x.ts.length 0 = firstE e5 (x.ts.length - i) i ∧ RJ N F lo x vs gv w wr) (fun iv _ => x.ts.length - (intOf iv).toNat)
                  case atStart => exact ⟨0, Nat.zero_le _, rfl, rfl, hJ⟩
                  case round =>
                    clear hJ hlt hi tl
                    obtain ⟨i, hi, rfl, hfe, hJ⟩ := hrel
                    have q4 : wr.cell? ⟨N, 4, none⟩ = some (.slice tb x.ts.length tcap) := by rw [← HTU.out]; exact hJ.l.bN.cell 4
                    have HFE := Lib.hid hfe
                    by_cases hlt : i < x.ts.length
                    · have tl : decide (i < x.ts.length) = true := by simpa using hlt
                      have hts : IsTags wr (.slice tb x.ts.length tcap) x.ts := by have := hJ.l.img.ts; rwa [HTU.out] at this
                      obtain ⟨a, rfl, c0, c1⟩ := hts.at hlt
                      have hei := HE5.out i hlt
                      obtain ⟨kd, hkd⟩ : ∃ kd, (x.ts[i]'hlt).kind = kd := ⟨_, rfl⟩
                      obtain ⟨sb, hsb⟩ : ∃ sb, (x.ts[i]'hlt).body = sb := ⟨_, rfl⟩
                      unfold tagE at hei
                      rw [hkd] at c0 hei
                      rw [hsb] at c1 hei
                      have HEI := Lib.hid hei
                      have j0 : (0 : Int) ≤ (i : Int) := by omega
                      have j1 : (i : Int) < (x.ts.length : Int) := by omega
                      obtain ⟨K, hK⟩ : ∃ K, K = wr.heap.size := ⟨_, rfl⟩
                      have HK := Lib.hid hK
                      clear hfe hts hei hkd hsb hK
                      go_upto_region 29 with fail
                      rw [← HK.out]
                      have hbe : Below wr.heap.size wr (wr.alloc (.cells #[.int .i64 kd, .string sb] 104)) := (Below.refl _ _).alloc (Nat.le_refl _) _
                      refine wp_world (fun W => RJ N F lo x vs gv w W ∧ Blk W K #[.int .i64 kd, .string sb] 104) ⟨hJ.below hbe, Blk.new' _ _ _ HK.out⟩ ?_
                      clear hJ hbe q4 c0 c1 HK
                      clear wr
                      rintro W ⟨hJ, bK⟩
                      have k0 := bK.cell 0
                      have k1 := bK.cell 1
                      by_cases h7 : kd < 224
                      · have t7 : decide (kd < 224) = true := decide_eq_true h7
                        have h5 : e5 i = 6 := by rw [HEI.out]; exact if_pos ⟨by omega, .inl h7⟩
                        have hR5 := (first_stop hlt HFE.out h5 (by decide)).symm.trans HRT.out
                        clear h5 h7
                        subst hR5
                        go_wp2
                        go_ret
                        exact ⟨rfl, hJ.l.hB⟩
                      · have t7 : decide (kd < 224) = false := decide_eq_false h7
                        by_cases h8 : kd > 239 ∧ kd ≠ 254
                        · have t8 : decide (kd > 239) = true := decide_eq_true h8.1
                          have t9 : (kd != 254) = true := by simpa using h8.2
                          have h5 : e5 i = 6 := by rw [HEI.out]; exact if_pos ⟨h8.2, .inr h8.1⟩
                          have hR5 := (first_stop hlt HFE.out h5 (by decide)).symm.trans HRT.out
                          clear h5 h7 h8
                          subst hR5
                          go_wp2
                          go_ret
                          exact ⟨rfl, hJ.l.hB⟩
                        · have hei := HEI.out
                          rw [if_neg (by omega)] at hei
                          have HE6 := Lib.hid hei
                          clear hei
                          go_cut [125] from 113 to 125 (fun c wx => c = .bool false ∧ (RJ N F lo x vs gv w wx ∧ Blk wx K #[.int .i64 kd, .string sb] 104))
                          case first =>
                            by_cases h9 : kd > 239
                            · have t8 : decide (kd > 239) = true := decide_eq_true h9
                              have t9 : (kd != 254) = false := by have : kd = 254 := by omega
                                                                  simpa using this
                              clear h7 h8 h9
                              go_wp2_with fail
                              go_meet
                              exact ⟨rfl, hJ, bK⟩
                            · have t8 : decide (kd > 239) = false := decide_eq_false h9
                              clear h7 h8 h9
                              go_wp2_with fail
                              go_meet
                              exact ⟨rfl, hJ, bK⟩
                          clear hJ bK k0 k1
                          obtain ⟨rfl, hJ, bK⟩ := hcut
                          have k1 := bK.cell 1
                          by_cases h10 : sb.size ≤ 65533
                          · have t10 : decide ((sb.size : Int) > 65533) = false := by simp; omega
                            have t10' : decide (65533 < sb.size) = false := by simp; omega
                            have hei := HE6.out
                            rw [if_pos h10] at hei
                            have HN2 := Lib.hid (tab_next hlt HFE.out hei)
                            clear hei h7 h8
                            go_wp2
                            go_roundw
                            case rel => exact ⟨i + 1, by omega, by go_num, HN2.out, hJ⟩
                            case measure => simp [intOf]; omega
                          · have t10 : decide ((sb.size : Int) > 65533) = true := by simp; omega
                            have t10' : decide (65533 < sb.size) = true := by simp; omega
                            have hei := HE6.out
                            rw [if_neg h10] at hei
                            have hR5 := (first_stop hlt HFE.out hei (by decide)).symm.trans HRT.out
                            clear hei h7 h8
                            subst hR5
                            go_wp2
                            go_ret
                            exact ⟨rfl, hJ.l.hB⟩
                    · have tl : decide (i < x.ts.length) = false := by simpa using hlt
                      rw [show x.ts.length - i = 0 by omega] at hfe
                      obtain rfl : R = 0 := HRT.out.symm.trans hfe
                      clear hfe
                      go_wp2
                      go_ret
                      exact ⟨rfl, hJ.l.hB⟩
      · rw [if_neg h3] at hR
        subst hR
        have t3 : (c != 0) = true := by simpa using h3
        have t3' : decide (c = 0) = false := decide_eq_false h3
        clear HR hc hc2 h1
        go_wp2_with (first
          | (refine wpList_load_row rfl 26 _ rfl N rfl 26 _ _ _ hJ.l.bN Try.underlying26 rfl (by kernel_rfl) ?_)
          | (go_at_call 64; refine (hco _ hJ.l.img).mono ?_; rintro r w1 ⟨rfl, hb1⟩; replace hJ := hJ.below hb1)
          | (go_at_call 65; refine (hta _ hJ.l.img).mono ?_; rintro r w1 ⟨rfl, hb1⟩; replace hJ := hJ.below hb1))
        go_ret
        exact ⟨rfl, hJ.l.hB⟩
    · rw [if_neg h2] at hR
      subst hR
      have t2 : (c != 0) = true := by simpa using h2
      have t2' : (c == 0) = false := by simpa using h2
      have t2'' : decide (c = 0) = false := decide_eq_false h2
      clear HR hc h1
      go_wp2_with (first
        | (refine wpList_load_row rfl 26 _ rfl N rfl 26 _ _ _ hJ.l.bN Try.underlying26 rfl (by kernel_rfl) ?_)
        | (go_at_call 64; refine (hco _ hJ.l.img).mono ?_; rintro r w1 ⟨rfl, hb1⟩; replace hJ := hJ.below hb1))
      go_ret
      exact ⟨rfl, hJ.l.hB⟩
  · have hR := HR.out
    rw [if_neg h1] at hR
    rw [hR] at h1 ⊢
    have t1 : (R != 0) = true := by simpa using h1
    clear hR
    go_wp2
    go_ret
    exact ⟨rfl, hJ.l.hB⟩
end Go.Proofs.Ytgmhhocpdfdplaa
