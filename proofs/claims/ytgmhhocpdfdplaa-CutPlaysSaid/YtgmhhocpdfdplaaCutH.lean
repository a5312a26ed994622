/- Package cut: Redact. -/
import Derived.Test.YtgmhhocpdfdplaaCutG
namespace Go.Proofs.Ytgmhhocpdfdplaa
open Go.RowKit
set_option maxRecDepth 100000
set_option maxHeartbeats 8000000
def endB (a n u l : Int) : Bool := decide ((a + n) % u = 0 ∨ a + n = l)
theorem cut_ends (a n u l : Int) (ha : 0 ≤ a ∧ a ≤ 16384) (hn : 0 ≤ n ∧ n ≤ 16384) (hu : 1 ≤ u) (w : World) : Calls Try.prog 89 #[.int .i64 a, .int .i64 n, .int .i64 u, .int .i64 l] w fun r w' => r = .returned (.bool (endB a n u l)) ∧ w = w' := by
  obtain ⟨R, hR⟩ : ∃ R, endB a n u l = R := ⟨_, rfl⟩
  rw [hR]
  unfold endB at hR
  have h0 : 0 ≤ a + n := by omega
  have n0 : u ≠ 0 := by omega
  have n1 : u ≠ -1 := by omega
  have e1 : IntKind.i64.wrap (a + n) = a + n := IntWalk.i64_in _ (by omega)
  have ha1 := ha.1; have ha2 := ha.2; have hn1 := hn.1; have hn2 := hn.2
  by_cases h1 : (a + n) % u = 0
  · have t1 : ((a + n) % u == 0) = true := by simpa using h1
    obtain rfl : R = true := by rw [← hR]; simp [h1]
    clear hR h1
    go_enter Try.func89, Try.ntmps89
    go_wp2
    go_ret
    exact ⟨rfl, rfl⟩
  · have t1 : ((a + n) % u == 0) = false := by simpa using h1
    by_cases h2 : a + n = l
    · have t2 : (a + n == l) = true := by simpa using h2
      have t3 : decide (a + n = l) = true := by simpa using h2
      obtain rfl : R = true := by rw [← hR]; simp [h2]
      clear hR h1 h2
      go_enter Try.func89, Try.ntmps89
      go_wp2
      go_ret
      exact ⟨rfl, rfl⟩
    · have t2 : (a + n == l) = false := by simpa using h2
      have t3 : decide (a + n = l) = false := by simpa using h2
      obtain rfl : R = false := by rw [← hR]; simp [h1, h2]
      clear hR h1 h2
      go_enter Try.func89, Try.ntmps89
      go_wp2
      go_ret
      exact ⟨rfl, rfl⟩
def reE (x : ImgArg) (X Y W H : Int) : Int := if unE x X Y W H = 0 then (if endB X W (uwI x) x.w = true ∧ endB Y H (uhI x) x.h = true then 0 else 13) else unE x X Y W H
/-- What Redact yields. -/
def redD (x : ImgArg) (X Y W H : Int) : ImgArg := if reE x X Y W H = 0 then putAll x (redG x X Y W H) else zeroI
theorem cut_redact (x : ImgArg) (hf : FewOk x) (X Y W H : Int) (w : World) (hI : IsImg w x.val x) :
    Calls Try.prog 41 #[x.val, .agg #[.int .i64 X, .int .i64 Y, .int .i64 W, .int .i64 H]] w fun r w' => (∃ x1, ImgRes (redD x X Y W H) (reE x X Y W H) r w' x1) ∧ Below w.heap.size w w' := by
  have hpl := hI.planes
  have HI := Lib.hid hI
  have hL := LR.begin hI X Y W H 73
  obtain ⟨N, hN⟩ : ∃ N, N = w.heap.size := ⟨_, rfl⟩
  rw [← hN] at hL
  have HN := Lib.hid hN
  have hun := fun V h => cut_units x hf X Y W H V h
  have hfr := fun V h => img_frame x V h hf.c20
  have K1 : 8 * hhN (partsOf (psOf x.cs)) = uwI x := rfl
  have K2 : 8 * vvN (partsOf (psOf x.cs)) = uhI x := rfl
  rw [K1, K2] at hfr
  clear K1 K2
  have HEA := Lib.hid (fun (h0 : unE x X Y W H = 0) V hI => cut_each x hf (un_ok h0).R (unA x Y) (unB x X) (upI H (uhI x)) (upI W (uwI x)) (unit_ok h0).1 (unit_ok h0).2.1 (unit_ok h0).2.2.1 (unit_ok h0).2.2.2 90 (enters_of Try.func90 (by kernel_rfl) rfl) (redG x X Y W H) (redG_ok (un_ok h0) hpl) (fun i hi u W hA => red_do (un_ok h0) (fun c hc => (hpl c hc).1) i hi u W hA) V hI)
  have HV1 := Lib.hid (fun (h0 : unE x X Y W H = 0) => (show unV x X Y W H = #[.int .i64 (unA x Y), .int .i64 (unB x X), .int .i64 (upI H (uhI x)), .int .i64 (upI W (uwI x))] from if_pos h0))
  have HV2 := Lib.hid (fun (h0 : unE x X Y W H ≠ 0) => (show unV x X Y W H = #[.int .i64 0, .int .i64 0, .int .i64 0, .int .i64 0] from if_neg h0))
  have HF0 := Lib.hid (fun (h0 : unE x X Y W H = 0) => wiE_zero (unE_zero h0).1)
  have HR := Lib.hid (fun (h0 : unE x X Y W H = 0) => (un_ok h0).R)
  obtain ⟨D, hD⟩ : ∃ D, redD x X Y W H = D := ⟨_, rfl⟩
  obtain ⟨F, hF⟩ : ∃ F, reE x X Y W H = F := ⟨_, rfl⟩
  rw [hD, hF]
  unfold redD at hD
  rw [hF] at hD
  unfold reE at hF
  obtain ⟨E, hE⟩ : ∃ E, unE x X Y W H = E := ⟨_, rfl⟩
  rw [hE] at hF hun HEA HV1 HV2 HF0 HR
  have HD := Lib.hid hD; have HF := Lib.hid hF
  unfold ImgArg.val at hun HEA hfr
  clear hN hI hD hE hF
  unfold ImgArg.val
  go_enter Try.func41, Try.ntmps41
  go_upto_region 1 with fail
  refine wp_world (CI N x X Y W H w) ⟨hL.below ((Below.refl _ _).alloc (Nat.le_refl _) _), Blk.new' _ _ _ (by rw [HN.out]; simp)⟩ ?_
  rw [← HN.out]
  clear hL
  intro V hL
  have hNN := hL.l.l.hM
  by_cases h0 : E = 0
  · subst h0
    have hea := HEA.out rfl
    rw [HV1.out rfl] at hun
    obtain ⟨hi0, ⟨X0, W0, X1, W1⟩, Y0, H0, Y1, H1⟩ := HF0.out rfl
    have hR := HR.out rfl
    obtain ⟨hnw, hnh, hnu, hnv, -⟩ := hR.nums
    rw [hR.fr] at hfr
    have hF := HF.out
    rw [if_pos rfl] at hF
    have HF := Lib.hid hF
    have he1 := cut_ends X W (uwI x) x.w (by omega) (by omega) (by omega)
    have he2 := cut_ends Y H (uhI x) x.h (by omega) (by omega) (by omega)
    clear HV1 HV2 HF0 HR HEA hi0 hR hF
    generalize uwI x = uw at *
    generalize uhI x = uh at *
    obtain ⟨b1, hb1⟩ : ∃ b, endB X W uw x.w = b := ⟨_, rfl⟩
    obtain ⟨b2, hb2⟩ : ∃ b, endB Y H uh x.h = b := ⟨_, rfl⟩
    have hF := HF.out
    rw [hb1, hb2] at hF
    rw [hb1] at he1
    rw [hb2] at he2
    have HF2 := Lib.hid hF
    clear HF hb1 hb2 hF
    generalize unA x Y = a at *
    generalize unB x X = b at *
    generalize upI H uh = hh at *
    generalize upI W uw = dd at *
    generalize acN x.w (partsOf (psOf x.cs)) = ac at *
    generalize dnN x.h (partsOf (psOf x.cs)) = dn at *
    go_upto_region 2 with (first
      | (refine wpList_load_row rfl 26 _ rfl N rfl 26 _ _ _ hL.l.l.bN Try.underlying26 rfl (by kernel_rfl) ?_)
      | (refine wpList_load_row rfl 73 _ rfl (N + 1) rfl 73 _ _ _ hL.l.bR Try.underlying73 rfl (by kernel_rfl) ?_)
      | (go_at_call 85; refine (hun _ hL.l.l.img).mono ?_; rintro r w3 ⟨rfl, hb3⟩; replace hL := hL.below hb3; obtain ⟨M, hM⟩ : ∃ M, M = w3.heap.size := ⟨_, rfl⟩; have HM := Lib.hid hM; clear hM)
      | (refine wpList_store_row rfl 70 _ _ rfl M _ (by rw [HM.out]; rfl) rfl 70 _ (Blk.new' _ _ _ HM.out) (by kernel_rfl) rfl (by simp [Value.oneCell']) ?_; simp only [Act.put]))
    have hbe : Below w3.heap.size w3 ((w3.alloc (.cells #[.int .i64 0, .int .i64 0, .int .i64 0, .int .i64 0] 70)).setRow M #[.int .i64 a, .int .i64 b, .int .i64 hh, .int .i64 dd]) := Below.setRow ((Below.refl _ _).alloc (Nat.le_refl _) _) (Nat.le_of_eq HM.out.symm) _
    try rw [← HM.out]
    refine wp_world (fun V => CI N x X Y W H w V ∧ Blk V M #[.int .i64 a, .int .i64 b, .int .i64 hh, .int .i64 dd] 70) ⟨hL.below hbe, (Blk.new' _ _ _ HM.out).row _⟩ ?_
    clear hbe hL hun HM hb3
    rintro V1 ⟨hL, bM⟩
    go_upto_region 6 with (first
      | (refine wpList_load_row rfl 26 _ rfl N rfl 26 _ _ _ hL.l.l.bN Try.underlying26 rfl (by kernel_rfl) ?_)
      | (go_at_call 48; refine (hfr _ hL.l.l.img).mono ?_; rintro r w4 ⟨f, rfl, hb4, -, hf2⟩; obtain ⟨FF, rfl, -, hFU⟩ := hf2 (by first | rfl | trivial); replace hL := hL.below hb4; replace bM := bM.below hb4 bM.lt)
      | (go_at_call 49; refine (fr_unit FF uw uh ac dn _ hFU).mono ?_; rintro r w5 ⟨rfl, hb5⟩; replace hL := hL.below hb5; replace bM := bM.below hb5 bM.lt))
    clear hfr hf2 hFU hb4 hb5
    have r0 := hL.l.bR.cell 0; have r1 := hL.l.bR.cell 1; have r2 := hL.l.bR.cell 2; have r3 := hL.l.bR.cell 3; have n0 := hL.l.l.bN.cell 0; have n1 := hL.l.l.bN.cell 1
    cases b1
    · obtain rfl : F = 13 := by rw [← HF2.out]; rfl
      obtain rfl : D = zeroI := by rw [← HD.out]; rfl
      clear HF2 HD hea he2
      go_upto_region 7 with (go_at_call 89; (with_reducible refine (he1 _).mono ?_); rintro e w4 ⟨rfl, rfl⟩)
      clear he1 r0 r1 r2 r3 n0 n1
      go_wp2_with (refine wpList_store_row rfl 26 _ _ rfl (N + 2) _ rfl rfl 26 _ hL.bQ (by kernel_rfl) rfl (by simp [Value.oneCell']) ?_)
      refine bodyPost_ret (results_row_tmp rfl _ _ (N + 2) 26 _ _ rfl (hL.bQ.row _) Try.underlying26 rfl (by kernel_rfl)) rfl ?_
      exact ⟨⟨zeroI, ⟨rfl, SameD.refl _, zeroI_own _, zeroI_few, by decide, by decide⟩⟩, Below.setRow hL.l.hB (by omega) _⟩
    · cases b2
      · obtain rfl : F = 13 := by rw [← HF2.out]; rfl
        obtain rfl : D = zeroI := by rw [← HD.out]; rfl
        clear HF2 HD hea
        go_upto_region 7 with (first
          | (go_at_call 89; (with_reducible refine (he1 _).mono ?_); rintro e w4 ⟨rfl, rfl⟩)
          | (go_at_call 89; (with_reducible refine (he2 _).mono ?_); rintro e w4 ⟨rfl, rfl⟩))
        clear he1 he2 r0 r1 r2 r3 n0 n1
        go_wp2_with (refine wpList_store_row rfl 26 _ _ rfl (N + 2) _ rfl rfl 26 _ hL.bQ (by kernel_rfl) rfl (by simp [Value.oneCell']) ?_)
        refine bodyPost_ret (results_row_tmp rfl _ _ (N + 2) 26 _ _ rfl (hL.bQ.row _) Try.underlying26 rfl (by kernel_rfl)) rfl ?_
        exact ⟨⟨zeroI, ⟨rfl, SameD.refl _, zeroI_own _, zeroI_few, by decide, by decide⟩⟩, Below.setRow hL.l.hB (by omega) _⟩
      · obtain rfl : F = 0 := by rw [← HF2.out]; rfl
        have hD := HD.out
        rw [if_pos rfl] at hD
        have HD := Lib.hid hD
        clear HF2 hD
        go_upto_region 8 with (first
          | (go_at_call 89; (with_reducible refine (he1 _).mono ?_); rintro e w4 ⟨rfl, rfl⟩)
          | (go_at_call 89; (with_reducible refine (he2 _).mono ?_); rintro e w4 ⟨rfl, rfl⟩))
        clear he1 he2 r0 r1 r2 r3 n0 n1
        obtain ⟨V2, hV2⟩ : ∃ V2 : World, V2 = w5 := ⟨_, rfl⟩
        subst hV2
        have hM1 := hL.bQ.lt
        go_wp2_with (first
          | (refine wpList_load_row rfl 26 _ rfl N rfl 26 _ _ _ hL.l.l.bN Try.underlying26 rfl (by kernel_rfl) ?_)
          | (refine wpList_load_row rfl 70 _ rfl M rfl 70 _ _ _ bM Try.underlying70 rfl (by kernel_rfl) ?_)
          | (go_at_call 87; refine (hea _ hL.l.l.img).mono ?_; rintro r w6 ⟨⟨yw, yh, ycu, yqu, ytu, ycs, yqs, yts⟩, rfl, hSD, hfy, hOy⟩; have hb6 := hOy.hB; obtain ⟨yb, ycap, rfl⟩ : ∃ b c, ycu = .slice b ycs.length c := hOy.row.len; obtain ⟨qb, qcap, rfl⟩ : ∃ b c, yqu = .slice b yqs.length c := hOy.q.len; obtain ⟨tb, tcap, rfl⟩ : ∃ b c, ytu = .slice b yts.length c := hOy.t.len; have hL2 := hL.below hb6)
          | (refine wpList_store_row rfl 26 _ _ rfl (N + 2) _ rfl rfl 26 _ hL2.bQ (by kernel_rfl) rfl (by simp [Value.oneCell']) ?_))
        refine bodyPost_ret (results_row_tmp rfl _ _ (N + 2) 26 _ _ rfl (hL2.bQ.row _) Try.underlying26 rfl (by kernel_rfl)) rfl ?_
        have hfin := hOy.setRow (N + 2) hM1 #[.int .i64 yw, .int .i64 yh, .slice yb ycs.length ycap, .slice qb yqs.length qcap, .slice tb yts.length tcap] w (by omega) hL2.l.hB
        have hw1 : (Lit.int .i64 yw).wf = true := by have := hSD.w; simp only at this; rw [this]; exact HI.out.ww
        have hw2 : (Lit.int .i64 yh).wf = true := by have := hSD.h; simp only at this; rw [this]; exact HI.out.wh
        exact ⟨⟨⟨yw, yh, .slice yb ycs.length ycap, .slice qb yqs.length qcap, .slice tb yts.length tcap, ycs, yqs, yts⟩, ⟨rfl, by rw [← HD.out]; exact hSD, hfin.ownT, hfy, hw1, hw2⟩⟩, Below.setRow hL2.l.hB (by omega) _⟩
  · have hF := HF.out
    rw [if_neg h0] at hF
    subst hF
    have hD := HD.out
    rw [if_neg h0] at hD
    subst hD
    rw [HV2.out h0] at hun
    have t0 : (E != 0) = true := by simpa using h0
    clear HEA HD HF HV1 HV2 HF0 HR h0 hfr
    go_wp2_with (first
      | (refine wpList_load_row rfl 26 _ rfl N rfl 26 _ _ _ hL.l.l.bN Try.underlying26 rfl (by kernel_rfl) ?_)
      | (refine wpList_load_row rfl 73 _ rfl (N + 1) rfl 73 _ _ _ hL.l.bR Try.underlying73 rfl (by kernel_rfl) ?_)
      | (go_at_call 85; refine (hun _ hL.l.l.img).mono ?_; rintro r w3 ⟨rfl, hb3⟩; replace hL := hL.below hb3; obtain ⟨M, hM⟩ : ∃ M, M = w3.heap.size := ⟨_, rfl⟩; have HM := Lib.hid hM; clear hM)
      | (refine wpList_store_row rfl 70 _ _ rfl M _ (by rw [HM.out]; rfl) rfl 70 _ (Blk.new' _ _ _ HM.out) (by kernel_rfl) rfl (by simp [Value.oneCell']) ?_; simp only [Act.put])
      | (refine wpList_store_row rfl 26 _ _ rfl (N + 2) _ rfl rfl 26 _ ((hL.below (Below.setRow ((Below.refl _ _).alloc (Nat.le_refl _) _) (Nat.le_of_eq HM.out.symm) _)).bQ) (by kernel_rfl) rfl (by simp [Value.oneCell']) ?_))
    have hL2 := hL.below (Below.setRow ((Below.refl w3.heap.size w3).alloc (Nat.le_refl _) (.cells #[.int .i64 0, .int .i64 0, .int .i64 0, .int .i64 0] 70)) (Nat.le_of_eq HM.out.symm) #[.int .i64 0, .int .i64 0, .int .i64 0, .int .i64 0])
    refine bodyPost_ret (results_row_tmp rfl _ _ (N + 2) 26 _ _ rfl (hL2.bQ.row _) Try.underlying26 rfl (by kernel_rfl)) rfl ?_
    exact ⟨⟨zeroI, ⟨rfl, SameD.refl _, zeroI_own _, zeroI_few, by decide, by decide⟩⟩, Below.setRow hL2.l.hB (by omega) _⟩
end Go.Proofs.Ytgmhhocpdfdplaa
