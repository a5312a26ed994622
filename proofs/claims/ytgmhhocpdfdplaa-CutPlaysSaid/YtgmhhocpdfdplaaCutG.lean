/- Package cut: Crop, Redact. -/
import Derived.Test.YtgmhhocpdfdplaaCutF
import Derived.BigRegion
namespace Go.Proofs.Ytgmhhocpdfdplaa
open Go.RowKit
set_option maxRecDepth 100000
set_option maxHeartbeats 8000000
def zeroI : ImgArg := ⟨0, 0, .slice none 0 0, .slice none 0 0, .slice none 0 0, [], [], []⟩
/-- An image and an error, as a function yields them: the image is D, but for its slices. -/
structure ImgRes (D : ImgArg) (e : Int) (r : Ending) (w' : World) (x1 : ImgArg) : Prop where
  r : r = .returned (.tuple #[x1.val, .int .i64 e])
  d : SameD D x1
  own : OwnT x1 w'
  few : FewOk x1
  ww : (Lit.int .i64 x1.w).wf = true
  wh : (Lit.int .i64 x1.h).wf = true
theorem ImgRes.img {D : ImgArg} {e : Int} {r : Ending} {w' : World} {x1 : ImgArg} (h : ImgRes D e r w' x1) : IsImg w' x1.val x1 := h.own.img h.few h.ww h.wh
theorem zeroI_img (w : World) : IsImg w zeroI.val zeroI :=
  ⟨rfl, by decide, by decide, ⟨Ar.elems (Ar.nil w 7) (by intro c hc; simp [zeroI] at hc) rfl (by simp), by intro c hc; simp [zeroI] at hc⟩, ⟨Ar.elems (Ar.nil w 65) (by intro c hc; simp [zeroI] at hc) rfl (by simp), by intro c hc; simp [zeroI] at hc⟩, ⟨Ar.elems (Ar.nil w 2) (by intro c hc; simp [zeroI] at hc) rfl (by simp), by intro c hc; simp [zeroI] at hc⟩⟩
theorem zeroI_own (w : World) : OwnT zeroI w := ⟨Row.nil _ _ _ _, fun c hc => by simp [zeroI] at hc, Row.nil _ _ _ _, Row.nil _ _ _ _, fun q hq => by simp [zeroI] at hq, fun q hq => by simp [zeroI] at hq⟩
theorem zeroI_few : FewOk zeroI := ⟨by simp [zeroI], by simp [zeroI], by simp [zeroI], by simp [zeroI], by simp [zeroI]⟩
theorem SameD.refl (x : ImgArg) : SameD x x := ⟨rfl, rfl, rfl, rfl, rfl⟩
/-- What Crop yields. -/
def cropD (x : ImgArg) (X Y W H : Int) : ImgArg := if unE x X Y W H = 0 then { putAll x (cropG x X Y W H) with w := W, h := H } else zeroI
theorem IsImg.planes {w : World} {v : Value} {x : ImgArg} (h : IsImg w v x) : ∀ c ∈ x.cs, Right64 c.bs ∧ ∀ b ∈ c.bs, ∀ y ∈ b, (Lit.int .i16 y).wf = true := fun c hc => ⟨(h.cs.ok c hc).h64, (h.cs.ok c hc).wb⟩
/-- The boxes: the image, the rectangle, the result. -/
structure CI (N : Nat) (x : ImgArg) (X Y W H : Int) (w V : World) : Prop where
  l : LR N x X Y W H 73 w V
  bQ : Blk V (N + 2) #[.int .i64 0, .int .i64 0, .slice none 0 0, .slice none 0 0, .slice none 0 0] 26
theorem CI.below {N : Nat} {x : ImgArg} {X Y W H : Int} {w V V' : World} (q : CI N x X Y W H w V) (hb : Below V.heap.size V V') : CI N x X Y W H w V' := ⟨q.l.below hb, q.bQ.below hb q.bQ.lt⟩
theorem unit_ok {x : ImgArg} {X Y W H : Int} (h : unE x X Y W H = 0) : (0 ≤ unA x Y ∧ unA x Y ≤ 20000) ∧ (0 ≤ unB x X ∧ unB x X ≤ 20000) ∧ (0 ≤ upI H (uhI x) ∧ upI H (uhI x) ≤ 20000) ∧ 0 ≤ upI W (uwI x) ∧ upI W (uwI x) ≤ 20000 := by
  have q := un_ok h
  have h1 := q.R.ok.ac
  have h2 := q.R.ok.dn
  have a0 := q.a0; have b0 := q.b0; have c1 := q.h1; have d1 := q.d1; have ah := q.ah; have bd := q.bd
  have e1 : acI x = acN x.w (qsP x) := rfl
  have e2 : dnI x = dnN x.h (qsP x) := rfl
  omega
structure CropQ (N P : Nat) (x : ImgArg) (X Y W H : Int) (w V1 : World) (y : ImgArg) (V : World) : Prop where
  c : CI N x X Y W H w V
  o : OwnL V1.heap.size y V1 V
  p : Blk V P #[.int .i64 y.w, .int .i64 y.h, y.cu, y.qu, y.tu] 26
theorem CropQ.below {N P : Nat} {x : ImgArg} {X Y W H : Int} {w V1 : World} {y : ImgArg} {V V' : World} (q : CropQ N P x X Y W H w V1 y V) (hb : Below V.heap.size V V') : CropQ N P x X Y W H w V1 y V' := ⟨q.c.below hb, q.o.below hb, q.p.below hb q.p.lt⟩
theorem cut_crop (x : ImgArg) (hf : FewOk x) (X Y W H : Int) (hW : (Lit.int .i64 W).wf = true) (hH : (Lit.int .i64 H).wf = true) (w : World) (hI : IsImg w x.val x) :
    Calls Try.prog 39 #[x.val, .agg #[.int .i64 X, .int .i64 Y, .int .i64 W, .int .i64 H]] w fun r w' => (∃ x1, ImgRes (cropD x X Y W H) (unE x X Y W H) r w' x1) ∧ Below w.heap.size w w' := by
  have hpl := hI.planes
  have hL := LR.begin hI X Y W H 73
  obtain ⟨N, hN⟩ : ∃ N, N = w.heap.size := ⟨_, rfl⟩
  rw [← hN] at hL
  have HN := Lib.hid hN
  have hun := fun V h => cut_units x hf X Y W H V h
  have HEA := Lib.hid (fun (h0 : unE x X Y W H = 0) V hI => cut_each x hf (un_ok h0).R (unA x Y) (unB x X) (upI H (uhI x)) (upI W (uwI x)) (unit_ok h0).1 (unit_ok h0).2.1 (unit_ok h0).2.2.1 (unit_ok h0).2.2.2 88 (enters_of Try.func88 (by kernel_rfl) rfl) (cropG x X Y W H) (cropG_ok (un_ok h0) hpl) (fun i hi u W hA => crop_do (un_ok h0) (fun c hc => (hpl c hc).1) i hi u W hA) V hI)
  have hvs := fun (h0 : unE x X Y W H = 0) => (show unV x X Y W H = #[.int .i64 (unA x Y), .int .i64 (unB x X), .int .i64 (upI H (uhI x)), .int .i64 (upI W (uwI x))] from if_pos h0)
  have hvz := fun (h0 : unE x X Y W H ≠ 0) => (show unV x X Y W H = #[.int .i64 0, .int .i64 0, .int .i64 0, .int .i64 0] from if_neg h0)
  have hD1 := fun (h0 : unE x X Y W H = 0) => (show cropD x X Y W H = { putAll x (cropG x X Y W H) with w := W, h := H } from if_pos h0)
  have hD2 := fun (h0 : unE x X Y W H ≠ 0) => (show cropD x X Y W H = zeroI from if_neg h0)
  obtain ⟨D, hD⟩ : ∃ D, cropD x X Y W H = D := ⟨_, rfl⟩
  rw [hD] at hD1 hD2 ⊢
  obtain ⟨E, hE⟩ : ∃ E, unE x X Y W H = E := ⟨_, rfl⟩
  rw [hE] at hD1 hD2 hvs hvz hun HEA ⊢
  unfold ImgArg.val at hun HEA
  have HD1 := Lib.hid hD1; have HD2 := Lib.hid hD2; have HV1 := Lib.hid hvs; have HV2 := Lib.hid hvz
  clear hN hI hD hE hD1 hD2 hvs hvz
  go_enter Try.func39, Try.ntmps39
  go_upto_region 1 with fail
  refine wp_world (CI N x X Y W H w) ⟨hL.below ((Below.refl _ _).alloc (Nat.le_refl _) _), Blk.new' _ _ _ (by rw [HN.out]; simp)⟩ ?_
  rw [← HN.out]
  clear hL
  intro V hL
  have hNN := hL.l.l.hM
  by_cases h0 : E = 0
  · subst h0
    have hea := HEA.out rfl
    rw [HV1.out rfl] at hun
    have HD := Lib.hid (HD1.out rfl)
    clear HD1 HD2 HV1 HV2
    generalize unA x Y = a at *
    generalize unB x X = b at *
    generalize upI H (uhI x) = hh at *
    generalize upI W (uwI x) = dd at *
    clear HEA
    go_upto_region 4 with (first
      | (refine wpList_load_row rfl 26 _ rfl N rfl 26 _ _ _ hL.l.l.bN Try.underlying26 rfl (by kernel_rfl) ?_)
      | (refine wpList_load_row rfl 73 _ rfl (N + 1) rfl 73 _ _ _ hL.l.bR Try.underlying73 rfl (by kernel_rfl) ?_)
      | (go_at_call 85; refine (hun _ hL.l.l.img).mono ?_; rintro r w3 ⟨rfl, hb3⟩; replace hL := hL.below hb3; obtain ⟨M, hM⟩ : ∃ M, M = w3.heap.size := ⟨_, rfl⟩; have HM := Lib.hid hM; clear hM)
      | (refine wpList_store_row rfl 70 _ _ rfl M _ (by rw [HM.out]; rfl) rfl 70 _ (Blk.new' _ _ _ HM.out) (by kernel_rfl) rfl (by simp [Value.oneCell']) ?_; simp only [Act.put]))
    have hbe : Below w3.heap.size w3 ((w3.alloc (.cells #[.int .i64 0, .int .i64 0, .int .i64 0, .int .i64 0] 70)).setRow M #[.int .i64 a, .int .i64 b, .int .i64 hh, .int .i64 dd]) := Below.setRow ((Below.refl _ _).alloc (Nat.le_refl _) _) (Nat.le_of_eq HM.out.symm) _
    try rw [← HM.out]
    refine wp_world (fun V => CI N x X Y W H w V ∧ Blk V M #[.int .i64 a, .int .i64 b, .int .i64 hh, .int .i64 dd] 70) ⟨hL.below hbe, (Blk.new' _ _ _ HM.out).row _⟩ ?_
    clear hbe hL hun HM hb3
    rintro V1 ⟨hL, bM⟩
    go_upto_region 5 with (first
      | (refine wpList_load_row rfl 26 _ rfl N rfl 26 _ _ _ hL.l.l.bN Try.underlying26 rfl (by kernel_rfl) ?_)
      | (refine wpList_load_row rfl 70 _ rfl M rfl 70 _ _ _ bM Try.underlying70 rfl (by kernel_rfl) ?_)
      | (go_at_call 87; refine (hea _ hL.l.l.img).mono ?_; rintro r w4 ⟨⟨yw, yh, ycu, yqu, ytu, ycs, yqs, yts⟩, rfl, hSD, hfy, hOy⟩; have hb4 := hOy.hB; obtain ⟨yb, ycap, rfl⟩ : ∃ b c, ycu = .slice b ycs.length c := hOy.row.len; obtain ⟨qb, qcap, rfl⟩ : ∃ b c, yqu = .slice b yqs.length c := hOy.q.len; obtain ⟨tb, tcap, rfl⟩ : ∃ b c, ytu = .slice b yts.length c := hOy.t.len; obtain ⟨P, hP⟩ : ∃ P, P = w4.heap.size := ⟨_, rfl⟩; have HP := Lib.hid hP; clear hP)
      | (refine wpList_store_row rfl 26 _ _ rfl P _ (by rw [HP.out]; rfl) rfl 26 _ (Blk.new' _ _ _ HP.out) (by kernel_rfl) rfl (by simp [Value.oneCell']) ?_; simp only [Act.put]))
    have hbe : Below w4.heap.size w4 ((w4.alloc (.cells #[.int .i64 0, .int .i64 0, .slice none 0 0, .slice none 0 0, .slice none 0 0] 26)).setRow P #[.int .i64 yw, .int .i64 yh, .slice yb ycs.length ycap, .slice qb yqs.length qcap, .slice tb yts.length tcap]) := Below.setRow ((Below.refl _ _).alloc (Nat.le_refl _) _) (Nat.le_of_eq HP.out.symm) _
    have hNP : N + 2 < P := by rw [HP.out]; exact Nat.lt_of_lt_of_le hL.bQ.lt hOy.hW
    try rw [← HP.out]
    refine wp_world (fun V => (CI N x X Y W H w V ∧ OwnL V1.heap.size ⟨yw, yh, .slice yb ycs.length ycap, .slice qb yqs.length qcap, .slice tb yts.length tcap, ycs, yqs, yts⟩ V1 V) ∧ Blk V P #[.int .i64 yw, .int .i64 yh, .slice yb ycs.length ycap, .slice qb yqs.length qcap, .slice tb yts.length tcap] 26) ⟨⟨(hL.below hb4).below hbe, hOy.below hbe⟩, (Blk.new' _ _ _ HP.out).row _⟩ ?_
    have HSD := Lib.hid hSD
    have HFY := Lib.hid hfy
    have hM1 := hL.bQ.lt
    clear hbe hL hea HP hb4 hOy bM hSD hfy
    rintro V2 ⟨hL, bP⟩
    go_cut [] from 22 to 28 (fun wx => ∃ V3, wx = (V3.setCell ⟨P, 0, none⟩ (.int .i64 W)).setCell ⟨P, 1, none⟩ (.int .i64 H) ∧ CropQ N P x X Y W H w V1 ⟨yw, yh, .slice yb ycs.length ycap, .slice qb yqs.length qcap, .slice tb yts.length tcap, ycs, yqs, yts⟩ V3)
    case first =>
      have r2 := hL.1.l.bR.cell 2
      have r3 := hL.1.l.bR.cell 3
      have p0 := bP.cell 0
      have f0 := bP.free 0
      have p1 := bP.cell 1
      have f1 := bP.free 1
      have n1 : N + 1 ≠ P := by omega
      have n2 : P ≠ N + 1 := by omega
      have HQ := Lib.hid (show CropQ N P x X Y W H w V1 ⟨yw, yh, .slice yb ycs.length ycap, .slice qb yqs.length qcap, .slice tb yts.length tcap, ycs, yqs, yts⟩ V2 from ⟨hL.1, hL.2, bP⟩)
      clear hL bP
      go_region
      all_goals go_wp2_with fail
      all_goals go_meet
      exact ⟨V2.drew, rfl, HQ.out.below (Below.refl _ _).drew⟩
    obtain ⟨V3, rfl, hL, hOy, bP⟩ := hcut
    have bP2 : Blk ((V3.setCell ⟨P, 0, none⟩ (.int .i64 W)).setCell ⟨P, 1, none⟩ (.int .i64 H)) P #[.int .i64 W, .int .i64 H, .slice yb ycs.length ycap, .slice qb yqs.length qcap, .slice tb yts.length tcap] 26 := (bP.set 0 _).set 1 _
    have bQ2 := (hL.bQ.other ⟨P, 0, none⟩ (.int .i64 W) (by show N + 2 ≠ P; omega)).other ⟨P, 1, none⟩ (.int .i64 H) (by show N + 2 ≠ P; omega)
    have hBB : Below w.heap.size w ((V3.setCell ⟨P, 0, none⟩ (.int .i64 W)).setCell ⟨P, 1, none⟩ (.int .i64 H)) := (hL.l.hB.setCell (p := ⟨P, 0, none⟩) (by show _ ≤ P; omega) _).setCell (p := ⟨P, 1, none⟩) (by show _ ≤ P; omega) _
    have hfin : OwnL w.heap.size ⟨yw, yh, .slice yb ycs.length ycap, .slice qb yqs.length qcap, .slice tb yts.length tcap, ycs, yqs, yts⟩ w (((V3.setCell ⟨P, 0, none⟩ (.int .i64 W)).setCell ⟨P, 1, none⟩ (.int .i64 H)).setRow (N + 2) #[.int .i64 W, .int .i64 H, .slice yb ycs.length ycap, .slice qb yqs.length qcap, .slice tb yts.length tcap]) := by
      refine hOy.at' _ (fun g cs t hg ht hl => ?_) w _ rfl (by omega) (Below.setRow hBB (by omega) _) (by simpa using hBB.size)
      have hgP : g ≠ P := by
        rintro rfl
        have := hg.symm.trans bP
        simp at this
        rcases ht with rfl | rfl | rfl | rfl <;> exact absurd this.2 (by decide)
      rw [setRow_other _ _ _ _ (by omega : g ≠ N + 2), heap_setCell_other _ _ _ _ hgP, heap_setCell_other _ _ _ _ hgP]
    have HFIN := Lib.hid hfin; have HBB := Lib.hid hBB
    clear hfin hBB hOy hL bP
    go_wp2_with (first
      | (refine wpList_load_row rfl 26 _ rfl P rfl 26 _ _ _ bP2 Try.underlying26 rfl (by kernel_rfl) ?_)
      | (refine wpList_store_row rfl 26 _ _ rfl (N + 2) _ rfl rfl 26 _ bQ2 (by kernel_rfl) rfl (by simp [Value.oneCell']) ?_))
    refine bodyPost_ret (results_row_tmp rfl _ _ (N + 2) 26 _ _ rfl (bQ2.row _) Try.underlying26 rfl (by kernel_rfl)) rfl ?_
    have hfe : FewOk ⟨W, H, .slice yb ycs.length ycap, .slice qb yqs.length qcap, .slice tb yts.length tcap, ycs, yqs, yts⟩ := ⟨HFY.out.c20, HFY.out.q20, HFY.out.t100, HFY.out.b300, HFY.out.t140⟩
    have hO3 := HFIN.out
    have hsd := HSD.out
    refine ⟨⟨⟨W, H, .slice yb ycs.length ycap, .slice qb yqs.length qcap, .slice tb yts.length tcap, ycs, yqs, yts⟩, ⟨rfl, ?_, ?_, hfe, hW, hH⟩⟩, Below.setRow HBB.out (by omega) _⟩
    · rw [HD.out]
      exact ⟨rfl, rfl, hsd.cs, hsd.qs, hsd.ts⟩
    · exact (show OwnL w.heap.size ⟨W, H, .slice yb ycs.length ycap, .slice qb yqs.length qcap, .slice tb yts.length tcap, ycs, yqs, yts⟩ w _ from ⟨hO3.row, hO3.pl, hO3.q, hO3.t, hO3.qok, hO3.tok, hO3.hN, hO3.hB, hO3.hW⟩).ownT
  · obtain rfl : D = zeroI := HD2.out h0
    rw [HV2.out h0] at hun
    have t0 : (E != 0) = true := by simpa using h0
    clear HEA HD1 HD2 HV1 HV2 h0
    go_wp2_with (first
      | (refine wpList_load_row rfl 26 _ rfl N rfl 26 _ _ _ hL.l.l.bN Try.underlying26 rfl (by kernel_rfl) ?_)
      | (refine wpList_load_row rfl 73 _ rfl (N + 1) rfl 73 _ _ _ hL.l.bR Try.underlying73 rfl (by kernel_rfl) ?_)
      | (go_at_call 85; refine (hun _ hL.l.l.img).mono ?_; rintro r w3 ⟨rfl, hb3⟩; replace hL := hL.below hb3; obtain ⟨M, hM⟩ : ∃ M, M = w3.heap.size := ⟨_, rfl⟩; have HM := Lib.hid hM; clear hM)
      | (refine wpList_store_row rfl 70 _ _ rfl M _ (by rw [HM.out]; rfl) rfl 70 _ (Blk.new' _ _ _ HM.out) (by kernel_rfl) rfl (by simp [Value.oneCell']) ?_; simp only [Act.put])
      | (refine wpList_store_row rfl 26 _ _ rfl (N + 2) _ rfl rfl 26 _ ((hL.below (Below.setRow ((Below.refl _ _).alloc (Nat.le_refl _) _) (Nat.le_of_eq HM.out.symm) _)).bQ) (by kernel_rfl) rfl (by simp [Value.oneCell']) ?_))
    have hL2 := hL.below (Below.setRow ((Below.refl w3.heap.size w3).alloc (Nat.le_refl _) (.cells #[.int .i64 0, .int .i64 0, .int .i64 0, .int .i64 0] 70)) (Nat.le_of_eq HM.out.symm) #[.int .i64 0, .int .i64 0, .int .i64 0, .int .i64 0])
    refine bodyPost_ret (results_row_tmp rfl _ _ (N + 2) 26 _ _ rfl (hL2.bQ.row _) Try.underlying26 rfl (by kernel_rfl)) rfl ?_
    exact ⟨⟨zeroI, ⟨rfl, SameD.refl _, zeroI_own _, zeroI_few, by decide, by decide⟩⟩, Below.setRow hL2.l.hB (by omega) _⟩
end Go.Proofs.Ytgmhhocpdfdplaa
