/- aquatintlaw18.FlipImages, walked. -/
import Derived.Test.YtgmhhocpdfdplaaFlipL
import Derived.Test.YtgmhhocpdfdplaaFlipSh
import Derived.Test.YtgmhhocpdfdplaaFlipSl
import Derived.Test.YtgmhhocpdfdplaaGH
namespace Go.Proofs.Ytgmhhocpdfdplaa
open Go.RowKit
set_option maxRecDepth 100000
theorem ref_image18 (x : ImgArg) (hf : FewOk x) (k : Int) (w : World) (hI : IsImg w x.val x) :
    Calls Try.prog 47 #[x.val, .int .i64 k] w fun r w' => RefRes8 (flipD x k) (mayE x k) r w' ∧ Below w.heap.size w w' := by
  by_cases h0 : mayE x k = 0
  · rw [flipD_yes h0, h0]
    obtain ⟨-, k0, k8⟩ := mayE_ok h0
    obtain ⟨n, rfl⟩ := Int.eq_ofNat_of_zero_le k0
    by_cases h4 : 4 ≤ n
    · exact ref_image18_hi x hf n h0 h4 w hI
    · exact ref_image18_lo x hf n h0 h4 w hI
  · exact ref_image18_no x hf k h0 w hI
namespace flipImages
set_option maxHeartbeats 16000000 in
theorem walk (x : ImgArg) (k : Int) (v : Value) (w : World) (h : IsImg w v x) :
    Calls Try.prog 14 #[v, .int .i64 k] w fun e w' => e = .returned (.bool true) ∧ Below w.heap.size w w' := by
  have hv := h.val
  subst hv
  have HI := Lib.hid h
  have hL := LI.begin h
  obtain ⟨N, hN⟩ : ∃ N, N = w.heap.size := ⟨_, rfl⟩
  rw [← hN] at hL
  have HN := Lib.hid hN
  have hsm := fun V h => law_small18 x V h
  unfold ImgArg.val at hsm ⊢
  clear hN h
  go_enter Try.func14, Try.ntmps14
  go_upto_region 1 with fail
  refine wp_world (LI N x w) hL ?_
  rw [← HN.out]
  clear hL
  intro V hL
  go_upto_region 3 with (first
    | (go_at_call 44; refine (awake18a _).mono ?_; rintro e w1 ⟨rfl, hb1⟩; replace hL := hL.below hb1; have p0 := hL.bN.cell 0; have p1 := hL.bN.cell 1; have p2 := hL.bN.cell 2; have p3 := hL.bN.cell 3; have p4 := hL.bN.cell 4)
    | (go_at_call 45; refine (hsm _ hL.img).mono ?_; rintro e w2 ⟨⟨bb, rfl, hbf⟩, hb2⟩; replace hL := hL.below hb2; cases bb))
  · go_wp2_with (go_at_call 44; refine (awake18a _).mono ?_; rintro e w3 ⟨rfl, hb3⟩; replace hL := hL.below hb3)
    go_ret
    exact ⟨rfl, hL.hB⟩
  have hf := hbf (by first | rfl | trivial)
  have hG := hL
  have hpl := HI.out.planes
  have hp64 : ∀ c ∈ x.cs, Right64 c.bs := fun c hc => (hpl c hc).1
  clear hL hb1 hb2 hsm p0 p1 p2 p3 p4 hbf
  have hc := fun V hI => flip_image x hf k V hI
  have hc2 := fun V hI => ref_image18 x hf k V hI
  unfold RefRes8 at hc2
  generalize flipD x k = D at *
  generalize mayE x k = E at *
  unfold ImgArg.val at hc
  have hc3 : ∀ (V : World), IsImg V (.agg #[.int .i64 x.w, .int .i64 x.h, x.cu, x.qu, x.tu]) x → Calls Try.prog 47 #[.agg #[.int .i64 x.w, .int .i64 x.h, x.cu, x.qu, x.tu], .int .i64 k] V fun r w' => (∃ y : ImgArg, r = .returned (.tuple #[y.val, .int .i64 E]) ∧ SameD D y ∧ IsImg w' y.val y ∧ FewOk y) ∧ Below V.heap.size V w' := hc2
  clear hc2 hpl hp64
  have hGm : ∀ V V', (fun V => LI N x w V) V → Below V.heap.size V V' → (fun V => LI N x w V) V' := fun V V' hG hb => hG.below hb
  go_upto_region 4 with (first
    | (refine wpList_load_row rfl 26 _ rfl N rfl 26 _ _ _ hG.bN Try.underlying26 rfl (by kernel_rfl) ?_)
    | (go_at_call 46; (with_reducible refine (hc _ hG.img).mono ?_); rintro r w5 ⟨⟨⟨aw, ah, acu, aqu, atu, acs, aqs, ats⟩, hres⟩, hb5⟩; obtain rfl := hres.r; obtain ⟨ab, abc, rfl⟩ : ∃ b c, acu = .slice b acs.length c := hres.own.row.len; obtain ⟨aq, aqc, rfl⟩ : ∃ b c, aqu = .slice b aqs.length c := hres.own.q.len; obtain ⟨az, atc, rfl⟩ : ∃ b c, atu = .slice b ats.length c := hres.own.t.len; obtain ⟨ga, hQ⟩ : ∃ Q, Q = w5.heap.size := ⟨_, rfl⟩; have HQ := Lib.hid hQ; clear hQ)
    | (refine wpList_store_row rfl 26 _ _ rfl ga _ (by rw [HQ.out]; rfl) rfl 26 _ (Blk.new' _ _ _ HQ.out) (by kernel_rfl) rfl (by simp [Value.oneCell']) ?_; simp only [Act.put]))
  have hbe : Below w5.heap.size w5 ((w5.alloc (.cells #[.int .i64 0, .int .i64 0, .slice none 0 0, .slice none 0 0, .slice none 0 0] 26)).setRow ga #[.int .i64 aw, .int .i64 ah, .slice ab acs.length abc, .slice aq aqs.length aqc, .slice az ats.length atc]) := Below.setRow ((Below.refl _ _).alloc (Nat.le_refl _) _) (Nat.le_of_eq HQ.out.symm) _
  try rw [← HQ.out]
  refine wp_world (fun V => (fun V => LI N x w V) V ∧ BX ga D ⟨aw, ah, .slice ab acs.length abc, .slice aq aqs.length aqc, .slice az ats.length atc, acs, aqs, ats⟩ V) ⟨hGm _ _ (hGm _ _ hG hb5) hbe, ⟨(Blk.new' _ _ _ HQ.out).row _, hres.own.below hbe, hres.d, hres.few, hres.ww, hres.wh⟩⟩ ?_
  clear hbe hb5 hres hG hGm HQ
  clear w5
  intro Va hG
  simp only at hG
  have hGm : ∀ V V', (fun V => LI N x w V ∧ BX ga D ⟨aw, ah, .slice ab acs.length abc, .slice aq aqs.length aqc, .slice az ats.length atc, acs, aqs, ats⟩ V) V → Below V.heap.size V V' → (fun V => LI N x w V ∧ BX ga D ⟨aw, ah, .slice ab acs.length abc, .slice aq aqs.length aqc, .slice az ats.length atc, acs, aqs, ats⟩ V) V' := fun V V' hG hb => ⟨hG.1.below hb, hG.2.below hb⟩
  go_upto_region 5 with (first
    | (refine wpList_load_row rfl 26 _ rfl N rfl 26 _ _ _ hG.1.bN Try.underlying26 rfl (by kernel_rfl) ?_)
    | (go_at_call 47; refine (hc3 _ hG.1.img).mono ?_; rintro r w5 ⟨⟨⟨bw, bh, bcu, bqu, btu, bcs, bqs, bts⟩, rfl, hsd, hIy, hfy⟩, hb5⟩; obtain ⟨bb, bbc, rfl⟩ : ∃ b c, bcu = .slice b bcs.length c := hIy.cs.len; obtain ⟨bq, bqc, rfl⟩ : ∃ b c, bqu = .slice b bqs.length c := hIy.qs.len; obtain ⟨bz, btc, rfl⟩ : ∃ b c, btu = .slice b bts.length c := hIy.ts.len; obtain ⟨gb, hQ⟩ : ∃ Q, Q = w5.heap.size := ⟨_, rfl⟩; have HQ := Lib.hid hQ; clear hQ)
    | (refine wpList_store_row rfl 26 _ _ rfl gb _ (by rw [HQ.out]; rfl) rfl 26 _ (Blk.new' _ _ _ HQ.out) (by kernel_rfl) rfl (by simp [Value.oneCell']) ?_; simp only [Act.put]))
  have hbe : Below w5.heap.size w5 ((w5.alloc (.cells #[.int .i64 0, .int .i64 0, .slice none 0 0, .slice none 0 0, .slice none 0 0] 26)).setRow gb #[.int .i64 bw, .int .i64 bh, .slice bb bcs.length bbc, .slice bq bqs.length bqc, .slice bz bts.length btc]) := Below.setRow ((Below.refl _ _).alloc (Nat.le_refl _) _) (Nat.le_of_eq HQ.out.symm) _
  try rw [← HQ.out]
  refine wp_world (fun V => ((fun V => LI N x w V ∧ BX ga D ⟨aw, ah, .slice ab acs.length abc, .slice aq aqs.length aqc, .slice az ats.length atc, acs, aqs, ats⟩ V) V ∧ Blk V gb #[.int .i64 bw, .int .i64 bh, .slice bb bcs.length bbc, .slice bq bqs.length bqc, .slice bz bts.length btc] 26) ∧ IsImg V (.agg #[.int .i64 bw, .int .i64 bh, .slice bb bcs.length bbc, .slice bq bqs.length bqc, .slice bz bts.length btc]) ⟨bw, bh, .slice bb bcs.length bbc, .slice bq bqs.length bqc, .slice bz bts.length btc, bcs, bqs, bts⟩) ⟨⟨hGm _ _ (hGm _ _ hG hb5) hbe, (Blk.new' _ _ _ HQ.out).row _⟩, hIy.below hbe⟩ ?_
  clear hbe hb5 hG hGm HQ hIy hc3
  clear w5
  rintro V2 ⟨hG, hIy⟩
  simp only at hG
  have bC := hG.2
  have hfa := hG.1.2.few
  have hs := fun V hI hJ => ref11_same ⟨aw, ah, .slice ab acs.length abc, .slice aq aqs.length aqc, .slice az ats.length atc, acs, aqs, ats⟩ ⟨bw, bh, .slice bb bcs.length bbc, .slice bq bqs.length bqc, .slice bz bts.length btc, bcs, bqs, bts⟩ hfa V hI hJ
  have hsb : sameB ⟨aw, ah, .slice ab acs.length abc, .slice aq aqs.length aqc, .slice az ats.length atc, acs, aqs, ats⟩ ⟨bw, bh, .slice bb bcs.length bbc, .slice bq bqs.length bqc, .slice bz bts.length btc, bcs, bqs, bts⟩ = true := SameD.sameOf hG.1.2.d hsd (SameD.refl D)
  rw [hsb] at hs
  unfold ImgArg.val at hs
  simp only at hs
  have a0 := hG.1.2.b.cell 0; have a1 := hG.1.2.b.cell 1; have a2 := hG.1.2.b.cell 2; have a3 := hG.1.2.b.cell 3; have a4 := hG.1.2.b.cell 4; have c0 := bC.cell 0; have c1 := bC.cell 1; have c2 := bC.cell 2; have c3 := bC.cell 3; have c4 := bC.cell 4
  clear hsb hsd
  go_wp2_with (go_at_call 30; (with_reducible refine (hs _ hG.1.2.img hIy).mono ?_); rintro e w4 ⟨rfl, hb4⟩; replace hG := And.intro (And.intro (hG.1.1.below hb4) (hG.1.2.below hb4)) (hG.2.below hb4 hG.2.lt))
  go_ret
  exact ⟨rfl, hG.1.1.hB⟩
end flipImages
theorem flipImages.core (v0 : Value) (a0 : ImgArg) (a1 : Int) (_w1 : (Lit.int .i64 a1).wf = true) (W : World) (s0 : IsImg W v0 a0) :
    Calls Try.prog 14 #[v0, .int .i64 a1] W fun e w' => e = .returned (.bool true) ∧ Below W.heap.size W w' := flipImages.walk a0 a1 v0 W s0
end Go.Proofs.Ytgmhhocpdfdplaa
