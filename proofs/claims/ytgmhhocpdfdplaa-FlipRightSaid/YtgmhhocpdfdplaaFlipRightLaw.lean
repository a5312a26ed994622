/- aquatintlaw18.FlipRight, walked. -/
import Derived.Test.YtgmhhocpdfdplaaFlipL
namespace Go.Proofs.Ytgmhhocpdfdplaa
open Go.RowKit
set_option maxRecDepth 100000
namespace flipRight
set_option maxHeartbeats 16000000 in
theorem walk (x : ImgArg) (k : Int) (v : Value) (w : World) (h : IsImg w v x) :
    Calls Try.prog 16 #[v, .int .i64 k] w fun e w' => e = .returned (.bool true) ∧ Below w.heap.size w w' := by
  have hv := h.val
  subst hv
  have HI := Lib.hid h
  have hL := LI.begin h
  obtain ⟨N, hN⟩ : ∃ N, N = w.heap.size := ⟨_, rfl⟩
  rw [← hN] at hL
  have HN := Lib.hid hN
  have hsm := fun V h => law_small18 x V h
  unfold ImgArg.val at hsm ⊢
  clear hN h
  go_enter Try.func16, Try.ntmps16
  go_upto_region 1 with fail
  refine wp_world (LI N x w) hL ?_
  rw [← HN.out]
  clear hL
  intro V hL
  go_upto_region 3 with (first
    | (go_at_call 44; refine (awake18a _).mono ?_; rintro e w1 ⟨rfl, hb1⟩; replace hL := hL.below hb1; have p0 := hL.bN.cell 0; have p1 := hL.bN.cell 1; have p2 := hL.bN.cell 2; have p3 := hL.bN.cell 3; have p4 := hL.bN.cell 4)
    | (go_at_call 45; refine (hsm _ hL.img).mono ?_; rintro e w2 ⟨⟨bb, rfl, hbf⟩, hb2⟩; replace hL := hL.below hb2; cases bb))
  · go_wp2_with (go_at_call 44; refine (awake18a _).mono ?_; rintro e w3 ⟨rfl, hb3⟩; replace hL := hL.below hb3)
    go_ret
    exact ⟨rfl, hL.hB⟩
  have hf := hbf (by first | rfl | trivial)
  have hG := hL
  have hpl := HI.out.planes
  have hp64 : ∀ c ∈ x.cs, Right64 c.bs := fun c hc => (hpl c hc).1
  clear hL hb1 hb2 hsm p0 p1 p2 p3 p4 hbf
  have hc := fun V hI => flip_image x hf k V hI
  have hmay := fun V hI => flip_may x hf k V hI
  have hrx := fun V hI => img_right x V hI hf
  have HZ := Lib.hid (fun (h0 : mayE x k ≠ 0) => flipD_no h0)
  have HR := Lib.hid (fun (h0 : mayE x k = 0) => (show imgE x = 0 ∧ imgE (flipD x k) = 0 ∧ sizeN (flipD x k) = sizeN x by rw [flipD_yes h0]; exact ⟨(mayE_ok h0).1.imgE, (flip_right h0 hp64).imgE, flip_size x k⟩))
  generalize flipD x k = D at *
  generalize mayE x k = E at *
  unfold ImgArg.val at hc hmay hrx
  have hGm : ∀ V V', (fun V => LI N x w V) V → Below V.heap.size V V' → (fun V => LI N x w V) V' := fun V V' hG hb => hG.below hb
  go_upto_region 4 with (first
    | (refine wpList_load_row rfl 26 _ rfl N rfl 26 _ _ _ hG.bN Try.underlying26 rfl (by kernel_rfl) ?_)
    | (go_at_call 46; (with_reducible refine (hc _ hG.img).mono ?_); rintro r w5 ⟨⟨⟨aw, ah, acu, aqu, atu, acs, aqs, ats⟩, hres⟩, hb5⟩; obtain rfl := hres.r; obtain ⟨ab, abc, rfl⟩ : ∃ b c, acu = .slice b acs.length c := hres.own.row.len; obtain ⟨aq, aqc, rfl⟩ : ∃ b c, aqu = .slice b aqs.length c := hres.own.q.len; obtain ⟨az, atc, rfl⟩ : ∃ b c, atu = .slice b ats.length c := hres.own.t.len; obtain ⟨ga, hQ⟩ : ∃ Q, Q = w5.heap.size := ⟨_, rfl⟩; have HQ := Lib.hid hQ; clear hQ)
    | (refine wpList_store_row rfl 26 _ _ rfl ga _ (by rw [HQ.out]; rfl) rfl 26 _ (Blk.new' _ _ _ HQ.out) (by kernel_rfl) rfl (by simp [Value.oneCell']) ?_; simp only [Act.put]))
  have hbe : Below w5.heap.size w5 ((w5.alloc (.cells #[.int .i64 0, .int .i64 0, .slice none 0 0, .slice none 0 0, .slice none 0 0] 26)).setRow ga #[.int .i64 aw, .int .i64 ah, .slice ab acs.length abc, .slice aq aqs.length aqc, .slice az ats.length atc]) := Below.setRow ((Below.refl _ _).alloc (Nat.le_refl _) _) (Nat.le_of_eq HQ.out.symm) _
  try rw [← HQ.out]
  refine wp_world (fun V => (fun V => LI N x w V) V ∧ BX ga D ⟨aw, ah, .slice ab acs.length abc, .slice aq aqs.length aqc, .slice az ats.length atc, acs, aqs, ats⟩ V) ⟨hGm _ _ (hGm _ _ hG hb5) hbe, ⟨(Blk.new' _ _ _ HQ.out).row _, hres.own.below hbe, hres.d, hres.few, hres.ww, hres.wh⟩⟩ ?_
  clear hbe hb5 hres hG hGm HQ
  clear w5
  intro Va hG
  simp only at hG
  have HD := Lib.hid hG.2.d
  have hfa := hG.2.few
  have hra := fun V hI => img_right ⟨aw, ah, .slice ab acs.length abc, .slice aq aqs.length aqc, .slice az ats.length atc, acs, aqs, ats⟩ V hI hfa
  rw [hG.2.d.err] at hra
  have hsz := hG.2.d.size
  have hsa := fun V hI => img_same ⟨aw, ah, .slice ab acs.length abc, .slice aq aqs.length aqc, .slice az ats.length atc, acs, aqs, ats⟩ zeroI hfa V hI (zeroI_img V)
  have hss := hG.2.d.same
  by_cases h0 : E = 0
  · subst h0
    obtain ⟨h1, h2, h3⟩ := HR.out rfl
    rw [h1] at hrx
    rw [h2] at hra
    have hs1 := fun W h => img_size_ok x.val x W h hf hrx
    have hs2 := fun W h => img_size_ok (ImgArg.val ⟨aw, ah, .slice ab acs.length abc, .slice aq aqs.length aqc, .slice az ats.length atc, acs, aqs, ats⟩) ⟨aw, ah, .slice ab acs.length abc, .slice aq aqs.length aqc, .slice az ats.length atc, acs, aqs, ats⟩ W h hfa hra
    rw [hsz, h3] at hs2
    generalize sizeN x = M at *
    unfold ImgArg.val at hs1 hs2 hra
    simp only at hs2 hra
    clear hsa hss HD HZ HR h1 h2 h3 hsz hrx hpl hp64
    have a0 := hG.2.b.cell 0; have a1 := hG.2.b.cell 1; have a2 := hG.2.b.cell 2; have a3 := hG.2.b.cell 3; have a4 := hG.2.b.cell 4
    go_wp2_with (first
      | (refine wpList_load_row rfl 26 _ rfl N rfl 26 _ _ _ hG.1.bN Try.underlying26 rfl (by kernel_rfl) ?_)
      | (refine wpList_load_row rfl 26 _ rfl ga rfl 26 _ _ _ hG.2.b Try.underlying26 rfl (by kernel_rfl) ?_)
      | (go_at_call 50; refine (hmay _ hG.1.img).mono ?_; rintro e w4 ⟨rfl, hb4⟩; replace hG := And.intro (hG.1.below hb4) (hG.2.below hb4); have a0 := hG.2.b.cell 0; have a1 := hG.2.b.cell 1; have a2 := hG.2.b.cell 2; have a3 := hG.2.b.cell 3; have a4 := hG.2.b.cell 4)
      | (go_at_call 21; (with_reducible refine (hs1 _ hG.1.img).mono ?_); rintro e w4 ⟨rfl, hb4⟩; replace hG := And.intro (hG.1.below hb4) (hG.2.below hb4); have a0 := hG.2.b.cell 0; have a1 := hG.2.b.cell 1; have a2 := hG.2.b.cell 2; have a3 := hG.2.b.cell 3; have a4 := hG.2.b.cell 4)
      | (go_at_call 21; (with_reducible refine (hs2 _ hG.2.img).mono ?_); rintro e w4 ⟨rfl, hb4⟩; replace hG := And.intro (hG.1.below hb4) (hG.2.below hb4); have a0 := hG.2.b.cell 0; have a1 := hG.2.b.cell 1; have a2 := hG.2.b.cell 2; have a3 := hG.2.b.cell 3; have a4 := hG.2.b.cell 4)
      | (go_at_call 20; (with_reducible refine (hra _ hG.2.img).mono ?_); rintro e w4 ⟨rfl, hb4⟩; replace hG := And.intro (hG.1.below hb4) (hG.2.below hb4); have a0 := hG.2.b.cell 0; have a1 := hG.2.b.cell 1; have a2 := hG.2.b.cell 2; have a3 := hG.2.b.cell 3; have a4 := hG.2.b.cell 4))
    go_ret
    exact ⟨rfl, hG.1.hB⟩
  · obtain rfl : D = zeroI := HZ.out h0
    have t1 : (E != 0) = true := by simpa using h0
    rw [hss] at hsa
    unfold ImgArg.val zeroI at hsa
    simp only at hsa
    clear HD HZ HR hss hra hsz hrx hpl hp64 h0
    have a0 := hG.2.b.cell 0; have a1 := hG.2.b.cell 1; have a2 := hG.2.b.cell 2; have a3 := hG.2.b.cell 3; have a4 := hG.2.b.cell 4
    go_wp2_with (first
      | (refine wpList_load_row rfl 26 _ rfl N rfl 26 _ _ _ hG.1.bN Try.underlying26 rfl (by kernel_rfl) ?_)
      | (refine wpList_load_row rfl 26 _ rfl ga rfl 26 _ _ _ hG.2.b Try.underlying26 rfl (by kernel_rfl) ?_)
      | (go_at_call 50; refine (hmay _ hG.1.img).mono ?_; rintro e w4 ⟨rfl, hb4⟩; replace hG := And.intro (hG.1.below hb4) (hG.2.below hb4); have a0 := hG.2.b.cell 0; have a1 := hG.2.b.cell 1; have a2 := hG.2.b.cell 2; have a3 := hG.2.b.cell 3; have a4 := hG.2.b.cell 4)
      | (go_at_call 29; (with_reducible refine (hsa _ hG.2.img).mono ?_); rintro e w4 ⟨rfl, hb4⟩; replace hG := And.intro (hG.1.below hb4) (hG.2.below hb4); have a0 := hG.2.b.cell 0; have a1 := hG.2.b.cell 1; have a2 := hG.2.b.cell 2; have a3 := hG.2.b.cell 3; have a4 := hG.2.b.cell 4))
    go_ret
    exact ⟨rfl, hG.1.hB⟩
end flipRight
theorem flipRight.core (v0 : Value) (a0 : ImgArg) (a1 : Int) (_w1 : (Lit.int .i64 a1).wf = true) (W : World) (s0 : IsImg W v0 a0) :
    Calls Try.prog 16 #[v0, .int .i64 a1] W fun e w' => e = .returned (.bool true) ∧ Below W.heap.size W w' := flipRight.walk a0 a1 v0 W s0
end Go.Proofs.Ytgmhhocpdfdplaa
