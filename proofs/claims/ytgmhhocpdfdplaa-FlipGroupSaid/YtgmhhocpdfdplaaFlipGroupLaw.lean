/- aquatintlaw18.FlipGroup, walked. -/
import Derived.Test.YtgmhhocpdfdplaaFlipL
namespace Go.Proofs.Ytgmhhocpdfdplaa
open Go.RowKit
set_option maxRecDepth 100000
namespace flipGroup
set_option maxHeartbeats 16000000 in
theorem walk (x : ImgArg) (a b : Int) (ha : 0 ≤ a ∧ a ≤ 255) (hb : 0 ≤ b ∧ b ≤ 255) (v : Value) (w : World) (h : IsImg w v x) :
    Calls Try.prog 17 #[v, .int .u8 a, .int .u8 b] w fun e w' => e = .returned (.bool true) ∧ Below w.heap.size w w' := by
  obtain ⟨i, hi⟩ : ∃ i, a % 8 = i := ⟨_, rfl⟩
  obtain ⟨j, hj⟩ : ∃ j, b % 8 = j := ⟨_, rfl⟩
  have i0 : 0 ≤ i := by omega
  have i8 : i < 8 := by omega
  have j0 : 0 ≤ j := by omega
  have j8 : j < 8 := by omega
  have a0 := ha.1
  have b0 := hb.1
  have hv := h.val
  subst hv
  have HI := Lib.hid h
  have hL := LI.begin h
  obtain ⟨N, hN⟩ : ∃ N, N = w.heap.size := ⟨_, rfl⟩
  rw [← hN] at hL
  have HN := Lib.hid hN
  have hsm := fun V h => law_small18 x V h
  unfold ImgArg.val at hsm ⊢
  clear hN h
  go_enter Try.func17, Try.ntmps17
  go_upto_region 1 with fail
  refine wp_world (LI N x w) hL ?_
  rw [← HN.out]
  clear hL
  intro V hL
  go_upto_region 3 with (first
    | (go_at_call 44; refine (awake18a _).mono ?_; rintro e w1 ⟨rfl, hb1⟩; replace hL := hL.below hb1; have p0 := hL.bN.cell 0; have p1 := hL.bN.cell 1; have p2 := hL.bN.cell 2; have p3 := hL.bN.cell 3; have p4 := hL.bN.cell 4)
    | (go_at_call 45; refine (hsm _ hL.img).mono ?_; rintro e w2 ⟨⟨bb, rfl, hbf⟩, hb2⟩; replace hL := hL.below hb2; cases bb))
  · go_wp2_with (go_at_call 44; refine (awake18a _).mono ?_; rintro e w3 ⟨rfl, hb3⟩; replace hL := hL.below hb3)
    go_ret
    exact ⟨rfl, hL.hB⟩
  have hf := hbf (by first | rfl | trivial)
  have hG := hL
  have hpl := HI.out.planes
  have hp64 : ∀ c ∈ x.cs, Right64 c.bs := fun c hc => (hpl c hc).1
  clear hL hb1 hb2 hsm p0 p1 p2 p3 p4 hbf
  have hq64 : ∀ q ∈ x.qs, q.q.length = 64 := fun q hq => (HI.out.qs.ok q hq).l64
  have hbk := fun V => back_yes i i0 i8 V
  have hth := fun V => then_yes i j i0 i8 j0 j8 V
  have HF := Lib.hid (fun (h0 : mayE x i = 0) => (show SameD (flipI x (Tu.then_ i j)) (flipI (flipI x i) j) ∧ SameD x (flipI (flipI x i) (Tu.back i)) ∧ mayE (flipI x i) (Tu.back i) = 0 ∧ (mayE (flipI x i) j = 0 ∨ mayE (flipI x i) j = 13) from by
    obtain ⟨hR, -, -⟩ := mayE_ok h0
    obtain ⟨k0, k8, kt⟩ := back8 i0 i8
    have h2 := flip_two hR i0 i8 k0 k8 hpl hq64
    rw [kt] at h2
    refine ⟨flip_two hR i0 i8 j0 j8 hpl hq64, SameD.trans (flip_zero hR hp64) h2, may_back h0 hp64, ?_⟩
    rw [mayE_right (flip_right h0 hp64) j0 j8]
    split
    · exact .inr rfl
    · exact .inl rfl))
  have hc1 := fun V hI => flip_image x hf i V hI
  have hc4 := fun V hI => flip_image x hf (Tu.then_ i j) V hI
  have HY1 := Lib.hid (fun (h0 : mayE x i = 0) => flipD_yes h0)
  have HY4 := Lib.hid (fun (h0 : mayE x (Tu.then_ i j) = 0) => flipD_yes h0)
  generalize hD1 : flipD x i = D1 at *
  generalize hD4 : flipD x (Tu.then_ i j) = D4 at *
  obtain ⟨E1, hE1⟩ : ∃ E, mayE x i = E := ⟨_, rfl⟩
  obtain ⟨E4, hE4⟩ : ∃ E, mayE x (Tu.then_ i j) = E := ⟨_, rfl⟩
  rw [hE1] at hc1 HF HY1
  rw [hE4] at hc4 HY4
  generalize hT : Tu.then_ i j = T at *
  generalize hK : Tu.back i = K at *
  unfold ImgArg.val at hc1 hc4
  clear hD1 hD4 hE1 hE4 hT hK hpl hp64 hq64
  go_upto_region 4 with fail
  rw [hi, hj]
  have e1 : IntKind.i64.wrap i = i := IntWalk.i64_in _ (by omega)
  have e2 : IntKind.i64.wrap j = j := IntWalk.i64_in _ (by omega)
  try rw [e1]
  try rw [e2]
  clear e1 e2
  have hGm : ∀ V V', (fun V => LI N x w V) V → Below V.heap.size V V' → (fun V => LI N x w V) V' := fun V V' hG hb => hG.below hb
  go_upto_region 5 with (first
    | (refine wpList_load_row rfl 26 _ rfl N rfl 26 _ _ _ hG.bN Try.underlying26 rfl (by kernel_rfl) ?_)
    | (go_at_call 46; (with_reducible refine (hc1 _ hG.img).mono ?_); rintro r w5 ⟨⟨⟨aw, ah, acu, aqu, atu, acs, aqs, ats⟩, hres⟩, hb5⟩; obtain rfl := hres.r; obtain ⟨ab, abc, rfl⟩ : ∃ b c, acu = .slice b acs.length c := hres.own.row.len; obtain ⟨aq, aqc, rfl⟩ : ∃ b c, aqu = .slice b aqs.length c := hres.own.q.len; obtain ⟨az, atc, rfl⟩ : ∃ b c, atu = .slice b ats.length c := hres.own.t.len; obtain ⟨ga, hQ⟩ : ∃ Q, Q = w5.heap.size := ⟨_, rfl⟩; have HQ := Lib.hid hQ; clear hQ)
    | (refine wpList_store_row rfl 26 _ _ rfl ga _ (by rw [HQ.out]; rfl) rfl 26 _ (Blk.new' _ _ _ HQ.out) (by kernel_rfl) rfl (by simp [Value.oneCell']) ?_; simp only [Act.put]))
  have hbe : Below w5.heap.size w5 ((w5.alloc (.cells #[.int .i64 0, .int .i64 0, .slice none 0 0, .slice none 0 0, .slice none 0 0] 26)).setRow ga #[.int .i64 aw, .int .i64 ah, .slice ab acs.length abc, .slice aq aqs.length aqc, .slice az ats.length atc]) := Below.setRow ((Below.refl _ _).alloc (Nat.le_refl _) _) (Nat.le_of_eq HQ.out.symm) _
  try rw [← HQ.out]
  refine wp_world (fun V => (fun V => LI N x w V) V ∧ BX ga D1 ⟨aw, ah, .slice ab acs.length abc, .slice aq aqs.length aqc, .slice az ats.length atc, acs, aqs, ats⟩ V) ⟨hGm _ _ (hGm _ _ hG hb5) hbe, ⟨(Blk.new' _ _ _ HQ.out).row _, hres.own.below hbe, hres.d, hres.few, hres.ww, hres.wh⟩⟩ ?_
  clear hbe hb5 hres hG hGm HQ
  clear w5
  intro Va hG
  simp only at hG
  by_cases h0 : E1 = 0
  case neg =>
    have t0 : (E1 != 0) = true := by simpa using h0
    clear HF HY1 HY4 hc1 hc4 hbk hth h0
    go_wp2
    go_ret
    exact ⟨rfl, hG.1.hB⟩
  subst h0
  obtain ⟨s1, s2, s3, s4⟩ := HF.out rfl
  obtain rfl : D1 = flipI x i := HY1.out rfl
  have hd1 := hG.2.d
  have hfa := hG.2.few
  have HS1 := Lib.hid (s1.symm)
  have HS2 := Lib.hid (s2.symm)
  have hc2 := fun V hI => flip_image ⟨aw, ah, .slice ab acs.length abc, .slice aq aqs.length aqc, .slice az ats.length atc, acs, aqs, ats⟩ hfa K V hI
  have hc3 := fun V hI => flip_image ⟨aw, ah, .slice ab acs.length abc, .slice aq aqs.length aqc, .slice az ats.length atc, acs, aqs, ats⟩ hfa j V hI
  have m2 := hd1.may K
  have m3 := hd1.may j
  rw [s3] at m2
  have HS3 := Lib.hid (show SameD (flipI (flipI x i) K) (flipD ⟨aw, ah, .slice ab acs.length abc, .slice aq aqs.length aqc, .slice az ats.length atc, acs, aqs, ats⟩ K) by rw [flipD_yes m2]; exact hd1.flip K)
  have HS4 := Lib.hid (fun (h0 : mayE ⟨aw, ah, .slice ab acs.length abc, .slice aq aqs.length aqc, .slice az ats.length atc, acs, aqs, ats⟩ j = 0) => (show SameD (flipI (flipI x i) j) (flipD ⟨aw, ah, .slice ab acs.length abc, .slice aq aqs.length aqc, .slice az ats.length atc, acs, aqs, ats⟩ j) by rw [flipD_yes h0]; exact hd1.flip j))
  have s5 : mayE ⟨aw, ah, .slice ab acs.length abc, .slice aq aqs.length aqc, .slice az ats.length atc, acs, aqs, ats⟩ j = 0 ∨ mayE ⟨aw, ah, .slice ab acs.length abc, .slice aq aqs.length aqc, .slice az ats.length atc, acs, aqs, ats⟩ j = 13 := by rw [m3]; exact s4
  rw [m2] at hc2
  generalize flipD ⟨aw, ah, .slice ab acs.length abc, .slice aq aqs.length aqc, .slice az ats.length atc, acs, aqs, ats⟩ K = D2 at *
  generalize flipD ⟨aw, ah, .slice ab acs.length abc, .slice aq aqs.length aqc, .slice az ats.length atc, acs, aqs, ats⟩ j = D3 at *
  generalize mayE ⟨aw, ah, .slice ab acs.length abc, .slice aq aqs.length aqc, .slice az ats.length atc, acs, aqs, ats⟩ j = E3 at *
  generalize flipI x i = D1 at *
  unfold ImgArg.val at hc2 hc3
  simp only at hc2 hc3
  clear s1 s2 s3 s4 m2 m3 HF HY1 hc1 hd1 hfa
  go_upto_region 8 with (go_at_call 52; refine (hbk _).mono ?_; rintro e w4 ⟨rfl, rfl⟩)
  clear hbk
  have hGm : ∀ V V', (fun V => LI N x w V ∧ BX ga D1 ⟨aw, ah, .slice ab acs.length abc, .slice aq aqs.length aqc, .slice az ats.length atc, acs, aqs, ats⟩ V) V → Below V.heap.size V V' → (fun V => LI N x w V ∧ BX ga D1 ⟨aw, ah, .slice ab acs.length abc, .slice aq aqs.length aqc, .slice az ats.length atc, acs, aqs, ats⟩ V) V' := fun V V' hG hb => ⟨hG.1.below hb, hG.2.below hb⟩
  go_upto_region 9 with (first
    | (refine wpList_load_row rfl 26 _ rfl ga rfl 26 _ _ _ hG.2.b Try.underlying26 rfl (by kernel_rfl) ?_)
    | (go_at_call 46; (with_reducible refine (hc2 _ hG.2.img).mono ?_); rintro r w5 ⟨⟨⟨bw, bh, bcu, bqu, btu, bcs, bqs, bts⟩, hres⟩, hb5⟩; obtain rfl := hres.r; obtain ⟨bb, bbc, rfl⟩ : ∃ b c, bcu = .slice b bcs.length c := hres.own.row.len; obtain ⟨bq, bqc, rfl⟩ : ∃ b c, bqu = .slice b bqs.length c := hres.own.q.len; obtain ⟨bz, btc, rfl⟩ : ∃ b c, btu = .slice b bts.length c := hres.own.t.len; obtain ⟨gb, hQ⟩ : ∃ Q, Q = w5.heap.size := ⟨_, rfl⟩; have HQ := Lib.hid hQ; clear hQ)
    | (refine wpList_store_row rfl 26 _ _ rfl gb _ (by rw [HQ.out]; rfl) rfl 26 _ (Blk.new' _ _ _ HQ.out) (by kernel_rfl) rfl (by simp [Value.oneCell']) ?_; simp only [Act.put]))
  have hbe : Below w5.heap.size w5 ((w5.alloc (.cells #[.int .i64 0, .int .i64 0, .slice none 0 0, .slice none 0 0, .slice none 0 0] 26)).setRow gb #[.int .i64 bw, .int .i64 bh, .slice bb bcs.length bbc, .slice bq bqs.length bqc, .slice bz bts.length btc]) := Below.setRow ((Below.refl _ _).alloc (Nat.le_refl _) _) (Nat.le_of_eq HQ.out.symm) _
  try rw [← HQ.out]
  refine wp_world (fun V => (fun V => LI N x w V ∧ BX ga D1 ⟨aw, ah, .slice ab acs.length abc, .slice aq aqs.length aqc, .slice az ats.length atc, acs, aqs, ats⟩ V) V ∧ BX gb D2 ⟨bw, bh, .slice bb bcs.length bbc, .slice bq bqs.length bqc, .slice bz bts.length btc, bcs, bqs, bts⟩ V) ⟨hGm _ _ (hGm _ _ hG hb5) hbe, ⟨(Blk.new' _ _ _ HQ.out).row _, hres.own.below hbe, hres.d, hres.few, hres.ww, hres.wh⟩⟩ ?_
  clear hbe hb5 hres hG hGm HQ
  clear w5
  intro Vb hG
  simp only at hG
  have hGm : ∀ V V', (fun V => (LI N x w V ∧ BX ga D1 ⟨aw, ah, .slice ab acs.length abc, .slice aq aqs.length aqc, .slice az ats.length atc, acs, aqs, ats⟩ V) ∧ BX gb D2 ⟨bw, bh, .slice bb bcs.length bbc, .slice bq bqs.length bqc, .slice bz bts.length btc, bcs, bqs, bts⟩ V) V → Below V.heap.size V V' → (fun V => (LI N x w V ∧ BX ga D1 ⟨aw, ah, .slice ab acs.length abc, .slice aq aqs.length aqc, .slice az ats.length atc, acs, aqs, ats⟩ V) ∧ BX gb D2 ⟨bw, bh, .slice bb bcs.length bbc, .slice bq bqs.length bqc, .slice bz bts.length btc, bcs, bqs, bts⟩ V) V' := fun V V' hG hb => ⟨⟨hG.1.1.below hb, hG.1.2.below hb⟩, hG.2.below hb⟩
  go_upto_region 10 with (first
    | (refine wpList_load_row rfl 26 _ rfl ga rfl 26 _ _ _ hG.1.2.b Try.underlying26 rfl (by kernel_rfl) ?_)
    | (go_at_call 46; (with_reducible refine (hc3 _ hG.1.2.img).mono ?_); rintro r w5 ⟨⟨⟨cw, ch, ccu, cqu, ctu, ccs, cqs, cts⟩, hres⟩, hb5⟩; obtain rfl := hres.r; obtain ⟨cb, cbc, rfl⟩ : ∃ b c, ccu = .slice b ccs.length c := hres.own.row.len; obtain ⟨cq, cqc, rfl⟩ : ∃ b c, cqu = .slice b cqs.length c := hres.own.q.len; obtain ⟨cz, ctc, rfl⟩ : ∃ b c, ctu = .slice b cts.length c := hres.own.t.len; obtain ⟨gc, hQ⟩ : ∃ Q, Q = w5.heap.size := ⟨_, rfl⟩; have HQ := Lib.hid hQ; clear hQ)
    | (refine wpList_store_row rfl 26 _ _ rfl gc _ (by rw [HQ.out]; rfl) rfl 26 _ (Blk.new' _ _ _ HQ.out) (by kernel_rfl) rfl (by simp [Value.oneCell']) ?_; simp only [Act.put]))
  have hbe : Below w5.heap.size w5 ((w5.alloc (.cells #[.int .i64 0, .int .i64 0, .slice none 0 0, .slice none 0 0, .slice none 0 0] 26)).setRow gc #[.int .i64 cw, .int .i64 ch, .slice cb ccs.length cbc, .slice cq cqs.length cqc, .slice cz cts.length ctc]) := Below.setRow ((Below.refl _ _).alloc (Nat.le_refl _) _) (Nat.le_of_eq HQ.out.symm) _
  try rw [← HQ.out]
  refine wp_world (fun V => (fun V => (LI N x w V ∧ BX ga D1 ⟨aw, ah, .slice ab acs.length abc, .slice aq aqs.length aqc, .slice az ats.length atc, acs, aqs, ats⟩ V) ∧ BX gb D2 ⟨bw, bh, .slice bb bcs.length bbc, .slice bq bqs.length bqc, .slice bz bts.length btc, bcs, bqs, bts⟩ V) V ∧ BX gc D3 ⟨cw, ch, .slice cb ccs.length cbc, .slice cq cqs.length cqc, .slice cz cts.length ctc, ccs, cqs, cts⟩ V) ⟨hGm _ _ (hGm _ _ hG hb5) hbe, ⟨(Blk.new' _ _ _ HQ.out).row _, hres.own.below hbe, hres.d, hres.few, hres.ww, hres.wh⟩⟩ ?_
  clear hbe hb5 hres hG hGm HQ
  clear w5
  intro Vc hG
  simp only at hG
  go_upto_region 11 with (go_at_call 53; refine (hth _).mono ?_; rintro e w4 ⟨rfl, rfl⟩)
  clear hth
  have hGm : ∀ V V', (fun V => ((LI N x w V ∧ BX ga D1 ⟨aw, ah, .slice ab acs.length abc, .slice aq aqs.length aqc, .slice az ats.length atc, acs, aqs, ats⟩ V) ∧ BX gb D2 ⟨bw, bh, .slice bb bcs.length bbc, .slice bq bqs.length bqc, .slice bz bts.length btc, bcs, bqs, bts⟩ V) ∧ BX gc D3 ⟨cw, ch, .slice cb ccs.length cbc, .slice cq cqs.length cqc, .slice cz cts.length ctc, ccs, cqs, cts⟩ V) V → Below V.heap.size V V' → (fun V => ((LI N x w V ∧ BX ga D1 ⟨aw, ah, .slice ab acs.length abc, .slice aq aqs.length aqc, .slice az ats.length atc, acs, aqs, ats⟩ V) ∧ BX gb D2 ⟨bw, bh, .slice bb bcs.length bbc, .slice bq bqs.length bqc, .slice bz bts.length btc, bcs, bqs, bts⟩ V) ∧ BX gc D3 ⟨cw, ch, .slice cb ccs.length cbc, .slice cq cqs.length cqc, .slice cz cts.length ctc, ccs, cqs, cts⟩ V) V' := fun V V' hG hb => ⟨⟨⟨hG.1.1.1.below hb, hG.1.1.2.below hb⟩, hG.1.2.below hb⟩, hG.2.below hb⟩
  go_upto_region 12 with (first
    | (refine wpList_load_row rfl 26 _ rfl N rfl 26 _ _ _ hG.1.1.1.bN Try.underlying26 rfl (by kernel_rfl) ?_)
    | (go_at_call 46; (with_reducible refine (hc4 _ hG.1.1.1.img).mono ?_); rintro r w5 ⟨⟨⟨dw, dh, dcu, dqu, dtu, dcs, dqs, dts⟩, hres⟩, hb5⟩; obtain rfl := hres.r; obtain ⟨db, dbc, rfl⟩ : ∃ b c, dcu = .slice b dcs.length c := hres.own.row.len; obtain ⟨dq, dqc, rfl⟩ : ∃ b c, dqu = .slice b dqs.length c := hres.own.q.len; obtain ⟨dz, dtc, rfl⟩ : ∃ b c, dtu = .slice b dts.length c := hres.own.t.len; obtain ⟨gd, hQ⟩ : ∃ Q, Q = w5.heap.size := ⟨_, rfl⟩; have HQ := Lib.hid hQ; clear hQ)
    | (refine wpList_store_row rfl 26 _ _ rfl gd _ (by rw [HQ.out]; rfl) rfl 26 _ (Blk.new' _ _ _ HQ.out) (by kernel_rfl) rfl (by simp [Value.oneCell']) ?_; simp only [Act.put]))
  have hbe : Below w5.heap.size w5 ((w5.alloc (.cells #[.int .i64 0, .int .i64 0, .slice none 0 0, .slice none 0 0, .slice none 0 0] 26)).setRow gd #[.int .i64 dw, .int .i64 dh, .slice db dcs.length dbc, .slice dq dqs.length dqc, .slice dz dts.length dtc]) := Below.setRow ((Below.refl _ _).alloc (Nat.le_refl _) _) (Nat.le_of_eq HQ.out.symm) _
  try rw [← HQ.out]
  refine wp_world (fun V => (fun V => ((LI N x w V ∧ BX ga D1 ⟨aw, ah, .slice ab acs.length abc, .slice aq aqs.length aqc, .slice az ats.length atc, acs, aqs, ats⟩ V) ∧ BX gb D2 ⟨bw, bh, .slice bb bcs.length bbc, .slice bq bqs.length bqc, .slice bz bts.length btc, bcs, bqs, bts⟩ V) ∧ BX gc D3 ⟨cw, ch, .slice cb ccs.length cbc, .slice cq cqs.length cqc, .slice cz cts.length ctc, ccs, cqs, cts⟩ V) V ∧ BX gd D4 ⟨dw, dh, .slice db dcs.length dbc, .slice dq dqs.length dqc, .slice dz dts.length dtc, dcs, dqs, dts⟩ V) ⟨hGm _ _ (hGm _ _ hG hb5) hbe, ⟨(Blk.new' _ _ _ HQ.out).row _, hres.own.below hbe, hres.d, hres.few, hres.ww, hres.wh⟩⟩ ?_
  clear hbe hb5 hres hG hGm HQ
  clear w5
  intro Vd hG
  simp only at hG
  have hfb := hG.1.1.2.few
  have hfc := hG.1.2.few
  have sa := fun V hI hJ => img_same ⟨bw, bh, .slice bb bcs.length bbc, .slice bq bqs.length bqc, .slice bz bts.length btc, bcs, bqs, bts⟩ x hfb V hI hJ
  have hsa : sameB ⟨bw, bh, .slice bb bcs.length bbc, .slice bq bqs.length bqc, .slice bz bts.length btc, bcs, bqs, bts⟩ x = true := (SameD.trans (SameD.trans HS2.out.symm HS3.out) hG.1.1.2.d |>.same)
  rw [hsa] at sa
  unfold ImgArg.val at sa
  simp only at sa
  clear hsa
  have b0 := hG.1.1.2.b.cell 0; have b1 := hG.1.1.2.b.cell 1; have b2 := hG.1.1.2.b.cell 2; have b3 := hG.1.1.2.b.cell 3; have b4 := hG.1.1.2.b.cell 4; have n0 := hG.1.1.1.1.bN.cell 0; have n1 := hG.1.1.1.1.bN.cell 1; have n2 := hG.1.1.1.1.bN.cell 2; have n3 := hG.1.1.1.1.bN.cell 3; have n4 := hG.1.1.1.1.bN.cell 4
  go_upto_region 14 with (go_at_call 29; (with_reducible refine (sa _ hG.1.1.2.img hG.1.1.1.1.img).mono ?_); rintro e w4 ⟨rfl, hb4⟩; replace hG := And.intro (And.intro (And.intro (And.intro (hG.1.1.1.1.below hb4) (hG.1.1.1.2.below hb4)) (hG.1.1.2.below hb4)) (hG.1.2.below hb4)) (hG.2.below hb4))
  clear b0 n0 b1 n1 b2 n2 b3 n3 b4 n4 sa
  rcases s5 with rfl | rfl
  · by_cases h4 : E4 = 0
    · subst h4
      have sb := fun V hI hJ => img_same ⟨cw, ch, .slice cb ccs.length cbc, .slice cq cqs.length cqc, .slice cz cts.length ctc, ccs, cqs, cts⟩ ⟨dw, dh, .slice db dcs.length dbc, .slice dq dqs.length dqc, .slice dz dts.length dtc, dcs, dqs, dts⟩ hfc V hI hJ
      have hsb : sameB ⟨cw, ch, .slice cb ccs.length cbc, .slice cq cqs.length cqc, .slice cz cts.length ctc, ccs, cqs, cts⟩ ⟨dw, dh, .slice db dcs.length dbc, .slice dq dqs.length dqc, .slice dz dts.length dtc, dcs, dqs, dts⟩ = true := by
        have hd := hG.2.d
        rw [HY4.out rfl] at hd
        exact SameD.sameOf hG.1.2.d hd ((SameD.trans HS1.out.symm (HS4.out rfl)).symm.symm)
      rw [hsb] at sb
      unfold ImgArg.val at sb
      simp only at sb
      clear hsb
      go_wp2_with (first
        | (refine wpList_load_row rfl 26 _ rfl gc rfl 26 _ _ _ hG.1.2.b Try.underlying26 rfl (by kernel_rfl) ?_)
        | (refine wpList_load_row rfl 26 _ rfl gd rfl 26 _ _ _ hG.2.b Try.underlying26 rfl (by kernel_rfl) ?_)
        | (go_at_call 29; (with_reducible refine (sb _ hG.1.2.img hG.2.img).mono ?_); rintro e w4 ⟨rfl, hb4⟩; replace hG := And.intro (And.intro (And.intro (And.intro (hG.1.1.1.1.below hb4) (hG.1.1.1.2.below hb4)) (hG.1.1.2.below hb4)) (hG.1.2.below hb4)) (hG.2.below hb4)))
      go_ret
      exact ⟨rfl, hG.1.1.1.1.hB⟩
    · have t4 : (E4 == 0) = false := by simpa using h4
      clear h4 HY4
      go_wp2
      go_ret
      exact ⟨rfl, hG.1.1.1.1.hB⟩
  · go_wp2
    go_ret
    exact ⟨rfl, hG.1.1.1.1.hB⟩
end flipGroup
theorem flipGroup.core (v0 : Value) (a0 : ImgArg) (a1 a2 : Int) (w1 : (Lit.int .u8 a1).wf = true) (w2 : (Lit.int .u8 a2).wf = true) (W : World) (s0 : IsImg W v0 a0) :
    Calls Try.prog 17 #[v0, .int .u8 a1, .int .u8 a2] W fun e w' => e = .returned (.bool true) ∧ Below W.heap.size W w' := by
  have h1 : 0 ≤ a1 ∧ a1 ≤ 255 := by
    simp only [Lit.wf, Bool.and_eq_true, decide_eq_true_eq] at w1
    exact w1
  have h2 : 0 ≤ a2 ∧ a2 ≤ 255 := by
    simp only [Lit.wf, Bool.and_eq_true, decide_eq_true_eq] at w2
    exact w2
  exact flipGroup.walk a0 a1 a2 h1 h2 v0 W s0
end Go.Proofs.Ytgmhhocpdfdplaa
