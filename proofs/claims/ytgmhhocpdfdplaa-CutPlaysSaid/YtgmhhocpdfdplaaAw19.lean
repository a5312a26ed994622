/- The example of the statements on cuts: its walk; what the statements' own small functions answer. -/
import Derived.Test.YtgmhhocpdfdplaaCutI
import Derived.Test.YtgmhhocpdfdplaaGG
import Derived.Test.YtgmhhocpdfdplaaFew
import Derived.Test.YtgmhhocpdfdplaaRectEq2
namespace Go.Proofs.Ytgmhhocpdfdplaa
open Go.RowKit
set_option maxRecDepth 100000
set_option maxHeartbeats 8000000
theorem law_of19 (X Y W H : Int) (w : World) : Calls Try.prog 35 #[.agg #[.int .i64 X, .int .i64 Y, .int .i64 W, .int .i64 H]] w fun r w' => r = .returned (.agg #[.int .i64 X, .int .i64 Y, .int .i64 W, .int .i64 H]) ∧ Below w.heap.size w w' := by
  obtain ⟨N, hN⟩ : ∃ N, N = w.heap.size := ⟨_, rfl⟩
  have HN := Lib.hid hN
  rw [← hN]
  have hbe : Below w.heap.size w ((w.alloc (.cells #[.int .i64 X, .int .i64 Y, .int .i64 W, .int .i64 H] 68)).alloc (.cells #[.int .i64 0, .int .i64 0, .int .i64 0, .int .i64 0] 73)) := ((Below.refl _ _).alloc (Nat.le_refl _) _).alloc (by simp) _
  clear hN
  go_enter Try.func35, Try.ntmps35
  go_upto_region 1 with fail
  rw [← HN.out]
  refine wp_world (fun V => (Blk V N #[.int .i64 X, .int .i64 Y, .int .i64 W, .int .i64 H] 68 ∧ Blk V (N + 1) #[.int .i64 0, .int .i64 0, .int .i64 0, .int .i64 0] 73) ∧ Below N w V) ⟨⟨(Blk.new' _ _ _ HN.out).alloc _, Blk.new' _ _ _ (by simp [HN.out])⟩, by rw [HN.out]; exact hbe⟩ ?_
  clear hbe
  rintro V ⟨⟨b0, b1⟩, hB⟩
  have r0 := b0.cell 0; have r1 := b0.cell 1; have r2 := b0.cell 2; have r3 := b0.cell 3
  go_wp2_with (refine wpList_store_row rfl 73 _ _ rfl (N + 1) _ rfl rfl 73 _ b1 (by kernel_rfl) rfl (by simp [Value.oneCell']) ?_)
  simp only [Act.put]
  refine bodyPost_ret (results_cell_row rfl _ _ (N + 1) 73 _ (0, 0) _ rfl (b1.row _) Try.underlying73 rfl (by kernel_rfl)) rfl ?_
  exact ⟨rfl, Below.setRow hB (Nat.le_succ N) _⟩
theorem law_small19 (x : ImgArg) (w : World) (h : IsImg w x.val x) :
    Calls Try.prog 33 #[x.val] w fun e w' => FewRes x e ∧ Below w.heap.size w w' := by
  have hL := LI.begin h
  obtain ⟨N, hN⟩ : ∃ N, N = w.heap.size := ⟨_, rfl⟩
  rw [← hN] at hL
  have HN := Lib.hid hN
  have hf := fun W h => ref_few_any 120 3000 (by decide) (by decide) (by decide) (by decide) (.agg #[.int .i64 x.w, .int .i64 x.h, x.cu, x.qu, x.tu]) x W h
  unfold ImgArg.val
  clear hN h
  go_enter Try.func33, Try.ntmps33
  go_upto_region 1 with fail
  refine wp_world (LI N x w) hL ?_
  rw [← HN.out]
  clear hL
  intro V hL
  go_wp2_with (first | (refine wpList_load_row rfl 26 _ rfl N rfl 26 _ _ _ hL.bN Try.underlying26 rfl (by kernel_rfl) ?_) | (go_at_call 54; refine (hf _ hL.img).mono ?_; rintro e w1 ⟨⟨b, rfl, hb⟩, hb1⟩; replace hL := hL.below hb1))
  go_ret
  exact ⟨⟨b, rfl, hb⟩, hL.hB⟩
def awA (c r : Int) (u : Value) (bs : List (List Int)) : CompArg := ⟨1, 2, 2, 0, c, r, u, bs⟩
def awB (c r : Int) (u : Value) (bs : List (List Int)) : CompArg := ⟨2, 1, 1, 0, c, r, u, bs⟩
def aw9X (cu qu : Value) : ImgArg := ⟨33, 17, cu, qu, .slice none 0 0, [awA 0 0 (.slice none 0 0) [], awB 0 0 (.slice none 0 0) []], [qOnes 64], []⟩
def aw91 (cu qu tu u v : Value) : ImgArg := ⟨33, 17, cu, qu, tu, [awA 6 4 u (List.replicate 24 (List.replicate 64 0)), awB 3 2 v (List.replicate 6 (List.replicate 64 0))], [qOnes 64], []⟩
theorem aw9_fr (cu qu : Value) : frE (aw9X cu qu) = 0 := by rfl
theorem aw9_g (cu qu : Value) : frG (aw9X cu qu) = [⟨6, 4, 5, 3⟩, ⟨3, 2, 3, 2⟩] := by rfl
theorem aw9_e (cu qu tu u v : Value) : imgE (aw91 cu qu tu u v) = 0 := by kernel_rfl
theorem aw9_u (cu qu tu u v : Value) : unE (aw91 cu qu tu u v) 16 0 17 17 = 0 := by kernel_rfl
theorem aw9_b (cu qu tu u v : Value) : blkE (aw91 cu qu tu u v) 16 16 17 1 0 = 0 := by kernel_rfl
theorem aw9_bv (cu qu tu u v : Value) : blkV (aw91 cu qu tu u v) 16 16 17 1 0 = #[.int .i64 2, .int .i64 2, .int .i64 2, .int .i64 4] := by
  unfold blkV
  rw [if_pos (aw9_b _ _ _ _ _)]
  rfl
theorem aw9_c (cu qu tu u v : Value) : (cropD (aw91 cu qu tu u v) 16 0 17 17).cs.map (fun c => (c.c, c.r)) = [(4, 4), (2, 2)] := by
  unfold cropD
  rw [if_pos (aw9_u _ _ _ _ _)]
  rfl
theorem aw9_few (cu qu : Value) : FewOk (aw9X cu qu) := ⟨by simp [aw9X], by simp [aw9X], by simp [aw9X], fun c hc => by simp [aw9X] at hc; rcases hc with rfl | rfl <;> simp [awA, awB], fun t ht => by simp [aw9X] at ht⟩
theorem aw9_few1 (cu qu tu u v : Value) : FewOk (aw91 cu qu tu u v) := ⟨by simp [aw91], by simp [aw91], by simp [aw91], fun c hc => by simp [aw91] at hc; rcases hc with rfl | rfl <;> simp [awA, awB], fun t ht => by simp [aw91] at ht⟩
theorem aw9_img {W : World} {c q : Nat} (h1 : Blk W c #[.int .i64 1, .int .i64 2, .int .i64 2, .int .i64 0, .int .i64 0, .int .i64 0, .slice none 0 0, .int .i64 2, .int .i64 1, .int .i64 1, .int .i64 0, .int .i64 0, .int .i64 0, .slice none 0 0] 63) (h2 : Blk W q (qOnes 64).arr 39) :
    IsImg W (aw9X (.slice (some ⟨c, 0, none⟩) 2 2) (.slice (some ⟨q, 0, none⟩) 1 1)).val (aw9X (.slice (some ⟨c, 0, none⟩) 2 2) (.slice (some ⟨q, 0, none⟩) 1 1)) := by
  have r1 : Row W 0 63 7 (.slice (some ⟨c, 0, none⟩) 2 2) 2 (([awA 0 0 (.slice none 0 0) [], awB 0 0 (.slice none 0 0) []].map CompArg.cells).flatten) := ⟨rfl, .inr ⟨c, 2, _, rfl, Nat.zero_le _, h1, Nat.le_refl _, by simp [maxLen], by simp, by simp [awA, awB, CompArg.cells]⟩⟩
  have hs := qOnes_size (i := 64) (by decide)
  have r2 : Row W 0 39 65 (.slice (some ⟨q, 0, none⟩) 1 1) 1 (([qOnes 64].map QuantArg.cells).flatten) := ⟨by simpa [QuantArg.arr] using hs, .inr ⟨q, 1, _, rfl, Nat.zero_le _, h2, Nat.le_refl _, by simp [maxLen], by rw [hs]; decide, by
    have hl : (qOnes 64).cells.length = 65 := by simpa [QuantArg.arr] using hs
    simp only [QuantArg.arr, List.map_cons, List.map_nil, List.flatten_cons, List.flatten_nil, List.append_nil]
    rw [List.take_of_length_le (by omega)]⟩⟩
  refine ⟨rfl, by rfl, by rfl, ⟨Ar.elems r1.ar (fun c hc => by obtain ⟨p, _, rfl⟩ := List.mem_map.1 hc; rfl) rfl (by simp [maxLen]), fun x hx => ?_⟩, ⟨Ar.elems r2.ar (fun c hc => by simp [aw9X] at hc; subst hc; simpa [QuantArg.arr] using hs) rfl (by simp [maxLen]), fun x hx => ?_⟩, ⟨Ar.elems (Ar.nil _ 2) (by simp [aw9X]) rfl (by simp), by simp [aw9X]⟩⟩
  · simp only [aw9X, List.mem_cons, List.not_mem_nil, or_false] at hx
    rcases hx with rfl | rfl
    · exact ⟨Ar.nil _ _, fun b hb => by simp [awA] at hb, fun b hb => by simp [awA] at hb, rfl, rfl, rfl, rfl, rfl, rfl⟩
    · exact ⟨Ar.nil _ _, fun b hb => by simp [awB] at hb, fun b hb => by simp [awB] at hb, rfl, rfl, rfl, rfl, rfl, rfl⟩
  · simp only [aw9X, List.mem_singleton] at hx
    subst hx
    refine ⟨rfl, onesTo_len (by decide), fun y hy => ?_⟩
    have : y = 1 := by
      have h0 : onesTo 64 = List.replicate 64 1 := by rfl
      have hy' : y ∈ onesTo 64 := hy
      rw [h0] at hy'
      exact List.eq_of_mem_replicate hy'
    subst this
    rfl
theorem aw9_res {cu qu v : Value} {e : Int} {w : World} (h : BlankRes (aw9X cu qu) v e w) :
    e = 0 ∧ ∃ cb ccap qb qcap tb tcap u u2, v = .agg #[.int .i64 33, .int .i64 17, .slice cb 2 ccap, .slice qb 1 qcap, .slice tb 0 tcap] ∧ IsImg w v (aw91 (.slice cb 2 ccap) (.slice qb 1 qcap) (.slice tb 0 tcap) u u2) := by
  obtain ⟨x1, hB, he, -, h2⟩ := h.2 (aw9_fr _ _)
  obtain ⟨xw, xh, xcu, xqu, xtu, xcs, xqs, xts⟩ := x1
  obtain ⟨hw, hh, hq, ht, hc, -⟩ := hB
  simp only at hw hh hq ht hc
  subst hw hh hq ht
  obtain ⟨hlen, hlo, -⟩ := hc
  obtain ⟨c, d, rfl⟩ : ∃ c d, xcs = [c, d] := by
    match xcs, hlen with
    | [c, d], _ => exact ⟨c, d, rfl⟩
  have hcb := hlo 0 (by simp [aw9X]) (by simp [aw9X])
  have hcd := hlo 1 (by simp [aw9X]) (by simp [aw9X])
  rw [aw9_g] at hcb hcd
  obtain ⟨cid, ch, cv, cq, cc, cr, cu1, cbs⟩ := c
  obtain ⟨did, dh, dv, dq, dc, dr, du1, dbs⟩ := d
  obtain ⟨g1, g2, g3, g4, g5, g6, g7⟩ := hcb
  obtain ⟨k1, k2, k3, k4, k5, k6, k7⟩ := hcd
  simp [aw9X, awA, awB, zeroBs] at g1 g2 g3 g4 g5 g6 g7 k1 k2 k3 k4 k5 k6 k7
  subst g1 g2 g3 g4 g5 g6 g7 k1 k2 k3 k4 k5 k6 k7
  have he0 : e = 0 := by rw [he]; exact aw9_e xcu xqu xtu cu1 du1
  refine ⟨he0, ?_⟩
  obtain ⟨hv, hI⟩ := h2 he0
  obtain ⟨cb, ccap, rfl⟩ : ∃ b cap, xcu = .slice b 2 cap := hI.cs.len
  obtain ⟨qb, qcap, rfl⟩ : ∃ b cap, xqu = .slice b 1 cap := hI.qs.len
  obtain ⟨tb, tcap, rfl⟩ : ∃ b cap, xtu = .slice b 0 cap := hI.ts.len
  subst hv
  exact ⟨cb, ccap, qb, qcap, tb, tcap, cu1, du1, rfl, hI⟩
theorem awake19a (w : World) : Calls Try.prog 32 #[] w fun e w' => e = .returned (.bool true) ∧ Below w.heap.size w w' := by
  obtain ⟨P, hP⟩ : ∃ P, P = w.heap.size := ⟨_, rfl⟩
  have HP := Lib.hid hP
  rw [← hP]
  clear hP
  go_enter Try.func32, Try.ntmps32
  go_upto_region 2 with (first | refine wpList_buildTo rfl 39 _ rfl (some 9) rfl (qOnes 0).arr (by kernel_rfl) ?_ | refine wpList_allocTo rfl (some 1) rfl _ _ (run_alloc_quant _ rfl) ?_ | refine wpList_store_rowTo rfl 39 _ _ rfl rfl P (qOnes 0).arr (by rw [HP.out]; rfl) rfl 39 zeroQuant (Blk.new' _ _ _ HP.out) (by rw [qOnes_size (by decide)]; kernel_rfl) (by rw [zeroQuant_size, qOnes_size (by decide)]) (QuantArg.arr_one _) ?_)
  rw [← HP.out]
  refine wp_world (fun W => Blk W P (qOnes 0).arr 39 ∧ Below P w W) ⟨(Blk.new' _ _ _ HP.out).row _, by rw [HP.out]; exact Below.setRow ((Below.refl _ _).alloc (Nat.le_refl _) _) (Nat.le_refl _) _⟩ ?_
  rintro W ⟨bP, hB⟩
  go_wp2
  go_loopw [2] (fun iv wr => ∃ i : Nat, i ≤ 64 ∧ iv = .int .i64 i ∧ Blk wr P (qOnes i).arr 39 ∧ Below P w wr) (fun iv _ => 64 - (intOf iv).toNat)
  case atStart => exact ⟨0, by decide, rfl, bP, hB⟩
  case round =>
    clear bP hB
    obtain ⟨i, hi, rfl, bP, hB⟩ := hrel
    by_cases hlt : i < 64
    · have tl : decide ((i : Int) < 64) = true := by simp; omega
      have j0 : (0 : Int) ≤ (i : Int) := by omega
      have j1 : (i : Int) < 64 := by omega
      have q : ∃ a, wr.cell? ⟨P, 1 + i, none⟩ = some a := ⟨_, (bP.cell _).trans (Array.getElem?_eq_getElem (by rw [qOnes_size hi]; omega))⟩
      obtain ⟨qa, q⟩ := q
      have f := bP.free (1 + i)
      have hset := bP.set (1 + i) (.int .u16 1)
      rw [qOnes_step hlt] at hset
      go_wp2
      go_roundw
      case rel => exact ⟨i + 1, by omega, by go_num, hset, hB.setCell (Nat.le_refl _) _⟩
      case measure => simp [intOf]; omega
    · obtain rfl : i = 64 := by omega
      have tl : decide ((64 : Int) < 64) = false := rfl
      go_upto_region 7 with (first | (refine wpList_load_row rfl 39 _ rfl P rfl 39 _ _ _ (bP.alloc _) Try.underlying39 rfl (by rw [qOnes_size (by decide)]; kernel_rfl) ?_) | (refine Great.wpList_runTo rfl _ rfl _ _ (run_slice_quant _ rfl _ rfl (qOnes_size (by decide))) ?_) | (go_at_call 26; refine (img_blank (aw9X _ _) (aw9_few _ _) _ (aw9_img ((Blk.new _ _ _).alloc _) (Blk.new' _ _ _ (by simp)))).mono ?_; rintro r w5 ⟨v, e, rfl, hb5, hres⟩; obtain ⟨rfl, cb, ccap, qb, qcap, tb, tcap, u, u2, rfl, hI⟩ := aw9_res hres))
      obtain ⟨M, hM⟩ : ∃ M, M = w5.heap.size := ⟨_, rfl⟩
      rw [← hM]
      have hPl := bP.lt
      have hB5 : Below P w w5 := ((hB.alloc (Nat.le_of_lt hPl) _).alloc (by simp; omega) _).trans (hb5.mono (by simp; omega))
      have hsz : P ≤ w5.heap.size := Nat.le_trans (by simp; omega) hb5.size
      refine wp_world (fun W => Blk W M #[.int .i64 33, .int .i64 17, .slice cb 2 ccap, .slice qb 1 qcap, .slice tb 0 tcap] 26 ∧ IsImg W (.agg #[.int .i64 33, .int .i64 17, .slice cb 2 ccap, .slice qb 1 qcap, .slice tb 0 tcap]) (aw91 (.slice cb 2 ccap) (.slice qb 1 qcap) (.slice tb 0 tcap) u u2) ∧ Below P w W) ⟨Blk.new' _ _ _ hM, hI.below ((Below.refl _ _).alloc (Nat.le_refl _) _), hB5.alloc hsz _⟩ ?_
      have hPM : P ≤ M := by rw [hM]; exact hsz
      clear hI hb5 hM hB5 hsz bP hB hres hPl
      rintro W6 ⟨bM, hI, hB⟩
      have hcr := fun V hI => cut_crop (aw91 (.slice cb 2 ccap) (.slice qb 1 qcap) (.slice tb 0 tcap) u u2) (aw9_few1 _ _ _ _ _) 16 0 17 17 (by rfl) (by rfl) V hI
      have hbl := fun V hI => cut_Blocks (aw91 (.slice cb 2 ccap) (.slice qb 1 qcap) (.slice tb 0 tcap) u u2) (aw9_few1 _ _ _ _ _) 16 16 17 1 0 V hI
      rw [aw9_bv, aw9_b] at hbl
      rw [aw9_u] at hcr
      have HCD := Lib.hid (aw9_c (.slice cb 2 ccap) (.slice qb 1 qcap) (.slice tb 0 tcap) u u2)
      generalize cropD (aw91 (.slice cb 2 ccap) (.slice qb 1 qcap) (.slice tb 0 tcap) u u2) 16 0 17 17 = D at *
      unfold ImgArg.val aw91 at hcr hbl
      simp only at hcr hbl
      unfold aw91 at hI
      go_upto_region 8 with (first
        | (refine wpList_load_row rfl 26 _ rfl M rfl 26 _ _ _ bM Try.underlying26 rfl (by kernel_rfl) ?_)
        | (go_at_call 39; refine (hcr _ hI).mono ?_; rintro r w7 ⟨⟨⟨yw, yh, ycu, yqu, ytu, ycs, yqs, yts⟩, hres⟩, hb7⟩; have hIy := hres.img; obtain ⟨rfl, hsd, -, -, -, -⟩ := hres; obtain ⟨yb, ycap, rfl⟩ : ∃ b c, ycu = .slice b ycs.length c := hIy.cs.len; obtain ⟨qb2, qcap2, rfl⟩ : ∃ b c, yqu = .slice b yqs.length c := hIy.qs.len; obtain ⟨tb2, tcap2, rfl⟩ : ∃ b c, ytu = .slice b yts.length c := hIy.ts.len; obtain ⟨Q, hQ⟩ : ∃ Q, Q = w7.heap.size := ⟨_, rfl⟩; have HQ := Lib.hid hQ; clear hQ)
        | (refine wpList_store_row rfl 26 _ _ rfl Q _ (by rw [HQ.out]; rfl) rfl 26 _ (Blk.new' _ _ _ HQ.out) (by kernel_rfl) rfl (by simp [Value.oneCell']) ?_; simp only [Act.put]))
      have hcm := HCD.out
      have hcs := hsd.cs
      simp only at hcs
      have hc2 : ycs.map (fun c => (c.c, c.r)) = [(4, 4), (2, 2)] := by
        have e : ∀ l : List CompArg, l.map (fun c => (c.c, c.r)) = (l.map cd).map (fun t => (t.2.1, t.2.2.1)) := fun l => by rw [List.map_map]; rfl
        rw [e, hcs, ← e, hcm]
      obtain ⟨d1, d2, rfl⟩ : ∃ d1 d2, ycs = [d1, d2] := by
        have hl : ycs.length = 2 := by simpa using congrArg List.length hc2
        match ycs, hl with
        | [d1, d2], _ => exact ⟨d1, d2, rfl⟩
      simp only [List.map_cons, List.map_nil, List.cons.injEq, Prod.mk.injEq] at hc2
      obtain ⟨⟨hd1, hd2⟩, -⟩ := hc2
      have hbe : Below w7.heap.size w7 ((w7.alloc (.cells #[.int .i64 0, .int .i64 0, .slice none 0 0, .slice none 0 0, .slice none 0 0] 26)).setRow Q #[.int .i64 yw, .int .i64 yh, .slice yb [d1, d2].length ycap, .slice qb2 yqs.length qcap2, .slice tb2 yts.length tcap2]) := Below.setRow ((Below.refl _ _).alloc (Nat.le_refl _) _) (Nat.le_of_eq HQ.out.symm) _
      have hMl := bM.lt
      have hPW : P ≤ W6.heap.size := by omega
      try rw [← HQ.out]
      refine wp_world (fun V => (Blk V M #[.int .i64 33, .int .i64 17, .slice cb 2 ccap, .slice qb 1 qcap, .slice tb 0 tcap] 26 ∧ Blk V Q #[.int .i64 yw, .int .i64 yh, .slice yb 2 ycap, .slice qb2 yqs.length qcap2, .slice tb2 yts.length tcap2] 26) ∧ (IsImg V (.agg #[.int .i64 33, .int .i64 17, .slice cb 2 ccap, .slice qb 1 qcap, .slice tb 0 tcap]) ⟨33, 17, .slice cb 2 ccap, .slice qb 1 qcap, .slice tb 0 tcap, [awA 6 4 u (List.replicate 24 (List.replicate 64 0)), awB 3 2 u2 (List.replicate 6 (List.replicate 64 0))], [qOnes 64], []⟩ ∧ IsComps V (.slice yb 2 ycap) [d1, d2]) ∧ Below P w V) ⟨⟨(bM.below hb7 hMl).below hbe (Nat.lt_of_lt_of_le hMl hb7.size), (Blk.new' _ _ _ HQ.out).row _⟩, ⟨(hI.below hb7).below hbe, (hIy.cs.below hbe)⟩, hB.trans ((hb7.trans (hbe.mono hb7.size)).mono hPW)⟩ ?_
      have hPQ : P ≤ w7.heap.size := Nat.le_trans hPW hb7.size
      clear hbe hcr HCD hb7 hIy hsd bM hI hB hcs hcm HQ hMl hPW
      rintro W8 ⟨⟨bM, bQ⟩, ⟨hI, hCy⟩, hB⟩
      obtain ⟨ya, hya, -, -, -, -, y4, y5, -⟩ := IsComps.at (xs := [d1, d2]) hCy (i := 0) (by simp)
      subst hya
      have hMl := bM.lt
      go_upto_region 9 with (first
        | (refine wpList_load_row rfl 26 _ rfl M rfl 26 _ _ _ bM Try.underlying26 rfl (by kernel_rfl) ?_)
        | (go_at_call 34; refine (hbl _ hI).mono ?_; rintro r w9 ⟨rfl, hb9⟩; obtain ⟨Z, hZ⟩ : ∃ Z, Z = w9.heap.size := ⟨_, rfl⟩; have HZ := Lib.hid hZ; clear hZ)
        | (refine wpList_store_row rfl 70 _ _ rfl Z _ (by rw [HZ.out]; rfl) rfl 70 _ (Blk.new' _ _ _ HZ.out) (by kernel_rfl) rfl (by simp [Value.oneCell']) ?_; simp only [Act.put]))
      have hbe : Below w9.heap.size w9 ((w9.alloc (.cells #[.int .i64 0, .int .i64 0, .int .i64 0, .int .i64 0] 70)).setRow Z #[.int .i64 2, .int .i64 2, .int .i64 2, .int .i64 4]) := Below.setRow ((Below.refl _ _).alloc (Nat.le_refl _) _) (Nat.le_of_eq HZ.out.symm) _
      have hPW8 : P ≤ W8.heap.size := by omega
      try rw [← HZ.out]
      refine wp_world (fun V => (Blk V Z #[.int .i64 2, .int .i64 2, .int .i64 2, .int .i64 4] 70 ∧ Blk V Q #[.int .i64 yw, .int .i64 yh, .slice (some ya) 2 ycap, .slice qb2 yqs.length qcap2, .slice tb2 yts.length tcap2] 26) ∧ IsComps V (.slice (some ya) 2 ycap) [d1, d2] ∧ Below P w V) ⟨⟨(Blk.new' _ _ _ HZ.out).row _, (bQ.below hb9 bQ.lt).below hbe (Nat.lt_of_lt_of_le bQ.lt hb9.size)⟩, (hCy.below hb9).below hbe, hB.trans ((hb9.trans (hbe.mono hb9.size)).mono hPW8)⟩ ?_
      clear hbe hb9 hbl bM bQ hI hCy hB HZ y4 y5 hMl hPW8
      rintro W9 ⟨⟨bZ, bQ⟩, hCy, hB⟩
      have q2 : W9.cell? ⟨Q, 2, none⟩ = some (.slice (some ya) 2 ycap) := bQ.cell 2
      have y45 : W9.cell? ⟨ya.block, ya.off + 4, none⟩ = some (.int .i64 4) ∧ W9.cell? ⟨ya.block, ya.off + 4 + 1, none⟩ = some (.int .i64 4) := by
        obtain ⟨a', ha', -, -, -, -, y4, y5, -⟩ := IsComps.at (xs := [d1, d2]) hCy (i := 0) (by simp)
        cases ha'
        have e : ya.add (0 * 7) = ya := by rw [Nat.zero_mul]; obtain ⟨ab, ao, ae⟩ := ya; cases ae <;> rfl
        rw [e] at y4 y5
        simp only [List.getElem_cons_zero] at y4 y5
        rw [hd1] at y4
        rw [hd2] at y5
        exact ⟨y4, y5⟩
      obtain ⟨y4, y5⟩ := y45
      clear hCy
      have z0 := bZ.cell 0; have z1 := bZ.cell 1; have z2 := bZ.cell 2; have z3 := bZ.cell 3
      go_wp2_with fail
      go_ret
      exact ⟨rfl, hB⟩
end Go.Proofs.Ytgmhhocpdfdplaa
