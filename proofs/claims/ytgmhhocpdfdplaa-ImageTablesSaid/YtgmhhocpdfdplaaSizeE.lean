/- Package image: Size, given what Right answers. -/
import Derived.Test.YtgmhhocpdfdplaaR11c
namespace Go.Proofs.Ytgmhhocpdfdplaa
open Go.RowKit
set_option maxRecDepth 100000
set_option maxHeartbeats 8000000
theorem img_size_bad (v : Value) (x : ImgArg) (e : Int) (he : e ≠ 0) (w : World) (h : IsImg w v x)
    (hr : ∀ W, IsImg W v x → Calls Try.prog 20 #[v] W fun r w' => r = .returned (.int .i64 e) ∧ Below W.heap.size W w') :
    Calls Try.prog 21 #[v] w fun r w' => r = .returned (.tuple #[.int .i64 0, .int .i64 e]) ∧ Below w.heap.size w w' := by
  have hv := h.val
  subst hv
  unfold ImgArg.val at *
  obtain ⟨N, hN⟩ : ∃ N, N = w.heap.size := ⟨_, rfl⟩
  have HN := Lib.hid hN
  rw [← hN]
  have te : (e != 0) = true := by simpa using he
  have hbe : Below w.heap.size w (w.alloc (.cells #[.int .i64 x.w, .int .i64 x.h, x.cu, x.qu, x.tu] 26)) := (Below.refl _ _).alloc (Nat.le_refl _) _
  clear hN he
  go_enter Try.func21, Try.ntmps21
  go_upto_region 1 with fail
  rw [← HN.out]
  refine wp_world (fun W => Blk W N #[.int .i64 x.w, .int .i64 x.h, x.cu, x.qu, x.tu] 26 ∧ IsImg W (.agg #[.int .i64 x.w, .int .i64 x.h, x.cu, x.qu, x.tu]) x ∧ Below N w W) ⟨Blk.new' _ _ _ HN.out, h.below hbe, by rw [HN.out]; exact hbe⟩ ?_
  clear h hbe
  rintro W ⟨bN, hI, hB⟩
  have hrW := hr W hI
  go_wp2_with (first | (refine wpList_load_row rfl 26 _ rfl N rfl 26 _ _ _ bN Try.underlying26 rfl (by kernel_rfl) ?_) | (go_at_call 20; refine hrW.mono ?_; rintro r w1 ⟨rfl, hb1⟩; have hC := hB.trans (hb1.mono (Nat.le_of_lt bN.lt))))
  go_ret2
  exact ⟨rfl, hC⟩
theorem img_size_ok (v : Value) (x : ImgArg) (w : World) (h : IsImg w v x) (hf : FewOk x)
    (hr : ∀ W, IsImg W v x → Calls Try.prog 20 #[v] W fun r w' => r = .returned (.int .i64 0) ∧ Below W.heap.size W w') :
    Calls Try.prog 21 #[v] w fun r w' => r = .returned (.tuple #[.int .i64 (sizeN x : Nat), .int .i64 0]) ∧ Below w.heap.size w w' := by
  obtain ⟨f1, f2, f3, f4, f5⟩ := hf
  obtain ⟨R, hR⟩ : ∃ R, sizeN x = R := ⟨_, rfl⟩
  rw [hR]
  unfold sizeN at hR
  obtain ⟨bf, hbf⟩ : ∃ bf, blN x = bf := ⟨_, rfl⟩
  obtain ⟨tf, htf⟩ : ∃ tf, tlN x = tf := ⟨_, rfl⟩
  rw [hbf, htf] at hR
  have hb : ∀ k, (hk : k < x.cs.length) → bf k = (x.cs[k]'hk).bs.length := fun k hk => by rw [← hbf]; unfold blN; rw [comp_getD hk]
  have ht : ∀ k, (hk : k < x.ts.length) → tf k = (x.ts[k]'hk).body.size := fun k hk => by rw [← htf]; unfold tlN; simp [List.getD_eq_getElem?_getD, hk]
  clear hbf htf
  have hv := h.val
  obtain ⟨xw, xh, cu, qu, tu, cs, qs, ts⟩ := x
  simp only [ImgArg.val] at *
  subst hv
  obtain ⟨cb, ccap, rfl⟩ : ∃ b cap, cu = .slice b cs.length cap := h.cs.len
  obtain ⟨qb, qcap, rfl⟩ : ∃ b cap, qu = .slice b qs.length cap := h.qs.len
  obtain ⟨tb, tcap, rfl⟩ : ∃ b cap, tu = .slice b ts.length cap := h.ts.len
  obtain ⟨N, hN⟩ : ∃ N, N = w.heap.size := ⟨_, rfl⟩
  have HN := Lib.hid hN
  rw [← hN]
  have HR := Lib.hid hR
  have HB := Lib.hid hb
  have HT := Lib.hid ht
  have F4 := Lib.hid f4
  have F5 := Lib.hid f5
  have hbe : Below w.heap.size w (w.alloc (.cells #[.int .i64 xw, .int .i64 xh, .slice cb cs.length ccap, .slice qb qs.length qcap, .slice tb ts.length tcap] 26)) := (Below.refl _ _).alloc (Nat.le_refl _) _
  clear hN hR hb ht f4 f5
  go_enter Try.func21, Try.ntmps21
  go_upto_region 1 with fail
  rw [← HN.out]
  refine wp_world (fun W => Blk W N #[.int .i64 xw, .int .i64 xh, .slice cb cs.length ccap, .slice qb qs.length qcap, .slice tb ts.length tcap] 26 ∧ IsImg W (.agg #[.int .i64 xw, .int .i64 xh, .slice cb cs.length ccap, .slice qb qs.length qcap, .slice tb ts.length tcap]) _ ∧ Below N w W) ⟨Blk.new' _ _ _ HN.out, h.below hbe, by rw [HN.out]; exact hbe⟩ ?_
  clear h hbe
  rintro W ⟨bN, hI, hB⟩
  have hrW := hr W hI
  go_upto_region 4 with (first | (refine wpList_load_row rfl 26 _ rfl N rfl 26 _ _ _ bN Try.underlying26 rfl (by kernel_rfl) ?_) | (go_at_call 20; refine hrW.mono ?_; rintro r w1 ⟨rfl, hb1⟩))
  have hcs := (hI.below hb1).cs
  have hts := (hI.below hb1).ts
  have hC := hB.trans (hb1.mono (Nat.le_of_lt bN.lt))
  have bN1 := bN.below hb1 bN.lt
  have hNW : N < w1.heap.size := bN1.lt
  simp only at hcs hts
  clear hrW hr hI bN hB hb1
  have q2 := bN1.cell 2
  have q3 := bN1.cell 3
  simp only [List.getElem?_toArray, List.getElem?_cons_zero, List.getElem?_cons_succ] at q2 q3
  go_wp2
  clear q2 q3
  go_loopw [5, 28] (fun nv iv wr => ∃ (m i : Nat), nv = .int .i64 m ∧ iv = .int .i64 i ∧ i ≤ cs.length ∧ m ≤ 10000 + 2560000 * i ∧ Hid (m = 64 + 16 * cs.length + 132 * qs.length + 128 * accN bf i) ∧ Below w1.heap.size w1 wr) (fun _ iv _ => cs.length - (intOf iv).toNat)
  case atStart => exact ⟨64 + 16 * cs.length + 132 * qs.length, 0, by go_num, rfl, Nat.zero_le _, by omega, Lib.hid (by simp [accN]), Below.refl _ _⟩
  case round =>
    obtain ⟨m, i, rfl, rfl, hi, hm, HM, hD⟩ := hrel
    by_cases hlt : i < cs.length
    · have tl : decide (i < cs.length) = true := by simpa using hlt
      have hcs2 := hcs.below hD
      obtain ⟨a, rfl, c0, c1, c2, c3, c4, c5, c6⟩ := hcs2.at hlt
      obtain ⟨ub, ucap, hu, -⟩ := (hcs2.ok _ (List.getElem_mem hlt)).ar.len
      rw [hu] at c6
      have j0 : (0 : Int) ≤ (i : Int) := by omega
      have j1 : (i : Int) < (cs.length : Int) := by omega
      have hz3 := F4.out _ (List.getElem_mem hlt)
      have hbz := HB.out i hlt
      generalize (cs[i]'hlt).bs.length = z at *
      generalize (cs[i]'hlt).id = x0 at *
      generalize (cs[i]'hlt).h = x1 at *
      generalize (cs[i]'hlt).v = x2 at *
      generalize (cs[i]'hlt).q = x3 at *
      generalize (cs[i]'hlt).c = x4 at *
      generalize (cs[i]'hlt).r = x5 at *
      have HBZ := Lib.hid hbz
      clear hu hbz
      go_upto_region 8 with fail
      obtain ⟨M, hM⟩ : ∃ M, M = wr.heap.size := ⟨_, rfl⟩
      have hsz := hD.size
      refine wp_world (fun W => Blk W M #[.int .i64 x0, .int .i64 x1, .int .i64 x2, .int .i64 x3, .int .i64 x4, .int .i64 x5, .slice ub z ucap] 63 ∧ Below w1.heap.size w1 W) ⟨Blk.new' _ _ _ hM, hD.alloc hsz _⟩ ?_
      rw [← hM]
      clear hM hD c0 c1 c2 c3 c4 c5 c6 hsz hcs2
      rintro W2 ⟨bM, hD⟩
      have p6 : W2.cell? ⟨M, 6, none⟩ = some (.slice ub z ucap) := bM.cell 6
      go_wp2
      go_roundw
      case rel => exact ⟨m + 128 * z, i + 1, by go_num, by go_num, by omega, by omega, Lib.hid (by have h1 := HM.out; have h2 := HBZ.out; simp only [accN]; omega), hD⟩
      case measure => simp [intOf]; omega
    · have tl : decide (i < cs.length) = false := by simpa using hlt
      obtain rfl : i = cs.length := by omega
      have hm2 : m ≤ 52000000 := by omega
      have q4 : wr.cell? ⟨N, 4, none⟩ = some (.slice tb ts.length tcap) := (bN1.below hD hNW).cell 4
      go_wp2
      clear q4
      obtain ⟨wo, hwo⟩ : ∃ wo : World, wo = wr := ⟨_, rfl⟩
      subst hwo
      go_loopw [5, 43] (fun nv jv wq => ∃ (k j : Nat), nv = .int .i64 k ∧ jv = .int .i64 j ∧ j ≤ ts.length ∧ k ≤ 53000000 + 140004 * j ∧ Hid (k = 64 + 16 * cs.length + 128 * accN bf cs.length + 132 * qs.length + 4 * j + accN tf j) ∧ Below w1.heap.size w1 wq) (fun _ jv _ => ts.length - (intOf jv).toNat)
      case atStart => exact ⟨m, 0, rfl, rfl, Nat.zero_le _, by omega, Lib.hid (by have h1 := HM.out; simp only [accN]; omega), hD⟩
      case round =>
        clear hD
        obtain ⟨k, j, rfl, rfl, hj, hk, HK, hD⟩ := hrel
        by_cases hlt2 : j < ts.length
        · have tl2 : decide (j < ts.length) = true := by simpa using hlt2
          obtain ⟨a, rfl, c0, c1⟩ := (hts.below hD).at hlt2
          have j0 : (0 : Int) ≤ (j : Int) := by omega
          have j1 : (j : Int) < (ts.length : Int) := by omega
          have hz5 := F5.out _ (List.getElem_mem hlt2)
          have htz := HT.out j hlt2
          generalize (ts[j]'hlt2).body = sb at *
          generalize (ts[j]'hlt2).kind = kd at *
          have HTZ := Lib.hid htz
          clear htz
          go_upto_region 13 with fail
          obtain ⟨M, hM⟩ : ∃ M, M = wr.heap.size := ⟨_, rfl⟩
          have hsz := hD.size
          refine wp_world (fun W => Blk W M #[.int .i64 kd, .string sb] 104 ∧ Below w1.heap.size w1 W) ⟨Blk.new' _ _ _ hM, hD.alloc hsz _⟩ ?_
          rw [← hM]
          clear hM hD c0 c1 hsz
          rintro W2 ⟨bM, hD⟩
          have p1 : W2.cell? ⟨M, 1, none⟩ = some (.string sb) := bM.cell 1
          go_wp2
          go_roundw
          case rel => exact ⟨k + (4 + sb.size), j + 1, by go_num, by go_num, by omega, by omega, Lib.hid (by have h1 := HK.out; have h2 := HTZ.out; simp only [accN]; omega), hD⟩
          case measure => simp [intOf]; omega
        · have tl2 : decide (j < ts.length) = false := by simpa using hlt2
          obtain rfl : j = ts.length := by omega
          obtain rfl : k = R := by rw [← HR.out]; exact HK.out
          go_wp2
          go_ret2
          exact ⟨rfl, hC.trans (hD.mono (Nat.le_of_lt hNW))⟩
end Go.Proofs.Ytgmhhocpdfdplaa
