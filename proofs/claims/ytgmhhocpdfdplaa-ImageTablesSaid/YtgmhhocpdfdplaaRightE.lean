/- Package image: Right. -/
import Derived.Test.YtgmhhocpdfdplaaAll
import Derived.Test.YtgmhhocpdfdplaaPlanesE
namespace Go.Proofs.Ytgmhhocpdfdplaa
open Go.RowKit
set_option maxRecDepth 100000
set_option maxHeartbeats 8000000
theorem img_sides (x : ImgArg) (w : World) (h : IsImg w x.val x) (hf : FewOk x) :
    Calls Try.prog 57 #[x.val] w fun r w' => r = .returned (.int .i64 (frE x)) ∧ Below w.heap.size w w' := by
  have hfr := fun W h => img_frame x W h hf.c20
  obtain ⟨N, hN⟩ : ∃ N, N = w.heap.size := ⟨_, rfl⟩
  have HN := Lib.hid hN
  rw [← hN]
  have hbe : Below w.heap.size w (w.alloc (.cells #[.int .i64 x.w, .int .i64 x.h, x.cu, x.qu, x.tu] 26)) := (Below.refl _ _).alloc (Nat.le_refl _) _
  unfold ImgArg.val at *
  generalize frE x = E at *
  clear hN
  go_enter Try.func57, Try.ntmps57
  go_upto_region 1 with fail
  rw [← HN.out]
  refine wp_world (fun W => Blk W N #[.int .i64 x.w, .int .i64 x.h, x.cu, x.qu, x.tu] 26 ∧ IsImg W (.agg #[.int .i64 x.w, .int .i64 x.h, x.cu, x.qu, x.tu]) x ∧ Below N w W) ⟨Blk.new' _ _ _ HN.out, h.below hbe, by rw [HN.out]; exact hbe⟩ ?_
  clear h hbe
  rintro W ⟨bN, hI, hB⟩
  go_wp2_with (first | (refine wpList_load_row rfl 26 _ rfl N rfl 26 _ _ _ bN Try.underlying26 rfl (by kernel_rfl) ?_) | (go_at_call 48; refine (hfr _ hI).mono ?_; rintro e w1 ⟨f, rfl, hb1, -, -⟩))
  go_ret
  exact ⟨rfl, hB.trans (hb1.mono (Nat.le_of_lt bN.lt))⟩
theorem ask_sides (N K : Nat) (x : ImgArg) (hf : FewOk x) (w : World) (h : IsImg w x.val x) (bN : Blk w N #[.int .i64 x.w, .int .i64 x.h, x.cu, x.qu, x.tu] 26) (bK : Blk w K #[.func (.func 57) #[] #[]] 30) :
    Calls Try.prog 56 #[.pointer (some ⟨K, 0, none⟩), .pointer (some ⟨N, 0, none⟩)] w fun r w' => r = .returned (.int .i64 (frE x)) ∧ Below w.heap.size w w' := by
  have hc := img_sides x w h hf
  have k0 : w.cell? ⟨K, 0, none⟩ = some (.func (.func 57) #[] #[]) := bK.cell 0
  generalize frE x = T at *
  unfold ImgArg.val at hc
  clear hf h
  go_enter Try.func56, Try.ntmps56
  go_wp2_with (first | (refine wpList_load_row rfl 26 _ rfl N rfl 26 _ _ _ bN Try.underlying26 rfl (by kernel_rfl) ?_) | (go_at_call 57; refine hc.mono ?_; rintro r w1 ⟨rfl, hb1⟩))
  go_ret
  exact ⟨rfl, hb1⟩
theorem ask_planes (N K : Nat) (x : ImgArg) (hf : FewOk x) (h0 : frE x = 0) (w : World) (h : IsImg w x.val x) (bN : Blk w N #[.int .i64 x.w, .int .i64 x.h, x.cu, x.qu, x.tu] 26) (bK : Blk w K #[.func (.func 61) #[] #[]] 30) :
    Calls Try.prog 56 #[.pointer (some ⟨K, 0, none⟩), .pointer (some ⟨N, 0, none⟩)] w fun r w' => r = .returned (.int .i64 (planesE x)) ∧ Below w.heap.size w w' := by
  have hc := img_planes x w h hf h0
  have k0 : w.cell? ⟨K, 0, none⟩ = some (.func (.func 61) #[] #[]) := bK.cell 0
  generalize planesE x = T at *
  unfold ImgArg.val at hc
  clear hf h h0
  go_enter Try.func56, Try.ntmps56
  go_wp2_with (first | (refine wpList_load_row rfl 26 _ rfl N rfl 26 _ _ _ bN Try.underlying26 rfl (by kernel_rfl) ?_) | (go_at_call 61; refine hc.mono ?_; rintro r w1 ⟨rfl, hb1⟩))
  go_ret
  exact ⟨rfl, hb1⟩
def errL (x : ImgArg) : List Int := [frE x, compsE x.cs, tablesE x, planesE x, blocksE x.cs, tagsE x.ts]
/-- The image's error. -/
def imgE (x : ImgArg) : Int := firstE (fun i => (errL x).getD i 0) 6 0
theorem img_right (x : ImgArg) (w : World) (h : IsImg w x.val x) (hf : FewOk x) :
    Calls Try.prog 20 #[x.val] w fun r w' => r = .returned (.int .i64 (imgE x)) ∧ Below w.heap.size w w' := by
  obtain ⟨T, hT⟩ : ∃ T, imgE x = T := ⟨_, rfl⟩
  rw [hT]
  have HT := Lib.hid hT
  obtain ⟨N, hN⟩ : ∃ N, N = w.heap.size := ⟨_, rfl⟩
  have HN := Lib.hid hN
  rw [← hN]
  have hbe : Below w.heap.size w (w.alloc (.cells #[.int .i64 x.w, .int .i64 x.h, x.cu, x.qu, x.tu] 26)) := (Below.refl _ _).alloc (Nat.le_refl _) _
  have hrp := right_part N
  unfold askF at hrp
  unfold ImgArg.val at *
  clear hN hT
  go_enter Try.func20, Try.ntmps20
  go_upto_region 1 with fail
  rw [← HN.out]
  refine wp_world (fun W => Blk W N #[.int .i64 x.w, .int .i64 x.h, x.cu, x.qu, x.tu] 26 ∧ IsImg W (.agg #[.int .i64 x.w, .int .i64 x.h, x.cu, x.qu, x.tu]) x ∧ Below N w W) ⟨Blk.new' _ _ _ HN.out, h.below hbe, by rw [HN.out]; exact hbe⟩ ?_
  clear h hbe
  rintro W ⟨bN, hI, hB⟩
  go_wp2_with (first
    | (go_at_call 55; refine (hrp 57 _).mono ?_; rintro r w1 ⟨rfl, k1, hb1, s1⟩)
    | (go_at_call 55; refine (hrp 59 _).mono ?_; rintro r w2 ⟨rfl, k2, hb2, s2⟩)
    | (go_at_call 55; refine (hrp 60 _).mono ?_; rintro r w3 ⟨rfl, k3, hb3, s3⟩)
    | (go_at_call 55; refine (hrp 61 _).mono ?_; rintro r w4 ⟨rfl, k4, hb4, s4⟩)
    | (go_at_call 55; refine (hrp 62 _).mono ?_; rintro r w5 ⟨rfl, k5, hb5, s5⟩)
    | (go_at_call 55; refine (hrp 63 _).mono ?_; rintro r w6 ⟨rfl, k6, hb6, s6⟩))
  have d5 := hb5.trans (hb6.mono hb5.size)
  have d4 := hb4.trans (d5.mono hb4.size)
  have d3 := hb3.trans (d4.mono hb3.size)
  have d2 := hb2.trans (d3.mono hb2.size)
  have d1 := hb1.trans (d2.mono hb1.size)
  have s2' := s2; have s3' := s3; have s4' := s4; have s5' := s5; have s6' := s6
  rw [s1] at s2'; rw [s2'] at s3'; rw [s3'] at s4'; rw [s4'] at s5'; rw [s5'] at s6'
  have K1 := k1.below d2 k1.lt
  have K2 := k2.below d3 k2.lt
  have K3 := k3.below d4 k3.lt
  have K4 := k4.below d5 k4.lt
  have K5 := k5.below hb6 k5.lt
  rw [s1] at K2; rw [s2'] at K3; rw [s3'] at K4; rw [s4'] at K5; rw [s5'] at k6
  have hI6 := hI.below d1
  have hN6 := bN.below d1 bN.lt
  have hB6 := hB.trans (d1.mono (Nat.le_of_lt bN.lt))
  have hNl := hN6.lt
  have hS := s6'
  clear k1 k2 k3 k4 k5 hb1 hb2 hb3 hb4 hb5 hb6 d1 d2 d3 d4 d5 s1 s2 s3 s4 s5 s6 s2' s3' s4' s5' s6' hI bN hB
  generalize W.heap.size = m at *
  have hal : ∀ o, Below w6.heap.size w6 (w6.alloc o) := fun o => (Below.refl _ _).alloc (Nat.le_refl _) _
  refine Calls.mono (img_all N (m + 1 + 1 + 1 + 1 + 1 + 1) [m, m + 1, m + 1 + 1, m + 1 + 1 + 1, m + 1 + 1 + 1 + 1, m + 1 + 1 + 1 + 1 + 1] (by simp) (fun i => (errL x).getD i 0) _ (Blk.new' _ _ _ hS.symm) ?_) ?_
  · intro i hi W' hz hb
    have hI' := (hI6.below (hal _)).below hb
    have hN' := (hN6.below (hal _) hNl).below hb (Nat.lt_of_lt_of_le hNl (hal _).size)
    have hk : ∀ k g, Blk w6 k #[.func (.func g) #[] #[]] 30 → Blk W' k #[.func (.func g) #[] #[]] 30 := fun k g hK => (hK.below (hal _) hK.lt).below hb (Nat.lt_of_lt_of_le hK.lt (hal _).size)
    match i, hi with
    | 0, _ => exact ask_sides N m x hf W' hI' hN' (hk _ _ K1)
    | 1, _ => exact ask_comps N (m + 1) x hf W' hI' hN' (hk _ _ K2)
    | 2, _ => exact ask_tables N (m + 1 + 1) x hf W' hI' hN' (hk _ _ K3)
    | 3, _ => exact ask_planes N (m + 1 + 1 + 1) x hf (hz 0 (by decide)) W' hI' hN' (hk _ _ K4)
    | 4, _ => exact ask_blocks N (m + 1 + 1 + 1 + 1) x hf W' hI' hN' (hk _ _ K5)
    | 5, _ => exact ask_tags N (m + 1 + 1 + 1 + 1 + 1) x hf W' hI' hN' (hk _ _ k6)
  have e2 : firstE (fun i => (errL x).getD i 0) 6 0 = T := HT.out
  rintro r w7 ⟨rfl, hb7⟩
  have e3 : firstE (fun i => (errL x).getD i 0) [m, m + 1, m + 1 + 1, m + 1 + 1 + 1, m + 1 + 1 + 1 + 1, m + 1 + 1 + 1 + 1 + 1].length 0 = T := e2
  rw [e3]
  go_wp2
  go_ret
  refine ⟨rfl, hB6.trans (Below.trans ((hal _).mono (Nat.le_of_lt hNl)) (hb7.mono ?_))⟩
  exact Nat.le_of_lt (Nat.lt_of_lt_of_le hNl (hal _).size)
end Go.Proofs.Ytgmhhocpdfdplaa
