/- Package image: planes, where there is a frame. -/
import Derived.Test.YtgmhhocpdfdplaaImgFr
import Derived.Test.YtgmhhocpdfdplaaEachC
import Derived.Test.YtgmhhocpdfdplaaTabs5
import Derived.Test.YtgmhhocpdfdplaaPlane
namespace Go.Proofs.Ytgmhhocpdfdplaa
open Go.RowKit
set_option maxRecDepth 100000
set_option maxHeartbeats 4000000
/-- Is a component's plane not as its grid says? -/
def planeE (g : GridV) (x : CompArg) : Int := if (Pl.right x.c x.r x.bs.length = true ∧ x.c = g.c) ∧ x.r = g.r then 0 else 4
theorem img_planes1 (P F : Nat) (gs : List GridV) (i : Nat) (hi : i < gs.length) (c : CompArg) (hu : ∃ ub uc, c.u = .slice ub c.bs.length uc) (w : World) (bP : Blk w P #[.pointer (some ⟨F, 0, none⟩)] 87) (h : IsFr w F gs) :
    Calls Try.prog 117 #[.int .i64 i, .agg #[.int .i64 c.id, .int .i64 c.h, .int .i64 c.v, .int .i64 c.q, .int .i64 c.c, .int .i64 c.r, c.u], .pointer (some ⟨P, 0, none⟩)] w fun r w' => r = .returned (.int .i64 (planeE (gs[i]'hi) c)) ∧ Below w.heap.size w w' := by
  obtain ⟨K, hK⟩ : ∃ K, K = w.heap.size := ⟨_, rfl⟩
  have HK := Lib.hid hK
  rw [← hK]
  have hg := fun W h => fr_grid F gs i hi W h
  obtain ⟨ub, uc, hu⟩ := hu
  rw [hu]
  unfold planeE
  have hpr := fun W => plane_right c.c c.r c.bs.length ub uc W
  have hte := fun (b : Bool) W => img_test b 4 W
  generalize c.id = x0 at *
  generalize c.h = x1 at *
  generalize c.v = x2 at *
  generalize c.q = x3 at *
  generalize c.c = x4 at *
  generalize c.r = x5 at *
  generalize c.bs.length = un at *
  generalize Pl.right x4 x5 un = b at *
  generalize (gs[i]'hi) = g at *
  obtain ⟨g0, g1, g2, g3⟩ := g
  simp only at hg ⊢
  have hbe : Below w.heap.size w (w.alloc (.cells #[.int .i64 x0, .int .i64 x1, .int .i64 x2, .int .i64 x3, .int .i64 x4, .int .i64 x5, .slice ub un uc] 63)) := (Below.refl _ _).alloc (Nat.le_refl _) _
  obtain ⟨R, hR⟩ : ∃ R, (if (b = true ∧ x4 = g0) ∧ x5 = g1 then (0 : Int) else 4) = R := ⟨_, rfl⟩
  rw [hR]
  have HR := Lib.hid hR
  clear hK hu hR
  go_enter Try.func117, Try.ntmps117
  go_upto_region 1 with fail
  rw [← HK.out]
  refine wp_world (fun W => Blk W K #[.int .i64 x0, .int .i64 x1, .int .i64 x2, .int .i64 x3, .int .i64 x4, .int .i64 x5, .slice ub un uc] 63 ∧ Blk W P #[.pointer (some ⟨F, 0, none⟩)] 87 ∧ IsFr W F gs ∧ Below K w W) ⟨Blk.new' _ _ _ HK.out, bP.below hbe bP.lt, h.below hbe, by rw [HK.out]; exact hbe⟩ ?_
  clear hbe bP h
  rintro W ⟨bK, bP, hI, hB⟩
  have p0 : W.cell? ⟨P, 0, none⟩ = some (.pointer (some ⟨F, 0, none⟩)) := bP.cell 0
  go_upto_region 2 with (first | (go_at_call 73; refine (hg _ hI).mono ?_; rintro e w1 ⟨rfl, hb1⟩; obtain ⟨M, hM⟩ : ∃ M, M = w1.heap.size := ⟨_, rfl⟩; have HM := Lib.hid hM; clear hM) | (refine wpList_store_row rfl 116 _ _ rfl M _ (by rw [HM.out]; rfl) rfl 116 _ (Blk.new' _ _ _ HM.out) (by kernel_rfl) rfl (by simp [Value.oneCell']) ?_))
  rw [← HM.out]
  have hKl := bK.lt
  have hKM : K < M := by rw [HM.out]; exact Nat.lt_of_lt_of_le hKl hb1.size
  have hC := hB.trans (hb1.mono (Nat.le_of_lt hKl))
  refine wp_world (fun W => Blk W K #[.int .i64 x0, .int .i64 x1, .int .i64 x2, .int .i64 x3, .int .i64 x4, .int .i64 x5, .slice ub un uc] 63 ∧ Blk W M #[.int .i64 g0, .int .i64 g1, .int .i64 g2, .int .i64 g3] 116 ∧ Below K w W) ⟨((bK.below hb1 hKl).alloc _).rowOther _ _ (by omega), (Blk.new' _ _ _ HM.out).row _, Below.setRow (hC.alloc (by rw [← HM.out]; omega) _) (by omega) _⟩ ?_
  clear hC hb1 hB bK bP hI p0
  rintro W2 ⟨bK, bM, hB⟩
  have k4 := bK.cell 4
  have k5 := bK.cell 5
  have k6 := bK.cell 6
  have m0 := bM.cell 0
  have m1 := bM.cell 1
  have hp := hpr W2
  cases b
  · obtain rfl : R = 4 := by rw [← HR.out]; exact if_neg (fun h => by cases h.1.1)
    have h2 := hte false
    rw [if_neg (by decide)] at h2
    clear hte hpr
    go_wp2_with (first | (go_at_call 118; refine hp.mono ?_; rintro r w2 ⟨rfl, hb2⟩; replace hB := hB.trans (hb2.mono (Nat.le_of_lt bK.lt))) | (go_at_call 110; refine (h2 _).mono ?_; rintro r w3 ⟨rfl, rfl⟩))
    go_ret
    exact ⟨rfl, hB⟩
  · by_cases hc : x4 = g0
    · by_cases hr : x5 = g1
      · have t1 : (x4 == g0) = true := by simpa using hc
        have t2 : (x5 == g1) = true := by simpa using hr
        have t3 : decide (x4 = g0) = true := by simpa using hc
        have t4 : decide (x5 = g1) = true := by simpa using hr
        obtain rfl : R = 0 := by rw [← HR.out]; exact if_pos ⟨⟨rfl, hc⟩, hr⟩
        have h2 := hte true
        rw [if_pos rfl] at h2
        clear hte hpr hc hr
        go_wp2_with (first | (go_at_call 118; refine hp.mono ?_; rintro r w2 ⟨rfl, hb2⟩; have hb1 := bM.below hb2 bM.lt; have hk1 := bK.below hb2 bK.lt; have k4 := hk1.cell 4; have k5 := hk1.cell 5; have m0 := hb1.cell 0; have m1 := hb1.cell 1; replace hB := hB.trans (hb2.mono (Nat.le_of_lt bK.lt))) | (go_at_call 110; refine (h2 _).mono ?_; rintro r w3 ⟨rfl, rfl⟩))
        go_ret
        exact ⟨rfl, hB⟩
      · have t1 : (x4 == g0) = true := by simpa using hc
        have t2 : (x5 == g1) = false := by simpa using hr
        have t3 : decide (x4 = g0) = true := by simpa using hc
        have t4 : decide (x5 = g1) = false := by simpa using hr
        obtain rfl : R = 4 := by rw [← HR.out]; exact if_neg (fun h => hr h.2)
        have h2 := hte false
        rw [if_neg (by decide)] at h2
        clear hte hpr hc hr
        go_wp2_with (first | (go_at_call 118; refine hp.mono ?_; rintro r w2 ⟨rfl, hb2⟩; have hb1 := bM.below hb2 bM.lt; have hk1 := bK.below hb2 bK.lt; have k4 := hk1.cell 4; have k5 := hk1.cell 5; have m0 := hb1.cell 0; have m1 := hb1.cell 1; replace hB := hB.trans (hb2.mono (Nat.le_of_lt bK.lt))) | (go_at_call 110; refine (h2 _).mono ?_; rintro r w3 ⟨rfl, rfl⟩))
        go_ret
        exact ⟨rfl, hB⟩
    · have t1 : (x4 == g0) = false := by simpa using hc
      have t3 : decide (x4 = g0) = false := by simpa using hc
      obtain rfl : R = 4 := by rw [← HR.out]; exact if_neg (fun h => hc h.1.2)
      have h2 := hte false
      rw [if_neg (by decide)] at h2
      clear hte hpr hc
      go_wp2_with (first | (go_at_call 118; refine hp.mono ?_; rintro r w2 ⟨rfl, hb2⟩; have hb1 := bM.below hb2 bM.lt; have hk1 := bK.below hb2 bK.lt; have k4 := hk1.cell 4; have k5 := hk1.cell 5; have m0 := hb1.cell 0; have m1 := hb1.cell 1; replace hB := hB.trans (hb2.mono (Nat.le_of_lt bK.lt))) | (go_at_call 110; refine (h2 _).mono ?_; rintro r w3 ⟨rfl, rfl⟩))
      go_ret
      exact ⟨rfl, hB⟩
def planesE (x : ImgArg) : Int := firstE (fun i => planeE ((frG x).getD i ⟨0, 0, 0, 0⟩) (x.cs.getD i noComp)) x.cs.length 0
theorem frG_len (x : ImgArg) : (frG x).length = x.cs.length := by
  unfold frG gridsN psOf
  rw [List.length_map, partsOf_len, List.length_map]
theorem img_planes (x : ImgArg) (w : World) (h : IsImg w x.val x) (hf : FewOk x) (h0 : frE x = 0) :
    Calls Try.prog 61 #[x.val] w fun r w' => r = .returned (.int .i64 (planesE x)) ∧ Below w.heap.size w w' := by
  have hlc := hf.c20
  obtain ⟨cb, ccap, hcu⟩ := h.cs.len
  have hfr := fun W h => img_frame x W h hlc
  obtain ⟨N, hN⟩ : ∃ N, N = w.heap.size := ⟨_, rfl⟩
  have HN := Lib.hid hN
  rw [← hN]
  have hbe : Below w.heap.size w (w.alloc (.cells #[.int .i64 x.w, .int .i64 x.h, x.cu, x.qu, x.tu] 26)) := (Below.refl _ _).alloc (Nat.le_refl _) _
  unfold ImgArg.val at *
  rw [h0] at hfr
  have HCU := Lib.hid hcu
  obtain ⟨T, hT⟩ : ∃ T, planesE x = T := ⟨_, rfl⟩
  rw [hT]
  have HT := Lib.hid hT
  clear hN hcu hT
  go_enter Try.func61, Try.ntmps61
  go_upto_region 1 with fail
  rw [← HN.out]
  refine wp_world (fun W => Blk W N #[.int .i64 x.w, .int .i64 x.h, x.cu, x.qu, x.tu] 26 ∧ IsImg W (.agg #[.int .i64 x.w, .int .i64 x.h, x.cu, x.qu, x.tu]) x ∧ Below N w W) ⟨Blk.new' _ _ _ HN.out, h.below hbe, by rw [HN.out]; exact hbe⟩ ?_
  clear h hbe
  rintro W ⟨bN, hI, hB⟩
  go_upto_region 2 with (first | (refine wpList_load_row rfl 26 _ rfl N rfl 26 _ _ _ bN Try.underlying26 rfl (by kernel_rfl) ?_) | (go_at_call 48; refine (hfr _ hI).mono ?_; rintro e w1 ⟨f, rfl, hb1, -, hf2⟩; obtain ⟨F, rfl, hF⟩ := hf2 rfl))
  have hNl := bN.lt
  have hC := hB.trans (hb1.mono (Nat.le_of_lt hNl))
  have hal : Below w1.heap.size w1 (w1.alloc (.cells #[.pointer (some ⟨F, 0, none⟩)] 87)) := (Below.refl _ _).alloc (Nat.le_refl _) _
  obtain ⟨P, hP⟩ : ∃ P, P = w1.heap.size := ⟨_, rfl⟩
  rw [← hP]
  have hbN := bN.below hb1 hNl
  refine wp_world (fun W => Blk W N #[.int .i64 x.w, .int .i64 x.h, x.cu, x.qu, x.tu] 26 ∧ IsImg W (.agg #[.int .i64 x.w, .int .i64 x.h, x.cu, x.qu, x.tu]) x ∧ Blk W P #[.pointer (some ⟨F, 0, none⟩)] 87 ∧ IsFr W F (frG x) ∧ Below N w W) ⟨hbN.alloc _, (hI.below hb1).below hal, Blk.new' _ _ _ hP, hF.below hal, hC.alloc (Nat.le_trans (Nat.le_of_lt hNl) hb1.size) _⟩ ?_
  clear hal hP hF hC hb1 hI hB bN hbN hNl
  rintro W2 ⟨bN, hI, bP, hF, hB⟩
  have hcs := hI.cs
  rw [HCU.out] at hcs
  have hea := each_planes P cb ccap x.cs hlc (fun i => planeE ((frG x).getD i ⟨0, 0, 0, 0⟩) (x.cs.getD i noComp)) W2 hcs (fun i hi W hb => by
    have hg : i < (frG x).length := by rw [frG_len]; exact hi
    have := img_planes1 P F (frG x) i hg (x.cs[i]'hi) (by obtain ⟨ub, uc, hu, _⟩ := (hcs.ok _ (List.getElem_mem hi)).ar.len; exact ⟨ub, uc, hu⟩) W (bP.below hb bP.lt) (hF.below hb)
    have e1 : (frG x).getD i ⟨0, 0, 0, 0⟩ = (frG x)[i]'hg := by simp [List.getD_eq_getElem?_getD, hg]
    rw [e1, comp_getD hi]
    exact this)
  have q2 : W2.cell? ⟨N, 2, none⟩ = some (.slice cb x.cs.length ccap) := by rw [← HCU.out]; exact bN.cell 2
  have e2 : firstE (fun i => planeE ((frG x).getD i ⟨0, 0, 0, 0⟩) (x.cs.getD i noComp)) x.cs.length 0 = T := HT.out
  rw [e2] at hea
  clear e2
  clear hcs
  go_wp2_with (go_at_call 106; refine hea.mono ?_; rintro r w2 ⟨rfl, hb2⟩)
  go_ret
  exact ⟨rfl, hB.trans (hb2.mono (Nat.le_of_lt bN.lt))⟩
end Go.Proofs.Ytgmhhocpdfdplaa
