/- The reference's May of turns. -/
import Derived.Test.YtgmhhocpdfdplaaGreatFlipL
import Derived.Test.YtgmhhocpdfdplaaGreatPicSrc
namespace Go.Proofs.YtgmhhocpdfdplaaGreat
open Go.RowKit
set_option maxRecDepth 100000
set_option maxHeartbeats 16000000
/-- The reference's frame: its first numbers. -/
theorem ref_frame8 (x : ImgArg) (hR : RightI x) (w : World) (h : IsImg w x.val x) (hf : x.cs.length ≤ 20) :
    Calls Tryz.prog 15 #[x.val] w fun r w' => (∃ ub un uc gb gn gc, r = .returned (.tuple #[.agg #[.int .i64 (uwI x), .int .i64 (uhI x), .int .i64 (acI x), .int .i64 (dnI x), .slice ub un uc, .slice gb gn gc], .int .i64 0])) ∧ Below w.heap.size w w' := by
  refine (ref_frame x w h hf).mono ?_
  rintro r w' ⟨⟨v, rfl, -, h2⟩, hb⟩
  have hz : newE x.w x.h (psOf x.cs) = 0 := hR.fr
  obtain ⟨u, gv, rfl, hu, hg⟩ := h2 hz
  obtain ⟨ub, uc, rfl⟩ := hu.len
  obtain ⟨gb, gc, rfl⟩ := hg.len
  exact ⟨⟨_, _, _, _, _, _, by rw [hz]; rfl⟩, hb⟩
theorem ref_may18 (x : ImgArg) (hf : FewOk x) (k : Int) (w : World) (h : IsImg w x.val x) :
    Calls Tryz.prog 7 #[x.val, .int .i64 k] w fun r w' => r = .returned (.int .i64 (mayE x k)) ∧ Below w.heap.size w w' := by
  obtain ⟨E, hE⟩ : ∃ E, mayE x k = E := ⟨_, rfl⟩
  rw [hE]
  have HE := Lib.hid hE
  have hL := LI.begin h
  obtain ⟨N, hN⟩ : ∃ N, N = w.heap.size := ⟨_, rfl⟩
  rw [← hN] at hL
  have HN := Lib.hid hN
  have hr := fun V h => ref_right11 x hf V h
  obtain ⟨e, he⟩ : ∃ e, imgE x = e := ⟨_, rfl⟩
  have HIE := Lib.hid he
  rw [he] at hr
  unfold mayE at hE
  rw [he] at hE
  have HE2 := Lib.hid hE
  have hc20 := hf.c20
  unfold ImgArg.val at hr ⊢
  clear hN h hE he
  go_enter Tryz.func7, Tryz.ntmps7
  go_upto_region 1 with fail
  refine wp_world (LI N x w) hL ?_
  rw [← HN.out]
  clear hL
  intro V hL
  have hNN := hL.hM
  go_upto_region 2 with (first
    | (refine wpList_load_row rfl 26 _ rfl N rfl 26 _ _ _ hL.bN Tryz.underlying26 rfl (by kernel_rfl) ?_)
    | (go_at_call 14; refine (hr _ hL.img).mono ?_; rintro r w3 ⟨rfl, hb3⟩; replace hL := hL.below hb3))
  clear hr hb3
  by_cases h0 : e = 0
  case neg =>
    have t1 : (e != 0) = true := by simpa using h0
    obtain rfl : E = e := by rw [← HE2.out]; exact if_neg h0
    clear HE HE2 HIE h0
    go_wp2
    go_ret
    exact ⟨rfl, hL.hB⟩
  subst h0
  have hE := HE2.out
  rw [if_pos rfl] at hE
  clear HE2
  by_cases hk : 0 ≤ k ∧ k < 8
  case neg =>
    obtain rfl : E = 1 := by rw [← hE]; exact if_neg hk
    clear hE HIE HE
    by_cases h1 : k < 0
    · have t1 : decide (k < 0) = true := decide_eq_true h1
      clear hk
      go_wp2
      go_ret
      exact ⟨rfl, hL.hB⟩
    · have t1 : decide (k < 0) = false := decide_eq_false h1
      have t2 : decide (k > 7) = true := decide_eq_true (by omega)
      have t3 : decide (7 < k) = true := decide_eq_true (by omega)
      clear hk h1
      go_wp2
      go_ret
      exact ⟨rfl, hL.hB⟩
  clear hE
  have hR := right_of_imgE HIE.out
  have hfr := fun V hI => ref_frame8 x hR V hI hc20
  have hm := mayE_right hR hk.1 hk.2
  rw [HE.out] at hm
  obtain ⟨hnw, hnh, hnu, hnv, -⟩ := hR.nums
  obtain ⟨k', hkk⟩ := Int.eq_ofNat_of_zero_le hk.1
  subst hkk
  have hk8 : k' < 8 := by omega
  have hmir := Pc.pic_mir ⟨k', hk8⟩
  simp only at hmir
  obtain ⟨m1, m2, m3, m4⟩ := hmir
  have hpo := Pc.pic_ok (c := 3) (r := 2) (by omega) (by omega) (by omega)
  have hnew := fun V => new_any 3 2 (by decide) (by decide) (by decide) V
  have htu := fun v V hv => turn_any k' hk8 (Pc.pic 3 2) hpo v V hv
  generalize Pc.turn k' (Pc.pic 3 2) = T at *
  obtain ⟨Tc, Tr, Tl⟩ := T
  simp only at m1 m2 m3 m4 htu
  rw [← m1, ← m2] at hm
  obtain ⟨a, ha⟩ : ∃ a, Tl.getD 0 0 = a := ⟨_, rfl⟩
  rw [ha] at m3 hm
  obtain ⟨b1, t1⟩ : ∃ b, (x.w % uwI x != 0) = b := ⟨_, rfl⟩
  obtain ⟨b2, t2⟩ : ∃ b, (x.h % uhI x != 0) = b := ⟨_, rfl⟩
  have hb : E = if (decide (a % 3 > 0) = true ∧ b1 = true) ∨ (decide (a / 3 > 0) = true ∧ b2 = true) then 13 else 0 := by
    rw [hm, ← t1, ← t2]
    simp only [bne_iff_ne, ne_eq]
  have HB := Lib.hid hb
  have HA := Lib.hid ha
  have hu0 : uwI x ≠ 0 := by omega
  have hv0 : uhI x ≠ 0 := by omega
  have hu1 : uwI x ≠ -1 := by omega
  have hv1 : uhI x ≠ -1 := by omega
  generalize uwI x = uw at *
  generalize uhI x = uh at *
  have tk0 : decide ((k' : Int) < 0) = false := decide_eq_false (by omega)
  have tk7 : decide ((k' : Int) > 7) = false := decide_eq_false (by omega)
  have tk8 : decide (7 < (k' : Int)) = false := decide_eq_false (by omega)
  unfold ImgArg.val at hfr
  clear HE HIE hR hm hb ha m1 m2 hpo
  go_upto_region 7 with (first
    | (refine wpList_load_row rfl 26 _ rfl N rfl 26 _ _ _ hL.bN Tryz.underlying26 rfl (by kernel_rfl) ?_)
    | (go_at_call 15; refine (hfr _ hL.img).mono ?_; rintro e w5 ⟨⟨ub, un, uc, gb, gn, gc, rfl⟩, hb5⟩; replace hL := hL.below hb5; obtain ⟨F, hF0⟩ : ∃ F, F = w5.heap.size := ⟨_, rfl⟩; have HF := Lib.hid hF0; clear hF0)
    | (refine wpList_store_row rfl 56 _ _ rfl F _ (by rw [HF.out]; rfl) rfl 56 _ (Blk.new' _ _ _ HF.out) (by kernel_rfl) rfl (by simp [Value.oneCell']) ?_; simp only [Act.put]))
  have hbe : Below w5.heap.size w5 ((w5.alloc (.cells #[.int .i64 0, .int .i64 0, .int .i64 0, .int .i64 0, .slice none 0 0, .slice none 0 0] 56)).setRow F #[.int .i64 uw, .int .i64 uh, .int .i64 (acI x), .int .i64 (dnI x), .slice ub un uc, .slice gb gn gc]) := Below.setRow ((Below.refl _ _).alloc (Nat.le_refl _) _) (Nat.le_of_eq HF.out.symm) _
  try rw [← HF.out]
  refine wp_world (fun V => LI N x w V ∧ Blk V F #[.int .i64 uw, .int .i64 uh, .int .i64 (acI x), .int .i64 (dnI x), .slice ub un uc, .slice gb gn gc] 56) ⟨hL.below hbe, (Blk.new' _ _ _ HF.out).row _⟩ ?_
  clear hbe hL hb5 HF hfr
  clear w5
  rintro V2 ⟨hL, bF⟩
  have hfd : ∀ (u : Value) (W : World), (Instr.field 61 (.agg #[.int .i64 Tc, .int .i64 Tr, u]) 2).run Tryz.prog W = .ok u W := fun _ _ => by kernel_rfl
  go_upto_region 8 with (first
    | (go_at_call 16; refine (hnew _).mono ?_; rintro e w' ⟨v, rfl, hIs, hB⟩; replace hL := hL.below hB; replace bF := bF.below hB bF.lt)
    | (go_at_call 17; refine (htu _ _ hIs).mono ?_; rintro e w' ⟨v, rfl, hIs, hB⟩; replace hL := hL.below hB; replace bF := bF.below hB bF.lt; obtain ⟨u, rfl, hRow⟩ := hIs; obtain ⟨gq, cq, rfl, -, -, hcell⟩ := hRow.cells (by omega); have q0 : w'.cell? ⟨gq, 0, none⟩ = some (.int .i64 ((Tl.getD 0 0 : Nat) : Int)) := (hcell 0 (by omega)).trans (Pc.cells_get Tl 0 (by omega)); rw [HA.out] at q0; rw [m4]; clear hcell hRow))
  have f0 := bF.cell 0; have f1 := bF.cell 1
  have n0 := hL.bN.cell 0; have n1 := hL.bN.cell 1
  clear q0 HA hnew htu
  have ha6 : a = 0 ∨ a = 1 ∨ a = 2 ∨ a = 3 ∨ a = 4 ∨ a = 5 := by omega
  rcases ha6 with rfl | rfl | rfl | rfl | rfl | rfl <;> cases b1 <;> cases b2 <;> (
    have hb := HB.out
    simp at hb
    subst hb
    clear HB
    go_wp2
    go_ret
    exact ⟨rfl, hL.hB⟩)
end Go.Proofs.YtgmhhocpdfdplaaGreat
