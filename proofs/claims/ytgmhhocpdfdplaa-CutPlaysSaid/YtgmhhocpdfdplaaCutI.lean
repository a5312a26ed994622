/- Package cut: Blocks. -/
import Derived.Test.YtgmhhocpdfdplaaCutL
namespace Go.Proofs.Ytgmhhocpdfdplaa
open Go.RowKit
set_option maxRecDepth 100000
set_option maxHeartbeats 8000000
def blkE (x : ImgArg) (X Y W H i : Int) : Int := if unE x X Y W H ≠ 0 ∧ unE x X Y W H ≠ 13 then unE x X Y W H else if i < 0 ∨ (x.cs.length : Int) ≤ i then 1 else unE x X Y W H
def zero4 : Array Value := #[.int .i64 0, .int .i64 0, .int .i64 0, .int .i64 0]
def blkV (x : ImgArg) (X Y W H i : Int) : Array Value := if blkE x X Y W H i = 0 then #[.int .i64 (unA x Y * pV x i.toNat), .int .i64 (unB x X * pH x i.toNat), .int .i64 (upI H (uhI x) * pV x i.toNat), .int .i64 (upI W (uwI x) * pH x i.toNat)] else zero4
/-- The boxes: the image, the rectangle, the result. -/
structure DI (N : Nat) (x : ImgArg) (X Y W H : Int) (w V : World) : Prop where
  l : LR N x X Y W H 73 w V
  bQ : Blk V (N + 2) #[.int .i64 0, .int .i64 0, .int .i64 0, .int .i64 0] 70
theorem DI.below {N : Nat} {x : ImgArg} {X Y W H : Int} {w V V' : World} (q : DI N x X Y W H w V) (hb : Below V.heap.size V V') : DI N x X Y W H w V' := ⟨q.l.below hb, q.bQ.below hb q.bQ.lt⟩
theorem unV_len (x : ImgArg) (X Y W H : Int) : (unV x X Y W H).size = 4 ∧ (unV x X Y W H).all (·.oneCell') = true := by
  unfold unV
  split <;> exact ⟨rfl, by simp [Value.oneCell']⟩
theorem cut_Blocks (x : ImgArg) (hf : FewOk x) (X Y W H i : Int) (w : World) (hI : IsImg w x.val x) :
    Calls Try.prog 34 #[x.val, .agg #[.int .i64 X, .int .i64 Y, .int .i64 W, .int .i64 H], .int .i64 i] w fun r w' => r = .returned (.tuple #[.agg (blkV x X Y W H i), .int .i64 (blkE x X Y W H i)]) ∧ Below w.heap.size w w' := by
  obtain ⟨cb, ccap, hcu⟩ := hI.cs.len
  have HCU := Lib.hid hcu
  have hc20 := hf.c20
  have hL := LR.begin hI X Y W H 73
  obtain ⟨N, hN⟩ : ∃ N, N = w.heap.size := ⟨_, rfl⟩
  rw [← hN] at hL
  have HN := Lib.hid hN
  have hun := fun V h => cut_units x hf X Y W H V h
  obtain ⟨hvl, hv1⟩ := unV_len x X Y W H
  have HV1 := Lib.hid (fun (h0 : unE x X Y W H = 0) => (show unV x X Y W H = #[.int .i64 (unA x Y), .int .i64 (unB x X), .int .i64 (upI H (uhI x)), .int .i64 (upI W (uwI x))] from if_pos h0))
  have HUO := Lib.hid (fun (h0 : unE x X Y W H = 0) => unit_ok h0)
  have HR := Lib.hid (fun (h0 : unE x X Y W H = 0) => (un_ok h0).R)
  obtain ⟨B, hB⟩ : ∃ B, blkE x X Y W H i = B := ⟨_, rfl⟩
  obtain ⟨D, hD⟩ : ∃ D, blkV x X Y W H i = D := ⟨_, rfl⟩
  rw [hB, hD]
  unfold blkV at hD
  rw [hB] at hD
  unfold blkE at hB
  obtain ⟨E, hE⟩ : ∃ E, unE x X Y W H = E := ⟨_, rfl⟩
  rw [hE] at hB hun HV1 HUO HR
  have HB := Lib.hid hB; have HD := Lib.hid hD
  obtain ⟨vs, hvs⟩ : ∃ vs, unV x X Y W H = vs := ⟨_, rfl⟩
  rw [hvs] at hun hvl hv1 HV1
  unfold ImgArg.val at hun
  clear hN hE hB hD hvs hcu
  have HI := Lib.hid hI
  clear hI
  unfold ImgArg.val
  go_enter Try.func34, Try.ntmps34
  go_upto_region 1 with fail
  refine wp_world (DI N x X Y W H w) ⟨hL.below ((Below.refl _ _).alloc (Nat.le_refl _) _), Blk.new' _ _ _ (by rw [HN.out]; simp)⟩ ?_
  rw [← HN.out]
  clear hL
  intro V hL
  have hNN := hL.l.l.hM
  go_upto_region 2 with (first
      | (refine wpList_load_row rfl 26 _ rfl N rfl 26 _ _ _ hL.l.l.bN Try.underlying26 rfl (by kernel_rfl) ?_)
      | (refine wpList_load_row rfl 73 _ rfl (N + 1) rfl 73 _ _ _ hL.l.bR Try.underlying73 rfl (by kernel_rfl) ?_)
      | (go_at_call 85; refine (hun _ hL.l.l.img).mono ?_; rintro r w3 ⟨rfl, hb3⟩; replace hL := hL.below hb3; obtain ⟨M, hM⟩ : ∃ M, M = w3.heap.size := ⟨_, rfl⟩; have HM := Lib.hid hM; clear hM)
      | (refine wpList_store_row rfl 70 _ _ rfl M _ (by rw [HM.out]; rfl) rfl 70 _ (Blk.new' _ _ _ HM.out) (by rw [hvl]; kernel_rfl) (by rw [hvl]; rfl) hv1 ?_; simp only [Act.put]))
  have hbe : Below w3.heap.size w3 ((w3.alloc (.cells #[.int .i64 0, .int .i64 0, .int .i64 0, .int .i64 0] 70)).setRow M vs) := Below.setRow ((Below.refl _ _).alloc (Nat.le_refl _) _) (Nat.le_of_eq HM.out.symm) _
  try rw [← HM.out]
  refine wp_world (fun V => DI N x X Y W H w V ∧ Blk V M vs 70) ⟨hL.below hbe, (Blk.new' _ _ _ HM.out).row _⟩ ?_
  clear hbe hL hun HM hb3 hvl hv1
  rintro V1 ⟨hL, bM⟩
  have q2 : V1.cell? ⟨N, 2, none⟩ = some (.slice cb x.cs.length ccap) := by rw [← HCU.out]; exact hL.l.l.bN.cell 2
  by_cases h1 : E ≠ 0 ∧ E ≠ 13
  · obtain rfl : B = E := by rw [← HB.out]; exact if_pos h1
    obtain rfl : D = zero4 := by rw [← HD.out]; exact if_neg h1.1
    have t1 : (B != 0) = true := by simpa using h1.1
    have t2 : (B != 13) = true := by simpa using h1.2
    clear HB HD HV1 HUO HR h1
    go_wp2_with (refine wpList_store_row rfl 70 _ _ rfl (N + 2) _ rfl rfl 70 _ hL.bQ (by kernel_rfl) rfl (by simp [Value.oneCell']) ?_)
    refine bodyPost_ret (results_row_tmp rfl _ _ (N + 2) 70 _ _ rfl (hL.bQ.row _) Try.underlying70 rfl (by kernel_rfl)) rfl ?_
    exact ⟨rfl, Below.setRow hL.l.hB (by omega) _⟩
  · have hB := HB.out
    rw [if_neg h1] at hB
    have HB2 := Lib.hid hB
    clear HB hB
    go_cut [16] from 17 to 22 (fun c wx => c = .bool false ∧ wx = V1)
    case first =>
      by_cases h0 : E = 0
      · have t1 : (E != 0) = false := by simpa using h0
        clear h0 h1
        go_wp2_with fail
        go_meet
        exact ⟨rfl, rfl⟩
      · have t1 : (E != 0) = true := by simpa using h0
        have t2 : (E != 13) = false := by
          have : E = 13 := Decidable.not_not.1 fun h => h1 ⟨h0, h⟩
          simpa using this
        clear h0 h1
        go_wp2_with fail
        go_meet
        exact ⟨rfl, rfl⟩
    obtain ⟨rfl, rfl⟩ := hcut
    by_cases h2 : i < 0
    · obtain rfl : B = 1 := by rw [← HB2.out]; exact if_pos (.inl h2)
      obtain rfl : D = zero4 := by rw [← HD.out]; exact if_neg (by decide)
      have t2 : decide (i < 0) = true := decide_eq_true h2
      clear HB2 HD HV1 HUO HR h1 h2
      go_wp2_with (refine wpList_store_row rfl 70 _ _ rfl (N + 2) _ rfl rfl 70 _ hL.bQ (by kernel_rfl) rfl (by simp [Value.oneCell']) ?_)
      refine bodyPost_ret (results_row_tmp rfl _ _ (N + 2) 70 _ _ rfl (hL.bQ.row _) Try.underlying70 rfl (by kernel_rfl)) rfl ?_
      exact ⟨rfl, Below.setRow hL.l.hB (by omega) _⟩
    · have t2 : decide (i < 0) = false := decide_eq_false h2
      obtain ⟨k, rfl⟩ : ∃ k : Nat, i = k := ⟨i.toNat, by omega⟩
      by_cases h3 : x.cs.length ≤ k
      · obtain rfl : B = 1 := by rw [← HB2.out]; exact if_pos (.inr (by omega))
        obtain rfl : D = zero4 := by rw [← HD.out]; exact if_neg (by decide)
        have t3 : decide (x.cs.length ≤ k) = true := decide_eq_true h3
        clear HB2 HD HV1 HUO HR h1 h2 h3
        go_wp2_with (refine wpList_store_row rfl 70 _ _ rfl (N + 2) _ rfl rfl 70 _ hL.bQ (by kernel_rfl) rfl (by simp [Value.oneCell']) ?_)
        refine bodyPost_ret (results_row_tmp rfl _ _ (N + 2) 70 _ _ rfl (hL.bQ.row _) Try.underlying70 rfl (by kernel_rfl)) rfl ?_
        exact ⟨rfl, Below.setRow hL.l.hB (by omega) _⟩
      · have t3 : decide (x.cs.length ≤ k) = false := decide_eq_false h3
        have hB := HB2.out
        rw [if_neg (by omega)] at hB
        subst hB
        by_cases h0 : E = 0
        · subst h0
          have hvs := HV1.out rfl
          subst hvs
          obtain ⟨u1, u2, u3, u4⟩ := HUO.out rfl
          have hbl := fun V hI => cut_blocks x hc20 (HR.out rfl) k (by omega) (unA x Y) (unB x X) (upI H (uhI x)) (upI W (uwI x)) u1 u2 u3 u4 V hI
          have hD := HD.out
          rw [if_pos rfl, Int.toNat_natCast] at hD
          subst hD
          unfold ImgArg.val at hbl
          clear HD HB2 HV1 HUO HR h1 h2 h3 u1 u2 u3 u4
          go_wp2_with (first
            | (refine wpList_load_row rfl 26 _ rfl N rfl 26 _ _ _ hL.l.l.bN Try.underlying26 rfl (by kernel_rfl) ?_)
            | (refine wpList_load_row rfl 70 _ rfl M rfl 70 _ _ _ bM Try.underlying70 rfl (by kernel_rfl) ?_)
            | (go_at_call 86; refine (hbl _ hL.l.l.img).mono ?_; rintro r w4 ⟨rfl, hb4⟩; replace hL := hL.below hb4)
            | (refine wpList_store_row rfl 70 _ _ rfl (N + 2) _ rfl rfl 70 _ hL.bQ (by kernel_rfl) rfl (by simp [Value.oneCell']) ?_))
          refine bodyPost_ret (results_row_tmp rfl _ _ (N + 2) 70 _ _ rfl (hL.bQ.row _) Try.underlying70 rfl (by kernel_rfl)) rfl ?_
          exact ⟨rfl, Below.setRow hL.l.hB (by omega) _⟩
        · obtain rfl : E = 13 := Decidable.not_not.1 fun h => h1 ⟨h0, h⟩
          obtain rfl : D = zero4 := by rw [← HD.out]; exact if_neg (by decide)
          clear HD HB2 HV1 HUO HR h1 h2 h3 h0
          go_wp2_with (refine wpList_store_row rfl 70 _ _ rfl (N + 2) _ rfl rfl 70 _ hL.bQ (by kernel_rfl) rfl (by simp [Value.oneCell']) ?_)
          refine bodyPost_ret (results_row_tmp rfl _ _ (N + 2) 70 _ _ rfl (hL.bQ.row _) Try.underlying70 rfl (by kernel_rfl)) rfl ?_
          exact ⟨rfl, Below.setRow hL.l.hB (by omega) _⟩
end Go.Proofs.Ytgmhhocpdfdplaa
