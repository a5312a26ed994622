/- Package plane's Window, walked. -/
import Derived.Test.YtgmhhocpdfdplaaPlane3
namespace Go.Proofs.Ytgmhhocpdfdplaa
open Go.RowKit
set_option maxRecDepth 100000
set_option maxHeartbeats 8000000
namespace Pl
/-- The first k rows of a rectangle of blocks. -/
def win (bs : List (List Int)) (c a b d k : Nat) : List (List Int) := (List.range k).flatMap fun i => (bs.drop ((a + i) * c + b)).take d
theorem win_succ (bs : List (List Int)) (c a b d k : Nat) : win bs c a b d (k + 1) = win bs c a b d k ++ (bs.drop ((a + k) * c + b)).take d := by
  unfold win
  rw [List.range_succ, List.flatMap_append]
  simp
theorem win_right {bs : List (List Int)} (h : Right64 bs) (c a b d k : Nat) : Right64 (win bs c a b d k) := by
  intro x hx
  simp only [win, List.mem_flatMap] at hx
  obtain ⟨i, _, hx⟩ := hx
  exact h x (List.mem_of_mem_drop (List.mem_of_mem_take hx))
theorem row_fits {bs : List (List Int)} {c r a b h d i : Nat} (hn : bs.length = c * r) (h1 : a + h ≤ r) (h2 : b + d ≤ c) (hi : i < h) : (a + i) * c + b + d ≤ bs.length := by
  have h3 : (a + i + 1) * c ≤ r * c := Nat.mul_le_mul_right _ (by omega)
  rw [Nat.add_mul _ 1 c, Nat.one_mul] at h3
  rw [hn, Nat.mul_comm c r]
  omega
theorem win_len {bs : List (List Int)} {c r a b h d : Nat} (hn : bs.length = c * r) (h1 : a + h ≤ r) (h2 : b + d ≤ c) : ∀ k, k ≤ h → (win bs c a b d k).length = k * d := by
  intro k
  induction k with
  | zero => intro _; simp [win]
  | succ k ih =>
    intro hk
    rw [win_succ, List.length_append, ih (by omega), List.length_take, List.length_drop, Nat.min_eq_left (by have := row_fits hn h1 h2 (show k < h by omega); omega), Nat.add_mul]
    omega
end Pl
theorem plane_window_no (c r : Int) (n : Nat) (bu : Option Addr) (cap : Nat) (a b h d : Int) (e0 : Int) (he : e0 ≠ 0) (w : World)
    (hw : ∀ W, Calls Try.prog 131 #[.agg #[.int .i64 c, .int .i64 r, .slice bu n cap], .agg #[.int .i64 a, .int .i64 b, .int .i64 h, .int .i64 d]] W fun e w' => e = .returned (.int .i64 e0) ∧ Below W.heap.size W w') :
    Calls Try.prog 88 #[.agg #[.int .i64 c, .int .i64 r, .slice bu n cap], .agg #[.int .i64 a, .int .i64 b, .int .i64 h, .int .i64 d]] w fun e w' => e = .returned (.tuple #[.agg #[.int .i64 0, .int .i64 0, .slice none 0 0], .int .i64 e0]) ∧ Below w.heap.size w w' := by
  obtain ⟨N, hN⟩ : ∃ N, N = w.heap.size := ⟨_, rfl⟩
  have HN := Lib.hid hN
  rw [← hN]
  clear hN
  go_enter Try.func88, Try.ntmps88
  go_upto_region 1 with fail
  refine wp_world (fun W => Blk W N #[.int .i64 c, .int .i64 r, .slice bu n cap] 61 ∧ Blk W (N + 1) #[.int .i64 a, .int .i64 b, .int .i64 h, .int .i64 d] 70 ∧ Blk W (N + 2) #[.int .i64 0, .int .i64 0, .slice none 0 0] 61 ∧ Below N w W)
    ⟨((Blk.new' _ _ _ HN.out).alloc _).alloc _, (Blk.new' _ _ _ (by simp [HN.out])).alloc _, Blk.new' _ _ _ (by simp [HN.out]), (((Below.refl _ _).alloc (by rw [HN.out]; exact Nat.le_refl _) _).alloc (by rw [HN.out]; simp) _).alloc (by rw [HN.out]; simp; omega) _⟩ ?_
  rintro W0 ⟨b0, b1, b2, hB⟩
  rw [← HN.out]
  have hw0 := hw W0
  have te : (e0 == 0) = false := by simpa using he
  have te2 : decide (e0 = 0) = false := by simpa using he
  have hN0 := b0.lt
  go_wp2_with (first
    | (refine wpList_load_row rfl 61 _ rfl N rfl 61 _ _ _ b0 Try.underlying61 rfl (by kernel_rfl) ?_)
    | (refine wpList_load_row rfl 70 _ rfl (N + 1) rfl 70 _ _ _ b1 Try.underlying70 rfl (by kernel_rfl) ?_)
    | (go_at_call 131; refine hw0.mono ?_; rintro e w1 ⟨rfl, hb⟩; have b21 := b2.below hb b2.lt; have hB1 := hB.trans (hb.mono (by omega)))
    | (refine wpList_store_row rfl 61 _ _ rfl (N+2) _ rfl rfl 61 _ b21 (by kernel_rfl) rfl (by simp [Value.oneCell']) ?_))
  refine bodyPost_ret (results_row_tmp rfl _ _ (N + 2) 61 _ _ rfl (b21.row _) Try.underlying61 rfl (by kernel_rfl)) rfl ?_
  exact ⟨rfl, Below.setRow hB1 (by omega) _⟩
theorem plane_window (c r a b h d : Nat) (u : Value) (bs : List (List Int)) (h64 : Right64 bs) (hn : bs.length = c * r) (hr : Pl.right c r bs.length = true) (h1 : a + h ≤ r) (h2 : b + d ≤ c) (hd : 1 ≤ d) (hh : 1 ≤ h) (w : World) (hA : Ar w 64 u bs.length (bcells bs)) :
    Calls Try.prog 88 #[.agg #[.int .i64 c, .int .i64 r, u], .agg #[.int .i64 a, .int .i64 b, .int .i64 h, .int .i64 d]] w fun e w' =>
      ∃ v, e = .returned (.tuple #[.agg #[.int .i64 d, .int .i64 h, v], .int .i64 0]) ∧ Row w' w.heap.size 57 64 v (h * d) (bcells (Pl.win bs c a b d h)) ∧ Below w.heap.size w w' := by
  obtain ⟨bu, cap, rfl, hc1, hc2⟩ := hA.len
  have hsz : 1 ≤ c ∧ 1 ≤ r ∧ c ≤ 16384 ∧ r ≤ 16384 ∧ c * r ≤ 16384 := by
    unfold Pl.right at hr
    simp only [Bool.and_eq_true, beq_iff_eq] at hr
    obtain ⟨h1, h2, h3, h4, _, h6⟩ := Pl.sized_ok hr.1
    exact ⟨by omega, by omega, by omega, by omega, by exact_mod_cast h6⟩
  have hno : ¬ Pl.out c r a b h d := by unfold Pl.out; omega
  have HNL := Lib.hid hn
  have hbl : bs.length ≤ 16384 := by rw [hn]; exact hsz.2.2.2.2
  have hfit : ∀ i, i < h → (a + i) * c + b + d ≤ bs.length := fun i hi => Pl.row_fits hn h1 h2 hi
  have hwl : ∀ k, k ≤ h → (Pl.win bs c a b d k).length = k * d := Pl.win_len hn h1 h2
  clear hn
  obtain ⟨N, hN⟩ : ∃ N, N = w.heap.size := ⟨_, rfl⟩
  have HN := Lib.hid hN
  rw [← hN]
  clear hN
  go_enter Try.func88, Try.ntmps88
  go_upto_region 1 with fail
  refine wp_world (fun W => Blk W N #[.int .i64 c, .int .i64 r, .slice bu bs.length cap] 61 ∧ Blk W (N + 1) #[.int .i64 a, .int .i64 b, .int .i64 h, .int .i64 d] 70 ∧ Blk W (N + 2) #[.int .i64 0, .int .i64 0, .slice none 0 0] 61 ∧ Below N w W)
    ⟨((Blk.new' _ _ _ HN.out).alloc _).alloc _, (Blk.new' _ _ _ (by simp [HN.out])).alloc _, Blk.new' _ _ _ (by simp [HN.out]), (((Below.refl _ _).alloc (by rw [HN.out]; exact Nat.le_refl _) _).alloc (by rw [HN.out]; simp) _).alloc (by rw [HN.out]; simp; omega) _⟩ ?_
  rintro W0 ⟨b0, b1, b2, hB⟩
  rw [← HN.out]
  have hw0 := plane_within c r bs.length bu cap a b h d hr W0
  have hN0 := b0.lt
  go_upto_region 4 with (first
    | (refine wpList_load_row rfl 61 _ rfl N rfl 61 _ _ _ b0 Try.underlying61 rfl (by kernel_rfl) ?_)
    | (refine wpList_load_row rfl 70 _ rfl (N + 1) rfl 70 _ _ _ b1 Try.underlying70 rfl (by kernel_rfl) ?_)
    | (go_at_call 131; refine hw0.mono ?_; rintro e w1 ⟨_, he, hb⟩; obtain rfl := he hno; have b01 := b0.below hb b0.lt; have b11 := b1.below hb b1.lt; have b21 := b2.below hb b2.lt; have hB1 := hB.trans (hb.mono (by omega))))
  have r2 := b11.cell 2
  have r3 := b11.cell 3
  go_upto_region 5 with fail
  obtain ⟨c7, hc7⟩ : ∃ c, c = w1.heap.size := ⟨_, rfl⟩
  have hN7 : N + 2 < c7 := by rw [hc7]; exact b21.lt
  refine wp_world (fun W => Blk W N #[.int .i64 c, .int .i64 r, .slice bu bs.length cap] 61 ∧ Blk W (N + 1) #[.int .i64 a, .int .i64 b, .int .i64 h, .int .i64 d] 70 ∧ Blk W (N + 2) #[.int .i64 0, .int .i64 0, .slice none 0 0] 61 ∧ Blk W c7 #[.int .i64 d, .int .i64 h, .slice none 0 0] 61 ∧ Below N w W)
    ⟨b01.alloc _, b11.alloc _, b21.alloc _, Blk.new' _ _ _ hc7, hB1.alloc (by omega) _⟩ ?_
  rw [← hc7]
  clear hc7 r2 r3 b0 b1 b2 hB hb b01 b11 b21 hB1 hw0 hN0
  rintro W1 ⟨b0, b1, b2, b7, hB⟩
  have q2 := b1.cell 2
  go_wp2_with fail
  go_loopw [24] (fun i wr => ∃ (k : Nat) (v : Value), k ≤ h ∧ i = .int .i64 k ∧ Blk wr N #[.int .i64 c, .int .i64 r, .slice bu bs.length cap] 61 ∧ Blk wr (N + 1) #[.int .i64 a, .int .i64 b, .int .i64 h, .int .i64 d] 70 ∧ Blk wr (N + 2) #[.int .i64 0, .int .i64 0, .slice none 0 0] 61 ∧ Blk wr c7 #[.int .i64 d, .int .i64 h, v] 61 ∧ Row wr (c7 + 1) 57 64 v (k * d) (bcells (Pl.win bs c a b d k)) ∧ Below N w wr) (fun i _ => h - (intOf i).toNat)
  case atStart => exact ⟨0, _, Nat.zero_le _, rfl, b0, b1, b2, b7, by simpa [Pl.win, bcells] using Row.nil _ _ _ _, hB⟩
  case round =>
    clear b0 b1 b2 b7 hB q2
    obtain ⟨k, v, hk, rfl, b0, b1, b2, b7, hR, hB⟩ := hrel
    have hN0 : N + 2 < wr.heap.size := b2.lt
    have hc0 : c7 < wr.heap.size := b7.lt
    by_cases hlt : k < h
    · have hf := hfit k hlt
      have hkl := hwl k hk
      have hkl1 := hwl (k + 1) hlt
      obtain ⟨z, hz⟩ : ∃ z : Nat, (a + k) * c = z := ⟨_, rfl⟩
      rw [hz] at hf
      have hzw : Value.int .i64 (wrap64 (((a : Int) + (k : Int)) * (c : Int))) = .int .i64 (z : Int) := by
        have : ((a : Int) + (k : Int)) * (c : Int) = (z : Int) := by rw [← hz]; push_cast; rfl
        rw [this, IntWalk.wrap64_in _ (by clear this hz hkl hkl1; omega)]
      have hsucc := Pl.win_succ bs c a b d k
      rw [hz] at hsucc
      have HS := Lib.hid hsucc
      have HK1 := Lib.hid hkl1
      have HF := Lib.hid hfit
      have HW := Lib.hid hwl
      clear hsucc hkl1 hz hfit hwl
      have p0 := b0.cell 0
      have r0 := b1.cell 0
      have r1 := b1.cell 1
      obtain ⟨bv, cv, rfl⟩ := hR.len
      have hkb : k * d + d ≤ 16384 := by
        have e1 : (k + 1) * d ≤ r * c := Nat.mul_le_mul (by omega) (by omega)
        rw [Nat.add_mul, Nat.one_mul, Nat.mul_comm r c] at e1
        exact Nat.le_trans e1 hsz.2.2.2.2
      obtain ⟨kd, hkd⟩ : ∃ kd, k * d = kd := ⟨_, rfl⟩
      rw [hkd] at hkb
      rw [hkd] at hR hkl b7
      have HKD := Lib.hid hkd
      clear hkd
      go_upto_region 9 with fail
      obtain ⟨ad, rfl⟩ : ∃ ad, bu = some ad := by
        obtain ⟨ad, cp, he, _, _⟩ := hA.some (by omega)
        simp only [Value.slice.injEq] at he
        exact ⟨ad, he.1⟩
      have wz : IntKind.i64.wrap ((z : Int) + (b : Int) + (d : Int)) = (z : Int) + (b : Int) + (d : Int) := IntWalk.i64_in _ (by omega)
      have y0 : (0 : Int) ≤ (z : Int) + (b : Int) + (d : Int) := by omega
      have y1 : (z : Int) + (b : Int) + (d : Int) ≤ (cap : Int) := by omega
      have y2 : (z : Int) + (b : Int) ≤ max ((z : Int) + (b : Int) + (d : Int)) 0 := by omega
      have y3 : ¬ cap = z + b := by omega
      have y4 : ((z : Int) + (b : Int) + (d : Int)).toNat - (z + b) = d := by omega
      have y5 : (0 : Int) ≤ (z : Int) + (b : Int) := by omega
      have y6 : ((z : Int) + (b : Int)).toNat = z + b := by omega
      refine wp_region_mono [0, 1, 2, 3, 4, 5, 6, 7, 8, 9] [10, 11, 12] (fun W => Blk W N #[.int .i64 c, .int .i64 r, .slice (some ad) bs.length cap] 61 ∧ Blk W (N + 1) #[.int .i64 a, .int .i64 b, .int .i64 h, .int .i64 d] 70 ∧ Blk W (N + 2) #[.int .i64 0, .int .i64 0, .slice none 0 0] 61 ∧ Blk W c7 #[.int .i64 d, .int .i64 h, .slice bv kd cv] 61 ∧ Row W (c7 + 1) 57 64 (.slice bv kd cv) kd (bcells (Pl.win bs c a b d k)) ∧ Below N w W)
        (fun _ => none) (fun _ => []) (by kernel_rfl) (by kernel_rfl) ⟨b0.drew, b1.drew, b2.drew, b7.drew, hR.same fun _ _ => rfl, hB.drew⟩ (by intro i s hs; cases hs) ?_
      clear b0 b1 b2 b7 hR hB p0 r0 r1 hN0 hc0
      simp only [pick, List.getD_cons_succ, List.getD_cons_zero, List.zip_cons_cons, List.zip_nil_right]
      (repeat (first | (refine mono_skip (by rfl) ?_; simp only [Act.put, List.setIfInBounds_toArray, List.set_cons_zero, List.set_cons_succ]) | (refine mono_pure (v := ?_) (by rfl) rfl ?_ ?_; rotate_left; (intro wS hS; go_simp; try with_reducible rfl); simp only [Act.put, List.setIfInBounds_toArray, List.set_cons_zero, List.set_cons_succ])))
      refine mono_pure (v := .slice bv kd cv) (by rfl) rfl (fun w1 hS => by have cy := hS.2.2.2.1.cell 2; go_simp; try with_reducible rfl) ?_
      simp only [Act.put, List.setIfInBounds_toArray, List.set_cons_zero, List.set_cons_succ]
      (repeat (first | (refine mono_skip (by rfl) ?_; simp only [Act.put, List.setIfInBounds_toArray, List.set_cons_zero, List.set_cons_succ]) | (refine mono_pure (v := ?_) (by rfl) rfl ?_ ?_; rotate_left; (intro wS hS; go_simp; try with_reducible rfl); simp only [Act.put, List.setIfInBounds_toArray, List.set_cons_zero, List.set_cons_succ])))
      refine mono_pure (v := .slice (some ad) bs.length cap) (by rfl) rfl (fun w1 hS => by have cy := hS.1.cell 2; go_simp; try with_reducible rfl) ?_
      simp only [Act.put, List.setIfInBounds_toArray, List.set_cons_zero, List.set_cons_succ]
      (repeat (first | (refine mono_skip (by rfl) ?_; simp only [Act.put, List.setIfInBounds_toArray, List.set_cons_zero, List.set_cons_succ]) | (refine mono_pure (v := ?_) (by rfl) rfl ?_ ?_; rotate_left; (intro wS hS; go_simp; try with_reducible rfl); simp only [Act.put, List.setIfInBounds_toArray, List.set_cons_zero, List.set_cons_succ])))
      refine mono_pure (v := .int .i64 d) (by rfl) rfl (fun w1 hS => by have cy := hS.2.1.cell 3; go_simp; try with_reducible rfl) ?_
      simp only [Act.put, List.setIfInBounds_toArray, List.set_cons_zero, List.set_cons_succ]
      refine mono_pure (v := .int .i64 ((z : Int) + (b : Int) + (d : Int))) (by rfl) rfl (fun w1 hS => by go_simp; try with_reducible rfl) ?_
      simp only [Act.put, List.setIfInBounds_toArray, List.set_cons_zero, List.set_cons_succ]
      refine mono_pure (v := .slice (some (ad.add ((z + b) * 64))) d (cap - (z + b))) (by rfl) rfl (fun w1 hS => by go_simp; try with_reducible rfl) ?_
      simp only [Act.put, List.setIfInBounds_toArray, List.set_cons_zero, List.set_cons_succ]
      refine mono_nil ?_
      clear wz y0 y1 y2 y3 y4 y5 y6 hzw
      rintro W2 ⟨b0, b1, b2, b7, hR, hB⟩ _
      have hmid : Ar W2 64 (.slice (some (ad.add ((z + b) * 64))) d (cap - (z + b))) d (bcells ((bs.drop (z + b)).take d)) := by
        have hA2 := hA.below (by rw [← HN.out]; exact hB)
        have hl : (bcells ((bs.drop (z + b)).take d)).length = d * 64 := by rw [bcells_len ((h64.drop _).take _), List.length_take, List.length_drop, Nat.min_eq_left (by omega)]
        refine hA2.sub (z + b) d (cap - (z + b)) _ (by omega) (by omega) hl (fun j v hj => ?_) _ (.inr rfl)
        have hjl : j < d * 64 := by rw [← hl]; exact (List.getElem?_eq_some_iff.1 hj).1
        rw [← bcells_take (h64.drop _), List.getElem?_take, if_pos hjl, ← bcells_drop h64, List.getElem?_drop] at hj
        exact hj
      have hc0 : c7 < W2.heap.size := b7.lt
      have hne : ∀ g, (Value.slice bv kd cv).ownBlock = some g → c7 + 1 ≤ g := fun g hg => (hR.lt g hg).1
      go_wp2_with (refine wpList_append_ar _ rfl _ _ 59 rfl (c7 + 1) 57 _ _ 64 128 rfl rfl rfl rfl rfl rfl _ kd _ rfl hR _ d _ rfl hmid (bcells_one _) (by simp only [maxLen]; omega) (by omega) (by omega) (fun v' w4 hR4 hg4 hat => ?_); obtain ⟨bz, cz, rfl⟩ := hR4.len; have hg5 : W2.grownBy w4 (Value.slice bv kd cv).ownBlock := hg4; have b74 := b7.grown hg5 (fun e => by have := hne _ e.symm; omega); have q4 := b74.cell 2; have f4 := b74.free 2)
      have hnr : ∀ g, g < c7 + 1 → some g ≠ (Value.slice bv kd cv).ownBlock := fun g hg e => by have := hne _ e.symm; omega
      refine ⟨⟨k + 1, .slice bz (kd + d) cz, hlt, by go_num, (b0.grown hg5 (hnr _ (by omega))).other _ _ (by show N ≠ c7; omega), (b1.grown hg5 (hnr _ (by omega))).other _ _ (by show N + 1 ≠ c7; omega), (b2.grown hg5 (hnr _ (by omega))).other _ _ (by show N + 2 ≠ c7; omega), b74.set 2 _, ?_, ?_⟩, by simp [intOf]; omega⟩
      · rw [HS.out, bcells_append, Nat.add_mul, Nat.one_mul, HKD.out]
        exact hR4.other _ _ (fun g hg => by have := (hR4.lt g hg).1; show g ≠ c7; omega)
      · exact (Below.grown hB (by omega) hg5 (fun g e => by have := hne g e; omega)).setCell (p := ⟨c7, 2, none⟩) (by show N ≤ c7; omega) _
    · obtain rfl : k = h := by omega
      obtain ⟨bv, cv, rfl⟩ := hR.len
      go_wp2_with (first
        | (refine wpList_load_row rfl 61 _ rfl c7 rfl 61 _ _ _ b7 Try.underlying61 rfl (by kernel_rfl) ?_)
        | (refine wpList_store_row rfl 61 _ _ rfl (N+2) _ rfl rfl 61 _ b2 (by kernel_rfl) rfl (by simp [Value.oneCell']) ?_))
      refine bodyPost_ret (results_row_tmp rfl _ _ (N + 2) 61 _ _ rfl (b2.row _) Try.underlying61 rfl (by kernel_rfl)) rfl ?_
      exact ⟨_, rfl, Row.down (Row.same (w := wr) hR (fun g hg => setRow_other _ _ _ _ (by have := (hR.lt g hg).1; omega))) (by omega), Below.setRow hB (by omega) _⟩
end Go.Proofs.Ytgmhhocpdfdplaa
