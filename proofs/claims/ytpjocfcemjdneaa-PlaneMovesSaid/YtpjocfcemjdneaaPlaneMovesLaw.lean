/- aquatintlaw10.PlaneMoves, walked. -/
import Derived.Test.YtpjocfcemjdneaaMoved
import Derived.Test.YtpjocfcemjdneaaDetSeq
namespace Go.Proofs.Ytpjocfcemjdneaa
open Go.RowKit Go.ChangeShapes
set_option maxRecDepth 100000
namespace Pl
/-- The error of a plane moved to so many columns and rows. -/
def mverr (c r cols rows : Int) : Int := if sized cols rows = 0 then (if cols ≤ r ∧ rows ≤ c then 0 else 14) else sized cols rows
theorem trn_trn {bs : List (List Int)} {c r : Nat} (hn : bs.length = c * r) (hc : 0 < c) (hr : 0 < r) : trn (trn bs c r (r * c)) r c (c * r) = bs := by
  symm
  apply trn_eq hn
  intro i hi
  have h1 : i / c < r := Nat.div_lt_of_lt_mul hi
  have h2 : i % c < c := Nat.mod_lt _ hc
  have h3 : i / c * c + i % c = i := by have := Nat.div_add_mod i c; rw [Nat.mul_comm] at this; exact this
  have hlt : i % c * r + i / c < r * c := by
    have h4 : (i % c + 1) * r ≤ c * r := Nat.mul_le_mul_right _ h2
    rw [Nat.add_mul, Nat.one_mul, Nat.mul_comm c r] at h4
    omega
  rw [trn_blk _ _ _ hlt]
  have h5 : (i % c * r + i / c) % r = i / c := by rw [Nat.add_comm, Nat.add_mul_mod_self_right, Nat.mod_eq_of_lt h1]
  have h6 : (i % c * r + i / c) / r = i % c := by rw [Nat.add_comm, Nat.add_mul_div_right _ _ hr, Nat.div_eq_of_lt h1, Nat.zero_add]
  rw [h5, h6, h3]
end Pl
theorem moved_any (c r : Nat) (u : Value) (bs : List (List Int)) (h64 : Right64 bs) (hr : Pl.right c r bs.length = true) (hn : bs.length = c * r) (cols rows : Int) (w : World) (hA : Ar w 64 u bs.length (bcells bs)) :
    Calls Try.prog 28 #[.agg #[.int .i64 c, .int .i64 r, u], .int .i64 cols, .int .i64 rows, .func (.func 29) #[] #[]] w fun e w' => (∃ cc rr bu n cap, e = .returned (.tuple #[.agg #[.int .i64 cc, .int .i64 rr, .slice bu n cap], .int .i64 (Pl.mverr c r cols rows)])) ∧ Below w.heap.size w w' := by
  unfold Pl.mverr
  by_cases hs : Pl.sized cols rows = 0
  · rw [if_pos hs]
    obtain ⟨j1, j2, -, -, -, -⟩ := Pl.sized_ok hs
    obtain ⟨cols, rfl⟩ : ∃ k : Nat, cols = k := ⟨cols.toNat, by omega⟩
    obtain ⟨rows, rfl⟩ : ∃ k : Nat, rows = k := ⟨rows.toNat, by omega⟩
    refine (plane_moved c r cols rows u bs h64 hr hn hs w hA).mono fun e w' hh => ⟨?_, hh.1⟩
    by_cases hin : cols ≤ r ∧ rows ≤ c
    · rw [if_pos (by omega)]
      obtain ⟨v, he, hR⟩ := hh.2.1 hin
      obtain ⟨b, cap, rfl⟩ := hR.len
      exact ⟨_, _, _, _, _, he⟩
    · rw [if_neg (by omega)]
      exact ⟨_, _, _, _, _, hh.2.2 hin⟩
  · rw [if_neg hs]
    refine (plane_moved_size c r u bs h64 hr hn cols rows _ _ rfl hs w hA).mono fun e w' hh => ⟨⟨_, _, _, _, _, hh.1⟩, hh.2⟩
namespace planeMoves
open planeCuts
structure Mb (N : Nat) (x : PlaneArg) (w W : World) : Prop where
  bP : Blk W N #[.int .i64 x.c, .int .i64 x.r, x.u] 24
  hB : Below N w W
theorem Mb.hN {N : Nat} {x : PlaneArg} {w W : World} (h : Mb N x w W) : N ≤ W.heap.size := Nat.le_of_lt h.bP.lt
theorem Mb.below {N : Nat} {x : PlaneArg} {w W W' : World} (h : Mb N x w W) (hb : Below W.heap.size W W') : Mb N x w W' := ⟨h.bP.below hb h.bP.lt, h.hB.trans (hb.mono h.hN)⟩
theorem Mb.put {N : Nat} {x : PlaneArg} {w W : World} {k : Nat} (h : Mb N x w W) (hn : N < k) (ds : Array Value) : Mb N x w (W.setRow k ds) := ⟨h.bP.rowOther _ _ (Nat.ne_of_lt hn), Below.setRow h.hB (Nat.le_of_lt hn) _⟩
set_option maxHeartbeats 8000000 in
theorem walk (x : PlaneArg) (cols rows : Int) (v0 : Value) (w : World) (h : IsPlane w v0 x) :
    Calls Try.prog 8 #[v0, .int .i64 cols, .int .i64 rows] w fun e w' => e = .returned (.bool true) ∧ Below w.heap.size w w' := by
  obtain ⟨rfl, hA, h64, -, -, -⟩ := h
  obtain ⟨c, r, u, bs⟩ := x
  simp only at hA h64 ⊢
  obtain ⟨bu, cap, rfl, hcap, hcm⟩ := hA.len
  have hbl : bs.length ≤ 9223372036854775807 := Nat.le_trans hcap (Nat.le_trans hcm (by unfold maxLen; decide))
  clear hcap hcm
  obtain ⟨N, hN⟩ : ∃ N, N = w.heap.size := ⟨_, rfl⟩
  have HN := Lib.hid hN
  rw [← hN]
  clear hN
  go_enter Try.func8, Try.ntmps8
  go_upto_region 1 with fail
  refine wp_world (fun W => Mb N ⟨c, r, .slice bu bs.length cap, bs⟩ w W) ⟨Blk.new' _ _ _ HN.out, (Below.refl _ _).alloc (by rw [HN.out]; exact Nat.le_refl _) _⟩ ?_
  rintro W0 hI
  rw [← HN.out]
  by_cases hf : bs.length ≤ 400 ∧ cols ≤ 400 ∧ rows ≤ 400
  · obtain ⟨hf, hf1, hf2⟩ := hf
    have tf : decide (bs.length ≤ 400) = true := by simpa using hf
    have tf1 : decide (400 < cols) = false := by simpa using hf1
    have tf2 : decide (400 < rows) = false := by simpa using hf2
    go_upto_region 3 with (first
      | (go_at_call 10; refine (law_few _ _ _ _ _ hbl _).mono ?_; rintro e w2 ⟨rfl, hb2⟩)
      | (go_at_call 9; refine (awake10 _).mono ?_; rintro e w1 ⟨rfl, hb1⟩; have hI1 := hI.below hb1; have p0 := hI1.bP.cell 0; have p1 := hI1.bP.cell 1; have p2 := hI1.bP.cell 2))
    have hI2 := hI1.below hb2
    clear hb1 hb2 hI hI1 p0 p1 p2 tf1 tf2
    have p0 := hI2.bP.cell 0
    have p1 := hI2.bP.cell 1
    by_cases hri : Pl.right c r bs.length = true
    · obtain ⟨k1, k2, k3, k4, k5, k6⟩ := Pl.right_nat hri
      obtain ⟨c, rfl⟩ : ∃ k : Nat, c = k := ⟨c.toNat, by omega⟩
      obtain ⟨r, rfl⟩ : ∃ k : Nat, r = k := ⟨r.toNat, by omega⟩
      have hn : bs.length = c * r := by exact_mod_cast k5
      have hsrc : Pl.sized r c = 0 := Pl.sized_of (by omega) (by omega) (by rw [Nat.mul_comm, ← hn]; exact k6)
      have hscr : Pl.sized c r = 0 := Pl.sized_of (by omega) (by omega) (by rw [← hn]; exact k6)
      have hm1 := fun W hA => plane_moved c r r c (.slice bu bs.length cap) bs h64 hri hn hsrc W hA
      have hm3 := fun W hA => moved_any c r (.slice bu bs.length cap) bs h64 hri hn cols rows W hA
      have hQl : (Pl.trn bs c r (r * c)).length = r * c := Pl.trn_len _ _ _ _
      have hQ64 := Pl.trn_right h64 c r (r * c)
      have htt := Pl.trn_trn hn (by omega) (by omega)
      have hQr : Pl.right r c (Pl.trn bs c r (r * c)).length = true := by rw [hQl]; exact Pl.right_of (by omega) (by omega) (by rw [Nat.mul_comm, ← hn]; exact k6)
      have hQb : ∀ i, i < r * c → Pl.blk (Pl.trn bs c r (r * c)) i = Pl.blk bs (i % r * c + i / r) := fun i hi => Pl.trn_blk bs c r hi
      have hm2 := fun W v hA => plane_moved r c c r v (Pl.trn bs c r (r * c)) hQ64 hQr hQl hscr W hA
      rw [htt] at hm2
      have hr1 := fun W => ref_right c r bs.length bu cap W
      rw [hri] at hr1
      obtain ⟨Q, hQQ⟩ : ∃ Q, Pl.trn bs c r (r * c) = Q := ⟨_, rfl⟩
      rw [hQQ] at hQl hQ64
      simp only [hQQ] at hm1 hm2 hQb
      rw [← hQl] at hm1
      rw [← hn] at hm2
      have HNN := Lib.hid hn
      have HQL := Lib.hid hQl
      have HQB := Lib.hid hQb
      clear hri k5 hn hsrc hscr htt hQr hQQ hQl hQb
      have hw1 := (hm1 w2 (hA.below (by rw [← HN.out]; exact hI2.hB))).mono fun e w' hh => (⟨hh.2.1 ⟨Nat.le_refl _, Nat.le_refl _⟩, hh.1⟩ : (∃ v, e = Ending.returned (.tuple #[.agg #[.int .i64 r, .int .i64 c, v], .int .i64 0]) ∧ Row w' w2.heap.size 34 64 v Q.length (bcells Q)) ∧ Below w2.heap.size w2 w')
      clear hm1
      have hN2 := hI2.hN
      go_upto_region 4 with (first
        | (refine wpList_load_row rfl 24 _ rfl N rfl 24 _ _ _ hI2.bP Try.underlying24 rfl (by kernel_rfl) ?_)
        | (go_at_call 28; refine hw1.mono ?_; rintro e w5 ⟨⟨v, rfl, hR⟩, hb5⟩; obtain ⟨bv, cv, rfl⟩ := hR.len; obtain ⟨g7, hg7⟩ : ∃ g, g = w5.heap.size := ⟨_, rfl⟩; have G7 := Lib.hid hg7; clear hg7)
        | (refine wpList_store_row rfl 24 _ _ rfl g7 _ (by rw [G7.out]; rfl) rfl 24 _ (Blk.new' _ _ _ G7.out) (by kernel_rfl) rfl (by simp [Value.oneCell']) ?_))
      refine wp_world (fun W => Mb N ⟨c, r, .slice bu bs.length cap, bs⟩ w W ∧ Res N g7 ⟨r, c, Q, 0⟩ (.slice bv Q.length cv) W) ?_ ?_
      · have hg := (Below.refl w5.heap.size w5).alloc (Nat.le_refl _) (.cells #[.int .i64 0, .int .i64 0, .slice none 0 0] 24)
        have hk := Blk.new' w5 #[.int .i64 0, .int .i64 0, .slice none 0 0] 24 G7.out
        exact ⟨((hI2.below hb5).below hg).put (by have := hI2.bP.lt; have := hb5.size; have := G7.out; omega) _, Res.new (R := ⟨r, c, Q, 0⟩) hk ((hR.grow hg).down hN2)⟩
      rw [← G7.out]
      clear hI2 hb5 hR hw1 p0 p1 hN2
      rintro W6 ⟨hI, h7⟩
      go_upto_region 9 with (first
        | (refine wpList_load_row rfl 24 _ rfl N rfl 24 _ _ _ hI.bP Try.underlying24 rfl (by kernel_rfl) ?_)
        | (go_at_call 12; refine (hr1 _).mono ?_; rintro e w8 ⟨rfl, hb8⟩; have h78 := h7.below hb8; have hI8 := hI.below hb8; have q0 := h78.box.cell 0; have q1 := h78.box.cell 1; have q2 := hI8.bP.cell 0; have q3 := hI8.bP.cell 1))
      clear hI h7 hb8 hr1 q0 q1 q2 q3
      go_loopw [9] (fun i W => ∃ k : Nat, k ≤ bs.length ∧ i = .int .i64 k ∧ Mb N ⟨c, r, .slice bu bs.length cap, bs⟩ w W ∧ Res N g7 ⟨r, c, Q, 0⟩ (.slice bv Q.length cv) W) (fun i _ => bs.length - (intOf i).toNat)
      case atStart => exact ⟨0, Nat.zero_le _, rfl, hI8, h78⟩
      case round =>
        clear hI8 h78
        obtain ⟨k, hk, rfl, hI, h7⟩ := hrel
        have q2 := hI.bP.cell 2
        by_cases hlt : k < bs.length
        · have tk : decide (k < bs.length) = true := by simpa using hlt
          obtain ⟨ad, cp, hsl, -, -⟩ := hA.some (by omega)
          obtain ⟨rfl, rfl⟩ : bu = some ad ∧ cap = cp := by simpa using hsl
          have hkcr : k < c * r := by rw [← HNN.out]; exact hlt
          obtain ⟨x, hx⟩ : ∃ x, k % c = x := ⟨_, rfl⟩
          obtain ⟨y, hy⟩ : ∃ y, k / c = y := ⟨_, rfl⟩
          obtain ⟨m, hm⟩ : ∃ m, x * r = m := ⟨_, rfl⟩
          have hxc : x < c := by rw [← hx]; exact Nat.mod_lt _ (by omega)
          have hyr : y < r := by rw [← hy]; exact Nat.div_lt_of_lt_mul hkcr
          have hmr : m + y < r * c := by
            have h4 : (x + 1) * r ≤ c * r := Nat.mul_le_mul_right _ hxc
            rw [Nat.add_mul, Nat.one_mul, Nat.mul_comm c r, hm] at h4
            omega
          have hmQ : m + y < Q.length := by rw [HQL.out]; exact hmr
          have hbe : Pl.blk Q (m + y) = Pl.blk bs k := by
            rw [HQB.out _ hmr]
            have h5 : (m + y) % r = y := by rw [← hm, Nat.add_comm, Nat.add_mul_mod_self_right, Nat.mod_eq_of_lt hyr]
            have h6 : (m + y) / r = x := by rw [← hm, Nat.add_comm, Nat.add_mul_div_right _ _ (by omega), Nat.div_eq_of_lt hyr, Nat.zero_add]
            rw [h5, h6, ← hx, ← hy]
            congr 1
            have := Nat.div_add_mod k c
            rw [Nat.mul_comm] at this
            exact this
          have hbx := Pl.blk_get hlt
          have hbq := Pl.blk_get hmQ
          rw [hbe] at hbq
          have hb64 := Pl.blk_len h64 k
          generalize Pl.blk bs k = bx at *
          have hm400 : m ≤ 16384 * 16384 := by rw [← hm]; exact Nat.mul_le_mul (by clear hbe hbq; omega) (by clear hbe hbq; omega)
          have s0 : (0 : Int) ≤ (m : Int) + (y : Int) := by clear hx hy hm hkcr; omega
          have s1 : (m : Int) + (y : Int) < (Q.length : Int) := by clear hx hy hm hkcr; omega
          have s2 : ((m : Int) + (y : Int)).toNat = m + y := by clear hx hy hm hkcr; omega
          have s3 : -9223372036854775808 ≤ (m : Int) + (y : Int) ∧ (m : Int) + (y : Int) ≤ 9223372036854775807 := by clear hx hy hm hkcr; omega
          have s4 : -9223372036854775808 ≤ (m : Int) ∧ (m : Int) ≤ 9223372036854775807 := by clear hx hy hm hkcr; omega
          have ij0 : (0 : Int) ≤ (k : Int) := by clear hx hy hm hkcr; omega
          have ij1 : (k : Int) < (bs.length : Int) := by clear hx hy hm hkcr; omega
          have hcN : ¬ c = 0 := by clear hx hy hm hkcr; omega
          have hq1 : IntKind.i64.wrap ((k : Int) / (c : Int)) = (k : Int) / (c : Int) := by
            have := IntWalk.i64_quo k c (by clear hx hy hm hkcr; omega)
            rwa [Int.tdiv_eq_ediv_of_nonneg (by clear hx hy hm hkcr this; omega)] at this
          obtain ⟨gq, cq, hvq, -, -, -⟩ := h7.row.cells (Nat.lt_of_le_of_lt (Nat.zero_le _) hmQ)
          obtain ⟨rfl, rfl⟩ : bv = some ⟨gq, 0, none⟩ ∧ cv = cq := by simpa using hvq
          have e1 : (k : Int) % (c : Int) = (x : Int) := by rw [← hx]; exact (Int.natCast_emod _ _).symm
          have e2 : (k : Int) / (c : Int) = (y : Int) := by rw [← hy]; exact (Int.natCast_ediv _ _).symm
          have e3 : (x : Int) * (r : Int) = (m : Int) := by rw [← hm]; push_cast; rfl
          have e4 : wrap64 ((x : Int) * (r : Int)) = (m : Int) := by rw [e3]; exact IntWalk.wrap64_in _ s4
          have e5 : IntKind.i64.wrap ((x : Int) * (r : Int)) = (m : Int) := by rw [e3]; exact IntWalk.i64_in _ s4
          have s3 := IntWalk.i64_in _ s3
          rw [e2] at hq1
          clear hsl hvq hx hy hm hkcr hbe hm400 hmr e3 hm3 hm2 s4
          go_upto_region 11 with fail
          refine wp_region_det (fun W => Mb N ⟨c, r, .slice (some ad) bs.length cap, bs⟩ w W ∧ Res N g7 ⟨r, c, Q, 0⟩ (.slice (some ⟨gq, 0, none⟩) Q.length cv) W) (by kernel_rfl) (by kernel_rfl) ⟨hI.below (Below.refl _ _).drew, h7.below (Below.refl _ _).drew⟩ ?_
          clear hI h7 q2
          (repeat (first | (refine det_skip (by rfl) ?_; simp only [Act.put, List.setIfInBounds_toArray, List.set_cons_zero, List.set_cons_succ]) | (refine det_pure (v := ?_) (by rfl) ?_ ?_; rotate_left; (intro wS hS; go_simp; try with_reducible rfl); simp only [Act.put, List.setIfInBounds_toArray, List.set_cons_zero, List.set_cons_succ])))
          refine det_pure (v := .slice (some ⟨gq, 0, none⟩) Q.length cv) (by rfl) (fun w1 hS => by have cy := hS.2.box.cell 2; go_simp; try with_reducible rfl) ?_
          simp only [Act.put, List.setIfInBounds_toArray, List.set_cons_zero, List.set_cons_succ]
          (repeat (first | (refine det_skip (by rfl) ?_; simp only [Act.put, List.setIfInBounds_toArray, List.set_cons_zero, List.set_cons_succ]) | (refine det_pure (v := ?_) (by rfl) ?_ ?_; rotate_left; (intro wS hS; go_simp; try with_reducible rfl); simp only [Act.put, List.setIfInBounds_toArray, List.set_cons_zero, List.set_cons_succ])))
          refine det_pure (v := .int .i64 c) (by rfl) (fun w1 hS => by have cy := hS.1.bP.cell 0; go_simp; try with_reducible rfl) ?_
          simp only [Act.put, List.setIfInBounds_toArray, List.set_cons_zero, List.set_cons_succ]
          refine det_pure (v := .int .i64 (x : Int)) (by rfl) (fun w1 hS => by go_simp; rw [Int.tmod_eq_emod_of_nonneg ij0]; exact e1) ?_
          simp only [Act.put, List.setIfInBounds_toArray, List.set_cons_zero, List.set_cons_succ]
          (repeat (first | (refine det_skip (by rfl) ?_; simp only [Act.put, List.setIfInBounds_toArray, List.set_cons_zero, List.set_cons_succ]) | (refine det_pure (v := ?_) (by rfl) ?_ ?_; rotate_left; (intro wS hS; go_simp; try with_reducible rfl); simp only [Act.put, List.setIfInBounds_toArray, List.set_cons_zero, List.set_cons_succ])))
          refine det_pure (v := .int .i64 r) (by rfl) (fun w1 hS => by have cy := hS.1.bP.cell 1; go_simp; try with_reducible rfl) ?_
          simp only [Act.put, List.setIfInBounds_toArray, List.set_cons_zero, List.set_cons_succ]
          refine det_pure (v := .int .i64 (m : Int)) (by rfl) (fun w1 hS => by go_simp) ?_
          simp only [Act.put, List.setIfInBounds_toArray, List.set_cons_zero, List.set_cons_succ]
          (repeat (first | (refine det_skip (by rfl) ?_; simp only [Act.put, List.setIfInBounds_toArray, List.set_cons_zero, List.set_cons_succ]) | (refine det_pure (v := ?_) (by rfl) ?_ ?_; rotate_left; (intro wS hS; go_simp; try with_reducible rfl); simp only [Act.put, List.setIfInBounds_toArray, List.set_cons_zero, List.set_cons_succ])))
          refine det_pure (v := .int .i64 c) (by rfl) (fun w1 hS => by have cy := hS.1.bP.cell 0; go_simp; try with_reducible rfl) ?_
          simp only [Act.put, List.setIfInBounds_toArray, List.set_cons_zero, List.set_cons_succ]
          refine det_pure (v := .int .i64 (y : Int)) (by rfl) (fun w1 hS => by go_simp) ?_
          simp only [Act.put, List.setIfInBounds_toArray, List.set_cons_zero, List.set_cons_succ]
          refine det_pure (v := .int .i64 ((m : Int) + (y : Int))) (by rfl) (fun w1 hS => by go_simp; try with_reducible rfl) ?_
          simp only [Act.put, List.setIfInBounds_toArray, List.set_cons_zero, List.set_cons_succ]
          (repeat (first | (refine det_skip (by rfl) ?_; simp only [Act.put, List.setIfInBounds_toArray, List.set_cons_zero, List.set_cons_succ]) | (refine det_pure (v := ?_) (by rfl) ?_ ?_; rotate_left; (intro wS hS; go_simp; try with_reducible rfl); simp only [Act.put, List.setIfInBounds_toArray, List.set_cons_zero, List.set_cons_succ])))
          have hQ64' := hQ64
          refine det_pure (by rfl) (fun w1 hS => ar_loadx hS.2.row.ar hQ64' (m + y) hmQ bx hbq _ rfl (by show _ = Value.pointer (some (Addr.add ⟨gq, 0, none⟩ ((m + y) * 64))); rw [Addr.add_mid, Nat.zero_add]; rfl)) ?_
          simp only [Act.put, List.setIfInBounds_toArray, List.set_cons_zero, List.set_cons_succ]
          (repeat (first | (refine det_skip (by rfl) ?_; simp only [Act.put, List.setIfInBounds_toArray, List.set_cons_zero, List.set_cons_succ]) | (refine det_pure (v := ?_) (by rfl) ?_ ?_; rotate_left; (intro wS hS; go_simp; try with_reducible rfl); simp only [Act.put, List.setIfInBounds_toArray, List.set_cons_zero, List.set_cons_succ])))
          refine det_pure (v := .slice (some ad) bs.length cap) (by rfl) (fun w1 hS => by have cy := hS.1.bP.cell 2; go_simp; try with_reducible rfl) ?_
          simp only [Act.put, List.setIfInBounds_toArray, List.set_cons_zero, List.set_cons_succ]
          (repeat (first | (refine det_skip (by rfl) ?_; simp only [Act.put, List.setIfInBounds_toArray, List.set_cons_zero, List.set_cons_succ]) | (refine det_pure (v := ?_) (by rfl) ?_ ?_; rotate_left; (intro wS hS; go_simp; try with_reducible rfl); simp only [Act.put, List.setIfInBounds_toArray, List.set_cons_zero, List.set_cons_succ])))
          refine det_pure (by rfl) (fun w1 hS => ar_loadx (hA.below (by rw [← HN.out]; exact hS.1.hB)) h64 k hlt bx hbx _ rfl rfl) ?_
          simp only [Act.put, List.setIfInBounds_toArray, List.set_cons_zero, List.set_cons_succ]
          refine det_pure (by rfl) (fun w1 _ => run_exec_neq_ints 34 _ _ _ rfl 32 64 .i16 bx bx rfl rfl Try.underlying34 Try.underlying32 (by kernel_rfl) hb64 hb64 (by kernel_rfl)) ?_
          rw [decide_eq_true rfl]
          simp only [Act.put, List.setIfInBounds_toArray, List.set_cons_zero, List.set_cons_succ]
          (repeat (first | (refine det_skip (by rfl) ?_; simp only [Act.put, List.setIfInBounds_toArray, List.set_cons_zero, List.set_cons_succ]) | (refine det_pure (v := ?_) (by rfl) ?_ ?_; rotate_left; (intro wS hS; go_simp; try with_reducible rfl); simp only [Act.put, List.setIfInBounds_toArray, List.set_cons_zero, List.set_cons_succ])))
          refine det_nil ?_
          rintro W11 ⟨hI, h7⟩
          clear e1 e2 e4 e5 s0 s1 s2 s3 hq1
          go_wp2_with fail
          exact ⟨⟨k + 1, by omega, by go_num, hI, h7⟩, by simp [intOf]; omega⟩
        · have tk : decide (k < bs.length) = false := by simpa using hlt
          obtain rfl : k = bs.length := by omega
          have hw2 := (hm2 wr _ h7.row.ar).mono fun e w' hh => (⟨hh.2.1 ⟨Nat.le_refl _, Nat.le_refl _⟩, hh.1⟩ : (∃ v, e = Ending.returned (.tuple #[.agg #[.int .i64 c, .int .i64 r, v], .int .i64 0]) ∧ Row w' wr.heap.size 34 64 v bs.length (bcells bs)) ∧ Below wr.heap.size wr w')
          clear hm2
          have hN2 := hI.hN
          have q0 := hI.bP.cell 0
          have q1 := hI.bP.cell 1
          go_upto_region 14 with (first
            | (refine wpList_load_row rfl 24 _ rfl g7 rfl 24 _ _ _ h7.box Try.underlying24 rfl (by kernel_rfl) ?_)
            | (go_at_call 28; refine hw2.mono ?_; rintro e w5 ⟨⟨v, rfl, hR⟩, hb5⟩; obtain ⟨bv2, cv2, rfl⟩ := hR.len; obtain ⟨g8, hg8⟩ : ∃ g, g = w5.heap.size := ⟨_, rfl⟩; have G8 := Lib.hid hg8; clear hg8)
            | (refine wpList_store_row rfl 24 _ _ rfl g8 _ (by rw [G8.out]; rfl) rfl 24 _ (Blk.new' _ _ _ G8.out) (by kernel_rfl) rfl (by simp [Value.oneCell']) ?_))
          refine wp_world (fun W => Mb N ⟨c, r, .slice bu bs.length cap, bs⟩ w W ∧ Res N g8 ⟨c, r, bs, 0⟩ (.slice bv2 bs.length cv2) W) ?_ ?_
          · have hg := (Below.refl w5.heap.size w5).alloc (Nat.le_refl _) (.cells #[.int .i64 0, .int .i64 0, .slice none 0 0] 24)
            have hk := Blk.new' w5 #[.int .i64 0, .int .i64 0, .slice none 0 0] 24 G8.out
            exact ⟨((hI.below hb5).below hg).put (by have := hI.bP.lt; have := hb5.size; have := G8.out; omega) _, Res.new (R := ⟨c, r, bs, 0⟩) hk ((hR.grow hg).down hN2)⟩
          rw [← G8.out]
          clear hI h7 hb5 hR hw2 hN2 q0 q1 q2
          rintro W6 ⟨hI, h8⟩
          have hw3 := hm3 W6 (hA.below (by rw [← HN.out]; exact hI.hB))
          have hrs := fun W => ref_sized cols rows W
          obtain ⟨me, hme⟩ : ∃ me, Pl.mverr c r cols rows = me := ⟨_, rfl⟩
          rw [hme] at hw3
          unfold Pl.mverr at hme
          obtain ⟨s, hs⟩ : ∃ s, Pl.sized cols rows = s := ⟨_, rfl⟩
          rw [hs] at hme
          simp only [hs] at hrs
          clear hm3 hs
          go_upto_region 15 with (first
            | (refine wpList_load_row rfl 24 _ rfl N rfl 24 _ _ _ hI.bP Try.underlying24 rfl (by kernel_rfl) ?_)
            | (go_at_call 28; refine hw3.mono ?_; rintro e w5 ⟨⟨cc, rr, bu3, n3, cap3, rfl⟩, hb5⟩; obtain ⟨g9, hg9⟩ : ∃ g, g = w5.heap.size := ⟨_, rfl⟩; have G9 := Lib.hid hg9; clear hg9)
            | (refine wpList_store_row rfl 24 _ _ rfl g9 _ (by rw [G9.out]; rfl) rfl 24 _ (Blk.new' _ _ _ G9.out) (by kernel_rfl) rfl (by simp [Value.oneCell']) ?_))
          refine wp_world (fun W => Mb N ⟨c, r, .slice bu bs.length cap, bs⟩ w W ∧ Res N g8 ⟨c, r, bs, 0⟩ (.slice bv2 bs.length cv2) W) ?_ ?_
          · have hg := (Below.refl w5.heap.size w5).alloc (Nat.le_refl _) (.cells #[.int .i64 0, .int .i64 0, .slice none 0 0] 24)
            have hk := Blk.new' w5 #[.int .i64 0, .int .i64 0, .slice none 0 0] 24 G9.out
            exact ⟨((hI.below hb5).below hg).put (by have := hI.bP.lt; have := hb5.size; have := G9.out; omega) _, ((h8.below hb5).below hg).put hk (by have := h8.box.lt; have := hb5.size; have := G9.out; omega) _⟩
          rw [← G9.out]
          clear hI h8 hb5 hw3
          rintro W7 ⟨hI, h8⟩
          have q0 := hI.bP.cell 0
          have q1 := hI.bP.cell 1
          have hbl6 : bs.length ≤ 9223372036854775806 := by omega
          have hcase : (decide (s = 0) = false ∧ (s == 0) = false ∧ me = s) ∨ (decide (s = 0) = true ∧ s = 0 ∧ decide ((r : Int) < cols) = false ∧ decide ((c : Int) < rows) = false ∧ me = 0) ∨ (decide (s = 0) = true ∧ s = 0 ∧ decide ((r : Int) < cols) = true ∧ me = 14) ∨ (decide (s = 0) = true ∧ s = 0 ∧ decide ((r : Int) < cols) = false ∧ decide ((c : Int) < rows) = true ∧ me = 14) := by
            simp only [decide_eq_true_eq, decide_eq_false_iff_not]
            by_cases h0 : s = 0
            · rw [if_pos h0] at hme
              by_cases hin : cols ≤ r ∧ rows ≤ c
              · rw [if_pos hin] at hme
                exact .inr (.inl ⟨h0, h0, by omega, by omega, hme.symm⟩)
              · rw [if_neg hin] at hme
                by_cases h1 : (r : Int) < cols
                · exact .inr (.inr (.inl ⟨h0, h0, h1, hme.symm⟩))
                · exact .inr (.inr (.inr ⟨h0, h0, h1, by omega, hme.symm⟩))
            · rw [if_neg h0] at hme
              exact .inl ⟨h0, by simpa using h0, hme.symm⟩
          clear hme
          rcases hcase with ⟨d0, d1, rfl⟩ | ⟨d0, rfl, d1, d2, rfl⟩ | ⟨d0, rfl, d1, rfl⟩ | ⟨d0, rfl, d1, d2, rfl⟩
          all_goals
            go_upto_region 18 with (go_at_call 17; refine (hrs _).mono ?_; rintro e w8 ⟨rfl, rfl⟩)
            refine wp_region_seq (fun W => Mb N ⟨c, r, .slice bu bs.length cap, bs⟩ w W ∧ Res N g8 ⟨c, r, bs, 0⟩ (.slice bv2 bs.length cv2) W) ⟨hI, h8⟩ ?_
            (repeat (first | (refine det_skip (by rfl) ?_; simp only [Act.put, List.setIfInBounds_toArray, List.set_cons_zero, List.set_cons_succ]) | (refine det_pure (v := ?_) (by rfl) ?_ ?_; rotate_left; (intro wS hS; go_simp; try with_reducible rfl); simp only [Act.put, List.setIfInBounds_toArray, List.set_cons_zero, List.set_cons_succ])))
            refine det_load_row (by rfl) 24 _ rfl N rfl 24 _ _ (fun w1 hS => hS.1.bP) Try.underlying24 rfl (by kernel_rfl) ?_
            simp only [Act.put, List.setIfInBounds_toArray, List.set_cons_zero, List.set_cons_succ]
            refine det_load_row (by rfl) 24 _ rfl g8 rfl 24 _ _ (fun w1 hS => hS.2.box) Try.underlying24 rfl (by kernel_rfl) ?_
            simp only [Act.put, List.setIfInBounds_toArray, List.set_cons_zero, List.set_cons_succ]
            refine det_call (v := .bool true) (by rfl) (by intro wS hS; go_simp; first | done | exact ⟨rfl, rfl⟩) (fun W hS => ?_) ?_
            · refine (plane_same c r c r (.slice bu bs.length cap) (.slice bv2 bs.length cv2) bs bs h64 h64 W (hA.below (by rw [← HN.out]; exact hS.1.hB)) hS.2.row.ar hbl6).mono fun e w' hh => ⟨?_, hS.1.below hh.2, hS.2.below hh.2⟩
              rw [hh.1, decide_eq_true ⟨rfl, rfl, rfl⟩]
            simp only [Act.put, List.setIfInBounds_toArray, List.set_cons_zero, List.set_cons_succ]
            (repeat (first | (refine det_skip (by rfl) ?_; simp only [Act.put, List.setIfInBounds_toArray, List.set_cons_zero, List.set_cons_succ]) | (refine det_pure (v := ?_) (by rfl) ?_ ?_; rotate_left; (intro wS hS; go_simp; try with_reducible rfl); simp only [Act.put, List.setIfInBounds_toArray, List.set_cons_zero, List.set_cons_succ])))
            refine det_nil ?_
            rintro W12 ⟨hI, -⟩
            go_wp2_with fail
            go_ret
            exact ⟨rfl, hI.hB⟩
    · have hri : Pl.right c r bs.length = false := by simpa using hri
      have hm := fun W => plane_moved_bad c r bu bs.length cap r c (.func (.func 29) #[] #[]) hri W
      have hrr := fun W => ref_right c r bs.length bu cap W
      rw [hri] at hrr
      clear hri
      go_upto_region 4 with (first
        | (refine wpList_load_row rfl 24 _ rfl N rfl 24 _ _ _ hI2.bP Try.underlying24 rfl (by kernel_rfl) ?_)
        | (go_at_call 28; refine (hm _).mono ?_; rintro e w5 ⟨rfl, hb5⟩; obtain ⟨g7, hg7⟩ : ∃ g, g = w5.heap.size := ⟨_, rfl⟩; have G7 := Lib.hid hg7; clear hg7)
        | (refine wpList_store_row rfl 24 _ _ rfl g7 _ (by rw [G7.out]; rfl) rfl 24 _ (Blk.new' _ _ _ G7.out) (by kernel_rfl) rfl (by simp [Value.oneCell']) ?_))
      refine wp_world (fun W => Mb N ⟨c, r, .slice bu bs.length cap, bs⟩ w W ∧ Blk W g7 #[.int .i64 0, .int .i64 0, .slice none 0 0] 24) ?_ ?_
      · have hg := (Below.refl w5.heap.size w5).alloc (Nat.le_refl _) (.cells #[.int .i64 0, .int .i64 0, .slice none 0 0] 24)
        have hk := Blk.new' w5 #[.int .i64 0, .int .i64 0, .slice none 0 0] 24 G7.out
        exact ⟨((hI2.below hb5).below hg).put (by have := hI2.bP.lt; have := hb5.size; have := G7.out; omega) _, hk.row _⟩
      rw [← G7.out]
      clear hI2 hb5 hm p0 p1
      rintro W6 ⟨hI, h7⟩
      have q2 := h7.cell 2
      go_wp2_with (first
        | (refine wpList_load_row rfl 24 _ rfl N rfl 24 _ _ _ hI.bP Try.underlying24 rfl (by kernel_rfl) ?_)
        | (go_at_call 12; refine (hrr _).mono ?_; rintro e w8 ⟨rfl, hb8⟩; have h78 := h7.below hb8 h7.lt; have q3 := h78.cell 2))
      go_ret
      exact ⟨rfl, (hI.below hb8).hB⟩
  · have hff : (decide (bs.length ≤ 400) = false) ∨ (decide (bs.length ≤ 400) = true ∧ decide (400 < cols) = true) ∨ (decide (bs.length ≤ 400) = true ∧ decide (400 < cols) = false ∧ decide (400 < rows) = true) := by
      simp only [decide_eq_true_eq, decide_eq_false_iff_not]; omega
    rcases hff with tf | ⟨tf, tf1⟩ | ⟨tf, tf1, tf2⟩
    all_goals
      go_upto_region 2 with (first
        | (go_at_call 10; refine (law_few _ _ _ _ _ hbl _).mono ?_; rintro e w2 ⟨rfl, hb2⟩)
        | (go_at_call 9; refine (awake10 _).mono ?_; rintro e w1 ⟨rfl, hb1⟩; have hI1 := hI.below hb1; have p0 := hI1.bP.cell 0; have p1 := hI1.bP.cell 1; have p2 := hI1.bP.cell 2))
      have hI2 := hI1.below hb2
      go_wp2_with (go_at_call 9; refine (awake10 _).mono ?_; rintro e w3 ⟨rfl, hb3⟩)
      go_ret
      exact ⟨rfl, (hI2.below hb3).hB⟩
end planeMoves
theorem planeMoves.core (v0 : Value) (a0 : PlaneArg) (a1 a2 : Int) (_w1 : (Lit.int .i64 a1).wf = true) (_w2 : (Lit.int .i64 a2).wf = true) (W : World) (s0 : IsPlane W v0 a0) :
    Calls Try.prog 8 #[v0, .int .i64 a1, .int .i64 a2] W fun e w' => e = .returned (.bool true) ∧ Below W.heap.size W w' := planeMoves.walk a0 a1 a2 v0 W s0
end Go.Proofs.Ytpjocfcemjdneaa
