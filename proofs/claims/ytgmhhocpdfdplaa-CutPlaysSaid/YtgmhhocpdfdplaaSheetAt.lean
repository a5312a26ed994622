/- A sheet's At; a plane's sheet (Of). -/
import Derived.Test.YtgmhhocpdfdplaaPlaneAll
namespace Go.Proofs.Ytgmhhocpdfdplaa
open Go.RowKit
set_option maxRecDepth 100000
set_option maxHeartbeats 4000000
theorem sheet_at_no (lo b c r : Nat) (u : Value) (bs : List (List Int)) (row col : Int) (hn : ¬ Pl.isIn c r row col) (w : World) (h : Pl.Sheet w lo b c r u bs) :
    Calls Try.prog 146 #[.pointer (some ⟨b, 0, none⟩), .int .i64 row, .int .i64 col] w fun e w' => e = .returned (.tuple #[.agg (ints .i16 (List.replicate 64 0)), .bool false]) ∧ Below w.heap.size w w' := by
  obtain ⟨bu, cu, rfl⟩ := h.row.len
  obtain ⟨N, hN⟩ : ∃ N, N = w.heap.size := ⟨_, rfl⟩
  have HN := Lib.hid hN
  rw [← hN]
  have hbN : b < N := by rw [hN]; exact h.box.lt
  clear hN
  go_enter Try.func146, Try.ntmps146
  go_upto_region 1 with (refine Great.wpList_runTo rfl _ rfl _ _ (run_alloc_blk _ rfl) ?_)
  refine wp_world (fun W => Blk W N (ints .i16 (List.replicate 64 0)) 57 ∧ Below N w W) ⟨Blk.new' _ _ _ HN.out, (Below.refl _ _).alloc (by rw [HN.out]; exact Nat.le_refl _) _⟩ ?_
  rintro W0 ⟨b0, hB⟩
  rw [← HN.out]
  have hb1 := h.box.below hB hbN
  have q0 := hb1.cell 0
  have q1 := hb1.cell 1
  have q2 := hb1.cell 2
  go_upto_region 5 with (go_at_call 153; refine (plane_place_no c r row col _ hn _).mono ?_; rintro e w2 ⟨rfl, hb2⟩)
  have hN0 := b0.lt
  have b2 := b0.below hb2 b0.lt
  go_wp2_with (first | refine wpList_buildTo rfl 57 _ rfl (some 25) rfl (ints .i16 (List.replicate 64 0)) (by kernel_rfl) ?_ | refine wpList_store_rowTo rfl 57 _ _ rfl rfl N (ints .i16 (List.replicate 64 0)) rfl rfl 57 _ b2 (by rw [ints_size]; kernel_rfl) rfl (ints_one _ _) ?_)
  refine bodyPost_ret (results_row_tmp rfl _ _ N 57 _ _ rfl (b2.row _) Try.underlying57 rfl (by rw [ints_size]; kernel_rfl)) rfl ?_
  exact ⟨rfl, Below.setRow (hB.trans (hb2.mono (Nat.le_of_lt hN0))) (Nat.le_refl _) _⟩
theorem sheet_at (lo b c r : Nat) (u : Value) (bs : List (List Int)) (row col : Nat) (hr : row < r) (hc : col < c) (hcr : c * r ≤ 16384) (w : World) (h : Pl.Sheet w lo b c r u bs) :
    Calls Try.prog 146 #[.pointer (some ⟨b, 0, none⟩), .int .i64 row, .int .i64 col] w fun e w' => e = .returned (.tuple #[.agg (ints .i16 (Pl.blk bs (row * c + col))), .bool true]) ∧ Below w.heap.size w w' := by
  have hkl : row * c + col < c * r := by
    have h1 : (row + 1) * c ≤ r * c := Nat.mul_le_mul_right _ hr
    rw [Nat.add_mul, Nat.one_mul] at h1
    rw [Nat.mul_comm c r]
    omega
  obtain ⟨g, cap, rfl, hlo, hgs, _⟩ := h.row.cells (by omega)
  obtain ⟨z, hz⟩ : ∃ z : Nat, row * c = z := ⟨_, rfl⟩
  have hzi : (row : Int) * (c : Int) = (z : Int) := by rw [← hz]; push_cast; rfl
  rw [hz] at hkl ⊢
  have hin : Pl.isIn c r row col := ⟨by omega, by omega, by omega, by omega⟩
  have hpl := fun W => plane_place_yes c r row col (.slice (some ⟨g, 0, none⟩) (c * r) cap) hin z hzi (IntWalk.wrap64_in _ (by clear hzi; omega)) (IntWalk.wrap64_in _ (by clear hzi; omega)) W
  obtain ⟨N, hN⟩ : ∃ N, N = w.heap.size := ⟨_, rfl⟩
  have HN := Lib.hid hN
  have hbN : b < N := by rw [hN]; exact h.box.lt
  rw [← hN]
  obtain ⟨n, hn⟩ : ∃ n, c * r = n := ⟨_, rfl⟩
  have hbox := h.box
  have hrow := h.row.ar
  have h64 := h.h64
  have hlen := h.len
  rw [hn] at hkl hpl hbox hrow hcr hlen
  have HNN := Lib.hid hn
  clear hN hz hn hzi h
  have hk1 : (z : Int) + (col : Int) < (n : Int) := by omega
  have hk0 : (0 : Int) ≤ (z : Int) + (col : Int) := by omega
  have hkn : ((z : Int) + (col : Int)).toNat = z + col := by omega
  have hkb : z + col < bs.length := by rw [hlen]; exact hkl
  have hbx := Pl.blk_get hkb
  have hb64 := Pl.blk_len h64 (z + col)
  have HLEN := Lib.hid hlen
  clear hlen
  go_enter Try.func146, Try.ntmps146
  go_upto_region 1 with (refine Great.wpList_runTo rfl _ rfl _ _ (run_alloc_blk _ rfl) ?_)
  refine wp_world (fun W => Blk W N (ints .i16 (List.replicate 64 0)) 57 ∧ Below N w W) ⟨Blk.new' _ _ _ HN.out, (Below.refl _ _).alloc (by rw [HN.out]; exact Nat.le_refl _) _⟩ ?_
  rintro W0 ⟨b0, hB⟩
  rw [← HN.out]
  have hN0 : N < W0.heap.size := b0.lt
  have hb1 := hbox.below hB hbN
  have q0 := hb1.cell 0
  have q1 := hb1.cell 1
  have q2 := hb1.cell 2
  go_upto_region 6 with (go_at_call 153; refine (hpl _).mono ?_; rintro e w2 ⟨rfl, hb2⟩)
  have b02 := b0.below hb2 b0.lt
  have hB2 := hB.trans (hb2.mono (by omega))
  have hA2 := hrow.below (w' := w2) (by rw [← HN.out]; exact hB2)
  have hb3 := hbox.below hB2 hbN
  have q3 := hb3.cell 2
  clear q0 q1 q2 hb1
  go_wp2_with (first | refine Great.wpList_runTo rfl _ rfl _ _ (ar_loadx hA2 h64 (z + col) hkb _ hbx _ rfl (by show _ = Value.pointer (some (Addr.add ⟨g, 0, none⟩ ((z + col) * 64))); rw [Addr.add_mid, Nat.zero_add]; rfl)) ?_ | refine wpList_store_rowTo rfl 57 _ _ rfl rfl N (ints .i16 (Pl.blk bs (z + col))) rfl rfl 57 _ b02 (by rw [ints_size, hb64]; kernel_rfl) (by rw [ints_size, ints_size, hb64]; rfl) (ints_one _ _) ?_)
  refine bodyPost_ret (results_row_tmp rfl _ _ N 57 _ _ rfl (b02.row (ints .i16 (Pl.blk bs (z + col)))) Try.underlying57 rfl (by rw [ints_size, hb64]; kernel_rfl)) rfl ?_
  exact ⟨rfl, Below.setRow hB2 (Nat.le_refl _) _⟩
theorem plane_of_no (c r : Int) (bu : Option Addr) (n cap : Nat) (hr : Pl.right c r n = false) (w : World) :
    Calls Try.prog 145 #[.agg #[.int .i64 c, .int .i64 r, .slice bu n cap]] w fun e w' => e = .returned (.tuple #[.pointer none, .int .i64 1]) ∧ Below w.heap.size w w' := by
  obtain ⟨N, hN⟩ : ∃ N, N = w.heap.size := ⟨_, rfl⟩
  have HN := Lib.hid hN
  rw [← hN]
  clear hN
  go_enter Try.func145, Try.ntmps145
  go_upto_region 1 with fail
  refine wp_world (fun W => Blk W N #[.int .i64 c, .int .i64 r, .slice bu n cap] 61 ∧ Below N w W) ⟨Blk.new' _ _ _ HN.out, (Below.refl _ _).alloc (by rw [HN.out]; exact Nat.le_refl _) _⟩ ?_
  rintro W0 ⟨b0, hB⟩
  rw [← HN.out]
  have q0 := b0.cell 0
  have q1 := b0.cell 1
  have q2 := b0.cell 2
  have hri := plane_right c r n bu cap W0
  rw [hr] at hri
  go_wp2_with (go_at_call 118; refine hri.mono ?_; rintro e w1 ⟨rfl, hb1⟩)
  go_ret2
  exact ⟨rfl, hB.trans (hb1.mono (Nat.le_of_lt b0.lt))⟩
theorem plane_of (c r : Nat) (u : Value) (bs : List (List Int)) (h64 : Right64 bs) (hr : Pl.right c r bs.length = true) (hn : bs.length = c * r) (w : World) (hA : Ar w 64 u bs.length (bcells bs)) :
    Calls Try.prog 145 #[.agg #[.int .i64 c, .int .i64 r, u]] w fun e w' => ∃ b v, e = .returned (.tuple #[.pointer (some ⟨b, 0, none⟩), .int .i64 0]) ∧ Pl.Sheet w' w.heap.size b c r v bs ∧ w.heap.size ≤ b ∧ Below w.heap.size w w' := by
  have hb6 : bs.length ≤ 1000000 := by
    unfold Pl.right at hr
    simp only [Bool.and_eq_true, beq_iff_eq] at hr
    have := Pl.sized_ok hr.1
    omega
  obtain ⟨bu, cap, rfl, _, _⟩ := hA.len
  obtain ⟨N, hN⟩ : ∃ N, N = w.heap.size := ⟨_, rfl⟩
  have HN := Lib.hid hN
  have HLEN := Lib.hid hn
  rw [← hN]
  clear hN hn
  go_enter Try.func145, Try.ntmps145
  go_upto_region 1 with fail
  refine wp_world (fun W => Blk W N #[.int .i64 c, .int .i64 r, .slice bu bs.length cap] 61 ∧ Below N w W) ⟨Blk.new' _ _ _ HN.out, (Below.refl _ _).alloc (by rw [HN.out]; exact Nat.le_refl _) _⟩ ?_
  rintro W0 ⟨b0, hB⟩
  rw [← HN.out]
  have q0 := b0.cell 0
  have q1 := b0.cell 1
  have q2 := b0.cell 2
  have hri := plane_right c r bs.length bu cap W0
  rw [hr] at hri
  have hN0 := Nat.le_of_lt b0.lt
  go_upto_region 3 with (go_at_call 118; refine hri.mono ?_; rintro e w1 ⟨rfl, hb1⟩)
  have b1 := b0.below hb1 b0.lt
  have hB1 := hB.trans (hb1.mono hN0)
  have hcl := blocks_clone _ _ _ hb6 w1 (hA.below (by rw [← HN.out]; exact hB1)) (bcells_one _)
  clear q0 q1 q2 b0 hB hb1 hri
  have q2 := b1.cell 2
  go_upto_region 4 with (go_at_call 83; refine hcl.mono ?_; rintro e w2 ⟨v, rfl, hR, hb2⟩; obtain ⟨bv, cv, rfl⟩ := hR.len; have b2 := b1.below hb2 b1.lt; have q3 := b2.cell 2; have f3 := b2.free 2)
  have hN1 : N < w1.heap.size := b1.lt
  refine wp_world (fun W => Blk W N #[.int .i64 c, .int .i64 r, .slice bv bs.length cv] 61 ∧ Row W N 57 64 (.slice bv bs.length cv) bs.length (bcells bs) ∧ Below N w W) ⟨b2.set 2 _, (hR.other ⟨N, 2, none⟩ _ (hR.typed b2 (by decide))).down (by omega), (hB1.trans (hb2.mono (by omega))).setCell (p := ⟨N, 2, none⟩) (Nat.le_refl _) _⟩ ?_
  clear b1 b2 q2 q3 f3 hcl hR hb2 hB1 hN1 hN0
  rintro W3 ⟨b3, hR, hB3⟩
  have q0 := b3.cell 0
  have q1 := b3.cell 1
  have q2 := b3.cell 2
  go_wp2_with fail
  go_ret2
  have hn3 : N < W3.heap.size := b3.lt
  refine ⟨_, _, rfl, ⟨Blk.new _ _ _, ?_, h64, HLEN.out⟩, by omega, hB3.alloc (by omega) _⟩
  have := hR.grow ((Below.refl _ _).alloc (Nat.le_refl W3.heap.size) (.cells #[.int .i64 c, .int .i64 r, .slice bv bs.length cv] 180))
  rw [HLEN.out] at this ⊢
  exact this
end Go.Proofs.Ytgmhhocpdfdplaa
