/- The reference's Window, walked. -/
import Derived.Test.YtpjocfcemjdneaaSel
namespace Go.Proofs.Ytpjocfcemjdneaa
open Go.RowKit
set_option maxRecDepth 100000
set_option maxHeartbeats 8000000
theorem Blk.ar1 {w : World} {g : Nat} {x : List Int} {t : TypeId} (h : Blk w g (ints .i16 x) t) (hx : x.length = 64) : Ar w 64 (.slice (some ⟨g, 0, none⟩) 1 1) 1 (bcells [x]) := by
  refine ⟨by simp [bcells, hx], .inr ⟨_, 1, rfl, Nat.le_refl _, by unfold maxLen; decide, fun j v hj => ?_⟩⟩
  rw [Go.Addr.add_mid, Nat.zero_add, h.cell]
  simp only [bcells, List.flatMap_cons, List.flatMap_nil, List.append_nil] at hj
  simpa [ints] using hj
namespace Pl
structure RW (N c7 : Nat) (c r : Nat) (n : Nat) (bu : Option Addr) (cap : Nat) (a b h d : Nat) (v : Value) (L : List (List Int)) (w W : World) : Prop where
  bP : Blk W N #[.int .i64 c, .int .i64 r, .slice bu n cap] 24
  bR : Blk W (N + 1) #[.int .i64 a, .int .i64 b, .int .i64 h, .int .i64 d] 36
  bO : Blk W (N + 2) #[.int .i64 0, .int .i64 0, .slice none 0 0] 24
  bW : Blk W c7 #[.int .i64 d, .int .i64 h, v] 24
  row : Row W (c7 + 1) 34 64 v L.length (bcells L)
  hB : Below N w W
theorem RW.below {N c7 c r n : Nat} {bu : Option Addr} {cap a b h d : Nat} {v : Value} {L : List (List Int)} {w W W' : World} (q : RW N c7 c r n bu cap a b h d v L w W) (hb : Below W.heap.size W W') : RW N c7 c r n bu cap a b h d v L w W' :=
  ⟨q.bP.below hb q.bP.lt, q.bR.below hb q.bR.lt, q.bO.below hb q.bO.lt, q.bW.below hb q.bW.lt, q.row.grow hb, q.hB.trans (hb.mono (Nat.le_of_lt q.bP.lt))⟩
end Pl
theorem ref_window (c r a b h d : Nat) (u : Value) (bs : List (List Int)) (h64 : Right64 bs) (hn : bs.length = c * r) (hr : Pl.right c r bs.length = true) (h1 : a + h ≤ r) (h2 : b + d ≤ c) (hd : 1 ≤ d) (hh : 1 ≤ h) (w : World) (hA : Ar w 64 u bs.length (bcells bs)) :
    Calls Try.prog 22 #[.agg #[.int .i64 c, .int .i64 r, u], .agg #[.int .i64 a, .int .i64 b, .int .i64 h, .int .i64 d]] w fun e w' =>
      ∃ v, e = .returned (.tuple #[.agg #[.int .i64 d, .int .i64 h, v], .int .i64 0]) ∧ Row w' w.heap.size 34 64 v (Pl.win bs c a b d h).length (bcells (Pl.win bs c a b d h)) ∧ Below w.heap.size w w' := by
  obtain ⟨bu, cap, rfl, -, -⟩ := hA.len
  have hsz : 1 ≤ c ∧ 1 ≤ r ∧ c ≤ 16384 ∧ r ≤ 16384 ∧ c * r ≤ 16384 := by
    unfold Pl.right at hr
    simp only [Bool.and_eq_true, beq_iff_eq] at hr
    obtain ⟨h1, h2, h3, h4, _, h6⟩ := Pl.sized_ok hr.1
    exact ⟨by omega, by omega, by omega, by omega, by exact_mod_cast h6⟩
  have hno : ¬ Pl.out c r a b h d := by unfold Pl.out; omega
  have hbl : bs.length ≤ 16384 := by rw [hn]; exact hsz.2.2.2.2
  have hsw := Pl.sel_win hn h1 h2 hd
  rw [← hsw]
  clear hn hsw
  obtain ⟨N, hN⟩ : ∃ N, N = w.heap.size := ⟨_, rfl⟩
  have HN := Lib.hid hN
  rw [← hN]
  clear hN
  go_enter Try.func22, Try.ntmps22
  go_upto_region 1 with fail
  refine wp_world (fun W => Blk W N #[.int .i64 c, .int .i64 r, .slice bu bs.length cap] 24 ∧ Blk W (N + 1) #[.int .i64 a, .int .i64 b, .int .i64 h, .int .i64 d] 36 ∧ Blk W (N + 2) #[.int .i64 0, .int .i64 0, .slice none 0 0] 24 ∧ Below N w W)
    ⟨((Blk.new' _ _ _ HN.out).alloc _).alloc _, (Blk.new' _ _ _ (by simp [HN.out])).alloc _, Blk.new' _ _ _ (by simp [HN.out]), (((Below.refl _ _).alloc (by rw [HN.out]; exact Nat.le_refl _) _).alloc (by rw [HN.out]; simp) _).alloc (by rw [HN.out]; simp; omega) _⟩ ?_
  rintro W0 ⟨b0, b1, b2, hB⟩
  rw [← HN.out]
  have hw0 := ref_within c r bs.length bu cap a b h d hr W0
  have hN0 := b0.lt
  go_upto_region 4 with (first
    | (refine wpList_load_row rfl 24 _ rfl N rfl 24 _ _ _ b0 Try.underlying24 rfl (by kernel_rfl) ?_)
    | (refine wpList_load_row rfl 36 _ rfl (N + 1) rfl 36 _ _ _ b1 Try.underlying36 rfl (by kernel_rfl) ?_)
    | (go_at_call 36; refine hw0.mono ?_; rintro e w1 ⟨_, he, hb⟩; obtain rfl := he hno; have b01 := b0.below hb b0.lt; have b11 := b1.below hb b1.lt; have b21 := b2.below hb b2.lt; have hB1 := hB.trans (hb.mono (by omega))))
  have r2 := b11.cell 2
  have r3 := b11.cell 3
  go_upto_region 5 with fail
  obtain ⟨c7, hc7⟩ : ∃ c, c = w1.heap.size := ⟨_, rfl⟩
  have hN7 : N + 2 < c7 := by rw [hc7]; exact b21.lt
  refine wp_world (fun W => Pl.RW N c7 c r bs.length bu cap a b h d (.slice none 0 0) [] w W)
    ⟨b01.alloc _, b11.alloc _, b21.alloc _, Blk.new' _ _ _ hc7, by simpa [bcells] using Row.nil _ _ _ _, hB1.alloc (by omega) _⟩ ?_
  rw [← hc7]
  clear hc7 r2 r3 b0 b1 b2 hB hb b01 b11 b21 hB1 hw0 hN0
  rintro W1 hP
  go_wp2_with fail
  go_loopw [8] (fun i wr => ∃ (k : Nat) (v : Value), k ≤ bs.length ∧ i = .int .i64 k ∧ Pl.RW N c7 c r bs.length bu cap a b h d v (Pl.sel bs (Pl.insI a b h d c) k) w wr) (fun i _ => bs.length - (intOf i).toNat)
  case atStart => exact ⟨0, _, Nat.zero_le _, rfl, hP⟩
  case round =>
    clear hP
    obtain ⟨k, v, hk, rfl, hP⟩ := hrel
    have p2 := hP.bP.cell 2
    by_cases hlt : k < bs.length
    · have tk : decide (k < bs.length) = true := by simpa using hlt
      obtain ⟨ad, cp, hsl, -, -⟩ := hA.some (by omega)
      obtain ⟨rfl, rfl⟩ : bu = some ad ∧ cap = cp := by simpa using hsl
      clear hsl
      go_upto_region 8 with fail
      have hcN : ¬ c = 0 := by omega
      have hq1 : IntKind.i64.wrap ((k : Int) / (c : Int)) = (k : Int) / (c : Int) := by
        have := IntWalk.i64_quo k c (by omega)
        rwa [Int.tdiv_eq_ediv_of_nonneg (by omega)] at this
      have hkc : k / c ≤ k := Nat.div_le_self _ _
      have hkm : k % c ≤ k := Nat.mod_le _ _
      have hkc0 : (0 : Int) ≤ (k : Int) / (c : Int) ∧ (k : Int) / (c : Int) ≤ 1000000000000 := by rw [← Int.natCast_ediv]; generalize k / c = q at *; omega
      have hkm0 : (0 : Int) ≤ (k : Int) % (c : Int) ∧ (k : Int) % (c : Int) ≤ 1000000000000 := by rw [← Int.natCast_emod]; generalize k % c = q at *; omega
      have hins := fun W => ref_inside a b h d ((k : Int) / (c : Int)) ((k : Int) % (c : Int)) (by omega) (by omega) hkc0 hkm0 W
      have hS : Pl.insB a b h d ((k : Int) / (c : Int)) ((k : Int) % (c : Int)) = Pl.insI a b h d c k := by unfold Pl.insI; rw [Int.natCast_ediv, Int.natCast_emod]
      rw [hS] at hins
      clear hS hkc hkm hkc0 hkm0
      refine wp_region_det (fun W => Pl.RW N c7 c r bs.length (some ad) cap a b h d v (Pl.sel bs (Pl.insI a b h d c) k) w W) (by kernel_rfl) (by kernel_rfl) (hP.below (Below.refl _ _).drew) ?_
      clear hP p2
      refine det_load_row (by rfl) 36 _ rfl (N + 1) rfl 36 _ _ (fun w1 hS => hS.bR) Try.underlying36 rfl (by kernel_rfl) ?_
      simp only [Act.put, List.setIfInBounds_toArray, List.set_cons_zero, List.set_cons_succ]
      (repeat (first | (refine det_skip (by rfl) ?_; simp only [Act.put, List.setIfInBounds_toArray, List.set_cons_zero, List.set_cons_succ]) | (refine det_pure (v := ?_) (by rfl) ?_ ?_; rotate_left; (intro wS hS; go_simp; try with_reducible rfl); simp only [Act.put, List.setIfInBounds_toArray, List.set_cons_zero, List.set_cons_succ])))
      refine det_pure (v := .int .i64 c) (by rfl) (fun w1 hS => by have cy := hS.bP.cell 0; go_simp; try with_reducible rfl) ?_
      simp only [Act.put, List.setIfInBounds_toArray, List.set_cons_zero, List.set_cons_succ]
      refine det_pure (v := .int .i64 ((k : Int) / (c : Int))) (by rfl) (fun w1 hS => by go_simp) ?_
      simp only [Act.put, List.setIfInBounds_toArray, List.set_cons_zero, List.set_cons_succ]
      (repeat (first | (refine det_skip (by rfl) ?_; simp only [Act.put, List.setIfInBounds_toArray, List.set_cons_zero, List.set_cons_succ]) | (refine det_pure (v := ?_) (by rfl) ?_ ?_; rotate_left; (intro wS hS; go_simp; try with_reducible rfl); simp only [Act.put, List.setIfInBounds_toArray, List.set_cons_zero, List.set_cons_succ])))
      refine det_pure (v := .int .i64 c) (by rfl) (fun w1 hS => by have cy := hS.bP.cell 0; go_simp; try with_reducible rfl) ?_
      simp only [Act.put, List.setIfInBounds_toArray, List.set_cons_zero, List.set_cons_succ]
      refine det_pure (v := .int .i64 ((k : Int) % (c : Int))) (by rfl) (fun w1 hS => by go_simp; exact Int.tmod_eq_emod_of_nonneg (by omega)) ?_
      simp only [Act.put, List.setIfInBounds_toArray, List.set_cons_zero, List.set_cons_succ]
      refine det_call (v := .bool (Pl.insI a b h d c k)) (by rfl) (by intro wS hS; go_simp; first | done | exact ⟨rfl, rfl⟩) (fun W hS => ?_) ?_
      · exact (hins W).mono fun e w' hh => ⟨hh.1, hS.below hh.2⟩
      simp only [Act.put, List.setIfInBounds_toArray, List.set_cons_zero, List.set_cons_succ]
      refine det_nil ?_
      rintro W2 hP
      clear hins hq1
      by_cases hin : Pl.insI a b h d c k = true
      · rw [hin]
        have hsel := Pl.sel_yes (bs := bs) hin
        have HSEL := Lib.hid hsel
        clear hsel
        have hbx := Pl.blk_get hlt
        have hb64 := Pl.blk_len h64 k
        have hln := Pl.sel_len bs (Pl.insI a b h d c) k
        generalize Pl.blk bs k = x at *
        generalize Pl.sel bs (Pl.insI a b h d c) k = L at *
        obtain ⟨bv, cv, rfl⟩ := hP.row.len
        have ij0 : (0 : Int) ≤ (k : Int) := by omega
        have ij1 : (k : Int) < (bs.length : Int) := by omega
        have hcN : N < c7 := by omega
        have hc0 : c7 < W2.heap.size := hP.bW.lt
        go_upto_region 9 with fail
        have hGm : ∀ W W', Pl.RW N c7 c r bs.length (some ad) cap a b h d (.slice bv L.length cv) L w W → Below W.heap.size W W' → Pl.RW N c7 c r bs.length (some ad) cap a b h d (.slice bv L.length cv) L w W' := fun W W' h hb => h.below hb
        refine wp_region_mono [0, 1, 2, 3, 4, 5, 6, 7] [8, 9, 10] (fun W => Pl.RW N c7 c r bs.length (some ad) cap a b h d (.slice bv L.length cv) L w W)
          (fun | 7 => some (sSlice 1 (ints .i16 x) 34) | _ => none) (fun _ => []) (by kernel_rfl) (by kernel_rfl) (hP.below (Below.refl _ _).drew) ?_ ?_
        · intro i s hs
          match i with
          | 7 => cases hs; exact fun _ _ => sSlice_mono _ _ _ _ _
        clear hP
        simp only [pick, List.getD_cons_succ, List.getD_cons_zero, List.zip_cons_cons, List.zip_nil_right]
        (repeat (first | (refine mono_skip (by rfl) ?_; simp only [Act.put, List.setIfInBounds_toArray, List.set_cons_zero, List.set_cons_succ]) | (refine mono_pure (v := ?_) (by rfl) rfl ?_ ?_; rotate_left; (intro wS hS; go_simp; try with_reducible rfl); simp only [Act.put, List.setIfInBounds_toArray, List.set_cons_zero, List.set_cons_succ])))
        refine mono_pure (v := .slice bv L.length cv) (by rfl) rfl (fun w1 hG => by have cy := hG.bW.cell 2; go_simp; try with_reducible rfl) ?_
        simp only [Act.put, List.setIfInBounds_toArray, List.set_cons_zero, List.set_cons_succ]
        (repeat (first | (refine mono_skip (by rfl) ?_; simp only [Act.put, List.setIfInBounds_toArray, List.set_cons_zero, List.set_cons_succ]) | (refine mono_pure (v := ?_) (by rfl) rfl ?_ ?_; rotate_left; (intro wS hS; go_simp; try with_reducible rfl); simp only [Act.put, List.setIfInBounds_toArray, List.set_cons_zero, List.set_cons_succ])))
        refine mono_pure (v := .slice (some ad) bs.length cap) (by rfl) rfl (fun w1 hG => by have cy := hG.bP.cell 2; go_simp; try with_reducible rfl) ?_
        simp only [Act.put, List.setIfInBounds_toArray, List.set_cons_zero, List.set_cons_succ]
        (repeat (first | (refine mono_skip (by rfl) ?_; simp only [Act.put, List.setIfInBounds_toArray, List.set_cons_zero, List.set_cons_succ]) | (refine mono_pure (v := ?_) (by rfl) rfl ?_ ?_; rotate_left; (intro wS hS; go_simp; try with_reducible rfl); simp only [Act.put, List.setIfInBounds_toArray, List.set_cons_zero, List.set_cons_succ])))
        refine mono_pure (by rfl) rfl (fun w1 hG => ar_loadx (hA.below (by rw [← HN.out]; exact hG.hB)) h64 k hlt x hbx _ rfl rfl) ?_
        simp only [Act.put, List.setIfInBounds_toArray, List.set_cons_zero, List.set_cons_succ]
        refine mono_slice 1 (ints .i16 x) 34 (by rfl) rfl hGm (fun wS => run_exec_slice1 _ rfl x rfl hb64) (fun gs => ?_)
        simp only [Act.put, List.setIfInBounds_toArray, List.set_cons_zero, List.set_cons_succ]
        refine mono_nil ?_
        rintro w1 hP ⟨hbs, I, hI1, hI2⟩
        obtain ⟨i1, i2, i3, ⟨g, hg, i4, i5, i6⟩⟩ := hI1 7 _ (upd_self _ _ _)
        obtain rfl : gs = g := by simpa using hg
        have hmid := i6.ar1 hb64
        have hc1 : c7 + 1 ≤ w1.heap.size := hP.bW.lt
        have hR := hP.row
        have hb7 := hP.bW
        have hne : ∀ g, (Value.slice bv L.length cv).ownBlock = some g → c7 + 1 ≤ g := fun g hg => (hR.lt g hg).1
        clear hI1 hI2 i1 i2 i3 i4 i5 hg hbs hGm
        go_wp2_with (refine wpList_append_ar _ rfl _ _ 22 rfl (c7 + 1) 34 _ _ 64 128 rfl rfl rfl rfl rfl rfl _ L.length _ rfl hR _ 1 _ rfl hmid (bcells_one _) (by simp only [maxLen]; omega) (by omega) (by omega) (fun v' w4 hR4 hg4 hat => ?_); obtain ⟨bz, cz, rfl⟩ := hR4.len; have hg5 : w1.grownBy w4 (Value.slice bv L.length cv).ownBlock := hg4; have b74 := hb7.grown hg5 (fun e => by have := hne _ e.symm; omega); have q4 := b74.cell 2; have f4 := b74.free 2)
        have hnr : ∀ g, g < c7 + 1 → some g ≠ (Value.slice bv L.length cv).ownBlock := fun g hg e => by have := hne _ e.symm; omega
        have hlen : (L ++ [x]).length = L.length + 1 := by simp
        refine ⟨⟨k + 1, .slice bz (L.length + 1) cz, hlt, by go_num, ?_⟩, by simp [intOf]; omega⟩
        rw [HSEL.out]
        refine ⟨(hP.bP.grown hg5 (hnr _ (by omega))).other _ _ (by show N ≠ c7; omega), (hP.bR.grown hg5 (hnr _ (by omega))).other _ _ (by show N + 1 ≠ c7; omega), (hP.bO.grown hg5 (hnr _ (by omega))).other _ _ (by show N + 2 ≠ c7; omega), b74.set 2 _, ?_, ?_⟩
        · rw [hlen, bcells_append]
          exact hR4.other _ _ (fun g hg => by have := (hR4.lt g hg).1; show g ≠ c7; omega)
        · exact (Below.grown hP.hB (by omega) hg5 (fun g e => by have := hne g e; omega)).setCell (p := ⟨c7, 2, none⟩) (by show N ≤ c7; omega) _
      · have hin : Pl.insI a b h d c k = false := by simpa using hin
        rw [hin]
        have hsel := Pl.sel_no (bs := bs) hin
        have HSEL := Lib.hid hsel
        clear hsel
        go_wp2_with fail
        exact ⟨⟨k + 1, v, hlt, by go_num, by rw [HSEL.out]; exact hP⟩, by simp [intOf]; omega⟩
    · have tk : decide (k < bs.length) = false := by simpa using hlt
      obtain rfl : k = bs.length := by omega
      obtain ⟨bv, cv, rfl⟩ := hP.row.len
      go_wp2_with (first
        | (refine wpList_load_row rfl 24 _ rfl c7 rfl 24 _ _ _ hP.bW Try.underlying24 rfl (by kernel_rfl) ?_)
        | (refine wpList_store_row rfl 24 _ _ rfl (N+2) _ rfl rfl 24 _ hP.bO (by kernel_rfl) rfl (by simp [Value.oneCell']) ?_))
      refine bodyPost_ret (results_row_tmp rfl _ _ (N + 2) 24 _ _ rfl (hP.bO.row _) Try.underlying24 rfl (by kernel_rfl)) rfl ?_
      exact ⟨_, rfl, Row.down (Row.same (w := wr) hP.row (fun g hg => setRow_other _ _ _ _ (by have := (hP.row.lt g hg).1; omega))) (by omega), Below.setRow hP.hB (by omega) _⟩
end Go.Proofs.Ytpjocfcemjdneaa
