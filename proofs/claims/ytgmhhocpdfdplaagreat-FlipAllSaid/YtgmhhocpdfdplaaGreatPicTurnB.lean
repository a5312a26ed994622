/- The document's turn of a little picture: its walk. -/
import Derived.Test.YtgmhhocpdfdplaaGreatPicB
import Derived.Deep.DeepCutAuto
namespace Go.Proofs.YtgmhhocpdfdplaaGreat
open Go.RowKit
namespace Pc
abbrev Pict := Nat × Nat × List Nat
/-- Rows of columns of numbers, row by row: the first a rows, and b of the next. -/
def part (cols : Nat) (f : Nat → Nat → Nat) (a b : Nat) : List Nat := ((List.range a).flatMap fun row => (List.range cols).map (f row)) ++ (List.range b).map (f a)
def grid (rows cols : Nat) (f : Nat → Nat → Nat) : List Nat := part cols f rows 0
theorem part_len (cols : Nat) (f : Nat → Nat → Nat) (a b : Nat) : (part cols f a b).length = a * cols + b := by
  unfold part
  rw [List.length_append, List.length_map, List.length_range]
  congr 1
  induction a with
  | zero => simp
  | succ n ih => rw [List.range_succ, List.flatMap_append, List.length_append, ih]; simp [Nat.succ_mul]
theorem part_succ (cols : Nat) (f : Nat → Nat → Nat) (a b : Nat) : part cols f a b ++ [f a b] = part cols f a (b + 1) := by
  unfold part
  rw [List.range_succ, List.map_append, List.append_assoc]
  rfl
theorem part_row (cols : Nat) (f : Nat → Nat → Nat) (a : Nat) : part cols f a cols = part cols f (a + 1) 0 := by
  unfold part
  rw [List.range_succ, List.flatMap_append]
  simp
theorem part_zero (cols : Nat) (f : Nat → Nat → Nat) : part cols f 0 0 = [] := rfl
theorem grid_len (rows cols : Nat) (f : Nat → Nat → Nat) : (grid rows cols f).length = rows * cols := by
  unfold grid; rw [part_len]; rfl
theorem under {a b rows cols : Nat} (ha : a < rows) (hb : b < cols) : a * cols + b < rows * cols := by
  have : (a + 1) * cols ≤ rows * cols := Nat.mul_le_mul_right _ ha
  rw [Nat.succ_mul] at this
  omega
def f1 (p : Pict) (row col : Nat) : Nat := p.2.2.getD (col * p.1 + row) 0
def f2 (p : Pict) (row col : Nat) : Nat := p.2.2.getD (row * p.1 + p.1 - 1 - col) 0
def f3 (p : Pict) (row col : Nat) : Nat := p.2.2.getD ((p.2.1 - 1 - row) * p.1 + col) 0
def t1 (k : Nat) (p : Pict) : Pict := if 4 ≤ k then (p.2.1, p.1, grid p.1 p.2.1 (f1 p)) else p
def t2 (k : Nat) (p : Pict) : Pict := if k % 2 = 1 then (p.1, p.2.1, grid p.2.1 p.1 (f2 p)) else p
def t3 (k : Nat) (p : Pict) : Pict := if k / 2 % 2 = 1 then (p.1, p.2.1, grid p.2.1 p.1 (f3 p)) else p
def turn (k : Nat) (p : Pict) : Pict := t3 k (t2 k (t1 k p))
/-- Right: as many numbers as places, few. -/
structure Ok (p : Pict) : Prop where
  len : p.2.2.length = p.1 * p.2.1
  c : p.1 ≤ 16384
  r : p.2.1 ≤ 16384
  cr : p.1 * p.2.1 ≤ 16384
theorem t1_ok (k : Nat) {p : Pict} (h : Ok p) : Ok (t1 k p) := by
  unfold t1; split
  · exact ⟨by simp only [grid_len]; exact Nat.mul_comm .., h.r, h.c, by rw [Nat.mul_comm]; exact h.cr⟩
  · exact h
theorem t2_ok (k : Nat) {p : Pict} (h : Ok p) : Ok (t2 k p) := by
  unfold t2; split
  · exact ⟨by simp only [grid_len]; exact Nat.mul_comm .., h.c, h.r, h.cr⟩
  · exact h
theorem t3_ok (k : Nat) {p : Pict} (h : Ok p) : Ok (t3 k p) := by
  unfold t3; split
  · exact ⟨by simp only [grid_len]; exact Nat.mul_comm .., h.c, h.r, h.cr⟩
  · exact h
theorem turn_ok (k : Nat) {p : Pict} (h : Ok p) : Ok (turn k p) := t3_ok k (t2_ok k (t1_ok k h))
/-- A slice of these numbers. -/
def Nums (w : World) (lo : Nat) (u : Value) (l : List Nat) : Prop := Row w lo 3 1 u l.length (cells l)
theorem Nums.add {w : World} {lo : Nat} {u : Value} {l : List Nat} {x : Nat} (h : Row w lo 3 1 u (l.length + 1) (cells l ++ [.int .i64 x])) : Nums w lo u (l ++ [x]) := by
  unfold Nums; rw [← cells_add, List.length_append]; exact h
theorem Nums.at {w : World} {lo g n cap : Nat} {l : List Nat} (h : Nums w lo (.slice (some ⟨g, 0, none⟩) n cap) l) {y : Nat} (hy : y < l.length) : w.cell? ⟨g, y, none⟩ = some (.int .i64 (l.getD y 0 : Nat)) := by
  obtain ⟨g', cap', hv, _, _, hc⟩ := Row.cells h (by omega)
  simp only [Value.slice.injEq, Option.some.injEq, Addr.mk.injEq, and_true] at hv
  rw [hv.1]
  exact (hc y (by rw [Nat.mul_one]; exact hy)).trans (cells_get l y hy)
theorem wr64 {x : Int} {y : Nat} (h : x = y) (hy : y ≤ 1000000) : IntKind.i64.wrap x = (y : Int) := by
  subst h
  exact IntWalk.i64_in _ (by omega)
def St (w wr : World) (N M c r : Nat) (u : Value) (l : List Nat) (C R : Nat) (m : List Nat) : Prop :=
  Blk wr N #[.int .i64 c, .int .i64 r, u] 61 ∧ Nums wr 0 u l ∧ Blk wr (N+1) #[.int .i64 0, .int .i64 0, .slice none 0 0] 61 ∧ (∃ v, Blk wr M #[.int .i64 C, .int .i64 R, v] 61 ∧ Nums wr (M+1) v m) ∧ Below N w wr
theorem St.init {w W W' : World} {N M c r : Nat} {u : Value} {l : List Nat} {C R : Nat} (hM : M = W.heap.size) (hN : N ≤ M) (b0 : Blk W N #[.int .i64 c, .int .i64 r, u] 61) (hR : Nums W 0 u l) (b1 : Blk W (N+1) #[.int .i64 0, .int .i64 0, .slice none 0 0] 61) (hB : Below N w W)
    (hW : W' = W.alloc (.cells #[.int .i64 C, .int .i64 R, .slice none 0 0] 61)) : St w W' N M c r u l C R [] := by
  subst hW
  exact ⟨b0.alloc _, Row.grow hR ((Below.refl _ _).alloc (Nat.le_refl _) _), b1.alloc _, ⟨_, Blk.new' _ _ _ hM, Row.nil _ _ _ _⟩, hB.alloc (by omega) _⟩
def Gs (w : World) (N M c r : Nat) (u : Value) (l : List Nat) (C R : Nat) (v : Value) (m : List Nat) (W : World) : Prop :=
  Blk W N #[.int .i64 c, .int .i64 r, u] 61 ∧ Nums W 0 u l ∧ Blk W (N+1) #[.int .i64 0, .int .i64 0, .slice none 0 0] 61 ∧ Blk W M #[.int .i64 C, .int .i64 R, v] 61 ∧ Nums W (M+1) v m ∧ Below N w W
theorem Gs.keep {w : World} {N M c r : Nat} {u : Value} {l : List Nat} {C R : Nat} {v : Value} {m : List Nat} {W W' : World} (hN : N ≤ M) (h : Gs w N M c r u l C R v m W) (hb : Below W.heap.size W W') : Gs w N M c r u l C R v m W' := by
  obtain ⟨h1, h2, h3, h4, h5, h6⟩ := h
  exact ⟨h1.below hb h1.lt, Row.grow h2 hb, h3.below hb h3.lt, h4.below hb h4.lt, Row.grow h5 hb, h6.trans (hb.mono (by have := h4.lt; omega))⟩
theorem St.step {w w1 w2 : World} {N M c r : Nat} {u : Value} {l : List Nat} {C R : Nat} {v v2 : Value} {m : List Nat} {x : Nat} (h : Gs w N M c r u l C R v m w1) (hN : N + 1 < M) (hu : ∀ g, u.ownBlock = some g → g < M)
    (hg : w1.grownBy w2 v.ownBlock) (hR : Row w2 (M+1) 3 1 v2 (m.length + 1) (cells m ++ [.int .i64 x])) : St w (w2.setCell ⟨M, 2, none⟩ v2) N M c r u l C R (m ++ [x]) := by
  obtain ⟨b0, hl, b1, bM, hQ, hB⟩ := h
  have hv : ∀ g, v.ownBlock = some g → M + 1 ≤ g := fun g e => (hQ.lt g e).1
  have no : ∀ g, g ≤ M → some g ≠ v.ownBlock := fun g hle e => by have := hv g e.symm; omega
  refine ⟨(b0.grown hg (no _ (by omega))).other _ _ (by show N ≠ M; omega), ?_, (b1.grown hg (no _ (by omega))).other _ _ (by show N + 1 ≠ M; omega), ⟨v2, ?_, ?_⟩, ?_⟩
  · exact (Row.grown hl hg (fun g e => no g (by have := hu g e; omega))).other _ _ (fun g e => by have := hu g e; show g ≠ M; omega)
  · exact (bM.grown hg (no _ (by omega))).set 2 v2
  · exact Nums.add (hR.other _ _ (fun g e => by have := (hR.lt g e).1; show g ≠ M; omega))
  · exact (Below.grown hB (by have := bM.lt; omega) hg (fun g e => by have := hv g e; omega)).setCell (by show N ≤ M; omega) _
/-- The box B of the world holds the picture p. -/
def Box (w : World) (B : Nat) (p : Pict) : Prop := ∃ u, Blk w B #[.int .i64 p.1, .int .i64 p.2.1, u] 61 ∧ Nums w 0 u p.2.2
end Pc

set_option maxRecDepth 100000 in
set_option maxHeartbeats 4000000 in
theorem turn_any (k : Nat) (hk : k < 8) (p : Pc.Pict) (hp : Pc.Ok p) (v : Value) (w : World) (hv : Pc.Is w 0 v p.1 p.2.1 p.2.2) : Calls Tryz.prog 17 #[v, .int .i64 k] w fun e w' => ∃ v, e = .returned v ∧ Pc.Is w' 0 v (Pc.turn k p).1 (Pc.turn k p).2.1 (Pc.turn k p).2.2 ∧ Below w.heap.size w w' := by
  obtain ⟨u, rfl, hR⟩ := hv
  obtain ⟨N, hN⟩ : ∃ N, N = w.heap.size := ⟨_, rfl⟩
  have HN := Lib.hid hN
  rw [← hN]
  clear hN
  obtain ⟨bu, cu, rfl⟩ := hR.len
  go_enter Tryz.func17, Tryz.ntmps17
  go_upto_if 15 with fail
  refine wp_world (fun W => Pc.Box W N p ∧ Blk W (N+1) #[.int .i64 0, .int .i64 0, .slice none 0 0] 61 ∧ Below N w W) ⟨⟨_, (Blk.new' _ _ _ HN.out).alloc _, ?_⟩, ?_, ?_⟩ ?_
  · exact (hR.grow ((Below.refl _ _).alloc (Nat.le_refl _) _)).grow ((Below.refl _ _).alloc (Nat.le_refl _) _)
  · exact (Blk.new' _ _ _ (by rw [HN.out]; simp))
  · exact (((Below.refl _ _).alloc (by rw [HN.out]; exact Nat.le_refl _) _).alloc (by rw [HN.out]; simp) _)
  rintro W0 ⟨bx, b1, hB⟩
  rw [← HN.out]
  clear hR
  obtain ⟨p0, e0⟩ : ∃ p0, p = p0 := ⟨_, rfl⟩
  rw [e0] at bx hp
  have E0 := Lib.hid e0
  clear e0
  go_cut [] from 15 (fun wx => Pc.Box wx N (Pc.t1 k p0) ∧ Blk wx (N+1) #[.int .i64 0, .int .i64 0, .slice none 0 0] 61 ∧ Below N w wx)
  case first =>
    obtain ⟨u, b0, hR⟩ := bx
    obtain ⟨c, r, l⟩ := p0
    obtain ⟨hl, hc, hr, hcr⟩ := hp
    simp only at hl hc hr hcr b0 hR
    by_cases hq : 4 ≤ k
    · have et : Pc.t1 k (c, r, l) = (r, c, Pc.grid c r (Pc.f1 (c, r, l))) := by unfold Pc.t1; rw [if_pos hq]
      have ET := Lib.hid et; clear et
      have tb : decide ((k:Int) ≥ 4) = true := by simp; omega
      clear hq
      rw [tb]
      have q0 := b0.cell 0
      have q1 := b0.cell 1
      obtain ⟨M, hM⟩ : ∃ M, M = W0.heap.size := ⟨_, rfl⟩
      have HM := Lib.hid hM
      have hNM : N + 1 < M := by rw [hM]; exact b1.lt
      have hgM : ∀ g, u.ownBlock = some g → g < M := fun g hg => by rw [hM]; exact (hR.lt g hg).2
      clear hM
      obtain ⟨bu, cu, rfl⟩ := hR.len
      go_wp2_with fail

      refine wp_world (fun wr => Pc.St w wr N M c r (.slice bu l.length cu) l r c (Pc.part r (Pc.f1 (c, r, l)) 0 0)) (Pc.St.init HM.out (by omega) b0 hR b1 hB ?_) ?_
      · rfl
      intro W1 hst
      rw [← HM.out]
      go_loopw [6] (fun i wr => ∃ a : Nat, a ≤ c ∧ i = .int .i64 a ∧ Pc.St w wr N M c r (.slice bu l.length cu) l r c (Pc.part r (Pc.f1 (c, r, l)) a 0)) (fun i _ => c - (intOf i).toNat)
      case atStart => exact ⟨0, by omega, rfl, hst⟩
      case round =>
        clear hst b0 b1 hR hB q0 q1
        obtain ⟨a, ha, rfl, hst⟩ := hrel
        obtain ⟨b0, hR, b1, ⟨v, bM, hQ⟩, hB⟩ := hst
        have m1 := bM.cell 1
        by_cases hlt : a < c
        · go_wp2_with fail
          have hst : Pc.St w wr N M c r (.slice bu l.length cu) l r c (Pc.part r (Pc.f1 (c, r, l)) a 0) := ⟨b0, hR, b1, ⟨v, bM, hQ⟩, hB⟩
          clear b0 hR b1 bM hQ hB m1
          rename World => wq
          go_loopw [7] (fun i wr => ∃ b : Nat, b ≤ r ∧ i = .int .i64 b ∧ Pc.St w wr N M c r (.slice bu l.length cu) l r c (Pc.part r (Pc.f1 (c, r, l)) a b)) (fun i _ => r - (intOf i).toNat)
          case atStart => exact ⟨0, by omega, rfl, hst⟩
          case round =>
            clear hst
            obtain ⟨b, hb, rfl, hst⟩ := hrel
            obtain ⟨b0, hR, b1, ⟨v, bM, hQ⟩, hB⟩ := hst
            have m0 := bM.cell 0
            by_cases hltb : b < r
            · obtain ⟨gp, cp, hbu, _, hgp, hcell⟩ := hR.cells (by have h := Pc.under hlt hltb; have h2 := Nat.mul_comm c r; omega)
              obtain ⟨rfl, _⟩ : bu = some ⟨gp, 0, none⟩ ∧ cu = cp := by simpa using hbu
              clear hbu
              obtain ⟨bv, cv, rfl⟩ := Row.len hQ
              have e1 : IntKind.i64.wrap ((b:Int) * (c:Int)) = ((b * c : Nat) : Int) := Pc.wr64 (Int.natCast_mul b c).symm (by have h := Pc.under hltb hlt; rw [Nat.mul_comm r c] at h; exact Nat.le_trans (Nat.le_trans (Nat.le_add_right _ _) (Nat.le_of_lt h)) (Nat.le_trans hcr (by decide)))
              obtain ⟨x, hx⟩ : ∃ x, b * c = x := ⟨_, rfl⟩
              rw [hx] at e1
              have hy0 : b * c + a < c * r := by have h := Pc.under hltb hlt; rw [Nat.mul_comm c r]; exact h
              rw [hx] at hy0
              obtain ⟨y, hy⟩ : ∃ y, x + a = y := ⟨_, rfl⟩
              have e2 : IntKind.i64.wrap ((x:Int) + (a:Int)) = (y : Int) := Pc.wr64 (by rw [← hy]; rfl) (by clear e1; omega)
              have hfy : Pc.f1 (c, r, l) a b = l.getD y 0 := by unfold Pc.f1; show l.getD (b * c + a) 0 = _; rw [hx, hy]
              rw [hy] at hy0
              have HY := Lib.hid hfy
              have hll : y < l.length := by rw [hl]; exact hy0
              have HL := Lib.hid hl
              clear hl
              clear hcell hfy hx hy
              go_wp2_with fail
              have hGm : ∀ W W', Pc.Gs w N M c r (.slice (some ⟨gp, 0, none⟩) l.length cu) l r c (.slice bv (Pc.part r (Pc.f1 (c, r, l)) a b).length cv) (Pc.part r (Pc.f1 (c, r, l)) a b) W → Below W.heap.size W W' → Pc.Gs w N M c r (.slice (some ⟨gp, 0, none⟩) l.length cu) l r c (.slice bv (Pc.part r (Pc.f1 (c, r, l)) a b).length cv) (Pc.part r (Pc.f1 (c, r, l)) a b) W' := fun W W' h hb => Pc.Gs.keep (by omega) h hb
              refine wp_region_mono [0, 1, 2, 3, 4, 5, 6, 7, 8, 9, 10, 11, 12] [13, 14, 15] (Pc.Gs w N M c r (.slice (some ⟨gp, 0, none⟩) l.length cu) l r c (.slice bv (Pc.part r (Pc.f1 (c, r, l)) a b).length cv) (Pc.part r (Pc.f1 (c, r, l)) a b))
                (fun | 12 => some (sSlice 1 #[.int .i64 (l.getD y 0 : Nat)] 3) | _ => none) (fun _ => []) (by kernel_rfl) (by kernel_rfl) ⟨b0.drew, hR, b1.drew, bM.drew, hQ, hB.drew⟩ ?_ ?_
              · intro i s hs
                match i with
                | 12 => cases hs; exact fun _ _ => sSlice_mono _ _ _ _ _
              simp only [pick, List.getD_cons_succ, List.getD_cons_zero, List.zip_cons_cons, List.zip_nil_right]
              (first | (refine mono_skip (by rfl) ?_; simp only [Act.put, List.setIfInBounds_toArray, List.set_cons_zero, List.set_cons_succ]) | (refine mono_pure (v := ?_) (by rfl) rfl ?_ ?_; rotate_left; (intro wS hS; go_simp; try with_reducible rfl); simp only [Act.put, List.setIfInBounds_toArray, List.set_cons_zero, List.set_cons_succ]))
              refine mono_pure (v := .slice bv (Pc.part r (Pc.f1 (c, r, l)) a b).length cv) (by rfl) rfl (fun w1 hG => by have cy := Blk.cell hG.2.2.2.1 2; go_simp; try with_reducible rfl) ?_
              simp only [Act.put, List.setIfInBounds_toArray, List.set_cons_zero, List.set_cons_succ]
              (first | (refine mono_skip (by rfl) ?_; simp only [Act.put, List.setIfInBounds_toArray, List.set_cons_zero, List.set_cons_succ]) | (refine mono_pure (v := ?_) (by rfl) rfl ?_ ?_; rotate_left; (intro wS hS; go_simp; try with_reducible rfl); simp only [Act.put, List.setIfInBounds_toArray, List.set_cons_zero, List.set_cons_succ]))
              refine mono_pure (v := .slice (some ⟨gp, 0, none⟩) l.length cu) (by rfl) rfl (fun w1 hG => by have cy := Blk.cell hG.1 2; go_simp; try with_reducible rfl) ?_
              simp only [Act.put, List.setIfInBounds_toArray, List.set_cons_zero, List.set_cons_succ]
              (repeat (first | (refine mono_skip (by rfl) ?_; simp only [Act.put, List.setIfInBounds_toArray, List.set_cons_zero, List.set_cons_succ]) | (refine mono_pure (v := ?_) (by rfl) rfl ?_ ?_; rotate_left; (intro wS hS; go_simp; try with_reducible rfl); simp only [Act.put, List.setIfInBounds_toArray, List.set_cons_zero, List.set_cons_succ])))
              refine mono_pure (v := .int .i64 c) (by rfl) rfl (fun w1 hG => by have cy := Blk.cell hG.1 0; go_simp; try with_reducible rfl) ?_
              simp only [Act.put, List.setIfInBounds_toArray, List.set_cons_zero, List.set_cons_succ]
              (repeat (first | (refine mono_skip (by rfl) ?_; simp only [Act.put, List.setIfInBounds_toArray, List.set_cons_zero, List.set_cons_succ]) | (refine mono_pure (v := ?_) (by rfl) rfl ?_ ?_; rotate_left; (intro wS hS; go_simp; try with_reducible rfl); simp only [Act.put, List.setIfInBounds_toArray, List.set_cons_zero, List.set_cons_succ])))
              refine mono_pure (v := .int .i64 (l.getD y 0 : Nat)) (by rfl) rfl (fun w1 hG => by have cy := hG.2.1.at hll; go_simp; try with_reducible rfl) ?_
              simp only [Act.put, List.setIfInBounds_toArray, List.set_cons_zero, List.set_cons_succ]
              refine mono_slice 1 #[.int .i64 (l.getD y 0 : Nat)] 3 (by rfl) rfl hGm (by intro wS; go_simp; try rfl) (fun gs => ?_)
              simp only [Act.put, List.setIfInBounds_toArray, List.set_cons_zero, List.set_cons_succ]
              refine mono_nil ?_
              clear e1 e2
              rintro w1 ⟨b0, hR, b1, bM, hQ, hB⟩ ⟨hbs, I, hI1, hI2⟩
              obtain ⟨i1, i2, i3, ⟨g, hg, i4, i5, i6⟩⟩ := hI1 12 _ (upd_self _ _ _)
              obtain rfl : gs = g := by simpa using hg
              have hplen : (Pc.part r (Pc.f1 (c, r, l)) a b).length ≤ 100000 := by rw [Pc.part_len]; have h := Pc.under hlt hltb; have h2 := Nat.mul_comm c r; omega
              go_wp2_with (refine wpList_append_Row _ rfl _ _ 59 rfl (M+1) 3 _ _ 1 8 rfl rfl rfl rfl rfl rfl _ _ _ rfl hQ _ 1 1 [.int .i64 (l.getD y 0 : Nat)] rfl (by omega) rfl i6.one (by intro u hu; simp at hu; subst hu; rfl) (by simp only [maxLen]; omega) (by omega) (by have := bM.lt; omega) (fun v' w2 hR1 hg hat => ?_); obtain ⟨b2, c2, rfl⟩ := hR1.len; have hne := (hQ.typed bM (by decide)); have hlo := hQ.lt; have bM' := bM.grown hg (fun e => hne _ e.symm rfl); have m2 := bM'.cell 2; have f2 := bM'.free 2)
              refine ⟨⟨b + 1, by omega, by go_num, ?_⟩, by simp [intOf]; omega⟩
              rw [← Pc.part_succ, HY.out]
              exact Pc.St.step ⟨b0, hR, b1, bM, hQ, hB⟩ hNM hgM hg hR1
            · obtain rfl : b = r := by omega
              go_wp2_with fail
              refine ⟨⟨a + 1, by omega, by go_num, ?_⟩, by simp [intOf]; omega⟩
              rw [← Pc.part_row]
              exact ⟨b0, hR, b1, ⟨v, bM, hQ⟩, hB⟩
        · obtain rfl : a = c := by omega
          obtain ⟨bv, cv, rfl⟩ := Row.len hQ
          go_wp2_with (first | (refine wpList_load_row rfl 61 _ rfl M rfl 61 _ _ _ bM Tryz.underlying61 rfl (by kernel_rfl) ?_) | (refine wpList_store_row rfl 61 _ _ rfl N _ rfl rfl 61 _ b0 (by kernel_rfl) rfl (by simp [Value.oneCell']) ?_))
          go_meet
          refine ⟨?_, b1.rowOther _ _ (by omega), Below.setRow hB (by omega) _⟩
          rw [ET.out]
          exact ⟨_, b0.row _, Row.down (Row.same hQ fun g hg => setRow_other _ _ _ _ (by have := (hQ.lt g hg).1; omega)) (by omega)⟩
    · have et : Pc.t1 k (c, r, l) = (c, r, l) := by unfold Pc.t1; rw [if_neg hq]
      have ET := Lib.hid et; clear et
      have tb : decide ((k:Int) ≥ 4) = false := by simp; omega
      rw [tb]
      go_wp2_with fail
      go_meet
      refine ⟨?_, b1, hB⟩
      rw [ET.out]
      exact ⟨_, b0, hR⟩
  clear bx b1 hB
  obtain ⟨bx, b1, hB⟩ := hcut
  have hp := Pc.t1_ok k hp
  obtain ⟨p1, ep⟩ : ∃ p1, Pc.t1 k p0 = p1 := ⟨_, rfl⟩
  rw [ep] at bx hp
  have E1 := Lib.hid ep
  clear ep
  clear W0
  rename World => W0

  go_upto_if 51 with fail
  go_cut [] from 51 (fun wx => Pc.Box wx N (Pc.t2 k p1) ∧ Blk wx (N+1) #[.int .i64 0, .int .i64 0, .slice none 0 0] 61 ∧ Below N w wx)
  case first =>
    obtain ⟨u, b0, hR⟩ := bx
    obtain ⟨c, r, l⟩ := p1
    obtain ⟨hl, hc, hr, hcr⟩ := hp
    simp only at hl hc hr hcr b0 hR
    by_cases hq : k % 2 = 1
    · have et : Pc.t2 k (c, r, l) = (c, r, Pc.grid r c (Pc.f2 (c, r, l))) := by unfold Pc.t2; rw [if_pos hq]
      have ET := Lib.hid et; clear et
      have tb : ((k:Int) % 2 == 1) = true := by simp; omega
      clear hq
      rw [tb]
      have q0 := b0.cell 0
      have q1 := b0.cell 1
      obtain ⟨M, hM⟩ : ∃ M, M = W0.heap.size := ⟨_, rfl⟩
      have HM := Lib.hid hM
      have hNM : N + 1 < M := by rw [hM]; exact b1.lt
      have hgM : ∀ g, u.ownBlock = some g → g < M := fun g hg => by rw [hM]; exact (hR.lt g hg).2
      clear hM
      obtain ⟨bu, cu, rfl⟩ := hR.len
      go_wp2_with fail

      refine wp_world (fun wr => Pc.St w wr N M c r (.slice bu l.length cu) l c r (Pc.part c (Pc.f2 (c, r, l)) 0 0)) (Pc.St.init HM.out (by omega) b0 hR b1 hB ?_) ?_
      · rfl
      intro W1 hst
      rw [← HM.out]
      go_loopw [9] (fun i wr => ∃ a : Nat, a ≤ r ∧ i = .int .i64 a ∧ Pc.St w wr N M c r (.slice bu l.length cu) l c r (Pc.part c (Pc.f2 (c, r, l)) a 0)) (fun i _ => r - (intOf i).toNat)
      case atStart => exact ⟨0, by omega, rfl, hst⟩
      case round =>
        clear hst b0 b1 hR hB q0 q1
        obtain ⟨a, ha, rfl, hst⟩ := hrel
        obtain ⟨b0, hR, b1, ⟨v, bM, hQ⟩, hB⟩ := hst
        have m1 := bM.cell 1
        by_cases hlt : a < r
        · go_wp2_with fail
          have hst : Pc.St w wr N M c r (.slice bu l.length cu) l c r (Pc.part c (Pc.f2 (c, r, l)) a 0) := ⟨b0, hR, b1, ⟨v, bM, hQ⟩, hB⟩
          clear b0 hR b1 bM hQ hB m1
          rename World => wq
          go_loopw [10] (fun i wr => ∃ b : Nat, b ≤ c ∧ i = .int .i64 b ∧ Pc.St w wr N M c r (.slice bu l.length cu) l c r (Pc.part c (Pc.f2 (c, r, l)) a b)) (fun i _ => c - (intOf i).toNat)
          case atStart => exact ⟨0, by omega, rfl, hst⟩
          case round =>
            clear hst
            obtain ⟨b, hb, rfl, hst⟩ := hrel
            obtain ⟨b0, hR, b1, ⟨v, bM, hQ⟩, hB⟩ := hst
            have m0 := bM.cell 0
            by_cases hltb : b < c
            · obtain ⟨gp, cp, hbu, _, hgp, hcell⟩ := hR.cells (by have h := Pc.under hlt hltb; have h2 := Nat.mul_comm c r; omega)
              obtain ⟨rfl, _⟩ : bu = some ⟨gp, 0, none⟩ ∧ cu = cp := by simpa using hbu
              clear hbu
              obtain ⟨bv, cv, rfl⟩ := Row.len hQ
              have e1 : IntKind.i64.wrap ((a:Int) * (c:Int)) = ((a * c : Nat) : Int) := Pc.wr64 (Int.natCast_mul a c).symm (by have h := Pc.under hlt hltb; rw [Nat.mul_comm r c] at h; exact Nat.le_trans (Nat.le_trans (Nat.le_add_right _ _) (Nat.le_of_lt h)) (Nat.le_trans hcr (by decide)))
              obtain ⟨x, hx⟩ : ∃ x, a * c = x := ⟨_, rfl⟩
              rw [hx] at e1
              have hy0 : a * c + (c - 1) < c * r := by have h := Pc.under hlt (show c - 1 < c by omega); rw [Nat.mul_comm c r]; exact h
              rw [hx] at hy0
              obtain ⟨z, hz⟩ : ∃ z, x + c = z := ⟨_, rfl⟩
              have e2 : IntKind.i64.wrap ((x:Int) + (c:Int)) = (z : Int) := Pc.wr64 (by rw [← hz]; rfl) (by clear e1; omega)
              obtain ⟨z1, hz1⟩ : ∃ z1, z - 1 = z1 := ⟨_, rfl⟩
              have e3 : IntKind.i64.wrap ((z:Int) - 1) = (z1 : Int) := Pc.wr64 (by clear e1 e2; omega) (by clear e1 e2; omega)
              obtain ⟨y, hy⟩ : ∃ y, z1 - b = y := ⟨_, rfl⟩
              have e4 : IntKind.i64.wrap ((z1:Int) - (b:Int)) = (y : Int) := Pc.wr64 (by clear e1 e2 e3; omega) (by clear e1 e2 e3; omega)
              have hfy : Pc.f2 (c, r, l) a b = l.getD y 0 := by unfold Pc.f2; show l.getD (a * c + c - 1 - b) 0 = _; rw [hx, hz, hz1, hy]
              have hy0 : y < c * r := by clear e1 e2 e3 e4; omega
              have HY := Lib.hid hfy
              have hll : y < l.length := by rw [hl]; exact hy0
              have HL := Lib.hid hl
              clear hl
              clear hcell hfy hx hy
              go_wp2_with fail
              have hGm : ∀ W W', Pc.Gs w N M c r (.slice (some ⟨gp, 0, none⟩) l.length cu) l c r (.slice bv (Pc.part c (Pc.f2 (c, r, l)) a b).length cv) (Pc.part c (Pc.f2 (c, r, l)) a b) W → Below W.heap.size W W' → Pc.Gs w N M c r (.slice (some ⟨gp, 0, none⟩) l.length cu) l c r (.slice bv (Pc.part c (Pc.f2 (c, r, l)) a b).length cv) (Pc.part c (Pc.f2 (c, r, l)) a b) W' := fun W W' h hb => Pc.Gs.keep (by omega) h hb
              refine wp_region_mono [0, 1, 2, 3, 4, 5, 6, 7, 8, 9, 10, 11, 12, 13, 14, 15, 16] [17, 18, 19] (Pc.Gs w N M c r (.slice (some ⟨gp, 0, none⟩) l.length cu) l c r (.slice bv (Pc.part c (Pc.f2 (c, r, l)) a b).length cv) (Pc.part c (Pc.f2 (c, r, l)) a b))
                (fun | 16 => some (sSlice 1 #[.int .i64 (l.getD y 0 : Nat)] 3) | _ => none) (fun _ => []) (by kernel_rfl) (by kernel_rfl) ⟨b0.drew, hR, b1.drew, bM.drew, hQ, hB.drew⟩ ?_ ?_
              · intro i s hs
                match i with
                | 16 => cases hs; exact fun _ _ => sSlice_mono _ _ _ _ _
              simp only [pick, List.getD_cons_succ, List.getD_cons_zero, List.zip_cons_cons, List.zip_nil_right]
              (first | (refine mono_skip (by rfl) ?_; simp only [Act.put, List.setIfInBounds_toArray, List.set_cons_zero, List.set_cons_succ]) | (refine mono_pure (v := ?_) (by rfl) rfl ?_ ?_; rotate_left; (intro wS hS; go_simp; try with_reducible rfl); simp only [Act.put, List.setIfInBounds_toArray, List.set_cons_zero, List.set_cons_succ]))
              refine mono_pure (v := .slice bv (Pc.part c (Pc.f2 (c, r, l)) a b).length cv) (by rfl) rfl (fun w1 hG => by have cy := Blk.cell hG.2.2.2.1 2; go_simp; try with_reducible rfl) ?_
              simp only [Act.put, List.setIfInBounds_toArray, List.set_cons_zero, List.set_cons_succ]
              (first | (refine mono_skip (by rfl) ?_; simp only [Act.put, List.setIfInBounds_toArray, List.set_cons_zero, List.set_cons_succ]) | (refine mono_pure (v := ?_) (by rfl) rfl ?_ ?_; rotate_left; (intro wS hS; go_simp; try with_reducible rfl); simp only [Act.put, List.setIfInBounds_toArray, List.set_cons_zero, List.set_cons_succ]))
              refine mono_pure (v := .slice (some ⟨gp, 0, none⟩) l.length cu) (by rfl) rfl (fun w1 hG => by have cy := Blk.cell hG.1 2; go_simp; try with_reducible rfl) ?_
              simp only [Act.put, List.setIfInBounds_toArray, List.set_cons_zero, List.set_cons_succ]
              (repeat (first | (refine mono_skip (by rfl) ?_; simp only [Act.put, List.setIfInBounds_toArray, List.set_cons_zero, List.set_cons_succ]) | (refine mono_pure (v := ?_) (by rfl) rfl ?_ ?_; rotate_left; (intro wS hS; go_simp; try with_reducible rfl); simp only [Act.put, List.setIfInBounds_toArray, List.set_cons_zero, List.set_cons_succ])))
              refine mono_pure (v := .int .i64 c) (by rfl) rfl (fun w1 hG => by have cy := Blk.cell hG.1 0; go_simp; try with_reducible rfl) ?_
              simp only [Act.put, List.setIfInBounds_toArray, List.set_cons_zero, List.set_cons_succ]
              (repeat (first | (refine mono_skip (by rfl) ?_; simp only [Act.put, List.setIfInBounds_toArray, List.set_cons_zero, List.set_cons_succ]) | (refine mono_pure (v := ?_) (by rfl) rfl ?_ ?_; rotate_left; (intro wS hS; go_simp; try with_reducible rfl); simp only [Act.put, List.setIfInBounds_toArray, List.set_cons_zero, List.set_cons_succ])))
              refine mono_pure (v := .int .i64 c) (by rfl) rfl (fun w1 hG => by have cy := Blk.cell hG.1 0; go_simp; try with_reducible rfl) ?_
              simp only [Act.put, List.setIfInBounds_toArray, List.set_cons_zero, List.set_cons_succ]
              (repeat (first | (refine mono_skip (by rfl) ?_; simp only [Act.put, List.setIfInBounds_toArray, List.set_cons_zero, List.set_cons_succ]) | (refine mono_pure (v := ?_) (by rfl) rfl ?_ ?_; rotate_left; (intro wS hS; go_simp; try with_reducible rfl); simp only [Act.put, List.setIfInBounds_toArray, List.set_cons_zero, List.set_cons_succ])))
              refine mono_pure (v := .int .i64 (l.getD y 0 : Nat)) (by rfl) rfl (fun w1 hG => by have cy := hG.2.1.at hll; go_simp; try with_reducible rfl) ?_
              simp only [Act.put, List.setIfInBounds_toArray, List.set_cons_zero, List.set_cons_succ]
              refine mono_slice 1 #[.int .i64 (l.getD y 0 : Nat)] 3 (by rfl) rfl hGm (by intro wS; go_simp; try rfl) (fun gs => ?_)
              simp only [Act.put, List.setIfInBounds_toArray, List.set_cons_zero, List.set_cons_succ]
              refine mono_nil ?_
              clear e1 e2 e3 e4
              rintro w1 ⟨b0, hR, b1, bM, hQ, hB⟩ ⟨hbs, I, hI1, hI2⟩
              obtain ⟨i1, i2, i3, ⟨g, hg, i4, i5, i6⟩⟩ := hI1 16 _ (upd_self _ _ _)
              obtain rfl : gs = g := by simpa using hg
              have hplen : (Pc.part c (Pc.f2 (c, r, l)) a b).length ≤ 100000 := by rw [Pc.part_len]; have h := Pc.under hlt hltb; have h2 := Nat.mul_comm c r; omega
              go_wp2_with (refine wpList_append_Row _ rfl _ _ 59 rfl (M+1) 3 _ _ 1 8 rfl rfl rfl rfl rfl rfl _ _ _ rfl hQ _ 1 1 [.int .i64 (l.getD y 0 : Nat)] rfl (by omega) rfl i6.one (by intro u hu; simp at hu; subst hu; rfl) (by simp only [maxLen]; omega) (by omega) (by have := bM.lt; omega) (fun v' w2 hR1 hg hat => ?_); obtain ⟨b2, c2, rfl⟩ := hR1.len; have hne := (hQ.typed bM (by decide)); have hlo := hQ.lt; have bM' := bM.grown hg (fun e => hne _ e.symm rfl); have m2 := bM'.cell 2; have f2 := bM'.free 2)
              refine ⟨⟨b + 1, by omega, by go_num, ?_⟩, by simp [intOf]; omega⟩
              rw [← Pc.part_succ, HY.out]
              exact Pc.St.step ⟨b0, hR, b1, bM, hQ, hB⟩ hNM hgM hg hR1
            · obtain rfl : b = c := by omega
              go_wp2_with fail
              refine ⟨⟨a + 1, by omega, by go_num, ?_⟩, by simp [intOf]; omega⟩
              rw [← Pc.part_row]
              exact ⟨b0, hR, b1, ⟨v, bM, hQ⟩, hB⟩
        · obtain rfl : a = r := by omega
          obtain ⟨bv, cv, rfl⟩ := Row.len hQ
          go_wp2_with (first | (refine wpList_load_row rfl 61 _ rfl M rfl 61 _ _ _ bM Tryz.underlying61 rfl (by kernel_rfl) ?_) | (refine wpList_store_row rfl 61 _ _ rfl N _ rfl rfl 61 _ b0 (by kernel_rfl) rfl (by simp [Value.oneCell']) ?_))
          go_meet
          refine ⟨?_, b1.rowOther _ _ (by omega), Below.setRow hB (by omega) _⟩
          rw [ET.out]
          exact ⟨_, b0.row _, Row.down (Row.same hQ fun g hg => setRow_other _ _ _ _ (by have := (hQ.lt g hg).1; omega)) (by omega)⟩
    · have et : Pc.t2 k (c, r, l) = (c, r, l) := by unfold Pc.t2; rw [if_neg hq]
      have ET := Lib.hid et; clear et
      have tb : ((k:Int) % 2 == 1) = false := by simp; omega
      rw [tb]
      go_wp2_with fail
      go_meet
      refine ⟨?_, b1, hB⟩
      rw [ET.out]
      exact ⟨_, b0, hR⟩
  clear bx b1 hB
  obtain ⟨bx, b1, hB⟩ := hcut
  have hp := Pc.t2_ok k hp
  obtain ⟨p2, ep⟩ : ∃ p2, Pc.t2 k p1 = p2 := ⟨_, rfl⟩
  rw [ep] at bx hp
  have E2 := Lib.hid ep
  clear ep
  clear W0
  rename World => W0

  go_upto_if 92 with fail
  go_cut [] from 92 (fun wx => Pc.Box wx N (Pc.t3 k p2) ∧ Blk wx (N+1) #[.int .i64 0, .int .i64 0, .slice none 0 0] 61 ∧ Below N w wx)
  case first =>
    obtain ⟨u, b0, hR⟩ := bx
    obtain ⟨c, r, l⟩ := p2
    obtain ⟨hl, hc, hr, hcr⟩ := hp
    simp only at hl hc hr hcr b0 hR
    by_cases hq : k / 2 % 2 = 1
    · have et : Pc.t3 k (c, r, l) = (c, r, Pc.grid r c (Pc.f3 (c, r, l))) := by unfold Pc.t3; rw [if_pos hq]
      have ET := Lib.hid et; clear et
      have tb : ((k:Int) / 2 % 2 == 1) = true := by simp; omega
      clear hq
      rw [tb]
      have q0 := b0.cell 0
      have q1 := b0.cell 1
      obtain ⟨M, hM⟩ : ∃ M, M = W0.heap.size := ⟨_, rfl⟩
      have HM := Lib.hid hM
      have hNM : N + 1 < M := by rw [hM]; exact b1.lt
      have hgM : ∀ g, u.ownBlock = some g → g < M := fun g hg => by rw [hM]; exact (hR.lt g hg).2
      clear hM
      obtain ⟨bu, cu, rfl⟩ := hR.len
      go_wp2_with fail

      refine wp_world (fun wr => Pc.St w wr N M c r (.slice bu l.length cu) l c r (Pc.part c (Pc.f3 (c, r, l)) 0 0)) (Pc.St.init HM.out (by omega) b0 hR b1 hB ?_) ?_
      · rfl
      intro W1 hst
      rw [← HM.out]
      go_loopw [12] (fun i wr => ∃ a : Nat, a ≤ r ∧ i = .int .i64 a ∧ Pc.St w wr N M c r (.slice bu l.length cu) l c r (Pc.part c (Pc.f3 (c, r, l)) a 0)) (fun i _ => r - (intOf i).toNat)
      case atStart => exact ⟨0, by omega, rfl, hst⟩
      case round =>
        clear hst b0 b1 hR hB q0 q1
        obtain ⟨a, ha, rfl, hst⟩ := hrel
        obtain ⟨b0, hR, b1, ⟨v, bM, hQ⟩, hB⟩ := hst
        have m1 := bM.cell 1
        by_cases hlt : a < r
        · go_wp2_with fail
          have hst : Pc.St w wr N M c r (.slice bu l.length cu) l c r (Pc.part c (Pc.f3 (c, r, l)) a 0) := ⟨b0, hR, b1, ⟨v, bM, hQ⟩, hB⟩
          clear b0 hR b1 bM hQ hB m1
          rename World => wq
          go_loopw [13] (fun i wr => ∃ b : Nat, b ≤ c ∧ i = .int .i64 b ∧ Pc.St w wr N M c r (.slice bu l.length cu) l c r (Pc.part c (Pc.f3 (c, r, l)) a b)) (fun i _ => c - (intOf i).toNat)
          case atStart => exact ⟨0, by omega, rfl, hst⟩
          case round =>
            clear hst
            obtain ⟨b, hb, rfl, hst⟩ := hrel
            obtain ⟨b0, hR, b1, ⟨v, bM, hQ⟩, hB⟩ := hst
            have m0 := bM.cell 0
            by_cases hltb : b < c
            · obtain ⟨gp, cp, hbu, _, hgp, hcell⟩ := hR.cells (by have h := Pc.under hlt hltb; have h2 := Nat.mul_comm c r; omega)
              obtain ⟨rfl, _⟩ : bu = some ⟨gp, 0, none⟩ ∧ cu = cp := by simpa using hbu
              clear hbu
              obtain ⟨bv, cv, rfl⟩ := Row.len hQ
              obtain ⟨r1, hr1⟩ : ∃ r1, r - 1 = r1 := ⟨_, rfl⟩
              have e1 : IntKind.i64.wrap ((r:Int) - 1) = (r1 : Int) := Pc.wr64 (by omega) (by omega)
              obtain ⟨r2, hr2⟩ : ∃ r2, r1 - a = r2 := ⟨_, rfl⟩
              have e2 : IntKind.i64.wrap ((r1:Int) - (a:Int)) = (r2 : Int) := Pc.wr64 (by clear e1; omega) (by clear e1; omega)
              have hrr : r2 < r := by clear e1 e2; omega
              have e3 : IntKind.i64.wrap ((r2:Int) * (c:Int)) = ((r2 * c : Nat) : Int) := Pc.wr64 (Int.natCast_mul r2 c).symm (by have h := Pc.under hrr hltb; rw [Nat.mul_comm r c] at h; exact Nat.le_trans (Nat.le_trans (Nat.le_add_right _ _) (Nat.le_of_lt h)) (Nat.le_trans hcr (by decide)))
              obtain ⟨x, hx⟩ : ∃ x, r2 * c = x := ⟨_, rfl⟩
              rw [hx] at e3
              have hy0 : r2 * c + b < c * r := by have h := Pc.under hrr hltb; rw [Nat.mul_comm c r]; exact h
              rw [hx] at hy0
              obtain ⟨y, hy⟩ : ∃ y, x + b = y := ⟨_, rfl⟩
              have e4 : IntKind.i64.wrap ((x:Int) + (b:Int)) = (y : Int) := Pc.wr64 (by rw [← hy]; rfl) (by clear e1 e2 e3; omega)
              have hfy : Pc.f3 (c, r, l) a b = l.getD y 0 := by unfold Pc.f3; show l.getD ((r - 1 - a) * c + b) 0 = _; rw [hr1, hr2, hx, hy]
              rw [hy] at hy0
              have HY := Lib.hid hfy
              have hll : y < l.length := by rw [hl]; exact hy0
              have HL := Lib.hid hl
              clear hl
              clear hcell hfy hx hy
              go_wp2_with fail
              have hGm : ∀ W W', Pc.Gs w N M c r (.slice (some ⟨gp, 0, none⟩) l.length cu) l c r (.slice bv (Pc.part c (Pc.f3 (c, r, l)) a b).length cv) (Pc.part c (Pc.f3 (c, r, l)) a b) W → Below W.heap.size W W' → Pc.Gs w N M c r (.slice (some ⟨gp, 0, none⟩) l.length cu) l c r (.slice bv (Pc.part c (Pc.f3 (c, r, l)) a b).length cv) (Pc.part c (Pc.f3 (c, r, l)) a b) W' := fun W W' h hb => Pc.Gs.keep (by omega) h hb
              refine wp_region_mono [0, 1, 2, 3, 4, 5, 6, 7, 8, 9, 10, 11, 12, 13, 14, 15, 16] [17, 18, 19] (Pc.Gs w N M c r (.slice (some ⟨gp, 0, none⟩) l.length cu) l c r (.slice bv (Pc.part c (Pc.f3 (c, r, l)) a b).length cv) (Pc.part c (Pc.f3 (c, r, l)) a b))
                (fun | 16 => some (sSlice 1 #[.int .i64 (l.getD y 0 : Nat)] 3) | _ => none) (fun _ => []) (by kernel_rfl) (by kernel_rfl) ⟨b0.drew, hR, b1.drew, bM.drew, hQ, hB.drew⟩ ?_ ?_
              · intro i s hs
                match i with
                | 16 => cases hs; exact fun _ _ => sSlice_mono _ _ _ _ _
              simp only [pick, List.getD_cons_succ, List.getD_cons_zero, List.zip_cons_cons, List.zip_nil_right]
              (first | (refine mono_skip (by rfl) ?_; simp only [Act.put, List.setIfInBounds_toArray, List.set_cons_zero, List.set_cons_succ]) | (refine mono_pure (v := ?_) (by rfl) rfl ?_ ?_; rotate_left; (intro wS hS; go_simp; try with_reducible rfl); simp only [Act.put, List.setIfInBounds_toArray, List.set_cons_zero, List.set_cons_succ]))
              refine mono_pure (v := .slice bv (Pc.part c (Pc.f3 (c, r, l)) a b).length cv) (by rfl) rfl (fun w1 hG => by have cy := Blk.cell hG.2.2.2.1 2; go_simp; try with_reducible rfl) ?_
              simp only [Act.put, List.setIfInBounds_toArray, List.set_cons_zero, List.set_cons_succ]
              (first | (refine mono_skip (by rfl) ?_; simp only [Act.put, List.setIfInBounds_toArray, List.set_cons_zero, List.set_cons_succ]) | (refine mono_pure (v := ?_) (by rfl) rfl ?_ ?_; rotate_left; (intro wS hS; go_simp; try with_reducible rfl); simp only [Act.put, List.setIfInBounds_toArray, List.set_cons_zero, List.set_cons_succ]))
              refine mono_pure (v := .slice (some ⟨gp, 0, none⟩) l.length cu) (by rfl) rfl (fun w1 hG => by have cy := Blk.cell hG.1 2; go_simp; try with_reducible rfl) ?_
              simp only [Act.put, List.setIfInBounds_toArray, List.set_cons_zero, List.set_cons_succ]
              (repeat (first | (refine mono_skip (by rfl) ?_; simp only [Act.put, List.setIfInBounds_toArray, List.set_cons_zero, List.set_cons_succ]) | (refine mono_pure (v := ?_) (by rfl) rfl ?_ ?_; rotate_left; (intro wS hS; go_simp; try with_reducible rfl); simp only [Act.put, List.setIfInBounds_toArray, List.set_cons_zero, List.set_cons_succ])))
              refine mono_pure (v := .int .i64 r) (by rfl) rfl (fun w1 hG => by have cy := Blk.cell hG.1 1; go_simp; try with_reducible rfl) ?_
              simp only [Act.put, List.setIfInBounds_toArray, List.set_cons_zero, List.set_cons_succ]
              (repeat (first | (refine mono_skip (by rfl) ?_; simp only [Act.put, List.setIfInBounds_toArray, List.set_cons_zero, List.set_cons_succ]) | (refine mono_pure (v := ?_) (by rfl) rfl ?_ ?_; rotate_left; (intro wS hS; go_simp; try with_reducible rfl); simp only [Act.put, List.setIfInBounds_toArray, List.set_cons_zero, List.set_cons_succ])))
              refine mono_pure (v := .int .i64 c) (by rfl) rfl (fun w1 hG => by have cy := Blk.cell hG.1 0; go_simp; try with_reducible rfl) ?_
              simp only [Act.put, List.setIfInBounds_toArray, List.set_cons_zero, List.set_cons_succ]
              (repeat (first | (refine mono_skip (by rfl) ?_; simp only [Act.put, List.setIfInBounds_toArray, List.set_cons_zero, List.set_cons_succ]) | (refine mono_pure (v := ?_) (by rfl) rfl ?_ ?_; rotate_left; (intro wS hS; go_simp; try with_reducible rfl); simp only [Act.put, List.setIfInBounds_toArray, List.set_cons_zero, List.set_cons_succ])))
              refine mono_pure (v := .int .i64 (l.getD y 0 : Nat)) (by rfl) rfl (fun w1 hG => by have cy := hG.2.1.at hll; go_simp; try with_reducible rfl) ?_
              simp only [Act.put, List.setIfInBounds_toArray, List.set_cons_zero, List.set_cons_succ]
              refine mono_slice 1 #[.int .i64 (l.getD y 0 : Nat)] 3 (by rfl) rfl hGm (by intro wS; go_simp; try rfl) (fun gs => ?_)
              simp only [Act.put, List.setIfInBounds_toArray, List.set_cons_zero, List.set_cons_succ]
              refine mono_nil ?_
              clear e1 e2 e3 e4
              rintro w1 ⟨b0, hR, b1, bM, hQ, hB⟩ ⟨hbs, I, hI1, hI2⟩
              obtain ⟨i1, i2, i3, ⟨g, hg, i4, i5, i6⟩⟩ := hI1 16 _ (upd_self _ _ _)
              obtain rfl : gs = g := by simpa using hg
              have hplen : (Pc.part c (Pc.f3 (c, r, l)) a b).length ≤ 100000 := by rw [Pc.part_len]; have h := Pc.under hlt hltb; have h2 := Nat.mul_comm c r; omega
              go_wp2_with (refine wpList_append_Row _ rfl _ _ 59 rfl (M+1) 3 _ _ 1 8 rfl rfl rfl rfl rfl rfl _ _ _ rfl hQ _ 1 1 [.int .i64 (l.getD y 0 : Nat)] rfl (by omega) rfl i6.one (by intro u hu; simp at hu; subst hu; rfl) (by simp only [maxLen]; omega) (by omega) (by have := bM.lt; omega) (fun v' w2 hR1 hg hat => ?_); obtain ⟨b2, c2, rfl⟩ := hR1.len; have hne := (hQ.typed bM (by decide)); have hlo := hQ.lt; have bM' := bM.grown hg (fun e => hne _ e.symm rfl); have m2 := bM'.cell 2; have f2 := bM'.free 2)
              refine ⟨⟨b + 1, by omega, by go_num, ?_⟩, by simp [intOf]; omega⟩
              rw [← Pc.part_succ, HY.out]
              exact Pc.St.step ⟨b0, hR, b1, bM, hQ, hB⟩ hNM hgM hg hR1
            · obtain rfl : b = c := by omega
              go_wp2_with fail
              refine ⟨⟨a + 1, by omega, by go_num, ?_⟩, by simp [intOf]; omega⟩
              rw [← Pc.part_row]
              exact ⟨b0, hR, b1, ⟨v, bM, hQ⟩, hB⟩
        · obtain rfl : a = r := by omega
          obtain ⟨bv, cv, rfl⟩ := Row.len hQ
          go_wp2_with (first | (refine wpList_load_row rfl 61 _ rfl M rfl 61 _ _ _ bM Tryz.underlying61 rfl (by kernel_rfl) ?_) | (refine wpList_store_row rfl 61 _ _ rfl N _ rfl rfl 61 _ b0 (by kernel_rfl) rfl (by simp [Value.oneCell']) ?_))
          go_meet
          refine ⟨?_, b1.rowOther _ _ (by omega), Below.setRow hB (by omega) _⟩
          rw [ET.out]
          exact ⟨_, b0.row _, Row.down (Row.same hQ fun g hg => setRow_other _ _ _ _ (by have := (hQ.lt g hg).1; omega)) (by omega)⟩
    · have et : Pc.t3 k (c, r, l) = (c, r, l) := by unfold Pc.t3; rw [if_neg hq]
      have ET := Lib.hid et; clear et
      have tb : ((k:Int) / 2 % 2 == 1) = false := by simp; omega
      rw [tb]
      go_wp2_with fail
      go_meet
      refine ⟨?_, b1, hB⟩
      rw [ET.out]
      exact ⟨_, b0, hR⟩
  clear bx b1 hB
  obtain ⟨bx, b1, hB⟩ := hcut
  have hp := Pc.t3_ok k hp
  obtain ⟨p3, ep⟩ : ∃ p3, Pc.t3 k p2 = p3 := ⟨_, rfl⟩
  rw [ep] at bx hp
  have E3 := Lib.hid ep
  clear ep
  clear W0
  rename World => W0

  obtain ⟨u, b0, hR⟩ := bx
  go_wp2_with (first | (refine wpList_load_row rfl 61 _ rfl N rfl 61 _ _ _ b0 Tryz.underlying61 rfl (by kernel_rfl) ?_) | (refine wpList_store_row rfl 61 _ _ rfl (N+1) _ rfl rfl 61 _ b1 (by kernel_rfl) rfl (by obtain ⟨bv, cv, rfl⟩ := Row.len hR; simp [Value.oneCell']) ?_))
  refine bodyPost_ret (results_cell_row rfl _ _ (N+1) 61 _ _ _ rfl (b1.row _) Tryz.underlying61 rfl (by kernel_rfl)) rfl ?_
  have et : Pc.turn k p = p3 := by unfold Pc.turn; rw [E0.out, E1.out, E2.out, E3.out]
  rw [et]
  exact ⟨_, rfl, ⟨_, rfl, Row.same hR fun g hg => setRow_other _ _ _ _ (Row.typed hR b1 (by decide) g hg)⟩, Below.setRow hB (by omega) _⟩
end Go.Proofs.YtgmhhocpdfdplaaGreat
