/- Whence each place of the document's turned picture comes. -/
import Derived.Test.YtgmhhocpdfdplaaGreatPicTurnB
import Derived.Test.YtgmhhocpdfdplaaGreatGO
namespace Go.Proofs.YtgmhhocpdfdplaaGreat
open Go.RowKit
namespace Pc
def atP (p : Pict) (row col : Nat) : Nat := p.2.2.getD (row * p.1 + col) 0
theorem flat_get (cols : Nat) (f : Nat → Nat → Nat) : ∀ rows row col : Nat, row < rows → col < cols → ((List.range rows).flatMap fun r => (List.range cols).map (f r))[row * cols + col]? = some (f row col)
  | 0, _, _, h, _ => absurd h (by omega)
  | n + 1, row, col, hr, hc => by
    have hl : ((List.range n).flatMap fun r => (List.range cols).map (f r)).length = n * cols := by
      have := part_len cols f n 0
      unfold part at this
      simpa using this
    rw [List.range_succ, List.flatMap_append]
    by_cases h : row < n
    · have := under h hc
      rw [List.getElem?_append_left (by omega)]
      exact flat_get cols f n row col h hc
    · obtain rfl : row = n := by omega
      rw [List.getElem?_append_right (by omega), hl, Nat.add_sub_cancel_left]
      simp [hc]
theorem grid_at {rows cols : Nat} (f : Nat → Nat → Nat) {row col : Nat} (hr : row < rows) (hc : col < cols) : (grid rows cols f).getD (row * cols + col) 0 = f row col := by
  have := flat_get cols f rows row col hr hc
  unfold grid part
  simp only [List.range_zero, List.map_nil, List.append_nil]
  rw [List.getD_eq_getElem?_getD, this]
  rfl
def pic (c r : Nat) : Pict := (c, r, List.range (c * r))
theorem pic_ok {c r : Nat} (hc : c ≤ 16384) (hr : r ≤ 16384) (hcr : c * r ≤ 16384) : Ok (pic c r) := ⟨by simp [pic], hc, hr, hcr⟩
theorem pic_at {c r row col : Nat} (hr : row < r) (hc : col < c) : atP (pic c r) row col = row * c + col := by
  have := under hr hc
  unfold atP pic
  simp only
  rw [List.getD_eq_getElem?_getD, List.getElem?_range (by rw [Nat.mul_comm c r]; exact this)]
  rfl
theorem at1 {k : Nat} (h : 4 ≤ k) (p : Pict) {row col : Nat} (hr : row < p.1) (hc : col < p.2.1) : atP (t1 k p) row col = atP p col row := by
  unfold t1
  rw [if_pos h]
  exact grid_at (f1 p) hr hc
theorem at2 {k : Nat} (h : k % 2 = 1) (p : Pict) {row col : Nat} (hr : row < p.2.1) (hc : col < p.1) : atP (t2 k p) row col = atP p row (p.1 - 1 - col) := by
  unfold t2
  rw [if_pos h]
  have := grid_at (f2 p) hr hc
  unfold atP
  simp only
  rw [this]
  unfold f2
  congr 1
  omega
theorem at3 {k : Nat} (h : k / 2 % 2 = 1) (p : Pict) {row col : Nat} (hr : row < p.2.1) (hc : col < p.1) : atP (t3 k p) row col = atP p (p.2.1 - 1 - row) col := by
  unfold t3
  rw [if_pos h]
  exact grid_at (f3 p) hr hc
theorem dims1 (k : Nat) (p : Pict) : ((t1 k p).1, (t1 k p).2.1) = if 4 ≤ k then (p.2.1, p.1) else (p.1, p.2.1) := by unfold t1; split <;> rfl
theorem dims2 (k : Nat) (p : Pict) : (t2 k p).1 = p.1 ∧ (t2 k p).2.1 = p.2.1 := by unfold t2; split <;> exact ⟨rfl, rfl⟩
theorem dims3 (k : Nat) (p : Pict) : (t3 k p).1 = p.1 ∧ (t3 k p).2.1 = p.2.1 := by unfold t3; split <;> exact ⟨rfl, rfl⟩
theorem turn_dims (k : Nat) (p : Pict) : ((turn k p).1, (turn k p).2.1) = if 4 ≤ k then (p.2.1, p.1) else (p.1, p.2.1) := by
  unfold turn
  rw [(dims3 k _).1, (dims3 k _).2, (dims2 k _).1, (dims2 k _).2, dims1]
theorem turn_at (k : Nat) (p : Pict) {row col : Nat} (hr : row < (t1 k p).2.1) (hc : col < (t1 k p).1) :
    atP (turn k p) row col = atP (t1 k p) (if k / 2 % 2 = 1 then (t1 k p).2.1 - 1 - row else row) (if k % 2 = 1 then (t1 k p).1 - 1 - col else col) := by
  unfold turn
  generalize t1 k p = q at *
  have d2 := dims2 k q
  by_cases h3 : k / 2 % 2 = 1
  · rw [if_pos h3, at3 h3 (t2 k q) (by rw [d2.2]; exact hr) (by rw [d2.1]; exact hc), d2.2]
    by_cases h2 : k % 2 = 1
    · rw [if_pos h2, at2 h2 q (by omega) hc]
    · rw [if_neg h2]; unfold t2; rw [if_neg h2]
  · rw [if_neg h3]
    have e : t3 k (t2 k q) = t2 k q := by unfold t3; rw [if_neg h3]
    rw [e]
    by_cases h2 : k % 2 = 1
    · rw [if_pos h2, at2 h2 q hr hc]
    · rw [if_neg h2]; unfold t2; rw [if_neg h2]
theorem from_hi {k : Nat} (h4 : 4 ≤ k) (hk : k < 8) (c r a b : Nat) : Tu.from_ (k : Int) (c : Int) (r : Int) (a : Int) (b : Int) = (if (k : Int) % 2 = 1 then (r : Int) - 1 - (b : Int) else (b : Int), if (k : Int) / 2 % 2 = 1 then (c : Int) - 1 - (a : Int) else (a : Int)) := by
  unfold Tu.from_
  rw [if_pos ⟨by omega, by omega⟩, if_pos (by omega)]
theorem from_lo4 {k : Nat} (h4 : ¬ 4 ≤ k) (c r a b : Nat) : Tu.from_ (k : Int) (c : Int) (r : Int) (a : Int) (b : Int) = (if (k : Int) / 2 % 2 = 1 then (r : Int) - 1 - (a : Int) else (a : Int), if (k : Int) % 2 = 1 then (c : Int) - 1 - (b : Int) else (b : Int)) := by
  unfold Tu.from_
  rw [if_pos ⟨by omega, by omega⟩, if_neg (by omega)]
theorem sel_nat (k : Nat) (n x : Nat) (hx : x < n) : (if k % 2 = 1 then n - 1 - x else x) = (if (k : Int) % 2 = 1 then (n : Int) - 1 - (x : Int) else (x : Int)).toNat ∧ (if k % 2 = 1 then n - 1 - x else x) < n := by
  by_cases h : k % 2 = 1
  · rw [if_pos h, if_pos (by omega)]; omega
  · rw [if_neg h, if_neg (by omega)]; omega
theorem sel_nat2 (k : Nat) (n x : Nat) (hx : x < n) : (if k / 2 % 2 = 1 then n - 1 - x else x) = (if (k : Int) / 2 % 2 = 1 then (n : Int) - 1 - (x : Int) else (x : Int)).toNat ∧ (if k / 2 % 2 = 1 then n - 1 - x else x) < n := by
  by_cases h : k / 2 % 2 = 1
  · rw [if_pos h, if_pos (by omega)]; omega
  · rw [if_neg h, if_neg (by omega)]; omega
theorem srcN_nat (k : Int) (c r m j : Nat) : srcN k c r m j = ((Tu.from_ k c r ((j / m : Nat) : Int) ((j % m : Nat) : Int)).1.toNat, (Tu.from_ k c r ((j / m : Nat) : Int) ((j % m : Nat) : Int)).2.toNat) := by
  unfold srcN
  rw [Int.natCast_ediv, Int.natCast_emod]
/-- What the picture of c columns and r rows, turned, has at place j. -/
theorem pic_src (k : Nat) (hk : k < 8) (c r : Nat) : Tu.sides k c r = (((turn k (pic c r)).1 : Int), ((turn k (pic c r)).2.1 : Int)) ∧ ∀ j, j < c * r → (turn k (pic c r)).2.2.getD j 0 = (srcN k c r (turn k (pic c r)).1 j).1 * c + (srcN k c r (turn k (pic c r)).1 j).2 := by
  have hd := turn_dims k (pic c r)
  have h1 := dims1 k (pic c r)
  have hat := fun row col => turn_at k (pic c r) (row := row) (col := col)
  by_cases h4 : 4 ≤ k
  · have ha1 := fun row col => at1 h4 (pic c r) (row := row) (col := col)
    rw [if_pos h4] at hd h1
    simp only [Prod.mk.injEq] at hd h1
    rw [h1.1, h1.2] at hat
    have d1 : (pic c r).1 = c := rfl
    have d2 : (pic c r).2.1 = r := rfl
    rw [d1, d2] at hd hat ha1
    have hs : Tu.sides k c r = ((r : Int), (c : Int)) := by unfold Tu.sides; rw [if_pos ⟨by omega, by omega⟩, if_pos (by omega)]
    refine ⟨by rw [hs, hd.1, hd.2], fun j hj => ?_⟩
    have hr0 : 0 < r := Nat.pos_of_ne_zero fun e => by rw [e, Nat.mul_zero] at hj; omega
    have q1 : j / r < c := Nat.div_lt_of_lt_mul (by rw [Nat.mul_comm]; exact hj)
    have q2 : j % r < r := Nat.mod_lt _ hr0
    have hdm : j / r * r + j % r = j := by have := Nat.div_add_mod j r; rw [Nat.mul_comm] at this; exact this
    rw [hd.1, srcN_nat, from_hi h4 hk]
    have ht := hat (j / r) (j % r) q1 q2
    have e0 : atP (turn k (pic c r)) (j / r) (j % r) = (turn k (pic c r)).2.2.getD j 0 := by
      unfold atP
      rw [hd.1, hdm]
    rw [e0] at ht
    rw [ht]
    generalize j / r = a at *
    generalize j % r = b at *
    obtain ⟨x1, y1⟩ := sel_nat k r b q2
    obtain ⟨x2, y2⟩ := sel_nat2 k c a q1
    rw [ha1 _ _ y2 y1, pic_at y1 y2]
    simp only
    rw [x1, x2]
  · rw [if_neg h4] at hd h1
    simp only [Prod.mk.injEq] at hd h1
    rw [h1.1, h1.2] at hat
    have d1 : (pic c r).1 = c := rfl
    have d2 : (pic c r).2.1 = r := rfl
    rw [d1, d2] at hd hat
    have et : t1 k (pic c r) = pic c r := by unfold t1; rw [if_neg h4]
    rw [et] at hat
    have hs : Tu.sides k c r = ((c : Int), (r : Int)) := by unfold Tu.sides; rw [if_pos ⟨by omega, by omega⟩, if_neg (by omega)]
    refine ⟨by rw [hs, hd.1, hd.2], fun j hj => ?_⟩
    have hr0 : 0 < c := Nat.pos_of_ne_zero fun e => by rw [e, Nat.zero_mul] at hj; omega
    have q1 : j / c < r := Nat.div_lt_of_lt_mul hj
    have q2 : j % c < c := Nat.mod_lt _ hr0
    have hdm : j / c * c + j % c = j := by have := Nat.div_add_mod j c; rw [Nat.mul_comm] at this; exact this
    rw [hd.1, srcN_nat, from_lo4 h4]
    have ht := hat (j / c) (j % c) q1 q2
    have e0 : atP (turn k (pic c r)) (j / c) (j % c) = (turn k (pic c r)).2.2.getD j 0 := by
      unfold atP
      rw [hd.1, hdm]
    rw [e0] at ht
    rw [ht]
    generalize j / c = a at *
    generalize j % c = b at *
    obtain ⟨x1, y1⟩ := sel_nat k c b q2
    obtain ⟨x2, y2⟩ := sel_nat2 k r a q1
    rw [pic_at y2 y1]
    simp only
    rw [x1, x2]
/-- Which way a picture of 3 by 2 is mirrored. -/
theorem pic_mir : ∀ k : Fin 8, (decide ((turn k.1 (pic 3 2)).2.2.getD 0 0 % 3 > 0) = Tu.mirA (k.1 : Int)) ∧ (decide ((turn k.1 (pic 3 2)).2.2.getD 0 0 / 3 > 0) = Tu.mirD (k.1 : Int)) ∧ (turn k.1 (pic 3 2)).2.2.getD 0 0 < 6 ∧ (turn k.1 (pic 3 2)).2.2.length = 6 := by decide +kernel
end Pc
end Go.Proofs.YtgmhhocpdfdplaaGreat
