/- The blocks that a rectangle touches, in plain words. -/
import Derived.Test.YtgmhhocpdfdplaaCutJ
namespace Go.Proofs.Ytgmhhocpdfdplaa
open Go.RowKit
set_option maxRecDepth 100000
theorem tou_axis {z n u p c : Int} (hu : 1 ≤ u) (hp : 1 ≤ p) (h0 : z % u = 0) : (z < c / p * u + u ∧ c / p * u < z + n) ↔ (z / u * p ≤ c ∧ c < z / u * p + upI n u * p) := by
  have hz : z = z / u * u := by have := Int.mul_ediv_add_emod z u; rw [Int.mul_comm] at this; omega
  obtain ⟨q, hq⟩ : ∃ q, c / p = q := ⟨_, rfl⟩
  obtain ⟨m, hm⟩ : ∃ m, z / u = m := ⟨_, rfl⟩
  rw [hm] at hz
  rw [hq, hm]
  have e1 : (z < q * u + u) ↔ m * p ≤ c := by
    have : (m ≤ q) ↔ m * p ≤ c := by rw [← hq]; exact Int.le_ediv_iff_mul_le (by omega)
    rw [← this, hz]
    constructor
    · intro h
      have h2 : m * u < (q + 1) * u := by rw [Int.add_mul, Int.one_mul]; exact h
      have := Int.lt_of_mul_lt_mul_right h2 (by omega)
      omega
    · intro h
      have h2 : m * u ≤ q * u := Int.mul_le_mul_of_nonneg_right h (by omega)
      omega
  have e2 : (q * u < z + n) ↔ c < m * p + upI n u * p := by
    have h1 : (q < m + upI n u) ↔ c < (m + upI n u) * p := by rw [← hq]; exact Int.ediv_lt_iff_lt_mul (by omega)
    rw [← Int.add_mul, ← h1]
    have h2 : (q - m + 1 ≤ upI n u) ↔ (q - m + 1) * u ≤ n + u - 1 := by unfold upI; exact Int.le_ediv_iff_mul_le (by omega)
    have h3 : (q - m + 1) * u = q * u - m * u + u := by rw [Int.add_mul, Int.sub_mul, Int.one_mul]
    rw [h3] at h2
    constructor
    · intro h
      have : q - m + 1 ≤ upI n u := h2.2 (by omega)
      omega
    · intro h
      have := h2.1 (by omega)
      omega
  rw [e1, e2]
theorem touB_in {x : ImgArg} {X Y W H : Int} (h : unE x X Y W H = 0) {i : Nat} (hi : i < x.cs.length) (row col : Int) :
    touB x X Y W H i row col = decide ((unA x Y * pV x i ≤ row ∧ row < unA x Y * pV x i + upI H (uhI x) * pV x i) ∧ unB x X * pH x i ≤ col ∧ col < unB x X * pH x i + upI W (uwI x) * pH x i) := by
  obtain ⟨h0, h1, h2⟩ := unE_zero h
  have hR := (un_ok h).R
  obtain ⟨-, -, hu, hv, -⟩ := hR.nums
  obtain ⟨p1, p2, p3, p4⟩ := hR.part hi
  have a1 := tou_axis (z := X) (n := W) (u := uwI x) (p := pH x i) (c := col) (by omega) p1 h1
  have a2 := tou_axis (z := Y) (n := H) (u := uhI x) (p := pV x i) (c := row) (by omega) p3 h2
  unfold touB touN unA unB
  rw [decide_eq_decide, ← a1, ← a2]
  constructor
  · rintro ⟨k1, k2, k3, k4⟩; exact ⟨⟨k3, k4⟩, k1, k2⟩
  · rintro ⟨⟨k3, k4⟩, k1, k2⟩; exact ⟨k1, k2, k3, k4⟩
theorem firstE_val (e : Nat → Int) : ∀ f i, firstE e f i = 0 ∨ ∃ k, firstE e f i = e k
  | 0, _ => .inl rfl
  | f + 1, i => by
    by_cases h : e i = 0
    · rw [firstE_go e f i h]; exact firstE_val e f (i + 1)
    · rw [firstE_stop e f i h]; exact .inr ⟨i, rfl⟩
theorem firstE_ne (e : Nat → Int) (z : Int) (hz : z ≠ 0) (h : ∀ k, e k ≠ z) (f i : Nat) : firstE e f i ≠ z := by
  rcases firstE_val e f i with h1 | ⟨k, h1⟩
  · rw [h1]; exact fun h => hz h.symm
  · rw [h1]; exact h k
/-- No image's own error is that of an edge or of a rectangle. -/
theorem imgE_ne (x : ImgArg) (z : Int) (hz : z = 13 ∨ z = 14 ∨ z = 1) : imgE x ≠ z := by
  have hz0 : z ≠ 0 := by omega
  unfold imgE
  refine firstE_ne _ z hz0 (fun k => ?_) _ _
  have c1 : frE x ≠ z := by
    unfold frE newE rightE
    split
    · split
      · omega
      · split
        · omega
        · split <;> omega
    · split
      · omega
      · split <;> omega
  have c2 : compsE x.cs ≠ z := firstE_ne _ z hz0 (fun k => by unfold compE; split <;> omega) _ _
  have c3 : tablesE x ≠ z := by
    unfold tablesE
    split
    · exact firstE_ne _ z hz0 (fun k => by unfold compTE; split <;> omega) _ _
    · exact firstE_ne _ z hz0 (fun k => by unfold quantE; split <;> omega) _ _
  have c4 : planesE x ≠ z := firstE_ne _ z hz0 (fun k => by unfold planeE; split <;> omega) _ _
  have c5 : blocksE x.cs ≠ z := firstE_ne _ z hz0 (fun k => firstE_ne _ z hz0 (fun j => by unfold blockE; split <;> omega) _ _) _ _
  have c6 : tagsE x.ts ≠ z := by
    unfold tagsE
    split
    · omega
    · exact firstE_ne _ z hz0 (fun k => by unfold tagE; split; omega; split <;> omega) _ _
  match k with
  | 0 => exact c1
  | 1 => exact c2
  | 2 => exact c3
  | 3 => exact c4
  | 4 => exact c5
  | 5 => exact c6
  | k + 6 => show (0 : Int) ≠ z; omega
theorem wiE_ne (x : ImgArg) (X Y W H : Int) : wiE x X Y W H ≠ 13 ∧ wiE x X Y W H ≠ 1 := by
  unfold wiE
  split
  · split <;> omega
  · exact ⟨imgE_ne x 13 (.inl rfl), imgE_ne x 1 (.inr (.inr rfl))⟩
end Go.Proofs.Ytgmhhocpdfdplaa
