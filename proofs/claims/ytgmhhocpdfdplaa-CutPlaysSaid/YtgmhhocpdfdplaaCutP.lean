/- Rectangles of units, in plain words. -/
import Derived.Test.YtgmhhocpdfdplaaCutE
import Derived.Test.YtgmhhocpdfdplaaSel
namespace Go.Proofs.Ytgmhhocpdfdplaa
open Go.RowKit
set_option maxRecDepth 100000
theorem upI_one {a b : Int} (ha : 1 ≤ a) (hb : 1 ≤ b) : 1 ≤ upI a b := by
  unfold upI
  exact (Int.le_ediv_iff_mul_le (by omega)).2 (by omega)
theorem upI_fit {a b z l : Int} (hb : 1 ≤ b) (h0 : z % b = 0) (hl : a + z ≤ l) : z / b + upI a b ≤ upI l b := by
  unfold upI
  have e1 : z = b * (z / b) := by have := Int.mul_ediv_add_emod z b; omega
  have e2 : (a + b - 1 + b * (z / b)) / b = (a + b - 1) / b + z / b := Int.add_mul_ediv_left _ _ (by omega)
  have e3 : (a + b - 1 + b * (z / b)) / b ≤ (l + b - 1) / b := Int.ediv_le_ediv (by omega) (by omega)
  omega
theorem upI_le {a b : Int} (ha : 0 ≤ a) (hb : 1 ≤ b) : upI a b ≤ a := (upI_in ha hb).2
theorem unE_zero {x : ImgArg} {X Y W H : Int} (h : unE x X Y W H = 0) : wiE x X Y W H = 0 ∧ X % uwI x = 0 ∧ Y % uhI x = 0 := by
  unfold unE at h
  split at h
  · rename_i h0
    split at h
    · rename_i h1
      exact ⟨h0, h1⟩
    · cases h
  · rename_i h0
    exact absurd h h0
structure UnOk (x : ImgArg) (X Y W H : Int) : Prop where
  R : RightI x
  a0 : 0 ≤ unA x Y
  b0 : 0 ≤ unB x X
  h1 : 1 ≤ upI H (uhI x)
  d1 : 1 ≤ upI W (uwI x)
  ah : unA x Y + upI H (uhI x) ≤ dnI x
  bd : unB x X + upI W (uwI x) ≤ acI x
theorem un_ok {x : ImgArg} {X Y W H : Int} (h : unE x X Y W H = 0) : UnOk x X Y W H := by
  obtain ⟨h0, h1, h2⟩ := unE_zero h
  obtain ⟨hi, ⟨x1, x2, x3, x4⟩, y1, y2, y3, y4⟩ := wiE_zero h0
  have hR := right_of_imgE hi
  obtain ⟨hw, hh, hu, hv, ha, hd⟩ := hR.nums
  exact ⟨hR, Int.ediv_nonneg y1 (by omega), Int.ediv_nonneg x1 (by omega), upI_one y2 (by omega), upI_one x2 (by omega), upI_fit (by omega) h2 (by omega), upI_fit (by omega) h1 (by omega)⟩
/-- A component's blocks, as natural numbers. -/
structure CutN (x : ImgArg) (i : Nat) (hi : i < x.cs.length) (X Y W H : Int) (c r a b h d : Nat) : Prop where
  ec : (x.cs[i]'hi).c = c
  er : (x.cs[i]'hi).r = r
  ea : unA x Y * pV x i = a
  eb : unB x X * pH x i = b
  eh : upI H (uhI x) * pV x i = h
  ed : upI W (uwI x) * pH x i = d
  n : (x.cs[i]'hi).bs.length = c * r
  rt : Pl.right c r (x.cs[i]'hi).bs.length = true
  ah : a + h ≤ r
  bd : b + d ≤ c
  d1 : 1 ≤ d
  h1 : 1 ≤ h
  cr : c * r ≤ 16384
  c1 : c ≤ 16384
  r1 : r ≤ 16384
theorem UnOk.nats {x : ImgArg} {X Y W H : Int} (q : UnOk x X Y W H) {i : Nat} (hi : i < x.cs.length) : ∃ c r a b h d : Nat, CutN x i hi X Y W H c r a b h d := by
  obtain ⟨hr, hc1, hr1⟩ := q.R.plane hi
  obtain ⟨p1, p2, p3, p4⟩ := q.R.part hi
  obtain ⟨k1, k2, k3, k4, k5, k6⟩ := Pl.right_nat hr
  have a0 := q.a0; have b0 := q.b0; have h1 := q.h1; have d1 := q.d1; have ah := q.ah; have bd := q.bd
  generalize gA : unA x Y = A at *
  generalize gB : unB x X = B at *
  generalize gH : upI H (uhI x) = HH at *
  generalize gD : upI W (uwI x) = D at *
  generalize gp : pH x i = p at *
  generalize gv : pV x i = v at *
  generalize acI x = ac at *
  generalize dnI x = dn at *
  generalize hc : (x.cs[i]'hi).c = c at *
  generalize hrr : (x.cs[i]'hi).r = r at *
  have e1 : 0 ≤ A * v := Int.mul_nonneg a0 (by omega)
  have e2 : 0 ≤ B * p := Int.mul_nonneg b0 (by omega)
  have e3 : 1 * 1 ≤ HH * v := Int.mul_le_mul h1 p3 (by omega) (by omega)
  have e4 : 1 * 1 ≤ D * p := Int.mul_le_mul d1 p1 (by omega) (by omega)
  have e5 : (A + HH) * v ≤ dn * v := Int.mul_le_mul_of_nonneg_right ah (by omega)
  have e6 : (B + D) * p ≤ ac * p := Int.mul_le_mul_of_nonneg_right bd (by omega)
  rw [Int.add_mul] at e5 e6
  obtain ⟨cn, rfl⟩ : ∃ k : Nat, c = k := ⟨c.toNat, by omega⟩
  obtain ⟨rn, rfl⟩ : ∃ k : Nat, r = k := ⟨r.toNat, by omega⟩
  have hn : (x.cs[i]'hi).bs.length = cn * rn := by exact_mod_cast k5
  refine ⟨cn, rn, (A * v).toNat, (B * p).toNat, (HH * v).toNat, (D * p).toNat, ⟨?_, ?_, by rw [gA, gv]; omega, by rw [gB, gp]; omega, by rw [gH, gv]; omega, by rw [gD, gp]; omega, hn, hr, by omega, by omega, by omega, by omega, ?_, by omega, by omega⟩⟩
  · exact hc
  · exact hrr
  · have : ((cn * rn : Nat) : Int) ≤ 16384 := by rw [Int.natCast_mul]; omega
    exact Int.ofNat_le.1 this
end Go.Proofs.Ytgmhhocpdfdplaa
