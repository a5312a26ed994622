/- A right image, in plain words. -/
import Derived.Test.YtgmhhocpdfdplaaR11r
import Derived.Test.YtgmhhocpdfdplaaGG
namespace Go.Proofs.Ytgmhhocpdfdplaa
open Go.RowKit
set_option maxRecDepth 100000
structure RightI (x : ImgArg) : Prop where
  fr : frE x = 0
  co : compsE x.cs = 0
  ta : tablesE x = 0
  pl : planesE x = 0
  bl : blocksE x.cs = 0
  tg : tagsE x.ts = 0
theorem right_of_imgE {x : ImgArg} (h : imgE x = 0) : RightI x := by
  rw [imgE_eq] at h
  split at h
  · rename_i h1
    split at h
    · rename_i h2
      split at h
      · rename_i h3
        split at h
        · rename_i h4
          split at h
          · rename_i h5
            split at h
            · rename_i h6
              exact ⟨h1, h2, h3, h4, h5, h6⟩
            · rename_i h6; exact absurd h h6
          · rename_i h6; exact absurd h h6
        · rename_i h6; exact absurd h h6
      · rename_i h6; exact absurd h h6
    · rename_i h6; exact absurd h h6
  · rename_i h6; exact absurd h h6
theorem RightI.imgE {x : ImgArg} (h : RightI x) : imgE x = 0 := by
  rw [imgE_eq, if_pos h.fr, if_pos h.co, if_pos h.ta, if_pos h.pl, if_pos h.bl, if_pos h.tg]
/-- The parts as the frame has them. -/
def qsP (x : ImgArg) : List (Int × Int) := partsOf (psOf x.cs)
def uwI (x : ImgArg) : Int := 8 * hhN (qsP x)
def uhI (x : ImgArg) : Int := 8 * vvN (qsP x)
def acI (x : ImgArg) : Int := acN x.w (qsP x)
def dnI (x : ImgArg) : Int := dnN x.h (qsP x)
def pH (x : ImgArg) (i : Nat) : Int := hA (qsP x) i
def pV (x : ImgArg) (i : Nat) : Int := vA (qsP x) i
theorem qsP_len (x : ImgArg) : (qsP x).length = x.cs.length := by
  unfold qsP psOf
  rw [partsOf_len, List.length_map]
theorem RightI.ok {x : ImgArg} (h : RightI x) : FrOk x.w x.h (qsP x) := (newE_zero h.fr).1
theorem firstE_all {e : Nat → Int} : ∀ {f i : Nat}, firstE e f i = 0 → ∀ k, i ≤ k → k < i + f → e k = 0
  | 0, i, _, k, h1, h2 => absurd h2 (by omega)
  | f + 1, i, h, k, h1, h2 => by
    by_cases h0 : e i = 0
    · rw [firstE_go e f i h0] at h
      by_cases hk : k = i
      · rw [hk]; exact h0
      · exact firstE_all h k (by omega) (by omega)
    · rw [firstE_stop e f i h0] at h
      exact absurd h h0
theorem firstE_none {e : Nat → Int} : ∀ {f i : Nat}, (∀ k, i ≤ k → k < i + f → e k = 0) → firstE e f i = 0
  | 0, _, _ => rfl
  | f + 1, i, h => by
    rw [firstE_go e f i (h i (Nat.le_refl _) (by omega))]
    exact firstE_none (fun k h1 h2 => h k (by omega) (by omega))
theorem frG_at (x : ImgArg) {i : Nat} (hi : i < x.cs.length) : (frG x).getD i ⟨0, 0, 0, 0⟩ = gridP x.w x.h (hhN (qsP x)) (vvN (qsP x)) (acI x) (dnI x) (pH x i, pV x i) := by
  have hq : i < (qsP x).length := by rw [qsP_len]; exact hi
  unfold frG gridsN
  rw [List.getD_eq_getElem?_getD, List.getElem?_map]
  have e : (partsOf (psOf x.cs))[i]? = some (pH x i, pV x i) := by
    show (qsP x)[i]? = _
    rw [List.getElem?_eq_getElem hq]
    unfold pH pV hA vA
    simp [List.getD_eq_getElem?_getD, hq]
  rw [e]
  rfl
theorem RightI.plane {x : ImgArg} (h : RightI x) {i : Nat} (hi : i < x.cs.length) :
    Pl.right (x.cs[i]'hi).c (x.cs[i]'hi).r (x.cs[i]'hi).bs.length = true ∧ (x.cs[i]'hi).c = acI x * pH x i ∧ (x.cs[i]'hi).r = dnI x * pV x i := by
  have h0 := firstE_all h.pl i (Nat.zero_le _) (by omega)
  simp only [frG_at x hi, comp_getD hi] at h0
  unfold planeE gridP at h0
  split at h0
  · rename_i h1
    exact ⟨h1.1.1, h1.1.2, h1.2⟩
  · cases h0
theorem RightI.part {x : ImgArg} (h : RightI x) {i : Nat} (hi : i < x.cs.length) : 1 ≤ pH x i ∧ pH x i ≤ 4 ∧ 1 ≤ pV x i ∧ pV x i ≤ 4 := h.ok.ps i (by rw [qsP_len]; exact hi)
theorem RightI.nums {x : ImgArg} (h : RightI x) : (1 ≤ x.w ∧ x.w ≤ 16384) ∧ (1 ≤ x.h ∧ x.h ≤ 16384) ∧ (8 ≤ uwI x ∧ uwI x ≤ 32) ∧ (8 ≤ uhI x ∧ uhI x ≤ 32) ∧ (1 ≤ acI x ∧ acI x ≤ 3000) ∧ 1 ≤ dnI x ∧ dnI x ≤ 3000 := by
  have h1 := h.ok.hh
  have h2 := h.ok.vv
  have h3 := h.ok.ac
  have h4 := h.ok.dn
  have h5 := h.ok.x1
  have h6 := h.ok.y1
  have h7 := h.ok.x2
  have h8 := h.ok.y2
  have e1 : 1 ≤ acI x := by
    have : 1 * (8 * hhN (qsP x)) ≤ x.w + 8 * hhN (qsP x) - 1 := by omega
    exact (Int.le_ediv_iff_mul_le (by omega)).2 this
  have e2 : 1 ≤ dnI x := by
    have : 1 * (8 * vvN (qsP x)) ≤ x.h + 8 * vvN (qsP x) - 1 := by omega
    exact (Int.le_ediv_iff_mul_le (by omega)).2 this
  refine ⟨⟨h5, h7⟩, ⟨h6, h8⟩, ?_, ?_, ⟨e1, h3.2⟩, e2, h4.2⟩
  · unfold uwI; omega
  · unfold uhI; omega
end Go.Proofs.Ytgmhhocpdfdplaa
