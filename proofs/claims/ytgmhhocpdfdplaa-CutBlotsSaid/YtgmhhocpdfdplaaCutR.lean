/- Redacting: twice is once; what changes and what does not. -/
import Derived.Test.YtgmhhocpdfdplaaCutT
import Derived.Test.YtgmhhocpdfdplaaCutH
namespace Go.Proofs.Ytgmhhocpdfdplaa
open Go.RowKit
set_option maxRecDepth 100000
theorem SameD.reE {x y : ImgArg} (h : SameD x y) (X Y W H : Int) : reE y X Y W H = reE x X Y W H := by
  unfold Go.Proofs.Ytgmhhocpdfdplaa.reE uwI uhI
  rw [h.unE, h.qsP, h.w, h.h]
theorem SameD.redG {x y : ImgArg} (h : SameD x y) (X Y W H : Int) : redG y X Y W H = redG x X Y W H := by
  funext i
  have hq := h.qsP
  have hg := h.getD i
  unfold Go.Proofs.Ytgmhhocpdfdplaa.redG unA unB uwI uhI pH pV
  rw [hq]
  have e1 : (y.cs.getD i noComp).bs = (x.cs.getD i noComp).bs := congrArg (fun t => t.2.2.2) hg
  have e2 : (y.cs.getD i noComp).c = (x.cs.getD i noComp).c := congrArg (fun t => t.2.1) hg
  have e3 : (y.cs.getD i noComp).r = (x.cs.getD i noComp).r := congrArg (fun t => t.2.2.1) hg
  rw [e1, e2, e3]
theorem SameD.red {x y : ImgArg} (h : SameD x y) (X Y W H : Int) : SameD (redD x X Y W H) (redD y X Y W H) := by
  unfold redD
  rw [h.reE]
  by_cases h0 : Go.Proofs.Ytgmhhocpdfdplaa.reE x X Y W H = 0
  · rw [if_pos h0, if_pos h0]
    exact ⟨h.w, h.h, putAll_cd h.len (fun i _ => congrArg (fun t => t.1) (h.getD i)) (fun i _ => by rw [h.redG]), h.qs, h.ts⟩
  · rw [if_neg h0, if_neg h0]
    exact SameD.refl _
theorem blk_pnt {bs : List (List Int)} {S : Nat → Bool} {z : List Int} {n j : Nat} (h : j < n) : Pl.blk (Pl.pnt bs S z n) j = if S j = true then z else Pl.blk bs j := by
  have hj : j < (Pl.pnt bs S z n).length := by rw [Pl.pnt_len]; exact h
  rw [← Pl.blk_eq hj]
  simp [Pl.pnt]
theorem pnt_pnt (bs : List (List Int)) (S : Nat → Bool) (z : List Int) (n : Nat) : Pl.pnt (Pl.pnt bs S z n) S z n = Pl.pnt bs S z n := by
  show (List.range n).map _ = (List.range n).map _
  refine List.map_congr_left fun j hj => ?_
  rw [blk_pnt (List.mem_range.1 hj)]
  split <;> rfl
theorem redD_cs {x : ImgArg} {X Y W H : Int} (h : reE x X Y W H = 0) {i : Nat} (hi : i < x.cs.length) : (redD x X Y W H).cs.getD i noComp = setP (x.cs.getD i noComp) (redG x X Y W H i).c (redG x X Y W H i).r (.slice none 0 0) (redG x X Y W H i).l := by
  have hD : redD x X Y W H = putAll x (redG x X Y W H) := if_pos h
  rw [hD, putAll_getD x _ hi]
theorem redD_like {x : ImgArg} {X Y W H : Int} (h : reE x X Y W H = 0) : reE (redD x X Y W H) X Y W H = 0 ∧ SameD (redD x X Y W H) (redD (redD x X Y W H) X Y W H) := by
  obtain ⟨hu, hR⟩ := red_right h
  have hI := hR.imgE
  have hcs := fun i hi => redD_cs h (i := i) hi
  have hD : redD x X Y W H = putAll x (redG x X Y W H) := if_pos h
  have hst := putAll_strip2 x (redG x X Y W H)
  have hq : qsP (redD x X Y W H) = qsP x := by rw [hD]; unfold qsP; rw [psOf_eq hst]
  have hw : (redD x X Y W H).w = x.w := by rw [hD]; rfl
  have hh : (redD x X Y W H).h = x.h := by rw [hD]; rfl
  have hl : (redD x X Y W H).cs.length = x.cs.length := by rw [hD, putAll_len]
  have hix : imgE x = 0 := (wiE_zero (unE_zero hu).1).1
  generalize hE : redD x X Y W H = D at *
  have he : reE D X Y W H = 0 := by
    rw [← h]
    unfold reE unE wiE uwI uhI
    rw [hI, hix, hq, hw, hh]
  refine ⟨he, ?_⟩
  have hD2 : redD D X Y W H = putAll D (redG D X Y W H) := if_pos he
  rw [hD2]
  refine ⟨rfl, rfl, ?_, rfl, rfl⟩
  refine List.ext_getElem? fun i => ?_
  simp only [List.getElem?_map]
  by_cases hi : i < x.cs.length
  · have hi2 : i < D.cs.length := by rw [hl]; exact hi
    have hi3 : i < (putAll D (redG D X Y W H)).cs.length := by rw [putAll_len]; exact hi2
    rw [List.getElem?_eq_getElem hi2, List.getElem?_eq_getElem hi3]
    simp only [Option.map_some]
    congr 1
    rw [putAll_at D _ hi2 hi3, ← comp_getD hi2]
    have hc := hcs i hi
    unfold redG unA unB uwI uhI pH pV
    rw [hq, hc]
    unfold setP cd
    simp only
    unfold redG unA unB uwI uhI pH pV
    simp only [Pl.pnt_len, pnt_pnt]
  · have h1 : D.cs[i]? = none := List.getElem?_eq_none (by omega)
    have h2 : (putAll D (redG D X Y W H)).cs[i]? = none := List.getElem?_eq_none (by rw [putAll_len]; omega)
    rw [h1, h2]
/-- Redacting what was redacted. -/
theorem red_twice {x y : ImgArg} {X Y W H : Int} (h : reE x X Y W H = 0) (hy : SameD (redD x X Y W H) y) : reE y X Y W H = 0 ∧ SameD y (redD y X Y W H) := by
  obtain ⟨h1, h2⟩ := redD_like h
  exact ⟨by rw [hy.reE, h1], (hy.symm.trans h2).trans (hy.red X Y W H)⟩
/-- A redacted image's blocks. -/
theorem red_blk {x y : ImgArg} {X Y W H : Int} (h : reE x X Y W H = 0) (hy : SameD (redD x X Y W H) y) {i : Nat} (hi : i < x.cs.length) (hi' : i < y.cs.length) {c r a b hh d : Nat} (n : CutN x i hi X Y W H c r a b hh d) :
    (y.cs[i]'hi').bs.length = (x.cs[i]'hi).bs.length ∧ ∀ z, z < (x.cs[i]'hi).bs.length → Pl.blk (y.cs[i]'hi').bs z = if Pl.insI a b hh d c z = true then zero64 else Pl.blk (x.cs[i]'hi).bs z := by
  have hg := hy.getD i
  rw [redD_cs h hi, comp_getD hi', comp_getD hi] at hg
  have e1 : (y.cs[i]'hi').bs = (redG x X Y W H i).l := congrArg (fun t => t.2.2.2) hg
  rw [e1]
  unfold redG
  simp only
  rw [comp_getD hi, n.ec, n.ea, n.eb, n.eh, n.ed]
  simp only [Int.toNat_natCast]
  exact ⟨Pl.pnt_len _ _ _ _, fun z hz => blk_pnt hz⟩
end Go.Proofs.Ytgmhhocpdfdplaa
