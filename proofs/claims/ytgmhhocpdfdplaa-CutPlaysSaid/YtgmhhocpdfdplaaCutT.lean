/- Cropping twice is cropping once, in plain words. -/
import Derived.Test.YtgmhhocpdfdplaaCutL
namespace Go.Proofs.Ytgmhhocpdfdplaa
open Go.RowKit
set_option maxRecDepth 100000
theorem cd_strip2 {xs ys : List CompArg} (h : xs.map cd = ys.map cd) : xs.map strip2 = ys.map strip2 := by
  have e : ∀ l : List CompArg, l.map strip2 = (l.map cd).map (fun t => (⟨t.1.1, t.1.2.1, t.1.2.2.1, t.1.2.2.2, 0, 0, .slice none 0 0, []⟩ : CompArg)) := fun l => by rw [List.map_map]; rfl
  rw [e xs, e ys, h]
theorem SameD.qsP {x y : ImgArg} (h : SameD x y) : qsP y = qsP x := by
  unfold Go.Proofs.Ytgmhhocpdfdplaa.qsP
  rw [psOf_eq (cd_strip2 h.cs)]
theorem SameD.unE {x y : ImgArg} (h : SameD x y) (X Y W H : Int) : unE y X Y W H = unE x X Y W H := by
  unfold Go.Proofs.Ytgmhhocpdfdplaa.unE wiE uwI uhI
  rw [h.err, h.w, h.h, h.qsP]
theorem SameD.getD {x y : ImgArg} (h : SameD x y) (i : Nat) : cd (y.cs.getD i noComp) = cd (x.cs.getD i noComp) := by
  have hi := congrArg (fun l => l[i]?) h.cs
  simp only [List.getElem?_map] at hi
  simp only [List.getD_eq_getElem?_getD]
  cases hx : y.cs[i]? with
  | none => cases hy : x.cs[i]? with
    | none => rfl
    | some b => rw [hx, hy] at hi; cases hi
  | some a => cases hy : x.cs[i]? with
    | none => rw [hx, hy] at hi; cases hi
    | some b =>
      rw [hx, hy] at hi
      simpa using hi
theorem SameD.trans {x y z : ImgArg} (h : SameD x y) (k : SameD y z) : SameD x z := ⟨k.w.trans h.w, k.h.trans h.h, k.cs.trans h.cs, k.qs.trans h.qs, k.ts.trans h.ts⟩
theorem SameD.symm {x y : ImgArg} (h : SameD x y) : SameD y x := ⟨h.w.symm, h.h.symm, h.cs.symm, h.qs.symm, h.ts.symm⟩
/-- Planes put into images alike. -/
theorem putAll_cd {x y : ImgArg} {G K : Nat → PlaneV} (hl : y.cs.length = x.cs.length) (hc : ∀ i, i < x.cs.length → ((y.cs.getD i noComp).id, (y.cs.getD i noComp).h, (y.cs.getD i noComp).v, (y.cs.getD i noComp).q) = ((x.cs.getD i noComp).id, (x.cs.getD i noComp).h, (x.cs.getD i noComp).v, (x.cs.getD i noComp).q))
    (hG : ∀ i, i < x.cs.length → K i = G i) : (putAll y K).cs.map cd = (putAll x G).cs.map cd := by
  unfold putAll
  simp only [List.map_map, hl]
  refine List.map_congr_left fun i hi => ?_
  have hi' : i < x.cs.length := List.mem_range.1 hi
  have h1 := hc i hi'
  simp only [Function.comp, cd, setP, hG i hi']
  rw [h1]
theorem SameD.cropG {x y : ImgArg} (h : SameD x y) (X Y W H : Int) : cropG y X Y W H = cropG x X Y W H := by
  funext i
  have hq := h.qsP
  have hg := h.getD i
  unfold Go.Proofs.Ytgmhhocpdfdplaa.cropG unA unB uwI uhI pH pV
  rw [hq]
  have e1 : (y.cs.getD i noComp).bs = (x.cs.getD i noComp).bs := congrArg (fun t => t.2.2.2) hg
  have e2 : (y.cs.getD i noComp).c = (x.cs.getD i noComp).c := congrArg (fun t => t.2.1) hg
  rw [e1, e2]
theorem SameD.crop {x y : ImgArg} (h : SameD x y) (X Y W H : Int) : SameD (cropD x X Y W H) (cropD y X Y W H) := by
  unfold cropD
  rw [h.unE]
  by_cases h0 : Go.Proofs.Ytgmhhocpdfdplaa.unE x X Y W H = 0
  · rw [if_pos h0, if_pos h0]
    exact ⟨rfl, rfl, putAll_cd h.len (fun i _ => congrArg (fun t => t.1) (h.getD i)) (fun i _ => by rw [h.cropG]), h.qs, h.ts⟩
  · rw [if_neg h0, if_neg h0]
    exact SameD.refl _
theorem putAll_getD (x : ImgArg) (G : Nat → PlaneV) {i : Nat} (hi : i < x.cs.length) : (putAll x G).cs.getD i noComp = setP (x.cs.getD i noComp) (G i).c (G i).r (.slice none 0 0) (G i).l := by
  have hi' : i < (putAll x G).cs.length := by rw [putAll_len]; exact hi
  rw [comp_getD hi', putAll_at x G hi hi', comp_getD hi]
/-- Cropping twice is cropping once. -/
theorem crop_twice {x : ImgArg} {X Y W H X2 Y2 W2 H2 : Int} (h1 : unE x X Y W H = 0) (h2 : unE (cropD x X Y W H) X2 Y2 W2 H2 = 0) :
    unE x (X + X2) (Y + Y2) W2 H2 = 0 ∧ SameD (cropD x (X + X2) (Y + Y2) W2 H2) (cropD (cropD x X Y W H) X2 Y2 W2 H2) := by
  have q1 := un_ok h1
  have q2 := un_ok h2
  have hD : cropD x X Y W H = { putAll x (cropG x X Y W H) with w := W, h := H } := if_pos h1
  have hst := putAll_strip2 x (cropG x X Y W H)
  have hqs : qsP (cropD x X Y W H) = qsP x := by rw [hD]; unfold qsP; simp only; rw [psOf_eq hst]
  have hw : (cropD x X Y W H).w = W := by rw [hD]
  have hh : (cropD x X Y W H).h = H := by rw [hD]
  have hu : uwI (cropD x X Y W H) = uwI x := by unfold uwI; rw [hqs]
  have hv : uhI (cropD x X Y W H) = uhI x := by unfold uhI; rw [hqs]
  obtain ⟨a0, a1, a2⟩ := unE_zero h1
  obtain ⟨ai, ⟨x1, x2, x3, x4⟩, y1, y2, y3, y4⟩ := wiE_zero a0
  obtain ⟨b0, b1, b2⟩ := unE_zero h2
  obtain ⟨bi, ⟨z1, z2, z3, z4⟩, t1, t2, t3, t4⟩ := wiE_zero b0
  rw [hw] at z3 z4
  rw [hh] at t3 t4
  rw [hu] at b1
  rw [hv] at b2
  obtain ⟨-, -, hnu, hnv, -⟩ := q1.R.nums
  have e1 : (X + X2) % uwI x = 0 := by rw [Int.add_emod, a1, b1]; rfl
  have e2 : (Y + Y2) % uhI x = 0 := by rw [Int.add_emod, a2, b2]; rfl
  have h3 : unE x (X + X2) (Y + Y2) W2 H2 = 0 := by
    have hwi : wiE x (X + X2) (Y + Y2) W2 H2 = 0 := by
      unfold wiE
      rw [if_pos ai, if_pos]
      exact ⟨decide_eq_true ⟨by omega, by omega, by omega, by omega⟩, decide_eq_true ⟨by omega, by omega, by omega, by omega⟩⟩
    unfold unE
    rw [if_pos hwi, if_pos ⟨e1, e2⟩]
  refine ⟨h3, ?_⟩
  have q3 := un_ok h3
  have hA : unA x (Y + Y2) = unA x Y + unA (cropD x X Y W H) Y2 := by
    unfold unA
    rw [hv]
    exact Int.add_ediv_of_dvd_left (Int.dvd_of_emod_eq_zero a2)
  have hB : unB x (X + X2) = unB x X + unB (cropD x X Y W H) X2 := by
    unfold unB
    rw [hu]
    exact Int.add_ediv_of_dvd_left (Int.dvd_of_emod_eq_zero a1)
  have hp : ∀ i, pH (cropD x X Y W H) i = pH x i := fun i => by unfold pH; rw [hqs]
  have hpv : ∀ i, pV (cropD x X Y W H) i = pV x i := fun i => by unfold pV; rw [hqs]
  have hlen : (cropD x X Y W H).cs.length = x.cs.length := by rw [hD]; exact putAll_len _ _
  have hc2 : cropD (cropD x X Y W H) X2 Y2 W2 H2 = { putAll (cropD x X Y W H) (cropG (cropD x X Y W H) X2 Y2 W2 H2) with w := W2, h := H2 } := if_pos h2
  have hc3 : cropD x (X + X2) (Y + Y2) W2 H2 = { putAll x (cropG x (X + X2) (Y + Y2) W2 H2) with w := W2, h := H2 } := if_pos h3
  have hget : ∀ i, i < x.cs.length → (cropD x X Y W H).cs.getD i noComp = setP (x.cs.getD i noComp) (cropG x X Y W H i).c (cropG x X Y W H i).r (.slice none 0 0) (cropG x X Y W H i).l := fun i hi => by
    rw [hD]; exact putAll_getD x _ hi
  rw [hc2, hc3]
  refine ⟨rfl, rfl, putAll_cd hlen (fun i hi => by rw [hget i hi]; rfl) (fun i hi => ?_), ?_, ?_⟩
  · obtain ⟨c, r, a, b, h, d, n⟩ := q1.nats hi
    have hi2 : i < (cropD x X Y W H).cs.length := by rw [hlen]; exact hi
    obtain ⟨c', r', a', b', h', d', m⟩ := q2.nats hi2
    have ec' := m.ec
    have er' := m.er
    rw [← comp_getD hi2, hget i hi] at ec' er'
    have k1 : (cropG x X Y W H i).c = (d : Int) := n.ed
    have k2 : (cropG x X Y W H i).r = (h : Int) := n.eh
    have ecd : (d : Int) = c' := k1.symm.trans ec'
    have erh : (h : Int) = r' := k2.symm.trans er'
    obtain rfl : d = c' := by omega
    obtain rfl : h = r' := by omega
    have ma := m.ea; have mb := m.eb; have mh := m.eh; have md := m.ed
    rw [hpv, hv] at mh
    rw [hpv] at ma
    rw [hp, hu] at md
    rw [hp] at mb
    have hbs : ((cropD x X Y W H).cs.getD i noComp).bs = (cropG x X Y W H i).l := by rw [hget i hi]; rfl
    have hcc : ((cropD x X Y W H).cs.getD i noComp).c = (d : Int) := by rw [hget i hi]; exact k1
    have hl1 : (cropG x X Y W H i).l = Pl.win (x.cs.getD i noComp).bs c a b d h := by
      unfold cropG
      simp only
      rw [comp_getD hi, n.ec, n.ea, n.eb, n.eh, n.ed]
      simp only [Int.toNat_natCast]
    have hn := n.n
    rw [← comp_getD hi] at hn
    unfold cropG
    simp only [PlaneV.mk.injEq]
    rw [hp, hpv, hu, hv, hbs, hcc, hl1, hA, hB, Int.add_mul, Int.add_mul, ma, mb, mh, md, n.ea, n.eb, comp_getD hi, n.ec]
    simp only [Int.toNat_natCast, true_and]
    rw [show ((a : Int) + (a' : Int)).toNat = a + a' by omega, show ((b : Int) + (b' : Int)).toNat = b + b' by omega]
    exact Pl.win_win _ c a b d h a' b' d' h' (fun j hj => Pl.row_fits (by rw [← comp_getD hi]; exact hn) n.ah n.bd hj) m.ah m.bd
  · rw [hD]
    rfl
  · rw [hD]
    rfl
theorem unE_two {x : ImgArg} {X Y W H : Int} (h : imgE x = 0) : unE x X Y W H = 0 ∨ unE x X Y W H = 13 ∨ unE x X Y W H = 14 := by
  unfold unE wiE
  rw [if_pos h]
  by_cases k : insideB X W x.w = true ∧ insideB Y H x.h = true
  · rw [if_pos k, if_pos rfl]
    by_cases k2 : X % uwI x = 0 ∧ Y % uhI x = 0
    · rw [if_pos k2]; exact .inl rfl
    · rw [if_neg k2]; exact .inr (.inl rfl)
  · rw [if_neg k, if_neg (by decide)]
    exact .inr (.inr rfl)
end Go.Proofs.Ytgmhhocpdfdplaa
