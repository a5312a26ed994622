/- What is cropped, and what is redacted, is right. -/
import Derived.Test.YtgmhhocpdfdplaaCutH
namespace Go.Proofs.Ytgmhhocpdfdplaa
open Go.RowKit
set_option maxRecDepth 100000
def strip2 (c : CompArg) : CompArg := ⟨c.id, c.h, c.v, c.q, 0, 0, .slice none 0 0, []⟩
theorem getD_strip2 (cs : List CompArg) (k : Nat) : (cs.map strip2).getD k noComp = strip2 (cs.getD k noComp) := by
  simp only [List.getD_eq_getElem?_getD, List.getElem?_map]
  cases cs[k]? <;> rfl
theorem compsE_strip2 (cs : List CompArg) : compsE (cs.map strip2) = compsE cs := by
  unfold compsE compE
  simp only [getD_strip2, List.length_map]
  rfl
theorem psOf_strip2 (cs : List CompArg) : psOf (cs.map strip2) = psOf cs := by simp [psOf, strip2]
theorem tablesE_strip2 (x : ImgArg) : tablesE { x with cs := x.cs.map strip2 } = tablesE x := by
  have eu : ∀ y, usedQ (x.cs.map strip2) y = usedQ x.cs y := fun y => by
    unfold usedQ
    simp only [getD_strip2, List.length_map]
    rfl
  unfold tablesE quantsE compsTE quantE compTE
  simp only [getD_strip2, List.length_map, eu]
  rfl
theorem RightI.ranged {x : ImgArg} (h : RightI x) : ∀ c ∈ x.cs, ∀ b ∈ c.bs, rangedB b = true := by
  intro c hc b hb
  obtain ⟨i, hi, rfl⟩ := List.getElem_of_mem hc
  obtain ⟨k, hk, rfl⟩ := List.getElem_of_mem hb
  have h1 : compBE (x.cs.getD i noComp) = 0 := firstE_all h.bl i (Nat.zero_le _) (by omega)
  rw [comp_getD hi] at h1
  have h2 : blockE ((x.cs[i]'hi).bs.getD k []) = 0 := firstE_all h1 k (Nat.zero_le _) (by omega)
  rw [List.getD_eq_getElem?_getD, List.getElem?_eq_getElem hk, Option.getD_some] at h2
  unfold blockE at h2
  split at h2
  · assumption
  · cases h2
theorem right_like {x y : ImgArg} (hR : RightI x) (hs : y.cs.map strip2 = x.cs.map strip2) (hq : y.qs = x.qs) (ht : y.ts = x.ts) (hf : frE y = 0)
    (hp : ∀ i (hi : i < y.cs.length), planeE ((frG y).getD i ⟨0, 0, 0, 0⟩) (y.cs[i]'hi) = 0) (hb : ∀ c ∈ y.cs, ∀ b ∈ c.bs, rangedB b = true) : RightI y := by
  refine ⟨hf, ?_, ?_, ?_, ?_, by rw [ht]; exact hR.tg⟩
  · rw [← compsE_strip2, hs, compsE_strip2]; exact hR.co
  · rw [← tablesE_strip2 y]
    have e : tablesE { y with cs := y.cs.map strip2 } = tablesE { x with cs := x.cs.map strip2 } := by
      unfold tablesE quantsE compsTE
      simp only
      rw [hs, hq]
    rw [e, tablesE_strip2]
    exact hR.ta
  · exact firstE_none fun k _ hk => by
      have hk' : k < y.cs.length := by omega
      rw [comp_getD hk']
      exact hp k hk'
  · exact firstE_none fun k _ hk => by
      have hk' : k < y.cs.length := by omega
      show compBE (y.cs.getD k noComp) = 0
      rw [comp_getD hk']
      exact firstE_none fun j _ hj => by
        have hj' : j < (y.cs[k]'hk').bs.length := by omega
        have := hb _ (List.getElem_mem hk') _ (List.getElem_mem hj')
        simp only [List.getD_eq_getElem?_getD, List.getElem?_eq_getElem hj', Option.getD_some]
        unfold blockE
        rw [if_pos this]
theorem putAll_strip2 (x : ImgArg) (G : Nat → PlaneV) : (putAll x G).cs.map strip2 = x.cs.map strip2 := by
  refine List.ext_getElem? fun i => ?_
  unfold putAll
  simp only [List.getElem?_map]
  by_cases hi : i < x.cs.length
  · simp only [List.getElem?_range hi, List.getElem?_eq_getElem hi, Option.map_some, comp_getD hi]
    rfl
  · rw [List.getElem?_eq_none (by simp; omega), List.getElem?_eq_none (by omega)]
    rfl
theorem putAll_at (x : ImgArg) (G : Nat → PlaneV) {i : Nat} (hi : i < x.cs.length) (hi' : i < (putAll x G).cs.length) : (putAll x G).cs[i]'hi' = setP (x.cs[i]'hi) (G i).c (G i).r (.slice none 0 0) (G i).l := by
  simp only [putAll, List.getElem_map, List.getElem_range, comp_getD hi]
theorem putAll_len (x : ImgArg) (G : Nat → PlaneV) : (putAll x G).cs.length = x.cs.length := by simp [putAll]
theorem psOf_eq {xs ys : List CompArg} (h : xs.map strip2 = ys.map strip2) : psOf xs = psOf ys := by rw [← psOf_strip2 xs, h, psOf_strip2]
theorem smN_le {f g : Nat → Int} : ∀ n, (∀ k, k < n → f k ≤ g k) → smN f n ≤ smN g n
  | 0, _ => Int.le_refl _
  | n + 1, h => by
    simp only [smN]
    have h1 := smN_le n (fun k hk => h k (by omega))
    have h2 := h n (by omega)
    omega
theorem upI_mono {a b c : Int} (hc : 1 ≤ c) (h : a ≤ b) : upI a c ≤ upI b c := by
  unfold upI
  exact Int.ediv_le_ediv (by omega) (by omega)
theorem newE_smaller {x y x' y' : Int} {ps : List (Int × Int)} (h : newE x y ps = 0) (h1 : 1 ≤ x') (h2 : x' ≤ x) (h3 : 1 ≤ y') (h4 : y' ≤ y) : newE x' y' ps = 0 := by
  have hz := newE_zero h
  have hr : rightE x y ps = 0 := by
    unfold newE at h
    split at h
    · exact h
    · rename_i h5; exact Decidable.not_not.1 h5
  have hok := hz.1
  have hr' : rightE x' y' ps = 0 := by
    unfold rightE at hr ⊢
    split at hr
    · cases hr
    · rename_i h6
      split at hr
      · cases hr
      · rename_i h7
        rw [if_neg (by rintro (h | h | h | h); exact absurd h (by omega); exact absurd h (by omega); exact h6 (.inr (.inr (.inl h))); exact h6 (.inr (.inr (.inr h)))), if_neg (by omega)]
        exact hr
  unfold newE at h ⊢
  rw [if_neg (by rw [hr]; simp)] at h
  rw [if_neg (by rw [hr']; simp)]
  split at h
  · cases h
  · rename_i h8
    rw [if_neg h8]
    split at h
    · cases h
    · rename_i h9
      rw [if_neg]
      have hh := hok.hh; have hv := hok.vv
      have a1 := upI_mono (a := x') (b := x) (c := 8 * hhN (partsOf ps)) (by omega) h2
      have a2 := upI_mono (a := y') (b := y) (c := 8 * vvN (partsOf ps)) (by omega) h4
      have a3 := (upI_in (a := x') (b := 8 * hhN (partsOf ps)) (by omega) (by omega)).1
      have a4 := (upI_in (a := y') (b := 8 * vvN (partsOf ps)) (by omega) (by omega)).1
      have hle : totN x' y' (partsOf ps) ≤ totN x y (partsOf ps) := smN_le _ fun k hk => by
        have hp := hok.ps k hk
        have b1 : acN x' (partsOf ps) * hA (partsOf ps) k ≤ acN x (partsOf ps) * hA (partsOf ps) k := Int.mul_le_mul_of_nonneg_right a1 (by omega)
        have b2 : dnN y' (partsOf ps) * vA (partsOf ps) k ≤ dnN y (partsOf ps) * vA (partsOf ps) k := Int.mul_le_mul_of_nonneg_right a2 (by omega)
        have b3 : 0 ≤ dnN y' (partsOf ps) * vA (partsOf ps) k := Int.mul_nonneg a4 (by omega)
        have b4 : 0 ≤ acN x (partsOf ps) * hA (partsOf ps) k := Int.mul_nonneg (by have := hok.ac; omega) (by omega)
        exact Int.mul_le_mul b1 b2 b3 b4
      omega
theorem planeE_ok {g : GridV} {c : CompArg} (h1 : Pl.right c.c c.r c.bs.length = true) (h2 : c.c = g.c) (h3 : c.r = g.r) : planeE g c = 0 := if_pos ⟨⟨h1, h2⟩, h3⟩
/-- What is cropped is right. -/
theorem crop_right {x : ImgArg} {X Y W H : Int} (h : unE x X Y W H = 0) : RightI (cropD x X Y W H) := by
  have q := un_ok h
  obtain ⟨h0, h1, h2⟩ := unE_zero h
  obtain ⟨hi, ⟨x1, x2, x3, x4⟩, y1, y2, y3, y4⟩ := wiE_zero h0
  have hR := q.R
  have hD : cropD x X Y W H = { putAll x (cropG x X Y W H) with w := W, h := H } := if_pos h
  rw [hD]
  have hst := putAll_strip2 x (cropG x X Y W H)
  have hps : psOf (putAll x (cropG x X Y W H)).cs = psOf x.cs := psOf_eq hst
  have hqs : qsP { putAll x (cropG x X Y W H) with w := W, h := H } = qsP x := by unfold qsP; simp only; rw [hps]
  have hfr : frE { putAll x (cropG x X Y W H) with w := W, h := H } = 0 := by
    unfold frE
    simp only
    rw [hps]
    exact newE_smaller hR.fr x2 (by omega) y2 (by omega)
  refine right_like hR hst rfl rfl hfr (fun i hi => ?_) (fun c hc b hb => ?_)
  · have hi' : i < x.cs.length := by rw [← putAll_len x (cropG x X Y W H)]; exact hi
    obtain ⟨c, r, a, b, hh, d, n⟩ := q.nats hi'
    have hat := putAll_at x (cropG x X Y W H) hi' hi
    rw [frG_at _ hi]
    have e1 : acI { putAll x (cropG x X Y W H) with w := W, h := H } = upI W (uwI x) := by unfold acI acN; rw [hqs]; rfl
    have e2 : dnI { putAll x (cropG x X Y W H) with w := W, h := H } = upI H (uhI x) := by unfold dnI dnN; rw [hqs]; rfl
    have e3 : pH { putAll x (cropG x X Y W H) with w := W, h := H } i = pH x i := by unfold pH; rw [hqs]
    have e4 : pV { putAll x (cropG x X Y W H) with w := W, h := H } i = pV x i := by unfold pV; rw [hqs]
    rw [e1, e2, e3, e4]
    show planeE _ ((putAll x (cropG x X Y W H)).cs[i]'hi) = 0
    rw [hat]
    have hl := Pl.win_len (c := c) (r := r) (a := a) (b := b) (h := hh) (d := d) n.n n.ah n.bd hh (Nat.le_refl _)
    refine planeE_ok ?_ rfl rfl
    unfold setP cropG
    simp only
    rw [comp_getD hi', n.ec, n.ea, n.eb, n.eh, n.ed]
    simp only [Int.toNat_natCast]
    rw [hl, Nat.mul_comm]
    refine Pl.right_of n.d1 n.h1 ?_
    have k1 : hh ≤ r := by have := n.ah; omega
    have k2 : d ≤ c := by have := n.bd; omega
    exact Nat.le_trans (Nat.mul_le_mul k2 k1) n.cr
  · obtain ⟨i, hi, rfl⟩ := List.getElem_of_mem hc
    have hi' : i < x.cs.length := by rw [← putAll_len x (cropG x X Y W H)]; exact hi
    have hat := putAll_at x (cropG x X Y W H) hi' hi
    have hb2 : b ∈ ((putAll x (cropG x X Y W H)).cs[i]'hi).bs := hb
    rw [hat] at hb2
    have hb3 : b ∈ (x.cs[i]'hi').bs := by
      have := win_mem hb2
      rwa [comp_getD hi'] at this
    exact hR.ranged _ (List.getElem_mem hi') b hb3
/-- What is redacted is right. -/
theorem red_right {x : ImgArg} {X Y W H : Int} (h : reE x X Y W H = 0) : unE x X Y W H = 0 ∧ RightI (redD x X Y W H) := by
  have hu : unE x X Y W H = 0 := by
    unfold reE at h
    split at h
    · assumption
    · rename_i h1; exact absurd h h1
  refine ⟨hu, ?_⟩
  have q := un_ok hu
  have hR := q.R
  have hD : redD x X Y W H = putAll x (redG x X Y W H) := if_pos h
  rw [hD]
  have hst := putAll_strip2 x (redG x X Y W H)
  have hps : psOf (putAll x (redG x X Y W H)).cs = psOf x.cs := psOf_eq hst
  have hfg : frG (putAll x (redG x X Y W H)) = frG x := by unfold frG; rw [hps]; rfl
  have hfr : frE (putAll x (redG x X Y W H)) = 0 := by
    unfold frE
    rw [hps]
    exact hR.fr
  refine right_like hR hst rfl rfl hfr (fun i hi => ?_) (fun c hc b hb => ?_)
  · have hi' : i < x.cs.length := by rw [← putAll_len x (redG x X Y W H)]; exact hi
    obtain ⟨k1, k2, k3⟩ := hR.plane hi'
    rw [hfg, putAll_at x (redG x X Y W H) hi' hi, frG_at x hi']
    refine planeE_ok ?_ ?_ ?_
    · unfold setP redG
      simp only
      rw [comp_getD hi', Pl.pnt_len]
      exact k1
    · unfold setP redG
      simp only
      rw [comp_getD hi', k2]
      rfl
    · unfold setP redG
      simp only
      rw [comp_getD hi', k3]
      rfl
  · obtain ⟨i, hi, rfl⟩ := List.getElem_of_mem hc
    have hi' : i < x.cs.length := by rw [← putAll_len x (redG x X Y W H)]; exact hi
    rw [putAll_at x (redG x X Y W H) hi' hi] at hb
    have hb2 : b ∈ (redG x X Y W H i).l := hb
    unfold redG at hb2
    simp only [Pl.pnt, List.mem_map, List.mem_range] at hb2
    obtain ⟨j, hj, rfl⟩ := hb2
    rw [comp_getD hi'] at hj ⊢
    split
    · rfl
    · rw [← Pl.blk_eq hj]
      exact hR.ranged _ (List.getElem_mem hi') _ (List.getElem_mem hj)
end Go.Proofs.Ytgmhhocpdfdplaa
