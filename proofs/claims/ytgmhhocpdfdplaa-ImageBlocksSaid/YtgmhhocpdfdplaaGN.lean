/- Texts on one foundation, joined: Few, FrU, RightI, CutA, CutB, CutC, CutE, CutP, CutF, CutG, CutH, CutL, CutT, CutK. -/
import Derived.Test.YtgmhhocpdfdplaaGC
import Derived.Test.YtgmhhocpdfdplaaGE
import Derived.BigQuiet
import Derived.Test.YtgmhhocpdfdplaaGL
import Derived.Test.YtgmhhocpdfdplaaGG
import Derived.Test.YtgmhhocpdfdplaaGM
import Derived.Test.YtgmhhocpdfdplaaGJ
import Derived.BigRegion
/- The reference's Few of an image, whatever its bounds. -/
namespace Go.Proofs.Ytgmhhocpdfdplaa
open Go.RowKit
set_option maxRecDepth 100000
set_option maxHeartbeats 4000000
theorem ref_few_any (nb nt : Int) (hb0 : 0 ≤ nb) (hb1 : nb ≤ 300) (ht0 : 0 ≤ nt) (ht1 : nt ≤ 140000) (v : Value) (x : ImgArg) (w : World) (h : IsImg w v x) :
    Calls Try.prog 54 #[v, .int .i64 nb, .int .i64 nt] w fun e w' => FewRes x e ∧ Below w.heap.size w w' := by
  obtain ⟨rfl, -, -, hcs, hqs, hts⟩ := h
  obtain ⟨xw, xh, cu, qu, tu, cs, qs, ts⟩ := x
  simp only [ImgArg.val] at *
  obtain ⟨cb, ccap, rfl⟩ := hcs.len
  obtain ⟨qb, qcap, rfl⟩ := hqs.len
  obtain ⟨tb, tcap, rfl⟩ := hts.len
  obtain ⟨N, hN⟩ : ∃ N, N = w.heap.size := ⟨_, rfl⟩
  have HN := Lib.hid hN
  rw [← hN]
  clear hN
  go_enter Try.func54, Try.ntmps54
  go_upto_region 1 with fail
  rw [← HN.out]
  have hbe : Below w.heap.size w (w.alloc (.cells #[.int .i64 xw, .int .i64 xh, .slice cb cs.length ccap, .slice qb qs.length qcap, .slice tb ts.length tcap] 26)) := (Below.refl _ _).alloc (Nat.le_refl _) _
  refine wp_world (fun W => Blk W N #[.int .i64 xw, .int .i64 xh, .slice cb cs.length ccap, .slice qb qs.length qcap, .slice tb ts.length tcap] 26 ∧ IsComps W (.slice cb cs.length ccap) cs ∧ IsTags W (.slice tb ts.length tcap) ts ∧ Below N w W) ⟨Blk.new' _ _ _ HN.out, hcs.below hbe, hts.below hbe, by rw [HN.out]; exact hbe⟩ ?_
  clear hcs hts hqs hbe
  rintro W ⟨bN, hcs, hts, hB⟩
  have q2 := bN.cell 2
  have q3 := bN.cell 3
  have q4 := bN.cell 4
  simp only [List.getElem?_toArray, List.getElem?_cons_zero, List.getElem?_cons_succ] at q2 q3 q4
  by_cases h1 : 20 < cs.length ∨ 20 < qs.length ∨ 100 < ts.length
  · have hcs : decide ((20 : Int) < (cs.length : Int)) = true ∨ (decide ((20 : Int) < (cs.length : Int)) = false ∧ decide ((20 : Int) < (qs.length : Int)) = true) ∨ (decide ((20 : Int) < (cs.length : Int)) = false ∧ decide ((20 : Int) < (qs.length : Int)) = false ∧ decide ((100 : Int) < (ts.length : Int)) = true) := by simp only [decide_eq_true_eq, decide_eq_false_iff_not]; omega
    clear h1
    rcases hcs with t1 | ⟨t1, t2⟩ | ⟨t1, t2, t3⟩
    all_goals
      go_wp2
      go_ret
      exact ⟨⟨false, rfl, fun h => by cases h⟩, hB⟩
  · have t1 : decide ((20 : Int) < (cs.length : Int)) = false := by simp; omega
    have t2 : decide ((20 : Int) < (qs.length : Int)) = false := by simp; omega
    have t3 : decide ((100 : Int) < (ts.length : Int)) = false := by simp; omega
    have l1 : cs.length ≤ 20 := by omega
    have l2 : qs.length ≤ 20 := by omega
    have l3 : ts.length ≤ 100 := by omega
    clear h1
    go_wp2
    go_loop [7, 8] (fun nv iv => ∃ (n i : Nat), nv = .int .i64 n ∧ iv = .int .i64 i ∧ i ≤ cs.length ∧ n ≤ 300 * i ∧ ∀ k, (hk : k < i) → (hl : k < cs.length) → (cs[k]'hl).bs.length ≤ 300) (fun _ iv => cs.length - (intOf iv).toNat)
    case atStart => exact ⟨0, 0, rfl, rfl, Nat.zero_le _, by omega, fun k hk => by omega⟩
    case round =>
      obtain ⟨n, i, rfl, rfl, hi, hn, hall⟩ := hrel
      have HALL := Lib.hid hall
      clear hall
      by_cases hlt : i < cs.length
      · have tl : decide (i < cs.length) = true := by simpa using hlt
        obtain ⟨a, rfl, c0, c1, c2, c3, c4, c5, c6⟩ := hcs.at hlt
        have hlen : ∃ ub ucap, (cs[i]'hlt).u = .slice ub (cs[i]'hlt).bs.length ucap := by
          obtain ⟨ub, ucap, hu, _⟩ := (hcs.ok _ (List.getElem_mem hlt)).ar.len
          exact ⟨ub, ucap, hu⟩
        obtain ⟨ub, ucap, hu⟩ := hlen
        rw [hu] at c6
        have j0 : (0 : Int) ≤ (i : Int) := by omega
        have j1 : (i : Int) < (cs.length : Int) := by omega
        have HE : ∀ z, (cs[i]'hlt).bs.length = z → Hid ((cs[i]'hlt).bs.length = z) := fun z h => Lib.hid h
        obtain ⟨z, hz⟩ : ∃ z, (cs[i]'hlt).bs.length = z := ⟨_, rfl⟩
        rw [hz] at c6
        have HZ := HE z hz
        clear HE hz hu c0 c1 c2 c3 c4 c5
        by_cases hz : (z : Int) ≤ nb
        · have tz : decide (nb < (z : Int)) = false := by simp; omega
          go_wp2
          go_round
          case rel => exact ⟨n + z, i + 1, by go_num, by go_num, by omega, by omega, fun k hk hl => by
            by_cases hki : k = i
            · subst hki; rw [HZ.out]; omega
            · exact HALL.out k (by omega) hl⟩
          case measure => simp [intOf]; omega
        · have tz : decide (nb < (z : Int)) = true := by simp; omega
          go_wp2
          go_ret
          exact ⟨⟨false, rfl, fun h => by cases h⟩, hB⟩
      · have tl : decide (i < cs.length) = false := by simpa using hlt
        have hb3 : ∀ c ∈ cs, c.bs.length ≤ 300 := by
          intro c hc
          obtain ⟨k, hk, rfl⟩ := List.getElem_of_mem hc
          exact HALL.out k (by omega) hk
        have HB3 := Lib.hid hb3
        have hnn : n ≤ 6000 := by omega
        clear hb3 HALL
        go_wp2
        go_loop [9, 10] (fun kv iv => ∃ (m j : Nat), kv = .int .i64 m ∧ iv = .int .i64 j ∧ j ≤ ts.length ∧ m ≤ 140000 * j ∧ ∀ k, (hk : k < j) → (hl : k < ts.length) → (ts[k]'hl).body.size ≤ 140000) (fun _ iv => ts.length - (intOf iv).toNat)
        case atStart => exact ⟨0, 0, rfl, rfl, Nat.zero_le _, by omega, fun k hk => by omega⟩
        case round =>
          obtain ⟨m, j, rfl, rfl, hj, hm, hall⟩ := hrel
          have HALL := Lib.hid hall
          clear hall
          by_cases hlt2 : j < ts.length
          · have tl2 : decide (j < ts.length) = true := by simpa using hlt2
            obtain ⟨a, rfl, c0, c1⟩ := hts.at hlt2
            have j0 : (0 : Int) ≤ (j : Int) := by omega
            have j1 : (j : Int) < (ts.length : Int) := by omega
            obtain ⟨sb, hsb⟩ : ∃ sb, (ts[j]'hlt2).body = sb := ⟨_, rfl⟩
            rw [hsb] at c1
            have HSB := Lib.hid hsb
            clear hsb c0
            by_cases hz : (sb.size : Int) ≤ nt
            · have tz : decide (nt < (sb.size : Int)) = false := by simp; omega
              go_wp2
              go_round
              case rel => exact ⟨m + sb.size, j + 1, by go_num, by go_num, by omega, by omega, fun k hk hl => by
                by_cases hki : k = j
                · subst hki; rw [HSB.out]; omega
                · exact HALL.out k (by omega) hl⟩
              case measure => simp [intOf]; omega
            · have tz : decide (nt < (sb.size : Int)) = true := by simp; omega
              go_wp2
              go_ret
              exact ⟨⟨false, rfl, fun h => by cases h⟩, hB⟩
          · have tl2 : decide (j < ts.length) = false := by simpa using hlt2
            have ht3 : ∀ t ∈ ts, t.body.size ≤ 140000 := by
              intro t ht
              obtain ⟨k, hk, rfl⟩ := List.getElem_of_mem ht
              exact HALL.out k (by omega) hk
            have HT3 := Lib.hid ht3
            clear ht3 HALL
            by_cases z1 : (n : Int) ≤ nb
            · have tz1 : decide ((n : Int) ≤ nb) = true := by simp; omega
              go_wp2
              go_ret
              exact ⟨⟨_, rfl, fun _ => ⟨l1, l2, l3, fun c hc => Nat.le_trans (HB3.out c hc) (by decide), HT3.out⟩⟩, hB⟩
            · have tz1 : decide ((n : Int) ≤ nb) = false := by simp; omega
              go_wp2
              go_ret
              exact ⟨⟨false, rfl, fun h => by cases h⟩, hB⟩
end Go.Proofs.Ytgmhhocpdfdplaa
/- Package frame: Unit, Units. -/
namespace Go.Proofs.Ytgmhhocpdfdplaa
open Go.RowKit
set_option maxRecDepth 100000
set_option maxHeartbeats 4000000
theorem fr_unit (F : Nat) (uw uh ac dn : Int) (w : World) (h : FrU w F uw uh ac dn) :
    Calls Try.prog 49 #[.pointer (some ⟨F, 0, none⟩)] w fun r w' => r = .returned (.tuple #[.int .i64 uw, .int .i64 uh]) ∧ Below w.heap.size w w' := by
  obtain ⟨pv, gv, v6, v7, bF⟩ := h
  have q4 := bF.cell 4
  have q5 := bF.cell 5
  go_enter Try.func49, Try.ntmps49
  go_upto_region 3 with fail
  go_quiet (fail)
  go_wp2
  go_ret2
  exact ⟨rfl, Below.drewN' (Below.refl _ _) _⟩
theorem fr_units (F : Nat) (uw uh ac dn : Int) (w : World) (h : FrU w F uw uh ac dn) :
    Calls Try.prog 130 #[.pointer (some ⟨F, 0, none⟩)] w fun r w' => r = .returned (.tuple #[.int .i64 ac, .int .i64 dn]) ∧ Below w.heap.size w w' := by
  obtain ⟨pv, gv, v6, v7, bF⟩ := h
  have q2 := bF.cell 2
  have q3 := bF.cell 3
  go_enter Try.func130, Try.ntmps130
  go_upto_region 3 with fail
  go_quiet (fail)
  go_wp2
  go_ret2
  exact ⟨rfl, Below.drewN' (Below.refl _ _) _⟩
end Go.Proofs.Ytgmhhocpdfdplaa
/- A right image, in plain words. -/
namespace Go.Proofs.Ytgmhhocpdfdplaa
open Go.RowKit
set_option maxRecDepth 100000
structure RightI (x : ImgArg) : Prop where
  fr : frE x = 0
  co : compsE x.cs = 0
  ta : tablesE x = 0
  pl : planesE x = 0
  bl : blocksE x.cs = 0
  tg : tagsE x.ts = 0
theorem right_of_imgE {x : ImgArg} (h : imgE x = 0) : RightI x := by
  rw [imgE_eq] at h
  split at h
  · rename_i h1
    split at h
    · rename_i h2
      split at h
      · rename_i h3
        split at h
        · rename_i h4
          split at h
          · rename_i h5
            split at h
            · rename_i h6
              exact ⟨h1, h2, h3, h4, h5, h6⟩
            · rename_i h6; exact absurd h h6
          · rename_i h6; exact absurd h h6
        · rename_i h6; exact absurd h h6
      · rename_i h6; exact absurd h h6
    · rename_i h6; exact absurd h h6
  · rename_i h6; exact absurd h h6
theorem RightI.imgE {x : ImgArg} (h : RightI x) : imgE x = 0 := by
  rw [imgE_eq, if_pos h.fr, if_pos h.co, if_pos h.ta, if_pos h.pl, if_pos h.bl, if_pos h.tg]
/-- The parts as the frame has them. -/
def qsP (x : ImgArg) : List (Int × Int) := partsOf (psOf x.cs)
def uwI (x : ImgArg) : Int := 8 * hhN (qsP x)
def uhI (x : ImgArg) : Int := 8 * vvN (qsP x)
def acI (x : ImgArg) : Int := acN x.w (qsP x)
def dnI (x : ImgArg) : Int := dnN x.h (qsP x)
def pH (x : ImgArg) (i : Nat) : Int := hA (qsP x) i
def pV (x : ImgArg) (i : Nat) : Int := vA (qsP x) i
theorem qsP_len (x : ImgArg) : (qsP x).length = x.cs.length := by
  unfold qsP psOf
  rw [partsOf_len, List.length_map]
theorem RightI.ok {x : ImgArg} (h : RightI x) : FrOk x.w x.h (qsP x) := (newE_zero h.fr).1
theorem firstE_all {e : Nat → Int} : ∀ {f i : Nat}, firstE e f i = 0 → ∀ k, i ≤ k → k < i + f → e k = 0
  | 0, i, _, k, h1, h2 => absurd h2 (by omega)
  | f + 1, i, h, k, h1, h2 => by
    by_cases h0 : e i = 0
    · rw [firstE_go e f i h0] at h
      by_cases hk : k = i
      · rw [hk]; exact h0
      · exact firstE_all h k (by omega) (by omega)
    · rw [firstE_stop e f i h0] at h
      exact absurd h h0
theorem firstE_none {e : Nat → Int} : ∀ {f i : Nat}, (∀ k, i ≤ k → k < i + f → e k = 0) → firstE e f i = 0
  | 0, _, _ => rfl
  | f + 1, i, h => by
    rw [firstE_go e f i (h i (Nat.le_refl _) (by omega))]
    exact firstE_none (fun k h1 h2 => h k (by omega) (by omega))
theorem frG_at (x : ImgArg) {i : Nat} (hi : i < x.cs.length) : (frG x).getD i ⟨0, 0, 0, 0⟩ = gridP x.w x.h (hhN (qsP x)) (vvN (qsP x)) (acI x) (dnI x) (pH x i, pV x i) := by
  have hq : i < (qsP x).length := by rw [qsP_len]; exact hi
  unfold frG gridsN
  rw [List.getD_eq_getElem?_getD, List.getElem?_map]
  have e : (partsOf (psOf x.cs))[i]? = some (pH x i, pV x i) := by
    show (qsP x)[i]? = _
    rw [List.getElem?_eq_getElem hq]
    unfold pH pV hA vA
    simp [List.getD_eq_getElem?_getD, hq]
  rw [e]
  rfl
theorem RightI.plane {x : ImgArg} (h : RightI x) {i : Nat} (hi : i < x.cs.length) :
    Pl.right (x.cs[i]'hi).c (x.cs[i]'hi).r (x.cs[i]'hi).bs.length = true ∧ (x.cs[i]'hi).c = acI x * pH x i ∧ (x.cs[i]'hi).r = dnI x * pV x i := by
  have h0 := firstE_all h.pl i (Nat.zero_le _) (by omega)
  simp only [frG_at x hi, comp_getD hi] at h0
  unfold planeE gridP at h0
  split at h0
  · rename_i h1
    exact ⟨h1.1.1, h1.1.2, h1.2⟩
  · cases h0
theorem RightI.part {x : ImgArg} (h : RightI x) {i : Nat} (hi : i < x.cs.length) : 1 ≤ pH x i ∧ pH x i ≤ 4 ∧ 1 ≤ pV x i ∧ pV x i ≤ 4 := h.ok.ps i (by rw [qsP_len]; exact hi)
theorem RightI.nums {x : ImgArg} (h : RightI x) : (1 ≤ x.w ∧ x.w ≤ 16384) ∧ (1 ≤ x.h ∧ x.h ≤ 16384) ∧ (8 ≤ uwI x ∧ uwI x ≤ 32) ∧ (8 ≤ uhI x ∧ uhI x ≤ 32) ∧ (1 ≤ acI x ∧ acI x ≤ 3000) ∧ 1 ≤ dnI x ∧ dnI x ≤ 3000 := by
  have h1 := h.ok.hh
  have h2 := h.ok.vv
  have h3 := h.ok.ac
  have h4 := h.ok.dn
  have h5 := h.ok.x1
  have h6 := h.ok.y1
  have h7 := h.ok.x2
  have h8 := h.ok.y2
  have e1 : 1 ≤ acI x := by
    have : 1 * (8 * hhN (qsP x)) ≤ x.w + 8 * hhN (qsP x) - 1 := by omega
    exact (Int.le_ediv_iff_mul_le (by omega)).2 this
  have e2 : 1 ≤ dnI x := by
    have : 1 * (8 * vvN (qsP x)) ≤ x.h + 8 * vvN (qsP x) - 1 := by omega
    exact (Int.le_ediv_iff_mul_le (by omega)).2 this
  refine ⟨⟨h5, h7⟩, ⟨h6, h8⟩, ?_, ?_, ⟨e1, h3.2⟩, e2, h4.2⟩
  · unfold uwI; omega
  · unfold uhI; omega
end Go.Proofs.Ytgmhhocpdfdplaa
/- Package cut: inside, Within; the reference's Within. -/
namespace Go.Proofs.Ytgmhhocpdfdplaa
open Go.RowKit
set_option maxRecDepth 100000
set_option maxHeartbeats 4000000
def insideB (a n l : Int) : Bool := decide (0 ≤ a ∧ 1 ≤ n ∧ a < l ∧ n ≤ l - a)
theorem cut_inside (a n l : Int) (hl : l ≤ 16384) (w : World) : Calls Try.prog 93 #[.int .i64 a, .int .i64 n, .int .i64 l] w fun r w' => r = .returned (.bool (insideB a n l)) ∧ w = w' := by
  obtain ⟨R, hR⟩ : ∃ R, insideB a n l = R := ⟨_, rfl⟩
  rw [hR]
  by_cases h1 : 0 ≤ a
  · have t1 : decide (0 ≤ a) = true := decide_eq_true h1
    by_cases h2 : 1 ≤ n
    · have t2 : decide (1 ≤ n) = true := decide_eq_true h2
      by_cases h3 : a < l
      · have t3 : decide (a < l) = true := decide_eq_true h3
        by_cases h4 : n ≤ l - a
        · have t4 : decide (n ≤ l - a) = true := decide_eq_true h4
          obtain rfl : R = true := by rw [← hR]; unfold insideB; simp; omega
          clear hR
          go_enter Try.func93, Try.ntmps93
          go_wp2
          go_ret
          exact ⟨rfl, rfl⟩
        · have t4 : decide (n ≤ l - a) = false := decide_eq_false h4
          obtain rfl : R = false := by rw [← hR]; unfold insideB; simp; omega
          clear hR
          go_enter Try.func93, Try.ntmps93
          go_wp2
          go_ret
          exact ⟨rfl, rfl⟩
      · have t3 : decide (a < l) = false := decide_eq_false h3
        obtain rfl : R = false := by rw [← hR]; unfold insideB; simp; omega
        clear hR
        go_enter Try.func93, Try.ntmps93
        go_wp2
        go_ret
        exact ⟨rfl, rfl⟩
    · have t2 : decide (1 ≤ n) = false := decide_eq_false h2
      obtain rfl : R = false := by rw [← hR]; unfold insideB; simp; omega
      clear hR
      go_enter Try.func93, Try.ntmps93
      go_wp2
      go_ret
      exact ⟨rfl, rfl⟩
  · have t1 : decide (0 ≤ a) = false := decide_eq_false h1
    obtain rfl : R = false := by rw [← hR]; unfold insideB; simp; omega
    clear hR
    go_enter Try.func93, Try.ntmps93
    go_wp2
    go_ret
    exact ⟨rfl, rfl⟩
/-- Does a rectangle lie within an image? -/
def wiE (x : ImgArg) (X Y W H : Int) : Int := if imgE x = 0 then (if insideB X W x.w = true ∧ insideB Y H x.h = true then 0 else 14) else imgE x
/-- The image's box, a rectangle's behind it. -/
structure LR (N : Nat) (x : ImgArg) (X Y W H : Int) (t : TypeId) (w V : World) : Prop where
  l : LI N x w V
  bR : Blk V (N + 1) #[.int .i64 X, .int .i64 Y, .int .i64 W, .int .i64 H] t
theorem LR.below {N : Nat} {x : ImgArg} {X Y W H : Int} {t : TypeId} {w V V' : World} (h : LR N x X Y W H t w V) (hb : Below V.heap.size V V') : LR N x X Y W H t w V' := ⟨h.l.below hb, h.bR.below hb h.bR.lt⟩
theorem LR.hB {N : Nat} {x : ImgArg} {X Y W H : Int} {t : TypeId} {w V : World} (h : LR N x X Y W H t w V) : Below w.heap.size w V := h.l.hB
theorem LR.begin {x : ImgArg} {w : World} (h : IsImg w x.val x) (X Y W H : Int) (t : TypeId) :
    LR w.heap.size x X Y W H t w ((w.alloc (.cells #[.int .i64 x.w, .int .i64 x.h, x.cu, x.qu, x.tu] 26)).alloc (.cells #[.int .i64 X, .int .i64 Y, .int .i64 W, .int .i64 H] t)) :=
  ⟨(LI.begin h).below ((Below.refl _ _).alloc (Nat.le_refl _) _), Blk.new' _ _ _ (by simp)⟩
theorem cut_within (x : ImgArg) (hf : FewOk x) (X Y W H : Int) (w : World) (h : IsImg w x.val x) :
    Calls Try.prog 43 #[x.val, .agg #[.int .i64 X, .int .i64 Y, .int .i64 W, .int .i64 H]] w fun r w' => r = .returned (.int .i64 (wiE x X Y W H)) ∧ Below w.heap.size w w' := by
  obtain ⟨R, hR⟩ : ∃ R, wiE x X Y W H = R := ⟨_, rfl⟩
  rw [hR]
  have HR := Lib.hid hR
  have hL := LR.begin h X Y W H 73
  obtain ⟨N, hN⟩ : ∃ N, N = w.heap.size := ⟨_, rfl⟩
  rw [← hN] at hL
  have HN := Lib.hid hN
  have hr := fun W h => img_right x W h hf
  have HRI := Lib.hid (fun h => RightI.nums (@right_of_imgE x h))
  unfold ImgArg.val at *
  clear hN h hR
  go_enter Try.func43, Try.ntmps43
  go_upto_region 1 with fail
  refine wp_world (LR N x X Y W H 73 w) hL ?_
  rw [← HN.out]
  clear hL
  intro V hL
  by_cases h0 : imgE x = 0
  · have hnum := HRI.out h0
    obtain ⟨⟨-, hw2⟩, ⟨-, hh2⟩, -⟩ := hnum
    rw [h0] at hr
    have hi := fun W => cut_inside X W x.w hw2
    obtain ⟨b1, hb1⟩ : ∃ b, insideB X W x.w = b := ⟨_, rfl⟩
    obtain ⟨b2, hb2⟩ : ∃ b, insideB Y H x.h = b := ⟨_, rfl⟩
    have hi1 := cut_inside X W x.w hw2
    have hi2 := cut_inside Y H x.h hh2
    rw [hb1] at hi1
    rw [hb2] at hi2
    have HR2 := Lib.hid (show (if b1 = true ∧ b2 = true then 0 else 14) = R by rw [← HR.out]; unfold wiE; rw [if_pos h0, hb1, hb2])
    clear HR HRI hw2 hh2 hb1 hb2 hi h0
    cases b1
    · obtain rfl : R = 14 := by rw [← HR2.out]; rfl
      clear HR2
      go_wp2_with (first
        | (refine wpList_load_row rfl 26 _ rfl N rfl 26 _ _ _ hL.l.bN Try.underlying26 rfl (by kernel_rfl) ?_)
        | (go_at_call 20; refine (hr _ hL.l.img).mono ?_; rintro e w3 ⟨rfl, hb3⟩; replace hL := hL.below hb3; have r0 := hL.bR.cell 0; have r1 := hL.bR.cell 1; have r2 := hL.bR.cell 2; have r3 := hL.bR.cell 3; have n0 := hL.l.bN.cell 0; have n1 := hL.l.bN.cell 1)
        | (go_at_call 93; (with_reducible refine (hi1 _).mono ?_); rintro e w4 ⟨rfl, rfl⟩))
      go_ret
      exact ⟨rfl, hL.hB⟩
    · cases b2
      · obtain rfl : R = 14 := by rw [← HR2.out]; rfl
        clear HR2
        go_wp2_with (first
          | (refine wpList_load_row rfl 26 _ rfl N rfl 26 _ _ _ hL.l.bN Try.underlying26 rfl (by kernel_rfl) ?_)
          | (go_at_call 20; refine (hr _ hL.l.img).mono ?_; rintro e w3 ⟨rfl, hb3⟩; replace hL := hL.below hb3; have r0 := hL.bR.cell 0; have r1 := hL.bR.cell 1; have r2 := hL.bR.cell 2; have r3 := hL.bR.cell 3; have n0 := hL.l.bN.cell 0; have n1 := hL.l.bN.cell 1)
          | (go_at_call 93; (with_reducible refine (hi1 _).mono ?_); rintro e w4 ⟨rfl, rfl⟩)
          | (go_at_call 93; (with_reducible refine (hi2 _).mono ?_); rintro e w4 ⟨rfl, rfl⟩))
        go_ret
        exact ⟨rfl, hL.hB⟩
      · obtain rfl : R = 0 := by rw [← HR2.out]; rfl
        clear HR2
        go_wp2_with (first
          | (refine wpList_load_row rfl 26 _ rfl N rfl 26 _ _ _ hL.l.bN Try.underlying26 rfl (by kernel_rfl) ?_)
          | (go_at_call 20; refine (hr _ hL.l.img).mono ?_; rintro e w3 ⟨rfl, hb3⟩; replace hL := hL.below hb3; have r0 := hL.bR.cell 0; have r1 := hL.bR.cell 1; have r2 := hL.bR.cell 2; have r3 := hL.bR.cell 3; have n0 := hL.l.bN.cell 0; have n1 := hL.l.bN.cell 1)
          | (go_at_call 93; (with_reducible refine (hi1 _).mono ?_); rintro e w4 ⟨rfl, rfl⟩)
          | (go_at_call 93; (with_reducible refine (hi2 _).mono ?_); rintro e w4 ⟨rfl, rfl⟩))
        go_ret
        exact ⟨rfl, hL.hB⟩
  · have hR : imgE x = R := by rw [← HR.out]; exact (if_neg h0).symm
    rw [hR] at hr h0
    have t0 : (R != 0) = true := by simpa using h0
    clear HR HRI hR
    go_wp2_with (first
      | (refine wpList_load_row rfl 26 _ rfl N rfl 26 _ _ _ hL.l.bN Try.underlying26 rfl (by kernel_rfl) ?_)
      | (go_at_call 20; refine (hr _ hL.l.img).mono ?_; rintro e w3 ⟨rfl, hb3⟩; replace hL := hL.below hb3))
    go_ret
    exact ⟨rfl, hL.hB⟩
theorem ref_within19 (x : ImgArg) (hf : FewOk x) (X Y W H : Int) (w : World) (h : IsImg w x.val x) :
    Calls Try.prog 36 #[x.val, .agg #[.int .i64 X, .int .i64 Y, .int .i64 W, .int .i64 H]] w fun r w' => r = .returned (.int .i64 (wiE x X Y W H)) ∧ Below w.heap.size w w' := by
  obtain ⟨R, hR⟩ : ∃ R, wiE x X Y W H = R := ⟨_, rfl⟩
  rw [hR]
  have HR := Lib.hid hR
  have hL := LR.begin h X Y W H 68
  obtain ⟨N, hN⟩ : ∃ N, N = w.heap.size := ⟨_, rfl⟩
  rw [← hN] at hL
  have HN := Lib.hid hN
  have hr := fun W h => ref_right11 x hf W h
  have HRI := Lib.hid (fun h => RightI.nums (@right_of_imgE x h))
  unfold ImgArg.val at *
  clear hN h hR
  go_enter Try.func36, Try.ntmps36
  go_upto_region 1 with fail
  refine wp_world (LR N x X Y W H 68 w) hL ?_
  rw [← HN.out]
  clear hL
  intro V hL
  by_cases h0 : imgE x = 0
  · have hnum := HRI.out h0
    obtain ⟨⟨hw1, hw2⟩, ⟨hh1, hh2⟩, -⟩ := hnum
    rw [h0] at hr
    go_upto_region 4 with (first
      | (refine wpList_load_row rfl 26 _ rfl N rfl 26 _ _ _ hL.l.bN Try.underlying26 rfl (by kernel_rfl) ?_)
      | (go_at_call 22; refine (hr _ hL.l.img).mono ?_; rintro e w3 ⟨rfl, hb3⟩; replace hL := hL.below hb3))
    have r0 := hL.bR.cell 0; have r1 := hL.bR.cell 1; have r2 := hL.bR.cell 2; have r3 := hL.bR.cell 3; have n0 := hL.l.bN.cell 0; have n1 := hL.l.bN.cell 1
    clear hr HRI hb3
    by_cases h1 : X < 0
    · have t1 : decide (X < 0) = true := decide_eq_true h1
      obtain rfl : R = 14 := by rw [← HR.out]; unfold wiE; rw [if_pos h0]; rw [if_neg (by unfold insideB; simp; omega)]
      clear HR
      go_wp2
      go_ret
      exact ⟨rfl, hL.hB⟩
    · have t1 : decide (X < 0) = false := decide_eq_false h1
      by_cases h2 : Y < 0
      · have t2 : decide (Y < 0) = true := decide_eq_true h2
        obtain rfl : R = 14 := by rw [← HR.out]; unfold wiE; rw [if_pos h0]; rw [if_neg (by unfold insideB; simp; omega)]
        clear HR
        go_wp2
        go_ret
        exact ⟨rfl, hL.hB⟩
      · have t2 : decide (Y < 0) = false := decide_eq_false h2
        by_cases h3 : W < 1
        · have t3 : decide (W < 1) = true := decide_eq_true h3
          obtain rfl : R = 14 := by rw [← HR.out]; unfold wiE; rw [if_pos h0]; rw [if_neg (by unfold insideB; simp; omega)]
          clear HR
          go_wp2
          go_ret
          exact ⟨rfl, hL.hB⟩
        · have t3 : decide (W < 1) = false := decide_eq_false h3
          by_cases h4 : H < 1
          · have t4 : decide (H < 1) = true := decide_eq_true h4
            obtain rfl : R = 14 := by rw [← HR.out]; unfold wiE; rw [if_pos h0]; rw [if_neg (by unfold insideB; simp; omega)]
            clear HR
            go_wp2
            go_ret
            exact ⟨rfl, hL.hB⟩
          · have t4 : decide (H < 1) = false := decide_eq_false h4
            by_cases h5 : X > x.w
            · have t5 : decide (X > x.w) = true := decide_eq_true h5
              obtain rfl : R = 14 := by rw [← HR.out]; unfold wiE; rw [if_pos h0]; rw [if_neg (by unfold insideB; simp; omega)]
              clear HR
              go_wp2
              go_ret
              exact ⟨rfl, hL.hB⟩
            · have t5 : decide (X > x.w) = false := decide_eq_false h5
              by_cases h6 : Y > x.h
              · have t6 : decide (Y > x.h) = true := decide_eq_true h6
                obtain rfl : R = 14 := by rw [← HR.out]; unfold wiE; rw [if_pos h0]; rw [if_neg (by unfold insideB; simp; omega)]
                clear HR
                go_wp2
                go_ret
                exact ⟨rfl, hL.hB⟩
              · have t6 : decide (Y > x.h) = false := decide_eq_false h6
                by_cases h7 : W > x.w - X
                · have t7 : decide (W > x.w - X) = true := decide_eq_true h7
                  obtain rfl : R = 14 := by rw [← HR.out]; unfold wiE; rw [if_pos h0]; rw [if_neg (by unfold insideB; simp; omega)]
                  clear HR
                  go_wp2
                  go_ret
                  exact ⟨rfl, hL.hB⟩
                · have t7 : decide (W > x.w - X) = false := decide_eq_false h7
                  by_cases h8 : H > x.h - Y
                  · have t8 : decide (H > x.h - Y) = true := decide_eq_true h8
                    obtain rfl : R = 14 := by rw [← HR.out]; unfold wiE; rw [if_pos h0]; rw [if_neg (by unfold insideB; simp; omega)]
                    clear HR
                    go_wp2
                    go_ret
                    exact ⟨rfl, hL.hB⟩
                  · have t8 : decide (H > x.h - Y) = false := decide_eq_false h8
                    obtain rfl : R = 0 := by rw [← HR.out]; unfold wiE; rw [if_pos h0]; rw [if_pos (by unfold insideB; simp; omega)]
                    clear HR
                    go_wp2
                    go_ret
                    exact ⟨rfl, hL.hB⟩
  · have hR : imgE x = R := by rw [← HR.out]; exact (if_neg h0).symm
    rw [hR] at hr h0
    have t0 : (R != 0) = true := by simpa using h0
    clear HR HRI hR
    go_wp2_with (first
      | (refine wpList_load_row rfl 26 _ rfl N rfl 26 _ _ _ hL.l.bN Try.underlying26 rfl (by kernel_rfl) ?_)
      | (go_at_call 22; refine (hr _ hL.l.img).mono ?_; rintro e w3 ⟨rfl, hb3⟩; replace hL := hL.below hb3))
    go_ret
    exact ⟨rfl, hL.hB⟩
end Go.Proofs.Ytgmhhocpdfdplaa
/- Package cut: units; the reference's Begins. -/
namespace Go.Proofs.Ytgmhhocpdfdplaa
open Go.RowKit
set_option maxRecDepth 100000
set_option maxHeartbeats 4000000
/-- The error of a rectangle that should begin at a unit. -/
def unE (x : ImgArg) (X Y W H : Int) : Int := if wiE x X Y W H = 0 then (if X % uwI x = 0 ∧ Y % uhI x = 0 then 0 else 13) else wiE x X Y W H
/-- Its units. -/
def unA (x : ImgArg) (Y : Int) : Int := Y / uhI x
def unB (x : ImgArg) (X : Int) : Int := X / uwI x
def unV (x : ImgArg) (X Y W H : Int) : Array Value := if unE x X Y W H = 0 then #[.int .i64 (unA x Y), .int .i64 (unB x X), .int .i64 (upI H (uhI x)), .int .i64 (upI W (uwI x))] else #[.int .i64 0, .int .i64 0, .int .i64 0, .int .i64 0]
theorem wiE_zero {x : ImgArg} {X Y W H : Int} (h : wiE x X Y W H = 0) : imgE x = 0 ∧ (0 ≤ X ∧ 1 ≤ W ∧ X < x.w ∧ W ≤ x.w - X) ∧ 0 ≤ Y ∧ 1 ≤ H ∧ Y < x.h ∧ H ≤ x.h - Y := by
  unfold wiE at h
  by_cases h0 : imgE x = 0
  · rw [if_pos h0] at h
    split at h
    · rename_i hh
      exact ⟨h0, of_decide_eq_true hh.1, of_decide_eq_true hh.2⟩
    · cases h
  · rw [if_neg h0] at h
    exact absurd h h0
theorem cut_units (x : ImgArg) (hf : FewOk x) (X Y W H : Int) (w : World) (h : IsImg w x.val x) :
    Calls Try.prog 85 #[x.val, .agg #[.int .i64 X, .int .i64 Y, .int .i64 W, .int .i64 H]] w fun r w' => r = .returned (.tuple #[.agg (unV x X Y W H), .int .i64 (unE x X Y W H)]) ∧ Below w.heap.size w w' := by
  obtain ⟨E, hE⟩ : ∃ E, unE x X Y W H = E := ⟨_, rfl⟩
  obtain ⟨vs, hvs⟩ : ∃ vs, unV x X Y W H = vs := ⟨_, rfl⟩
  rw [hE, hvs]
  unfold unV at hvs
  rw [hE] at hvs
  unfold unE at hE
  have HE := Lib.hid hE
  have HVS := Lib.hid hvs
  have hL := LR.begin h X Y W H 73
  obtain ⟨N, hN⟩ : ∃ N, N = w.heap.size := ⟨_, rfl⟩
  rw [← hN] at hL
  have HN := Lib.hid hN
  have hr := fun V h => cut_within x hf X Y W H V h
  obtain ⟨e, he⟩ : ∃ e, wiE x X Y W H = e := ⟨_, rfl⟩
  rw [he] at hr
  have HEE := Lib.hid he
  have hfr := fun V h => img_frame x V h hf.c20
  unfold ImgArg.val at *
  clear hN h hE hvs he
  go_enter Try.func85, Try.ntmps85
  go_upto_region 1 with fail
  refine wp_world (fun V => LR N x X Y W H 73 w V ∧ Blk V (N + 2) #[.int .i64 0, .int .i64 0, .int .i64 0, .int .i64 0] 70) ⟨hL.below ((Below.refl _ _).alloc (Nat.le_refl _) _), Blk.new' _ _ _ (by rw [HN.out]; simp)⟩ ?_
  rw [← HN.out]
  clear hL
  rintro V ⟨hL, bQ⟩
  have hNN := hL.l.hM
  go_upto_region 2 with (first
    | (refine wpList_load_row rfl 26 _ rfl N rfl 26 _ _ _ hL.l.bN Try.underlying26 rfl (by kernel_rfl) ?_)
    | (refine wpList_load_row rfl 73 _ rfl (N + 1) rfl 73 _ _ _ hL.bR Try.underlying73 rfl (by kernel_rfl) ?_)
    | (go_at_call 43; refine (hr _ hL.l.img).mono ?_; rintro r w3 ⟨rfl, hb3⟩; replace hL := hL.below hb3; replace bQ := bQ.below hb3 bQ.lt))
  clear hr hb3
  by_cases h0 : e = 0
  · subst h0
    obtain ⟨hi0, ⟨hX1, hX2, hX3, hX4⟩, hY1, hY2, hY3, hY4⟩ := wiE_zero HEE.out
    have hR := right_of_imgE hi0
    obtain ⟨hnw, hnh, hnu, hnv, -⟩ := hR.nums
    have hf0 := hR.fr
    rw [hf0] at hfr
    have HU1 := Lib.hid (show uwI x = 8 * hhN (partsOf (psOf x.cs)) from rfl)
    have HU2 := Lib.hid (show uhI x = 8 * vvN (partsOf (psOf x.cs)) from rfl)
    generalize 8 * hhN (partsOf (psOf x.cs)) = uw at *
    generalize 8 * vvN (partsOf (psOf x.cs)) = uh at *
    rw [HU1.out] at hnu
    rw [HU2.out] at hnv
    have hE := HE.out
    rw [HEE.out, if_pos rfl, HU1.out, HU2.out] at hE
    have hvs := HVS.out
    unfold unA unB at hvs
    rw [HU1.out, HU2.out] at hvs
    clear HE HVS hi0 hR hf0 HEE
    have HE := Lib.hid hE
    have HVS := Lib.hid hvs
    clear hE hvs
    generalize acN x.w (partsOf (psOf x.cs)) = ac at *
    generalize dnN x.h (partsOf (psOf x.cs)) = dn at *
    go_upto_region 6 with (first
      | (refine wpList_load_row rfl 26 _ rfl N rfl 26 _ _ _ hL.l.bN Try.underlying26 rfl (by kernel_rfl) ?_)
      | (go_at_call 48; refine (hfr _ hL.l.img).mono ?_; rintro r w4 ⟨f, rfl, hb4, -, hf2⟩; obtain ⟨F, rfl, -, hFU⟩ := hf2 rfl; replace hL := hL.below hb4; replace bQ := bQ.below hb4 bQ.lt)
      | (go_at_call 49; refine (fr_unit F uw uh ac dn _ hFU).mono ?_; rintro r w5 ⟨rfl, hb5⟩; replace hL := hL.below hb5; replace bQ := bQ.below hb5 bQ.lt))
    clear hfr hf2 hFU hb4 hb5
    have r0 := hL.bR.cell 0; have r1 := hL.bR.cell 1; have r2 := hL.bR.cell 2; have r3 := hL.bR.cell 3
    have hu0 : uw ≠ 0 := by omega
    have hv0 : uh ≠ 0 := by omega
    have humm : uw ≠ -1 := by omega
    have hvmm : uh ≠ -1 := by omega
    by_cases hx : X % uw = 0
    · have tx : (X % uw != 0) = false := by simpa using hx
      by_cases hy : Y % uh = 0
      · have ty : (Y % uh != 0) = false := by simpa using hy
        obtain rfl : E = 0 := by rw [← HE.out]; exact if_pos ⟨hx, hy⟩
        have hvs := HVS.out
        rw [if_pos rfl] at hvs
        subst hvs
        clear HE HVS hx hy
        have hW16 : W ≤ 16384 := by omega
        have hH16 : H ≤ 16384 := by omega
        have hX16 : X ≤ 16384 := by omega
        have hY16 : Y ≤ 16384 := by omega
        have a1 : 0 ≤ Y / uh := Int.ediv_nonneg hY1 (by omega)
        have a2 : Y / uh ≤ Y := Int.ediv_le_self _ hY1
        have a3 : 0 ≤ X / uw := Int.ediv_nonneg hX1 (by omega)
        have a4 : X / uw ≤ X := Int.ediv_le_self _ hX1
        have a5 : 0 ≤ (H + uh - 1) / uh := Int.ediv_nonneg (by omega) (by omega)
        have a6 : (H + uh - 1) / uh ≤ H + uh - 1 := Int.ediv_le_self _ (by omega)
        have a7 : 0 ≤ (W + uw - 1) / uw := Int.ediv_nonneg (by omega) (by omega)
        have a8 : (W + uw - 1) / uw ≤ W + uw - 1 := Int.ediv_le_self _ (by omega)
        have h1 : 0 ≤ H + uh - 1 := by omega
        have h2 : 0 ≤ W + uw - 1 := by omega
        have e1 : IntKind.i64.wrap (H + uh) = H + uh := IntWalk.i64_in _ (by omega)
        have e2 : IntKind.i64.wrap (H + uh - 1) = H + uh - 1 := IntWalk.i64_in _ (by omega)
        have e3 : IntKind.i64.wrap (W + uw) = W + uw := IntWalk.i64_in _ (by omega)
        have e4 : IntKind.i64.wrap (W + uw - 1) = W + uw - 1 := IntWalk.i64_in _ (by omega)
        go_upto_region 8 with fail
        refine wp_region_mono [0, 1, 2, 3, 4, 5, 6, 7, 8, 9, 10, 11, 12, 13, 14, 15, 16, 17, 18, 19, 20, 21, 22] [23, 24] (fun V => LR N x X Y W H 73 w V ∧ Blk V (N + 2) #[.int .i64 0, .int .i64 0, .int .i64 0, .int .i64 0] 70) (fun _ => none) (fun _ => []) (by kernel_rfl) (by kernel_rfl) ⟨hL.below (Below.refl _ _).drew, bQ.drew⟩ ?_ ?_
        · intro i s hs; cases hs
        clear hL bQ r0 r1 r2 r3
        simp only [pick, List.getD_cons_succ, List.getD_cons_zero, List.zip_cons_cons, List.zip_nil_right]
        iterate 23 (first | (refine mono_skip (by rfl) ?_; simp only [Act.put, List.setIfInBounds_toArray, List.set_cons_zero, List.set_cons_succ]) | (refine mono_pure (v := ?_) (by rfl) rfl ?_ ?_; rotate_left; (intro wS hS; have r0 := hS.1.bR.cell 0; have r1 := hS.1.bR.cell 1; have r2 := hS.1.bR.cell 2; have r3 := hS.1.bR.cell 3; have n0 := hS.1.l.bN.cell 0; have n1 := hS.1.l.bN.cell 1; go_simp; try with_reducible rfl); simp only [Act.put, List.setIfInBounds_toArray, List.set_cons_zero, List.set_cons_succ]))
        refine mono_nil ?_
        rintro W9 ⟨hL, bQ⟩ -
        go_wp2_with (refine wpList_store_row rfl 70 _ _ rfl (N + 2) _ rfl rfl 70 _ bQ (by kernel_rfl) rfl (by simp [Value.oneCell']) ?_)
        refine bodyPost_ret (results_row_tmp rfl _ _ (N + 2) 70 _ _ rfl (bQ.row _) Try.underlying70 rfl (by kernel_rfl)) rfl ?_
        exact ⟨rfl, Below.setRow hL.hB (by omega) _⟩
      · have ty : (Y % uh != 0) = true := by simpa using hy
        obtain rfl : E = 13 := by rw [← HE.out]; exact if_neg (fun h => hy h.2)
        have hvs := HVS.out
        rw [if_neg (by decide)] at hvs
        subst hvs
        clear HE HVS hx hy
        go_wp2_with (refine wpList_store_row rfl 70 _ _ rfl (N + 2) _ rfl rfl 70 _ bQ (by kernel_rfl) rfl (by simp [Value.oneCell']) ?_)
        refine bodyPost_ret (results_row_tmp rfl _ _ (N + 2) 70 _ _ rfl (bQ.row _) Try.underlying70 rfl (by kernel_rfl)) rfl ?_
        exact ⟨rfl, Below.setRow hL.hB (by omega) _⟩
    · have tx : (X % uw != 0) = true := by simpa using hx
      obtain rfl : E = 13 := by rw [← HE.out]; exact if_neg (fun h => hx h.1)
      have hvs := HVS.out
      rw [if_neg (by decide)] at hvs
      subst hvs
      clear HE HVS hx
      go_wp2_with (refine wpList_store_row rfl 70 _ _ rfl (N + 2) _ rfl rfl 70 _ bQ (by kernel_rfl) rfl (by simp [Value.oneCell']) ?_)
      refine bodyPost_ret (results_row_tmp rfl _ _ (N + 2) 70 _ _ rfl (bQ.row _) Try.underlying70 rfl (by kernel_rfl)) rfl ?_
      exact ⟨rfl, Below.setRow hL.hB (by omega) _⟩
  · have hE := HE.out
    rw [HEE.out, if_neg h0] at hE
    subst hE
    have hvs := HVS.out
    rw [if_neg h0] at hvs
    subst hvs
    have t0 : (e != 0) = true := by simpa using h0
    clear HE HVS HEE h0 hfr
    go_wp2_with (refine wpList_store_row rfl 70 _ _ rfl (N + 2) _ rfl rfl 70 _ bQ (by kernel_rfl) rfl (by simp [Value.oneCell']) ?_)
    refine bodyPost_ret (results_row_tmp rfl _ _ (N + 2) 70 _ _ rfl (bQ.row _) Try.underlying70 rfl (by kernel_rfl)) rfl ?_
    exact ⟨rfl, Below.setRow hL.hB (by omega) _⟩
end Go.Proofs.Ytgmhhocpdfdplaa
/- Package cut: blocks. -/
namespace Go.Proofs.Ytgmhhocpdfdplaa
open Go.RowKit
set_option maxRecDepth 100000
set_option maxHeartbeats 4000000
theorem frG_get (x : ImgArg) {i : Nat} (hi : i < x.cs.length) (hg : i < (frG x).length) : ((frG x)[i]'hg).c = acI x * pH x i ∧ ((frG x)[i]'hg).r = dnI x * pV x i := by
  have h := frG_at x hi
  rw [List.getD_eq_getElem?_getD, List.getElem?_eq_getElem hg, Option.getD_some] at h
  rw [h]
  exact ⟨rfl, rfl⟩
theorem ediv_fac {a b z : Int} (h : 1 ≤ a) (e : z = a * b) : z / a = b := by rw [e]; exact Int.mul_ediv_cancel_left b (by omega)
theorem cut_blocks (x : ImgArg) (hc20 : x.cs.length ≤ 20) (hR : RightI x) (i : Nat) (hi : i < x.cs.length) (a b h d : Int) (ha : 0 ≤ a ∧ a ≤ 20000) (hb : 0 ≤ b ∧ b ≤ 20000) (hh : 0 ≤ h ∧ h ≤ 20000) (hd : 0 ≤ d ∧ d ≤ 20000) (w : World) (hI : IsImg w x.val x) :
    Calls Try.prog 86 #[x.val, .agg #[.int .i64 a, .int .i64 b, .int .i64 h, .int .i64 d], .int .i64 i] w fun r w' => r = .returned (.agg #[.int .i64 (a * pV x i), .int .i64 (b * pH x i), .int .i64 (h * pV x i), .int .i64 (d * pH x i)]) ∧ Below w.heap.size w w' := by
  have hL := LR.begin hI a b h d 70
  obtain ⟨N, hN⟩ : ∃ N, N = w.heap.size := ⟨_, rfl⟩
  rw [← hN] at hL
  have HN := Lib.hid hN
  have hfr := fun V h => img_frame x V h hc20
  rw [hR.fr] at hfr
  have hg : i < (frG x).length := by rw [frG_len]; exact hi
  obtain ⟨e1, e2⟩ := frG_get x hi hg
  have hgr := fun F V h => fr_grid F (frG x) i hg V h
  generalize ((frG x)[i]'hg).oc = g2 at *
  generalize ((frG x)[i]'hg).or_ = g3 at *
  generalize ((frG x)[i]'hg).c = cg at *
  generalize ((frG x)[i]'hg).r = rg at *
  obtain ⟨-, -, -, -, hac, hdn⟩ := hR.nums
  obtain ⟨hp1, hp2, hp3, hp4⟩ := hR.part hi
  have K1 : acN x.w (partsOf (psOf x.cs)) = acI x := rfl
  have K2 : dnN x.h (partsOf (psOf x.cs)) = dnI x := rfl
  rw [K1, K2] at hfr
  clear K1 K2
  generalize 8 * hhN (partsOf (psOf x.cs)) = uw at *
  generalize 8 * vvN (partsOf (psOf x.cs)) = uh at *
  generalize acI x = ac at *
  generalize dnI x = dn at *
  generalize pH x i = p at *
  generalize pV x i = q at *
  have b1 := mul_in (a := ac) (b := p) (A := 3000) (B := 4) (by omega) hac.2 (by omega) hp2
  have b2 := mul_in (a := dn) (b := q) (A := 3000) (B := 4) (by omega) hdn.2 (by omega) hp4
  rw [← e1] at b1
  rw [← e2] at b2
  have q1 := ediv_fac hac.1 e1
  have q2 := ediv_fac hdn.1 e2
  have n1 : ac ≠ 0 := by omega
  have n2 : ac ≠ -1 := by omega
  have n3 : dn ≠ 0 := by omega
  have n4 : dn ≠ -1 := by omega
  obtain ⟨m1, hm1⟩ : ∃ m, a * q = m := ⟨_, rfl⟩
  obtain ⟨m2, hm2⟩ : ∃ m, b * p = m := ⟨_, rfl⟩
  obtain ⟨m3, hm3⟩ : ∃ m, h * q = m := ⟨_, rfl⟩
  obtain ⟨m4, hm4⟩ : ∃ m, d * p = m := ⟨_, rfl⟩
  have c1 := mul_in (a := a) (b := q) (A := 20000) (B := 4) ha.1 ha.2 (by omega) hp4
  have c2 := mul_in (a := b) (b := p) (A := 20000) (B := 4) hb.1 hb.2 (by omega) hp2
  have c3 := mul_in (a := h) (b := q) (A := 20000) (B := 4) hh.1 hh.2 (by omega) hp4
  have c4 := mul_in (a := d) (b := p) (A := 20000) (B := 4) hd.1 hd.2 (by omega) hp2
  rw [hm1] at c1; rw [hm2] at c2; rw [hm3] at c3; rw [hm4] at c4
  rw [hm1, hm2, hm3, hm4]
  have W1 := Lib.hid (show IntKind.i64.wrap (a * q) = m1 by rw [hm1]; exact IntWalk.i64_in _ (by omega))
  have W2 := Lib.hid (show IntKind.i64.wrap (b * p) = m2 by rw [hm2]; exact IntWalk.i64_in _ (by omega))
  have W3 := Lib.hid (show IntKind.i64.wrap (h * q) = m3 by rw [hm3]; exact IntWalk.i64_in _ (by omega))
  have W4 := Lib.hid (show IntKind.i64.wrap (d * p) = m4 by rw [hm4]; exact IntWalk.i64_in _ (by omega))
  have Q1 := Lib.hid (show IntKind.i64.wrap (cg.tdiv ac) = p by rw [Int.tdiv_eq_ediv_of_nonneg b1.1, q1]; exact IntWalk.i64_in _ (by omega)); have Q2 := Lib.hid (show IntKind.i64.wrap (rg.tdiv dn) = q by rw [Int.tdiv_eq_ediv_of_nonneg b2.1, q2]; exact IntWalk.i64_in _ (by omega))
  unfold ImgArg.val at *
  clear hN hI e1 e2 hm1 hm2 hm3 hm4 q1 q2
  go_enter Try.func86, Try.ntmps86
  go_upto_region 1 with fail
  refine wp_world (fun V => LR N x a b h d 70 w V ∧ Blk V (N + 2) #[.int .i64 0, .int .i64 0, .int .i64 0, .int .i64 0] 70) ⟨hL.below ((Below.refl _ _).alloc (Nat.le_refl _) _), Blk.new' _ _ _ (by rw [HN.out]; simp)⟩ ?_
  rw [← HN.out]
  clear hL
  rintro V ⟨hL, bQ⟩
  have hNN := hL.l.hM
  go_upto_region 4 with (first
    | (refine wpList_load_row rfl 26 _ rfl N rfl 26 _ _ _ hL.l.bN Try.underlying26 rfl (by kernel_rfl) ?_)
    | (go_at_call 48; refine (hfr _ hL.l.img).mono ?_; rintro r w4 ⟨f, rfl, hb4, -, hf2⟩; obtain ⟨F, rfl, hIF, hFU⟩ := hf2 rfl; replace hL := hL.below hb4; replace bQ := bQ.below hb4 bQ.lt)
    | (go_at_call 130; refine (fr_units F uw uh ac dn _ hFU).mono ?_; rintro r w5 ⟨rfl, hb5⟩; replace hL := hL.below hb5; replace bQ := bQ.below hb5 bQ.lt; replace hIF := hIF.below hb5)
    | (go_at_call 73; refine (hgr F _ hIF).mono ?_; rintro r w6 ⟨rfl, hb6⟩; replace hL := hL.below hb6; replace bQ := bQ.below hb6 bQ.lt; obtain ⟨M, hM⟩ : ∃ M, M = w6.heap.size := ⟨_, rfl⟩; have HM := Lib.hid hM; clear hM)
    | (refine wpList_store_row rfl 116 _ _ rfl M _ (by rw [HM.out]; rfl) rfl 116 _ (Blk.new' _ _ _ HM.out) (by kernel_rfl) rfl (by simp [Value.oneCell']) ?_; simp only [Act.put]))
  have hbe : Below w6.heap.size w6 ((w6.alloc (.cells #[.int .i64 0, .int .i64 0, .int .i64 0, .int .i64 0] 116)).setRow M #[.int .i64 cg, .int .i64 rg, .int .i64 g2, .int .i64 g3]) := Below.setRow ((Below.refl _ _).alloc (Nat.le_refl _) _) (Nat.le_of_eq HM.out.symm) _
  try rw [← HM.out]
  refine wp_region_det (fun V => LR N x a b h d 70 w V ∧ Blk V (N + 2) #[.int .i64 0, .int .i64 0, .int .i64 0, .int .i64 0] 70 ∧ Blk V M #[.int .i64 cg, .int .i64 rg, .int .i64 g2, .int .i64 g3] 116) (by kernel_rfl) (by kernel_rfl) ⟨(hL.below hbe).below (Below.refl _ _).drew, (bQ.below hbe bQ.lt).drew, ((Blk.new' _ _ _ HM.out).row _).drew⟩ ?_
  clear hbe hL bQ hIF hFU hf2 hb4 hb5 hb6 HM
  iterate 3 (first | (refine det_skip (by rfl) ?_; simp only [Act.put, List.setIfInBounds_toArray, List.set_cons_zero, List.set_cons_succ]) | (refine det_pure (v := ?_) (by rfl) ?_ ?_; rotate_left; (intro wS hS; have g0 := hS.2.2.cell 0; have g1 := hS.2.2.cell 1; go_simp; try with_reducible rfl); simp only [Act.put, List.setIfInBounds_toArray, List.set_cons_zero, List.set_cons_succ]))
  refine det_pure (v := .int .i64 p) (by rfl) (fun w1 hS => by go_simp; rw [Q1.out]) ?_
  simp only [Act.put, List.setIfInBounds_toArray, List.set_cons_zero, List.set_cons_succ]
  iterate 3 (first | (refine det_skip (by rfl) ?_; simp only [Act.put, List.setIfInBounds_toArray, List.set_cons_zero, List.set_cons_succ]) | (refine det_pure (v := ?_) (by rfl) ?_ ?_; rotate_left; (intro wS hS; have g0 := hS.2.2.cell 0; have g1 := hS.2.2.cell 1; go_simp; try with_reducible rfl); simp only [Act.put, List.setIfInBounds_toArray, List.set_cons_zero, List.set_cons_succ]))
  refine det_pure (v := .int .i64 q) (by rfl) (fun w1 hS => by go_simp; rw [Q2.out]) ?_
  simp only [Act.put, List.setIfInBounds_toArray, List.set_cons_zero, List.set_cons_succ]
  iterate 2 (first | (refine det_skip (by rfl) ?_; simp only [Act.put, List.setIfInBounds_toArray, List.set_cons_zero, List.set_cons_succ]) | (refine det_pure (v := ?_) (by rfl) ?_ ?_; rotate_left; (intro wS hS; have g0 := hS.2.2.cell 0; have g1 := hS.2.2.cell 1; go_simp; try with_reducible rfl); simp only [Act.put, List.setIfInBounds_toArray, List.set_cons_zero, List.set_cons_succ]))
  refine det_nil ?_
  rintro W7 ⟨hL, bQ, -⟩
  have w1 := W1.out; have w2 := W2.out; have w3 := W3.out; have w4 := W4.out
  have r0 := hL.bR.cell 0; have r1 := hL.bR.cell 1; have r2 := hL.bR.cell 2; have r3 := hL.bR.cell 3
  go_wp2_with (refine wpList_store_row rfl 70 _ _ rfl (N + 2) _ rfl rfl 70 _ bQ (by kernel_rfl) rfl (by simp [Value.oneCell']) ?_)
  simp only [Act.put]
  refine bodyPost_ret (results_cell_row rfl _ _ (N + 2) 70 _ (0, 0) _ rfl (bQ.row _) Try.underlying70 rfl (by kernel_rfl)) rfl ?_
  exact ⟨rfl, Below.setRow hL.hB (by omega) _⟩
end Go.Proofs.Ytgmhhocpdfdplaa
/- Package cut: each, whatever is done to the planes. -/
namespace Go.Proofs.Ytgmhhocpdfdplaa
open Go.RowKit
set_option maxRecDepth 100000
set_option maxHeartbeats 8000000
structure PlaneV where
  c : Int
  r : Int
  l : List (List Int)
structure PlOk (p : PlaneV) : Prop where
  wc : (Lit.int .i64 p.c).wf = true
  wr : (Lit.int .i64 p.r).wf = true
  h64 : Right64 p.l
  wb : ∀ b ∈ p.l, ∀ y ∈ b, (Lit.int .i16 y).wf = true
  few : p.l.length ≤ 20000
/-- The image with other planes. -/
def putAll (x : ImgArg) (G : Nat → PlaneV) : ImgArg := { x with cs := (List.range x.cs.length).map fun i => setP (x.cs.getD i noComp) (G i).c (G i).r (.slice none 0 0) (G i).l }
/-- The first k planes are put. -/
structure PutTo (c0 : List CompArg) (G : Nat → PlaneV) (k : Nat) (cs : List CompArg) : Prop where
  len : cs.length = c0.length
  lo : ∀ i, i < k → i < c0.length → cd (cs.getD i noComp) = cd (setP (c0.getD i noComp) (G i).c (G i).r (.slice none 0 0) (G i).l)
  hi : ∀ i, k ≤ i → cd (cs.getD i noComp) = cd (c0.getD i noComp)
theorem PutTo.zero {c0 cs : List CompArg} (G : Nat → PlaneV) (h : cs.map cd = c0.map cd) : PutTo c0 G 0 cs := by
  have hl : cs.length = c0.length := by simpa using congrArg List.length h
  refine ⟨hl, fun i hi => absurd hi (by omega), fun i _ => ?_⟩
  have hi := congrArg (fun l => l[i]?) h
  simp only [List.getElem?_map] at hi
  simp only [List.getD_eq_getElem?_getD]
  cases hx : cs[i]? with
  | none => cases hy : c0[i]? with
    | none => rfl
    | some b => rw [hx, hy] at hi; cases hi
  | some a => cases hy : c0[i]? with
    | none => rw [hx, hy] at hi; cases hi
    | some b =>
      rw [hx, hy] at hi
      simpa using hi
theorem PutTo.step {c0 : List CompArg} {G : Nat → PlaneV} {k : Nat} {cs : List CompArg} (h : PutTo c0 G k cs) (hk : k < cs.length) (u : Value) :
    PutTo c0 G (k + 1) (cs.set k (setP (cs[k]'hk) (G k).c (G k).r u (G k).l)) := by
  have e0 : cd (cs[k]'hk) = cd (c0.getD k noComp) := by rw [← h.hi k (Nat.le_refl _)]; simp [List.getD_eq_getElem?_getD, hk]
  refine ⟨by rw [List.length_set, h.len], fun i hi hic => ?_, fun i hi => ?_⟩
  · by_cases hik : i = k
    · subst hik
      rw [getD_set_self _ _ _ hk]
      exact congrArg (fun t => (t.1, (G i).c, (G i).r, (G i).l)) e0
    · rw [getD_set_other _ _ _ _ (fun e => hik e.symm)]
      exact h.lo i (by omega) hic
  · rw [getD_set_other _ _ _ _ (by omega)]
    exact h.hi i (by omega)
theorem PutTo.all {x : ImgArg} {G : Nat → PlaneV} {cs : List CompArg} (h : PutTo x.cs G x.cs.length cs) : cs.map cd = (putAll x G).cs.map cd := by
  refine List.ext_getElem? fun i => ?_
  rw [List.getElem?_map, List.getElem?_map]
  unfold putAll
  by_cases hi : i < x.cs.length
  · have hi' : i < cs.length := by rw [h.len]; exact hi
    have := h.lo i hi hi
    rw [List.getD_eq_getElem?_getD, List.getElem?_eq_getElem hi', Option.getD_some] at this
    simp only [List.getElem?_map, List.getElem?_range hi, List.getElem?_eq_getElem hi', Option.map_some]
    rw [this]
  · rw [List.getElem?_eq_none (by rw [h.len]; omega), List.getElem?_eq_none (by simp; omega)]
def shDo (c r : Int) (n : Nat) (v : Value) : Prop := ∃ b cap, v = .tuple #[.agg #[.int .i64 c, .int .i64 r, .slice b n cap], .int .i64 0]
def fDo (l : List (List Int)) (v : Value) : Fact := fun lo hi w => ∃ u, (∃ x y e, v = .tuple #[.agg #[x, y, u], e]) ∧ Row w lo 57 64 u l.length (bcells l) ∧ ∀ g, u.ownBlock = some g → g < hi
theorem fDo_mono (l : List (List Int)) (v : Value) : (fDo l v).Mono := by
  intro lo hi w w' h hs hB
  obtain ⟨u, h1, h2, h3⟩ := h
  exact ⟨u, h1, h2.grow hB, h3⟩
theorem PutTo.few {x : ImgArg} {G : Nat → PlaneV} {k : Nat} {cs : List CompArg} (h : PutTo x.cs G k cs) (hf : FewOk x) (hG : ∀ i, i < x.cs.length → PlOk (G i)) (cu qu tu : Value) (w h' : Int) : FewOk ⟨w, h', cu, qu, tu, cs, x.qs, x.ts⟩ := by
  refine ⟨by show cs.length ≤ 20; rw [h.len]; exact hf.c20, hf.q20, hf.t100, fun c hc => ?_, hf.t140⟩
  obtain ⟨i, hi, rfl⟩ := List.getElem_of_mem hc
  have hi2 : i < cs.length := hi
  have hi' : i < x.cs.length := by rw [← h.len]; exact hi2
  have hgd : cs.getD i noComp = cs[i]'hi2 := comp_getD hi2
  by_cases hik : i < k
  · have := h.lo i hik hi'
    rw [hgd] at this
    have e : (cs[i]'hi2).bs = (G i).l := congrArg (fun t => t.2.2.2) this
    rw [e]
    exact (hG i hi').few
  · have := h.hi i (by omega)
    rw [hgd, comp_getD hi'] at this
    have e : (cs[i]'hi2).bs = (x.cs[i]'hi').bs := congrArg (fun t => t.2.2.2) this
    rw [e]
    exact hf.b300 _ (List.getElem_mem hi')
/-- The boxes: the image, the rectangle, the result, the copy. -/
structure EI (N P M0 : Nat) (x y : ImgArg) (a b h d : Int) (w V0 V : World) : Prop where
  l : LR N x a b h d 70 w V
  bQ : Blk V (N + 2) #[.int .i64 0, .int .i64 0, .slice none 0 0, .slice none 0 0, .slice none 0 0] 26
  bP : Blk V P #[.int .i64 y.w, .int .i64 y.h, y.cu, y.qu, y.tu] 26
  own : OwnL M0 y V0 V
theorem EI.below {N P M0 : Nat} {x y : ImgArg} {a b h d : Int} {w V0 V V' : World} (q : EI N P M0 x y a b h d w V0 V) (hb : Below V.heap.size V V') : EI N P M0 x y a b h d w V0 V' :=
  ⟨q.l.below hb, q.bQ.below hb q.bQ.lt, q.bP.below hb q.bP.lt, q.own.below hb⟩
theorem cut_each (x : ImgArg) (hf : FewOk x) (hR : RightI x) (a b h d : Int) (ha : 0 ≤ a ∧ a ≤ 20000) (hb : 0 ≤ b ∧ b ≤ 20000) (hh : 0 ≤ h ∧ h ≤ 20000) (hd : 0 ≤ d ∧ d ≤ 20000) (gf : Nat) (heg : ∀ args w, (callFunc gf args).run Try.prog w = .ok (.enter gf args) w)
    (G : Nat → PlaneV) (hG : ∀ i, i < x.cs.length → PlOk (G i))
    (hdo : ∀ i (hi : i < x.cs.length) (u : Value) (W : World), Ar W 64 u (x.cs[i]'hi).bs.length (bcells (x.cs[i]'hi).bs) → Calls Try.prog gf #[.agg #[.int .i64 (x.cs[i]'hi).c, .int .i64 (x.cs[i]'hi).r, u], .agg #[.int .i64 (a * pV x i), .int .i64 (b * pH x i), .int .i64 (h * pV x i), .int .i64 (d * pH x i)]] W
      fun e w' => ∃ v, e = .returned (.tuple #[.agg #[.int .i64 (G i).c, .int .i64 (G i).r, v], .int .i64 0]) ∧ Row w' W.heap.size 57 64 v (G i).l.length (bcells (G i).l) ∧ Below W.heap.size W w')
    (w : World) (hI : IsImg w x.val x) :
    Calls Try.prog 87 #[x.val, .agg #[.int .i64 a, .int .i64 b, .int .i64 h, .int .i64 d], .func (.func gf) #[] #[]] w fun r w' => ∃ x1, r = .returned x1.val ∧ SameD (putAll x G) x1 ∧ FewOk x1 ∧ OwnL w.heap.size x1 w w' := by
  have hww := Lib.hid hI.ww; have hwh := Lib.hid hI.wh; have HI := Lib.hid hI
  have hc20 := hf.c20
  obtain ⟨cb, ccap, hcu⟩ := hI.cs.len
  have HCU := Lib.hid hcu
  have hL := LR.begin hI a b h d 70
  obtain ⟨N, hN⟩ : ∃ N, N = w.heap.size := ⟨_, rfl⟩
  rw [← hN] at hL
  have HN := Lib.hid hN
  have hcp := fun W h => img_copy x hf W h
  have hbl := fun i hi W hI => cut_blocks x hc20 hR i hi a b h d ha hb hh hd W hI
  unfold ImgArg.val at hcp hbl ⊢
  have HDO := Lib.hid hdo
  have HG := Lib.hid hG
  have HBL := Lib.hid hbl
  clear hN hI hcu hdo hG hbl
  go_enter Try.func87, Try.ntmps87
  go_upto_region 1 with fail
  refine wp_world (fun V => LR N x a b h d 70 w V ∧ Blk V (N + 2) #[.int .i64 0, .int .i64 0, .slice none 0 0, .slice none 0 0, .slice none 0 0] 26) ⟨hL.below ((Below.refl _ _).alloc (Nat.le_refl _) _), Blk.new' _ _ _ (by rw [HN.out]; simp)⟩ ?_
  rw [← HN.out]
  clear hL
  rintro V0 ⟨hL, bQ⟩
  have hNN := hL.l.hM
  go_upto_region 2 with (first
    | (refine wpList_load_row rfl 26 _ rfl N rfl 26 _ _ _ hL.l.bN Try.underlying26 rfl (by kernel_rfl) ?_)
    | (go_at_call 31; refine (hcp _ hL.l.img).mono ?_; rintro r w1 ⟨⟨yw, yh, ycu, yqu, ytu, ycs, yqs, yts⟩, rfl, hSD, hO⟩; obtain ⟨yb, ycap, rfl⟩ : ∃ b c, ycu = .slice b ycs.length c := hO.c.row.len; obtain ⟨qb, qcap, rfl⟩ : ∃ b c, yqu = .slice b yqs.length c := hO.q.len; obtain ⟨tb, tcap, rfl⟩ : ∃ b c, ytu = .slice b yts.length c := hO.t.len; obtain ⟨P, hP⟩ : ∃ P, P = w1.heap.size := ⟨_, rfl⟩; have HP := Lib.hid hP; clear hP)
    | (refine wpList_store_row rfl 26 _ _ rfl P _ (by rw [HP.out]; rfl) rfl 26 _ (Blk.new' _ _ _ HP.out) (by kernel_rfl) rfl (by simp [Value.oneCell']) ?_; simp only [Act.put]))
  have hb1 := hO.c.hB
  have hN1 := hO.c.hW
  have hbe : Below w1.heap.size w1 ((w1.alloc (.cells #[.int .i64 0, .int .i64 0, .slice none 0 0, .slice none 0 0, .slice none 0 0] 26)).setRow P #[.int .i64 yw, .int .i64 yh, .slice yb ycs.length ycap, .slice qb yqs.length qcap, .slice tb yts.length tcap]) := Below.setRow ((Below.refl _ _).alloc (Nat.le_refl _) _) (Nat.le_of_eq HP.out.symm) _
  try rw [← HP.out]
  refine wp_world (EI N P V0.heap.size x ⟨yw, yh, .slice yb ycs.length ycap, .slice qb yqs.length qcap, .slice tb yts.length tcap, ycs, yqs, yts⟩ a b h d w V0) ⟨(hL.below hb1).below hbe, (bQ.below hb1 bQ.lt).below hbe (Nat.lt_of_lt_of_le bQ.lt hN1), (Blk.new' _ _ _ HP.out).row _, hO.ownL.below hbe⟩ ?_
  have hM0 : N + 2 < V0.heap.size := bQ.lt
  have HM0 := Lib.hid hM0
  clear hbe hb1 hO hL bQ hcp HP hN1 hM0
  intro V1 hE
  generalize V0.heap.size = M0 at *
  have hT0 : PutTo x.cs G 0 ycs := PutTo.zero G hSD.cs
  have hyl := hSD.len
  simp only at hyl
  have HW := Lib.hid hSD.w; have HH := Lib.hid hSD.h; have HQS := Lib.hid hSD.qs; have HTS := Lib.hid hSD.ts
  obtain ⟨m, hm⟩ : ∃ m, ycs.length = m := ⟨_, rfl⟩
  rw [hm] at hE hyl ⊢
  have HYL := Lib.hid hyl
  clear hm hSD hyl
  have q2 : V1.cell? ⟨N, 2, none⟩ = some (.slice cb x.cs.length ccap) := by rw [← HCU.out]; exact hE.l.l.bN.cell 2
  go_wp2
  clear q2
  go_loopw [15] (fun iv wr => ∃ k : Nat, k ≤ x.cs.length ∧ iv = .int .i64 k ∧ ∃ cs, PutTo x.cs G k cs ∧ EI N P M0 x ⟨yw, yh, .slice yb m ycap, .slice qb yqs.length qcap, .slice tb yts.length tcap, cs, yqs, yts⟩ a b h d w V0 wr) (fun iv _ => x.cs.length - (intOf iv).toNat)
  case atStart => exact ⟨0, Nat.zero_le _, rfl, ycs, hT0, hE⟩
  case round =>
    clear hE hT0
    obtain ⟨k, hk, rfl, cs, hT, hE⟩ := hrel
    by_cases hlt : k < x.cs.length
    · have tl : decide (k < x.cs.length) = true := by simpa using hlt
      have hcs : IsComps wr (.slice cb x.cs.length ccap) x.cs := by have := hE.l.l.img.cs; rwa [HCU.out] at this
      obtain ⟨aa, rfl, c0, c1, c2, c3, c4, c5, c6⟩ := hcs.at hlt
      have hAr := (hcs.ok _ (List.getElem_mem hlt)).ar
      have hdo := HDO.out k hlt
      have hblk := HBL.out k hlt
      have j0 : (0 : Int) ≤ (k : Int) := by omega
      have j1 : (k : Int) < (x.cs.length : Int) := by omega
      generalize (x.cs[k]'hlt).id = x0 at *
      generalize (x.cs[k]'hlt).h = x1 at *
      generalize (x.cs[k]'hlt).v = x2 at *
      generalize (x.cs[k]'hlt).q = x3 at *
      generalize (x.cs[k]'hlt).c = x4 at *
      generalize (x.cs[k]'hlt).r = x5 at *
      generalize (x.cs[k]'hlt).bs = bs at *
      generalize (x.cs[k]'hlt).u = u at *
      obtain ⟨ub, uc, rfl, -, -⟩ := hAr.len
      obtain ⟨C, hC⟩ : ∃ C, C = wr.heap.size := ⟨_, rfl⟩
      have HC := Lib.hid hC
      clear hcs hC
      go_upto_region 5 with fail
      have hbe : Below wr.heap.size wr (wr.alloc (.cells #[.int .i64 x0, .int .i64 x1, .int .i64 x2, .int .i64 x3, .int .i64 x4, .int .i64 x5, .slice ub bs.length uc] 63)) := (Below.refl _ _).alloc (Nat.le_refl _) _
      rw [← HC.out]
      refine wp_world (fun V => Blk V C #[.int .i64 x0, .int .i64 x1, .int .i64 x2, .int .i64 x3, .int .i64 x4, .int .i64 x5, .slice ub bs.length uc] 63 ∧ Ar V 64 (.slice ub bs.length uc) bs.length (bcells bs) ∧ EI N P M0 x ⟨yw, yh, .slice yb m ycap, .slice qb yqs.length qcap, .slice tb yts.length tcap, cs, yqs, yts⟩ a b h d w V0 V) ⟨Blk.new' _ _ _ HC.out, hAr.below hbe, hE.below hbe⟩ ?_
      clear hbe hE hAr c0 c1 c2 c3 c4 c5 c6 HC
      clear wr
      rintro V2 ⟨bC, hA, hE⟩
      have hkc : k < cs.length := by rw [hT.len]; exact hlt
      have hcm : cs.length = m := by rw [hT.len]; exact HYL.out.symm
      obtain ⟨g, cap', he, hlo, hgs, -⟩ := hE.own.row.cells (by simp only; omega)
      simp only [Value.slice.injEq] at he
      obtain ⟨rfl, -, -⟩ := he
      have hMW := hE.own.hW
      have jm : (k : Int) < (m : Int) := by omega
      have hPO := HG.out k hlt
      have hTs := Lib.hid (fun v => hT.step hkc v)
      have hGm : ∀ V V', (fun V => Blk V C #[.int .i64 x0, .int .i64 x1, .int .i64 x2, .int .i64 x3, .int .i64 x4, .int .i64 x5, .slice ub bs.length uc] 63 ∧ Ar V 64 (.slice ub bs.length uc) bs.length (bcells bs) ∧ EI N P M0 x ⟨yw, yh, .slice (some ⟨g, 0, none⟩) m ycap, .slice qb yqs.length qcap, .slice tb yts.length tcap, cs, yqs, yts⟩ a b h d w V0 V) V → Below V.heap.size V V' → (fun V => Blk V C #[.int .i64 x0, .int .i64 x1, .int .i64 x2, .int .i64 x3, .int .i64 x4, .int .i64 x5, .slice ub bs.length uc] 63 ∧ Ar V 64 (.slice ub bs.length uc) bs.length (bcells bs) ∧ EI N P M0 x ⟨yw, yh, .slice (some ⟨g, 0, none⟩) m ycap, .slice qb yqs.length qcap, .slice tb yts.length tcap, cs, yqs, yts⟩ a b h d w V0 V) V' := fun V V' q hb => ⟨q.1.below hb q.1.lt, q.2.1.below hb, q.2.2.below hb⟩
      generalize hgk : G k = gk at *
      obtain ⟨gc, gr, gl⟩ := gk
      simp only at hdo hTs
      refine wp_region_late [13] [0, 1, 2, 3, 4, 5, 6, 7, 8, 9, 10, 11, 12, 13, 14, 15] [16] (fun V => Blk V C #[.int .i64 x0, .int .i64 x1, .int .i64 x2, .int .i64 x3, .int .i64 x4, .int .i64 x5, .slice ub bs.length uc] 63 ∧ Ar V 64 (.slice ub bs.length uc) bs.length (bcells bs) ∧ EI N P M0 x ⟨yw, yh, .slice (some ⟨g, 0, none⟩) m ycap, .slice qb yqs.length qcap, .slice tb yts.length tcap, cs, yqs, yts⟩ a b h d w V0 V)
        (fun | 9 => some (sFix (.agg #[.int .i64 (a * pV x k), .int .i64 (b * pH x k), .int .i64 (h * pV x k), .int .i64 (d * pH x k)])) | 10 => some (sRel (shDo gc gr gl.length) (fDo gl)) | _ => none) (fun _ => []) (by kernel_rfl) (by kernel_rfl) (by intro j hj; simp at hj; subst hj; rfl) (hGm _ _ ⟨bC, hA, hE⟩ (Below.refl _ _).drew) ?_ ?_
      · intro i s hs
        match i with
        | 9 => cases hs; exact fun _ _ => sFix_mono _ _ _
        | 10 => cases hs; exact fun _ _ => fDo_mono _ _
      clear bC hA hE
      simp only [pick, List.getD_cons_succ, List.getD_cons_zero, List.zip_cons_cons, List.zip_nil_right]
      (first | (refine mono_skip (by rfl) ?_; simp only [Act.put, List.setIfInBounds_toArray, List.set_cons_zero, List.set_cons_succ]) | (refine mono_pure (v := ?_) (by rfl) rfl ?_ ?_; rotate_left; (intro wS hS; go_simp; try with_reducible rfl); simp only [Act.put, List.setIfInBounds_toArray, List.set_cons_zero, List.set_cons_succ]))
      refine mono_pure (v := .slice (some ⟨g, 0, none⟩) m ycap) (by rfl) rfl (fun w1 hG => by have cy : w1.cell? ⟨P, 2, none⟩ = some (.slice (some ⟨g, 0, none⟩) m ycap) := hG.2.2.bP.cell 2; go_simp; try with_reducible rfl) ?_
      simp only [Act.put, List.setIfInBounds_toArray, List.set_cons_zero, List.set_cons_succ]
      iterate 3 (first | (refine mono_skip (by rfl) ?_; simp only [Act.put, List.setIfInBounds_toArray, List.set_cons_zero, List.set_cons_succ]) | (refine mono_pure (v := ?_) (by rfl) rfl ?_ ?_; rotate_left; (intro wS hS; go_simp; try with_reducible rfl); simp only [Act.put, List.setIfInBounds_toArray, List.set_cons_zero, List.set_cons_succ]))
      refine mono_pure (v := .agg #[.int .i64 x4, .int .i64 x5, .slice ub bs.length uc]) (by rfl) rfl (fun w1 hG => by have c4 := hG.1.cell 4; have c5 := hG.1.cell 5; have c6 := hG.1.cell 6; go_simp; try with_reducible rfl) ?_
      simp only [Act.put, List.setIfInBounds_toArray, List.set_cons_zero, List.set_cons_succ]
      refine mono_pure (by rfl) rfl (fun w1 hG => run_exec_load_row 26 _ rfl N rfl 26 _ _ hG.2.2.l.l.bN Try.underlying26 rfl (by kernel_rfl)) ?_
      simp only [Act.put, List.setIfInBounds_toArray, List.set_cons_zero, List.set_cons_succ]
      refine mono_pure (by rfl) rfl (fun w1 hG => run_exec_load_row 70 _ rfl (N + 1) rfl 70 _ _ hG.2.2.l.bR Try.underlying70 rfl (by kernel_rfl)) ?_
      simp only [Act.put, List.setIfInBounds_toArray, List.set_cons_zero, List.set_cons_succ]
      (first | (refine mono_skip (by rfl) ?_; simp only [Act.put, List.setIfInBounds_toArray, List.set_cons_zero, List.set_cons_succ]) | (refine mono_pure (v := ?_) (by rfl) rfl ?_ ?_; rotate_left; (intro wS hS; go_simp; try with_reducible rfl); simp only [Act.put, List.setIfInBounds_toArray, List.set_cons_zero, List.set_cons_succ]))
      refine mono_fix (.agg #[.int .i64 (a * pV x k), .int .i64 (b * pH x k), .int .i64 (h * pV x k), .int .i64 (d * pH x k)]) (by rfl) rfl hGm (by intro w hG; go_simp; first | done | exact ⟨rfl, rfl⟩) (fun w1 hG hH => hblk w1 hG.2.2.l.l.img) ?_
      simp only [Act.put, List.setIfInBounds_toArray, List.set_cons_zero, List.set_cons_succ]
      refine mono_rel (shDo gc gr gl.length) (fDo gl) (by rfl) rfl hGm (by intro w hG; go_simp; first | done | exact heg _ _ | exact ⟨rfl, rfl⟩) ⟨_, none, 0, rfl⟩ (fun w1 hG hH => ?_) (fun v3 hv3 => ?_)
      · refine (hdo _ w1 hG.2.1).mono ?_
        rintro e w2 ⟨v, rfl, hRw, hb⟩
        obtain ⟨bv, cv, rfl⟩ := hRw.len
        exact ⟨_, rfl, ⟨bv, cv, rfl⟩, hb, _, ⟨_, _, _, rfl⟩, hRw, fun g e => (hRw.lt g e).2⟩
      obtain ⟨bv, cv, rfl⟩ := hv3
      simp only [Act.put, List.setIfInBounds_toArray, List.set_cons_zero, List.set_cons_succ]
      iterate 5 (first | (refine mono_skip (by rfl) ?_; simp only [Act.put, List.setIfInBounds_toArray, List.set_cons_zero, List.set_cons_succ]) | (refine mono_pure (v := ?_) (by rfl) rfl ?_ ?_; rotate_left; (intro wS hS; go_simp; try with_reducible rfl); simp only [Act.put, List.setIfInBounds_toArray, List.set_cons_zero, List.set_cons_succ]))
      refine mono_nil ?_
      rintro V5 ⟨bC, hA, hE⟩ ⟨hbs, I, hI1, -⟩
      obtain ⟨i1, i2, i3, uu, ⟨ux, uy, ue, hue⟩, hRr, hRl⟩ := hI1 10 _ (upd_self _ _ _)
      obtain rfl : uu = .slice bv gl.length cv := by simp at hue; exact hue.1.2.2.symm
      clear hue hI1 hGm hdo hblk
      have hput := hE.own.putP (g := g) (cap := ycap) (by simp only; rw [hcm]) hkc gc gr gl (.slice bv gl.length cv) hPO.wc hPO.wr hPO.h64 hPO.wb (hRr.down (Nat.le_trans hMW i1))
      have hCB : Below w.heap.size w V5 := hE.l.hB
      have hg0 : w.heap.size ≤ g := by have := HM0.out; omega
      have hap : ∀ {b' : Nat} {cs' : Array Value} {t : TypeId}, Blk V5 b' cs' t → t ≠ 63 → b' ≠ g := fun hb ht => hE.own.apart (g := g) (cap := ycap) (by simp only; rw [hcm]) hb ht
      have hE2 : EI N P M0 x ⟨yw, yh, .slice (some ⟨g, 0, none⟩) m ycap, .slice qb yqs.length qcap, .slice tb yts.length tcap, cs.set k (setP (cs[k]'hkc) gc gr (.slice bv gl.length cv) gl), yqs, yts⟩ a b h d w V0 (putW V5 g k gc gr (.slice bv gl.length cv)) := by
        refine ⟨⟨⟨hE.l.l.bN.putW (hap hE.l.l.bN (by decide)) _ _ _, ?_, hE.l.l.hM, ((hCB.setCell hg0 _).setCell hg0 _).setCell hg0 _⟩, hE.l.bR.putW (hap hE.l.bR (by decide)) _ _ _⟩, hE.bQ.putW (hap hE.bQ (by decide)) _ _ _, hE.bP.putW (hap hE.bP (by decide)) _ _ _, hput⟩
        exact HI.out.below (((hCB.setCell hg0 _).setCell hg0 _).setCell hg0 _)
      have HE2 := Lib.hid hE2
      have hkb : k * 7 + 7 ≤ cs.length * 7 := by omega
      have hrow := hE.own.row
      simp only at hrow
      rw [hcm] at hrow hkb
      obtain ⟨⟨a4, c4⟩, f4⟩ := hrow.spot (i := k * 7 + 4) (by omega)
      have hrow2 := hrow.set (k * 7 + 4) (by omega) (.int .i64 gc)
      obtain ⟨⟨a5, c5⟩, f5⟩ := hrow2.spot (i := k * 7 + 5) (by omega)
      have hrow3 := hrow2.set (k * 7 + 5) (by omega) (.int .i64 gr)
      obtain ⟨⟨a6, c6⟩, f6⟩ := hrow3.spot (i := k * 7 + 6) (by omega)
      clear hrow hrow2 hrow3 hput hap hE2 hE bC hA
      go_wp2
      refine onlyN_intro ?_
      go_wp2
      go_roundw
      case rel => exact ⟨k + 1, by omega, by go_num, _, hTs.out _, HE2.out⟩
      case measure => simp [intOf]; omega
    · obtain rfl : k = x.cs.length := by omega
      have tl : decide (x.cs.length < x.cs.length) = false := by simp
      have hall := hT.all
      have hfew : FewOk ⟨yw, yh, .slice yb m ycap, .slice qb yqs.length qcap, .slice tb yts.length tcap, cs, yqs, yts⟩ := by
        have := hT.few hf HG.out (.slice yb m ycap) (.slice qb yqs.length qcap) (.slice tb yts.length tcap) yw yh
        rw [← HQS.out, ← HTS.out] at this
        exact this
      have hnb := Nat.lt_trans (Nat.lt_succ_self (N + 1)) HM0.out
      have HALL := Lib.hid hall
      have HFEW := Lib.hid hfew
      clear hall hfew hT
      go_wp2_with (first | (refine wpList_load_row rfl 26 _ rfl P rfl 26 _ _ _ hE.bP Try.underlying26 rfl (by kernel_rfl) ?_) | (refine wpList_store_row rfl 26 _ _ rfl (N + 2) _ rfl rfl 26 _ hE.bQ (by kernel_rfl) rfl (by simp [Value.oneCell']) ?_))
      simp only [Act.put]
      refine bodyPost_ret (results_cell_row rfl _ _ (N + 2) 26 _ (0, 0) _ rfl (hE.bQ.row _) Try.underlying26 rfl (by kernel_rfl)) rfl ?_
      refine ⟨⟨yw, yh, .slice yb m ycap, .slice qb yqs.length qcap, .slice tb yts.length tcap, cs, yqs, yts⟩, rfl, ⟨HW.out, HH.out, HALL.out, HQS.out, HTS.out⟩, HFEW.out, ?_⟩
      have hfin := hE.own.setRow (N + 2) HM0.out #[.int .i64 yw, .int .i64 yh, .slice yb m ycap, .slice qb yqs.length qcap, .slice tb yts.length tcap] w (by omega) hE.l.hB
      exact hfin
end Go.Proofs.Ytgmhhocpdfdplaa
/- Rectangles of units, in plain words. -/
namespace Go.Proofs.Ytgmhhocpdfdplaa
open Go.RowKit
set_option maxRecDepth 100000
theorem upI_one {a b : Int} (ha : 1 ≤ a) (hb : 1 ≤ b) : 1 ≤ upI a b := by
  unfold upI
  exact (Int.le_ediv_iff_mul_le (by omega)).2 (by omega)
theorem upI_fit {a b z l : Int} (hb : 1 ≤ b) (h0 : z % b = 0) (hl : a + z ≤ l) : z / b + upI a b ≤ upI l b := by
  unfold upI
  have e1 : z = b * (z / b) := by have := Int.mul_ediv_add_emod z b; omega
  have e2 : (a + b - 1 + b * (z / b)) / b = (a + b - 1) / b + z / b := Int.add_mul_ediv_left _ _ (by omega)
  have e3 : (a + b - 1 + b * (z / b)) / b ≤ (l + b - 1) / b := Int.ediv_le_ediv (by omega) (by omega)
  omega
theorem upI_le {a b : Int} (ha : 0 ≤ a) (hb : 1 ≤ b) : upI a b ≤ a := (upI_in ha hb).2
theorem unE_zero {x : ImgArg} {X Y W H : Int} (h : unE x X Y W H = 0) : wiE x X Y W H = 0 ∧ X % uwI x = 0 ∧ Y % uhI x = 0 := by
  unfold unE at h
  split at h
  · rename_i h0
    split at h
    · rename_i h1
      exact ⟨h0, h1⟩
    · cases h
  · rename_i h0
    exact absurd h h0
structure UnOk (x : ImgArg) (X Y W H : Int) : Prop where
  R : RightI x
  a0 : 0 ≤ unA x Y
  b0 : 0 ≤ unB x X
  h1 : 1 ≤ upI H (uhI x)
  d1 : 1 ≤ upI W (uwI x)
  ah : unA x Y + upI H (uhI x) ≤ dnI x
  bd : unB x X + upI W (uwI x) ≤ acI x
theorem un_ok {x : ImgArg} {X Y W H : Int} (h : unE x X Y W H = 0) : UnOk x X Y W H := by
  obtain ⟨h0, h1, h2⟩ := unE_zero h
  obtain ⟨hi, ⟨x1, x2, x3, x4⟩, y1, y2, y3, y4⟩ := wiE_zero h0
  have hR := right_of_imgE hi
  obtain ⟨hw, hh, hu, hv, ha, hd⟩ := hR.nums
  exact ⟨hR, Int.ediv_nonneg y1 (by omega), Int.ediv_nonneg x1 (by omega), upI_one y2 (by omega), upI_one x2 (by omega), upI_fit (by omega) h2 (by omega), upI_fit (by omega) h1 (by omega)⟩
/-- A component's blocks, as natural numbers. -/
structure CutN (x : ImgArg) (i : Nat) (hi : i < x.cs.length) (X Y W H : Int) (c r a b h d : Nat) : Prop where
  ec : (x.cs[i]'hi).c = c
  er : (x.cs[i]'hi).r = r
  ea : unA x Y * pV x i = a
  eb : unB x X * pH x i = b
  eh : upI H (uhI x) * pV x i = h
  ed : upI W (uwI x) * pH x i = d
  n : (x.cs[i]'hi).bs.length = c * r
  rt : Pl.right c r (x.cs[i]'hi).bs.length = true
  ah : a + h ≤ r
  bd : b + d ≤ c
  d1 : 1 ≤ d
  h1 : 1 ≤ h
  cr : c * r ≤ 16384
  c1 : c ≤ 16384
  r1 : r ≤ 16384
theorem UnOk.nats {x : ImgArg} {X Y W H : Int} (q : UnOk x X Y W H) {i : Nat} (hi : i < x.cs.length) : ∃ c r a b h d : Nat, CutN x i hi X Y W H c r a b h d := by
  obtain ⟨hr, hc1, hr1⟩ := q.R.plane hi
  obtain ⟨p1, p2, p3, p4⟩ := q.R.part hi
  obtain ⟨k1, k2, k3, k4, k5, k6⟩ := Pl.right_nat hr
  have a0 := q.a0; have b0 := q.b0; have h1 := q.h1; have d1 := q.d1; have ah := q.ah; have bd := q.bd
  generalize gA : unA x Y = A at *
  generalize gB : unB x X = B at *
  generalize gH : upI H (uhI x) = HH at *
  generalize gD : upI W (uwI x) = D at *
  generalize gp : pH x i = p at *
  generalize gv : pV x i = v at *
  generalize acI x = ac at *
  generalize dnI x = dn at *
  generalize hc : (x.cs[i]'hi).c = c at *
  generalize hrr : (x.cs[i]'hi).r = r at *
  have e1 : 0 ≤ A * v := Int.mul_nonneg a0 (by omega)
  have e2 : 0 ≤ B * p := Int.mul_nonneg b0 (by omega)
  have e3 : 1 * 1 ≤ HH * v := Int.mul_le_mul h1 p3 (by omega) (by omega)
  have e4 : 1 * 1 ≤ D * p := Int.mul_le_mul d1 p1 (by omega) (by omega)
  have e5 : (A + HH) * v ≤ dn * v := Int.mul_le_mul_of_nonneg_right ah (by omega)
  have e6 : (B + D) * p ≤ ac * p := Int.mul_le_mul_of_nonneg_right bd (by omega)
  rw [Int.add_mul] at e5 e6
  obtain ⟨cn, rfl⟩ : ∃ k : Nat, c = k := ⟨c.toNat, by omega⟩
  obtain ⟨rn, rfl⟩ : ∃ k : Nat, r = k := ⟨r.toNat, by omega⟩
  have hn : (x.cs[i]'hi).bs.length = cn * rn := by exact_mod_cast k5
  refine ⟨cn, rn, (A * v).toNat, (B * p).toNat, (HH * v).toNat, (D * p).toNat, ⟨?_, ?_, by rw [gA, gv]; omega, by rw [gB, gp]; omega, by rw [gH, gv]; omega, by rw [gD, gp]; omega, hn, hr, by omega, by omega, by omega, by omega, ?_, by omega, by omega⟩⟩
  · exact hc
  · exact hrr
  · have : ((cn * rn : Nat) : Int) ≤ 16384 := by rw [Int.natCast_mul]; omega
    exact Int.ofNat_le.1 this
end Go.Proofs.Ytgmhhocpdfdplaa
/- Package cut: what is done to planes: windows, and noughts. -/
namespace Go.Proofs.Ytgmhhocpdfdplaa
open Go.RowKit
set_option maxRecDepth 100000
set_option maxHeartbeats 4000000
def zero64 : List Int := List.replicate 64 0
def cropG (x : ImgArg) (X Y W H : Int) (i : Nat) : PlaneV :=
  ⟨upI W (uwI x) * pH x i, upI H (uhI x) * pV x i, Pl.win (x.cs.getD i noComp).bs (x.cs.getD i noComp).c.toNat (unA x Y * pV x i).toNat (unB x X * pH x i).toNat (upI W (uwI x) * pH x i).toNat (upI H (uhI x) * pV x i).toNat⟩
def redG (x : ImgArg) (X Y W H : Int) (i : Nat) : PlaneV :=
  ⟨(x.cs.getD i noComp).c, (x.cs.getD i noComp).r, Pl.pnt (x.cs.getD i noComp).bs (Pl.insI (unA x Y * pV x i).toNat (unB x X * pH x i).toNat (upI H (uhI x) * pV x i).toNat (upI W (uwI x) * pH x i).toNat (x.cs.getD i noComp).c.toNat) zero64 (x.cs.getD i noComp).bs.length⟩
theorem win_mem {bs : List (List Int)} {c a b d k : Nat} {y : List Int} (h : y ∈ Pl.win bs c a b d k) : y ∈ bs := by
  simp only [Pl.win, List.mem_flatMap] at h
  obtain ⟨i, _, hx⟩ := h
  exact List.mem_of_mem_drop (List.mem_of_mem_take hx)
theorem wf_small {z : Int} (h0 : 0 ≤ z) (h1 : z ≤ 20000) : (Lit.int .i64 z).wf = true := wf64 z (by omega) (by omega)
theorem cropG_ok {x : ImgArg} {X Y W H : Int} (q : UnOk x X Y W H) (hx : ∀ c ∈ x.cs, Right64 c.bs ∧ ∀ b ∈ c.bs, ∀ y ∈ b, (Lit.int .i16 y).wf = true) (i : Nat) (hi : i < x.cs.length) : PlOk (cropG x X Y W H i) := by
  obtain ⟨c, r, a, b, h, d, n⟩ := q.nats hi
  obtain ⟨h64, hwb⟩ := hx _ (List.getElem_mem hi)
  unfold cropG
  rw [comp_getD hi, n.ec, n.ea, n.eb, n.eh, n.ed]
  simp only [Int.toNat_natCast]
  have hd : d ≤ c := by have := n.bd; omega
  have hh : h ≤ r := by have := n.ah; omega
  have hl := Pl.win_len (c := c) (r := r) (a := a) (b := b) (h := h) (d := d) n.n n.ah n.bd h (Nat.le_refl _)
  refine ⟨wf_small (by show (0 : Int) ≤ (d : Int); omega) (by have := n.c1; show (d : Int) ≤ _; omega), wf_small (by show (0 : Int) ≤ (h : Int); omega) (by have := n.r1; show (h : Int) ≤ _; omega), Pl.win_right h64 _ _ _ _ _, fun y hy => hwb y (win_mem hy), ?_⟩
  show (Pl.win _ c a b d h).length ≤ 20000
  rw [hl]
  have h1 : h * d ≤ r * c := Nat.mul_le_mul hh hd
  have h2 : r * c = c * r := Nat.mul_comm _ _
  have h3 := n.cr
  omega
theorem redG_ok {x : ImgArg} {X Y W H : Int} (q : UnOk x X Y W H) (hx : ∀ c ∈ x.cs, Right64 c.bs ∧ ∀ b ∈ c.bs, ∀ y ∈ b, (Lit.int .i16 y).wf = true) (i : Nat) (hi : i < x.cs.length) : PlOk (redG x X Y W H i) := by
  obtain ⟨c, r, a, b, h, d, n⟩ := q.nats hi
  obtain ⟨h64, hwb⟩ := hx _ (List.getElem_mem hi)
  unfold redG
  rw [comp_getD hi, n.ec, n.er, n.ea, n.eb, n.eh, n.ed]
  simp only [Int.toNat_natCast]
  refine ⟨wf_small (by show (0 : Int) ≤ (c : Int); omega) (by have := n.c1; show (c : Int) ≤ _; omega), wf_small (by show (0 : Int) ≤ (r : Int); omega) (by have := n.r1; show (r : Int) ≤ _; omega), Pl.pnt_right h64 _ (by simp [zero64]) _, fun y hy z hz => ?_, ?_⟩
  · simp only [Pl.pnt, List.mem_map, List.mem_range] at hy
    obtain ⟨j, hj, rfl⟩ := hy
    split at hz
    · rw [List.eq_of_mem_replicate hz]; decide
    · refine hwb _ ?_ z hz
      rw [← Pl.blk_eq hj]
      exact List.getElem_mem hj
  · show (Pl.pnt _ _ _ _).length ≤ 20000
    rw [Pl.pnt_len, n.n]
    have h3 := n.cr
    omega
theorem crop_do {x : ImgArg} {X Y W H : Int} (q : UnOk x X Y W H) (hx : ∀ c ∈ x.cs, Right64 c.bs) (i : Nat) (hi : i < x.cs.length) (u : Value) (V : World) (hA : Ar V 64 u (x.cs[i]'hi).bs.length (bcells (x.cs[i]'hi).bs)) :
    Calls Try.prog 88 #[.agg #[.int .i64 (x.cs[i]'hi).c, .int .i64 (x.cs[i]'hi).r, u], .agg #[.int .i64 (unA x Y * pV x i), .int .i64 (unB x X * pH x i), .int .i64 (upI H (uhI x) * pV x i), .int .i64 (upI W (uwI x) * pH x i)]] V
      fun e w' => ∃ v, e = .returned (.tuple #[.agg #[.int .i64 (cropG x X Y W H i).c, .int .i64 (cropG x X Y W H i).r, v], .int .i64 0]) ∧ Row w' V.heap.size 57 64 v (cropG x X Y W H i).l.length (bcells (cropG x X Y W H i).l) ∧ Below V.heap.size V w' := by
  obtain ⟨c, r, a, b, h, d, n⟩ := q.nats hi
  have h64 := hx _ (List.getElem_mem hi)
  unfold cropG
  rw [comp_getD hi, n.ec, n.er, n.ea, n.eb, n.eh, n.ed]
  simp only [Int.toNat_natCast]
  have hl := Pl.win_len (c := c) (r := r) (a := a) (b := b) (h := h) (d := d) n.n n.ah n.bd h (Nat.le_refl _)
  rw [hl]
  exact plane_window c r a b h d u _ h64 n.n n.rt n.ah n.bd n.d1 n.h1 V hA
theorem red_do1 (c r a b h d : Nat) (u : Value) (bs : List (List Int)) (h64 : Right64 bs) (hn : bs.length = c * r) (hr : Pl.right c r bs.length = true) (h1 : a + h ≤ r) (h2 : b + d ≤ c) (hd : 1 ≤ d) (hh : 1 ≤ h) (w : World) (hA : Ar w 64 u bs.length (bcells bs)) :
    Calls Try.prog 90 #[.agg #[.int .i64 c, .int .i64 r, u], .agg #[.int .i64 a, .int .i64 b, .int .i64 h, .int .i64 d]] w
      fun e w' => ∃ v, e = .returned (.tuple #[.agg #[.int .i64 c, .int .i64 r, v], .int .i64 0]) ∧ Row w' w.heap.size 57 64 v bs.length (bcells (Pl.pnt bs (Pl.insI a b h d c) zero64 bs.length)) ∧ Below w.heap.size w w' := by
  obtain ⟨bu, cap, rfl, -, -⟩ := hA.len
  obtain ⟨N, hN⟩ : ∃ N, N = w.heap.size := ⟨_, rfl⟩
  have HN := Lib.hid hN
  rw [← hN]
  have hpn := fun W hA => plane_paint c r a b h d (.slice bu bs.length cap) bs zero64 h64 (by simp [zero64]) hn hr h1 h2 hd hh W hA
  have HPN := Lib.hid hpn
  have hbe : Below w.heap.size w (((w.alloc (.cells #[.int .i64 c, .int .i64 r, .slice bu bs.length cap] 61)).alloc (.cells #[.int .i64 a, .int .i64 b, .int .i64 h, .int .i64 d] 70)).alloc (.cells #[.int .i64 0, .int .i64 0, .slice none 0 0] 61)) := (((Below.refl _ _).alloc (Nat.le_refl _) _).alloc (by simp) _).alloc (by simp; omega) _
  obtain ⟨n, hbn⟩ : ∃ n, bs.length = n := ⟨_, rfl⟩
  have HBN := Lib.hid hbn
  rw [hbn] at hA ⊢
  clear hpn hN hn hr hbn
  go_enter Try.func90, Try.ntmps90
  go_upto_region 1 with fail
  rw [← HN.out]
  refine wp_world (fun V => (Blk V N #[.int .i64 c, .int .i64 r, .slice bu n cap] 61 ∧ Blk V (N + 1) #[.int .i64 a, .int .i64 b, .int .i64 h, .int .i64 d] 70 ∧ Blk V (N + 2) #[.int .i64 0, .int .i64 0, .slice none 0 0] 61) ∧ Ar V 64 (.slice bu n cap) n (bcells bs) ∧ Below N w V)
    ⟨⟨((Blk.new' _ _ _ HN.out).alloc _).alloc _, (Blk.new' _ _ _ (by simp [HN.out])).alloc _, Blk.new' _ _ _ (by simp [HN.out])⟩, ?_, ?_⟩ ?_
  · rw [HBN.out] at hbe; exact hA.below hbe
  · rw [HN.out]; rw [HBN.out] at hbe; exact hbe
  clear hbe hA
  rintro V ⟨⟨b0, b1, b2⟩, hA, hB⟩
  have hpn := HPN.out V (by rw [HBN.out]; exact hA)
  rw [HBN.out] at hpn
  have hNl := b0.lt
  unfold zero64 at hpn
  go_wp2_with (first
    | (refine wpList_load_row rfl 61 _ rfl N rfl 61 _ _ _ b0 Try.underlying61 rfl (by kernel_rfl) ?_)
    | (refine wpList_load_row rfl 70 _ rfl (N + 1) rfl 70 _ _ _ b1 Try.underlying70 rfl (by kernel_rfl) ?_)
    | (refine Great.wpList_runTo rfl _ rfl _ _ (run_exec_build 57 _ rfl (ints .i16 (List.replicate 64 0)) (by kernel_rfl)) ?_; simp only [Act.put, List.setIfInBounds_toArray, List.set_cons_zero, List.set_cons_succ])
    | (go_at_call 91; refine hpn.mono ?_; rintro e w1 ⟨v, L, rfl, hp, hRw, hb1⟩; obtain ⟨bv, cv, rfl⟩ := hRw.len; have b3 := b2.below hb1 b2.lt)
    | (refine wpList_store_row rfl 61 _ _ rfl (N + 2) _ rfl rfl 61 _ b3 (by kernel_rfl) rfl (by simp [Value.oneCell']) ?_))
  refine bodyPost_ret (results_row_tmp rfl _ _ (N + 2) 61 _ _ rfl (b3.row _) Try.underlying61 rfl (by kernel_rfl)) rfl ?_
  have hL := hp.eq (Pl.insI a b h d c) (Pl.insI_iff a b h d c)
  rw [HBN.out] at hL
  subst hL
  have hB2 := hB.trans (hb1.mono (Nat.le_of_lt hNl))
  exact ⟨_, rfl, (hRw.down (Nat.le_of_lt hNl)).same fun g e => setRow_other _ _ _ _ (hRw.typed b3 (by decide) g e), Below.setRow hB2 (by omega) _⟩
theorem red_do {x : ImgArg} {X Y W H : Int} (q : UnOk x X Y W H) (hx : ∀ c ∈ x.cs, Right64 c.bs) (i : Nat) (hi : i < x.cs.length) (u : Value) (V : World) (hA : Ar V 64 u (x.cs[i]'hi).bs.length (bcells (x.cs[i]'hi).bs)) :
    Calls Try.prog 90 #[.agg #[.int .i64 (x.cs[i]'hi).c, .int .i64 (x.cs[i]'hi).r, u], .agg #[.int .i64 (unA x Y * pV x i), .int .i64 (unB x X * pH x i), .int .i64 (upI H (uhI x) * pV x i), .int .i64 (upI W (uwI x) * pH x i)]] V
      fun e w' => ∃ v, e = .returned (.tuple #[.agg #[.int .i64 (redG x X Y W H i).c, .int .i64 (redG x X Y W H i).r, v], .int .i64 0]) ∧ Row w' V.heap.size 57 64 v (redG x X Y W H i).l.length (bcells (redG x X Y W H i).l) ∧ Below V.heap.size V w' := by
  obtain ⟨c, r, a, b, h, d, n⟩ := q.nats hi
  have h64 := hx _ (List.getElem_mem hi)
  unfold redG
  rw [comp_getD hi, n.ec, n.er, n.ea, n.eb, n.eh, n.ed]
  simp only [Int.toNat_natCast]
  rw [Pl.pnt_len]
  exact red_do1 c r a b h d u _ h64 n.n n.rt n.ah n.bd n.d1 n.h1 V hA
end Go.Proofs.Ytgmhhocpdfdplaa
/- Package cut: Crop, Redact. -/
namespace Go.Proofs.Ytgmhhocpdfdplaa
open Go.RowKit
set_option maxRecDepth 100000
set_option maxHeartbeats 8000000
def zeroI : ImgArg := ⟨0, 0, .slice none 0 0, .slice none 0 0, .slice none 0 0, [], [], []⟩
/-- An image and an error, as a function yields them: the image is D, but for its slices. -/
structure ImgRes (D : ImgArg) (e : Int) (r : Ending) (w' : World) (x1 : ImgArg) : Prop where
  r : r = .returned (.tuple #[x1.val, .int .i64 e])
  d : SameD D x1
  own : OwnT x1 w'
  few : FewOk x1
  ww : (Lit.int .i64 x1.w).wf = true
  wh : (Lit.int .i64 x1.h).wf = true
theorem ImgRes.img {D : ImgArg} {e : Int} {r : Ending} {w' : World} {x1 : ImgArg} (h : ImgRes D e r w' x1) : IsImg w' x1.val x1 := h.own.img h.few h.ww h.wh
theorem zeroI_img (w : World) : IsImg w zeroI.val zeroI :=
  ⟨rfl, by decide, by decide, ⟨Ar.elems (Ar.nil w 7) (by intro c hc; simp [zeroI] at hc) rfl (by simp), by intro c hc; simp [zeroI] at hc⟩, ⟨Ar.elems (Ar.nil w 65) (by intro c hc; simp [zeroI] at hc) rfl (by simp), by intro c hc; simp [zeroI] at hc⟩, ⟨Ar.elems (Ar.nil w 2) (by intro c hc; simp [zeroI] at hc) rfl (by simp), by intro c hc; simp [zeroI] at hc⟩⟩
theorem zeroI_own (w : World) : OwnT zeroI w := ⟨Row.nil _ _ _ _, fun c hc => by simp [zeroI] at hc, Row.nil _ _ _ _, Row.nil _ _ _ _, fun q hq => by simp [zeroI] at hq, fun q hq => by simp [zeroI] at hq⟩
theorem zeroI_few : FewOk zeroI := ⟨by simp [zeroI], by simp [zeroI], by simp [zeroI], by simp [zeroI], by simp [zeroI]⟩
theorem SameD.refl (x : ImgArg) : SameD x x := ⟨rfl, rfl, rfl, rfl, rfl⟩
/-- What Crop yields. -/
def cropD (x : ImgArg) (X Y W H : Int) : ImgArg := if unE x X Y W H = 0 then { putAll x (cropG x X Y W H) with w := W, h := H } else zeroI
theorem IsImg.planes {w : World} {v : Value} {x : ImgArg} (h : IsImg w v x) : ∀ c ∈ x.cs, Right64 c.bs ∧ ∀ b ∈ c.bs, ∀ y ∈ b, (Lit.int .i16 y).wf = true := fun c hc => ⟨(h.cs.ok c hc).h64, (h.cs.ok c hc).wb⟩
/-- The boxes: the image, the rectangle, the result. -/
structure CI (N : Nat) (x : ImgArg) (X Y W H : Int) (w V : World) : Prop where
  l : LR N x X Y W H 73 w V
  bQ : Blk V (N + 2) #[.int .i64 0, .int .i64 0, .slice none 0 0, .slice none 0 0, .slice none 0 0] 26
theorem CI.below {N : Nat} {x : ImgArg} {X Y W H : Int} {w V V' : World} (q : CI N x X Y W H w V) (hb : Below V.heap.size V V') : CI N x X Y W H w V' := ⟨q.l.below hb, q.bQ.below hb q.bQ.lt⟩
theorem unit_ok {x : ImgArg} {X Y W H : Int} (h : unE x X Y W H = 0) : (0 ≤ unA x Y ∧ unA x Y ≤ 20000) ∧ (0 ≤ unB x X ∧ unB x X ≤ 20000) ∧ (0 ≤ upI H (uhI x) ∧ upI H (uhI x) ≤ 20000) ∧ 0 ≤ upI W (uwI x) ∧ upI W (uwI x) ≤ 20000 := by
  have q := un_ok h
  have h1 := q.R.ok.ac
  have h2 := q.R.ok.dn
  have a0 := q.a0; have b0 := q.b0; have c1 := q.h1; have d1 := q.d1; have ah := q.ah; have bd := q.bd
  have e1 : acI x = acN x.w (qsP x) := rfl
  have e2 : dnI x = dnN x.h (qsP x) := rfl
  omega
structure CropQ (N P : Nat) (x : ImgArg) (X Y W H : Int) (w V1 : World) (y : ImgArg) (V : World) : Prop where
  c : CI N x X Y W H w V
  o : OwnL V1.heap.size y V1 V
  p : Blk V P #[.int .i64 y.w, .int .i64 y.h, y.cu, y.qu, y.tu] 26
theorem CropQ.below {N P : Nat} {x : ImgArg} {X Y W H : Int} {w V1 : World} {y : ImgArg} {V V' : World} (q : CropQ N P x X Y W H w V1 y V) (hb : Below V.heap.size V V') : CropQ N P x X Y W H w V1 y V' := ⟨q.c.below hb, q.o.below hb, q.p.below hb q.p.lt⟩
theorem cut_crop (x : ImgArg) (hf : FewOk x) (X Y W H : Int) (hW : (Lit.int .i64 W).wf = true) (hH : (Lit.int .i64 H).wf = true) (w : World) (hI : IsImg w x.val x) :
    Calls Try.prog 39 #[x.val, .agg #[.int .i64 X, .int .i64 Y, .int .i64 W, .int .i64 H]] w fun r w' => (∃ x1, ImgRes (cropD x X Y W H) (unE x X Y W H) r w' x1) ∧ Below w.heap.size w w' := by
  have hpl := hI.planes
  have hL := LR.begin hI X Y W H 73
  obtain ⟨N, hN⟩ : ∃ N, N = w.heap.size := ⟨_, rfl⟩
  rw [← hN] at hL
  have HN := Lib.hid hN
  have hun := fun V h => cut_units x hf X Y W H V h
  have HEA := Lib.hid (fun (h0 : unE x X Y W H = 0) V hI => cut_each x hf (un_ok h0).R (unA x Y) (unB x X) (upI H (uhI x)) (upI W (uwI x)) (unit_ok h0).1 (unit_ok h0).2.1 (unit_ok h0).2.2.1 (unit_ok h0).2.2.2 88 (enters_of Try.func88 (by kernel_rfl) rfl) (cropG x X Y W H) (cropG_ok (un_ok h0) hpl) (fun i hi u W hA => crop_do (un_ok h0) (fun c hc => (hpl c hc).1) i hi u W hA) V hI)
  have hvs := fun (h0 : unE x X Y W H = 0) => (show unV x X Y W H = #[.int .i64 (unA x Y), .int .i64 (unB x X), .int .i64 (upI H (uhI x)), .int .i64 (upI W (uwI x))] from if_pos h0)
  have hvz := fun (h0 : unE x X Y W H ≠ 0) => (show unV x X Y W H = #[.int .i64 0, .int .i64 0, .int .i64 0, .int .i64 0] from if_neg h0)
  have hD1 := fun (h0 : unE x X Y W H = 0) => (show cropD x X Y W H = { putAll x (cropG x X Y W H) with w := W, h := H } from if_pos h0)
  have hD2 := fun (h0 : unE x X Y W H ≠ 0) => (show cropD x X Y W H = zeroI from if_neg h0)
  obtain ⟨D, hD⟩ : ∃ D, cropD x X Y W H = D := ⟨_, rfl⟩
  rw [hD] at hD1 hD2 ⊢
  obtain ⟨E, hE⟩ : ∃ E, unE x X Y W H = E := ⟨_, rfl⟩
  rw [hE] at hD1 hD2 hvs hvz hun HEA ⊢
  unfold ImgArg.val at hun HEA
  have HD1 := Lib.hid hD1; have HD2 := Lib.hid hD2; have HV1 := Lib.hid hvs; have HV2 := Lib.hid hvz
  clear hN hI hD hE hD1 hD2 hvs hvz
  go_enter Try.func39, Try.ntmps39
  go_upto_region 1 with fail
  refine wp_world (CI N x X Y W H w) ⟨hL.below ((Below.refl _ _).alloc (Nat.le_refl _) _), Blk.new' _ _ _ (by rw [HN.out]; simp)⟩ ?_
  rw [← HN.out]
  clear hL
  intro V hL
  have hNN := hL.l.l.hM
  by_cases h0 : E = 0
  · subst h0
    have hea := HEA.out rfl
    rw [HV1.out rfl] at hun
    have HD := Lib.hid (HD1.out rfl)
    clear HD1 HD2 HV1 HV2
    generalize unA x Y = a at *
    generalize unB x X = b at *
    generalize upI H (uhI x) = hh at *
    generalize upI W (uwI x) = dd at *
    clear HEA
    go_upto_region 4 with (first
      | (refine wpList_load_row rfl 26 _ rfl N rfl 26 _ _ _ hL.l.l.bN Try.underlying26 rfl (by kernel_rfl) ?_)
      | (refine wpList_load_row rfl 73 _ rfl (N + 1) rfl 73 _ _ _ hL.l.bR Try.underlying73 rfl (by kernel_rfl) ?_)
      | (go_at_call 85; refine (hun _ hL.l.l.img).mono ?_; rintro r w3 ⟨rfl, hb3⟩; replace hL := hL.below hb3; obtain ⟨M, hM⟩ : ∃ M, M = w3.heap.size := ⟨_, rfl⟩; have HM := Lib.hid hM; clear hM)
      | (refine wpList_store_row rfl 70 _ _ rfl M _ (by rw [HM.out]; rfl) rfl 70 _ (Blk.new' _ _ _ HM.out) (by kernel_rfl) rfl (by simp [Value.oneCell']) ?_; simp only [Act.put]))
    have hbe : Below w3.heap.size w3 ((w3.alloc (.cells #[.int .i64 0, .int .i64 0, .int .i64 0, .int .i64 0] 70)).setRow M #[.int .i64 a, .int .i64 b, .int .i64 hh, .int .i64 dd]) := Below.setRow ((Below.refl _ _).alloc (Nat.le_refl _) _) (Nat.le_of_eq HM.out.symm) _
    try rw [← HM.out]
    refine wp_world (fun V => CI N x X Y W H w V ∧ Blk V M #[.int .i64 a, .int .i64 b, .int .i64 hh, .int .i64 dd] 70) ⟨hL.below hbe, (Blk.new' _ _ _ HM.out).row _⟩ ?_
    clear hbe hL hun HM hb3
    rintro V1 ⟨hL, bM⟩
    go_upto_region 5 with (first
      | (refine wpList_load_row rfl 26 _ rfl N rfl 26 _ _ _ hL.l.l.bN Try.underlying26 rfl (by kernel_rfl) ?_)
      | (refine wpList_load_row rfl 70 _ rfl M rfl 70 _ _ _ bM Try.underlying70 rfl (by kernel_rfl) ?_)
      | (go_at_call 87; refine (hea _ hL.l.l.img).mono ?_; rintro r w4 ⟨⟨yw, yh, ycu, yqu, ytu, ycs, yqs, yts⟩, rfl, hSD, hfy, hOy⟩; have hb4 := hOy.hB; obtain ⟨yb, ycap, rfl⟩ : ∃ b c, ycu = .slice b ycs.length c := hOy.row.len; obtain ⟨qb, qcap, rfl⟩ : ∃ b c, yqu = .slice b yqs.length c := hOy.q.len; obtain ⟨tb, tcap, rfl⟩ : ∃ b c, ytu = .slice b yts.length c := hOy.t.len; obtain ⟨P, hP⟩ : ∃ P, P = w4.heap.size := ⟨_, rfl⟩; have HP := Lib.hid hP; clear hP)
      | (refine wpList_store_row rfl 26 _ _ rfl P _ (by rw [HP.out]; rfl) rfl 26 _ (Blk.new' _ _ _ HP.out) (by kernel_rfl) rfl (by simp [Value.oneCell']) ?_; simp only [Act.put]))
    have hbe : Below w4.heap.size w4 ((w4.alloc (.cells #[.int .i64 0, .int .i64 0, .slice none 0 0, .slice none 0 0, .slice none 0 0] 26)).setRow P #[.int .i64 yw, .int .i64 yh, .slice yb ycs.length ycap, .slice qb yqs.length qcap, .slice tb yts.length tcap]) := Below.setRow ((Below.refl _ _).alloc (Nat.le_refl _) _) (Nat.le_of_eq HP.out.symm) _
    have hNP : N + 2 < P := by rw [HP.out]; exact Nat.lt_of_lt_of_le hL.bQ.lt hOy.hW
    try rw [← HP.out]
    refine wp_world (fun V => (CI N x X Y W H w V ∧ OwnL V1.heap.size ⟨yw, yh, .slice yb ycs.length ycap, .slice qb yqs.length qcap, .slice tb yts.length tcap, ycs, yqs, yts⟩ V1 V) ∧ Blk V P #[.int .i64 yw, .int .i64 yh, .slice yb ycs.length ycap, .slice qb yqs.length qcap, .slice tb yts.length tcap] 26) ⟨⟨(hL.below hb4).below hbe, hOy.below hbe⟩, (Blk.new' _ _ _ HP.out).row _⟩ ?_
    have HSD := Lib.hid hSD
    have HFY := Lib.hid hfy
    have hM1 := hL.bQ.lt
    clear hbe hL hea HP hb4 hOy bM hSD hfy
    rintro V2 ⟨hL, bP⟩
    go_cut [] from 22 to 28 (fun wx => ∃ V3, wx = (V3.setCell ⟨P, 0, none⟩ (.int .i64 W)).setCell ⟨P, 1, none⟩ (.int .i64 H) ∧ CropQ N P x X Y W H w V1 ⟨yw, yh, .slice yb ycs.length ycap, .slice qb yqs.length qcap, .slice tb yts.length tcap, ycs, yqs, yts⟩ V3)
    case first =>
      have r2 := hL.1.l.bR.cell 2
      have r3 := hL.1.l.bR.cell 3
      have p0 := bP.cell 0
      have f0 := bP.free 0
      have p1 := bP.cell 1
      have f1 := bP.free 1
      have n1 : N + 1 ≠ P := by omega
      have n2 : P ≠ N + 1 := by omega
      have HQ := Lib.hid (show CropQ N P x X Y W H w V1 ⟨yw, yh, .slice yb ycs.length ycap, .slice qb yqs.length qcap, .slice tb yts.length tcap, ycs, yqs, yts⟩ V2 from ⟨hL.1, hL.2, bP⟩)
      clear hL bP
      go_region
      all_goals go_wp2_with fail
      all_goals go_meet
      exact ⟨V2.drew, rfl, HQ.out.below (Below.refl _ _).drew⟩
    obtain ⟨V3, rfl, hL, hOy, bP⟩ := hcut
    have bP2 : Blk ((V3.setCell ⟨P, 0, none⟩ (.int .i64 W)).setCell ⟨P, 1, none⟩ (.int .i64 H)) P #[.int .i64 W, .int .i64 H, .slice yb ycs.length ycap, .slice qb yqs.length qcap, .slice tb yts.length tcap] 26 := (bP.set 0 _).set 1 _
    have bQ2 := (hL.bQ.other ⟨P, 0, none⟩ (.int .i64 W) (by show N + 2 ≠ P; omega)).other ⟨P, 1, none⟩ (.int .i64 H) (by show N + 2 ≠ P; omega)
    have hBB : Below w.heap.size w ((V3.setCell ⟨P, 0, none⟩ (.int .i64 W)).setCell ⟨P, 1, none⟩ (.int .i64 H)) := (hL.l.hB.setCell (p := ⟨P, 0, none⟩) (by show _ ≤ P; omega) _).setCell (p := ⟨P, 1, none⟩) (by show _ ≤ P; omega) _
    have hfin : OwnL w.heap.size ⟨yw, yh, .slice yb ycs.length ycap, .slice qb yqs.length qcap, .slice tb yts.length tcap, ycs, yqs, yts⟩ w (((V3.setCell ⟨P, 0, none⟩ (.int .i64 W)).setCell ⟨P, 1, none⟩ (.int .i64 H)).setRow (N + 2) #[.int .i64 W, .int .i64 H, .slice yb ycs.length ycap, .slice qb yqs.length qcap, .slice tb yts.length tcap]) := by
      refine hOy.at' _ (fun g cs t hg ht hl => ?_) w _ rfl (by omega) (Below.setRow hBB (by omega) _) (by simpa using hBB.size)
      have hgP : g ≠ P := by
        rintro rfl
        have := hg.symm.trans bP
        simp at this
        rcases ht with rfl | rfl | rfl | rfl <;> exact absurd this.2 (by decide)
      rw [setRow_other _ _ _ _ (by omega : g ≠ N + 2), heap_setCell_other _ _ _ _ hgP, heap_setCell_other _ _ _ _ hgP]
    have HFIN := Lib.hid hfin; have HBB := Lib.hid hBB
    clear hfin hBB hOy hL bP
    go_wp2_with (first
      | (refine wpList_load_row rfl 26 _ rfl P rfl 26 _ _ _ bP2 Try.underlying26 rfl (by kernel_rfl) ?_)
      | (refine wpList_store_row rfl 26 _ _ rfl (N + 2) _ rfl rfl 26 _ bQ2 (by kernel_rfl) rfl (by simp [Value.oneCell']) ?_))
    refine bodyPost_ret (results_row_tmp rfl _ _ (N + 2) 26 _ _ rfl (bQ2.row _) Try.underlying26 rfl (by kernel_rfl)) rfl ?_
    have hfe : FewOk ⟨W, H, .slice yb ycs.length ycap, .slice qb yqs.length qcap, .slice tb yts.length tcap, ycs, yqs, yts⟩ := ⟨HFY.out.c20, HFY.out.q20, HFY.out.t100, HFY.out.b300, HFY.out.t140⟩
    have hO3 := HFIN.out
    have hsd := HSD.out
    refine ⟨⟨⟨W, H, .slice yb ycs.length ycap, .slice qb yqs.length qcap, .slice tb yts.length tcap, ycs, yqs, yts⟩, ⟨rfl, ?_, ?_, hfe, hW, hH⟩⟩, Below.setRow HBB.out (by omega) _⟩
    · rw [HD.out]
      exact ⟨rfl, rfl, hsd.cs, hsd.qs, hsd.ts⟩
    · exact (show OwnL w.heap.size ⟨W, H, .slice yb ycs.length ycap, .slice qb yqs.length qcap, .slice tb yts.length tcap, ycs, yqs, yts⟩ w _ from ⟨hO3.row, hO3.pl, hO3.q, hO3.t, hO3.qok, hO3.tok, hO3.hN, hO3.hB, hO3.hW⟩).ownT
  · obtain rfl : D = zeroI := HD2.out h0
    rw [HV2.out h0] at hun
    have t0 : (E != 0) = true := by simpa using h0
    clear HEA HD1 HD2 HV1 HV2 h0
    go_wp2_with (first
      | (refine wpList_load_row rfl 26 _ rfl N rfl 26 _ _ _ hL.l.l.bN Try.underlying26 rfl (by kernel_rfl) ?_)
      | (refine wpList_load_row rfl 73 _ rfl (N + 1) rfl 73 _ _ _ hL.l.bR Try.underlying73 rfl (by kernel_rfl) ?_)
      | (go_at_call 85; refine (hun _ hL.l.l.img).mono ?_; rintro r w3 ⟨rfl, hb3⟩; replace hL := hL.below hb3; obtain ⟨M, hM⟩ : ∃ M, M = w3.heap.size := ⟨_, rfl⟩; have HM := Lib.hid hM; clear hM)
      | (refine wpList_store_row rfl 70 _ _ rfl M _ (by rw [HM.out]; rfl) rfl 70 _ (Blk.new' _ _ _ HM.out) (by kernel_rfl) rfl (by simp [Value.oneCell']) ?_; simp only [Act.put])
      | (refine wpList_store_row rfl 26 _ _ rfl (N + 2) _ rfl rfl 26 _ ((hL.below (Below.setRow ((Below.refl _ _).alloc (Nat.le_refl _) _) (Nat.le_of_eq HM.out.symm) _)).bQ) (by kernel_rfl) rfl (by simp [Value.oneCell']) ?_))
    have hL2 := hL.below (Below.setRow ((Below.refl w3.heap.size w3).alloc (Nat.le_refl _) (.cells #[.int .i64 0, .int .i64 0, .int .i64 0, .int .i64 0] 70)) (Nat.le_of_eq HM.out.symm) #[.int .i64 0, .int .i64 0, .int .i64 0, .int .i64 0])
    refine bodyPost_ret (results_row_tmp rfl _ _ (N + 2) 26 _ _ rfl (hL2.bQ.row _) Try.underlying26 rfl (by kernel_rfl)) rfl ?_
    exact ⟨⟨zeroI, ⟨rfl, SameD.refl _, zeroI_own _, zeroI_few, by decide, by decide⟩⟩, Below.setRow hL2.l.hB (by omega) _⟩
end Go.Proofs.Ytgmhhocpdfdplaa
/- Package cut: Redact. -/
namespace Go.Proofs.Ytgmhhocpdfdplaa
open Go.RowKit
set_option maxRecDepth 100000
set_option maxHeartbeats 8000000
def endB (a n u l : Int) : Bool := decide ((a + n) % u = 0 ∨ a + n = l)
theorem cut_ends (a n u l : Int) (ha : 0 ≤ a ∧ a ≤ 16384) (hn : 0 ≤ n ∧ n ≤ 16384) (hu : 1 ≤ u) (w : World) : Calls Try.prog 89 #[.int .i64 a, .int .i64 n, .int .i64 u, .int .i64 l] w fun r w' => r = .returned (.bool (endB a n u l)) ∧ w = w' := by
  obtain ⟨R, hR⟩ : ∃ R, endB a n u l = R := ⟨_, rfl⟩
  rw [hR]
  unfold endB at hR
  have h0 : 0 ≤ a + n := by omega
  have n0 : u ≠ 0 := by omega
  have n1 : u ≠ -1 := by omega
  have e1 : IntKind.i64.wrap (a + n) = a + n := IntWalk.i64_in _ (by omega)
  have ha1 := ha.1; have ha2 := ha.2; have hn1 := hn.1; have hn2 := hn.2
  by_cases h1 : (a + n) % u = 0
  · have t1 : ((a + n) % u == 0) = true := by simpa using h1
    obtain rfl : R = true := by rw [← hR]; simp [h1]
    clear hR h1
    go_enter Try.func89, Try.ntmps89
    go_wp2
    go_ret
    exact ⟨rfl, rfl⟩
  · have t1 : ((a + n) % u == 0) = false := by simpa using h1
    by_cases h2 : a + n = l
    · have t2 : (a + n == l) = true := by simpa using h2
      have t3 : decide (a + n = l) = true := by simpa using h2
      obtain rfl : R = true := by rw [← hR]; simp [h2]
      clear hR h1 h2
      go_enter Try.func89, Try.ntmps89
      go_wp2
      go_ret
      exact ⟨rfl, rfl⟩
    · have t2 : (a + n == l) = false := by simpa using h2
      have t3 : decide (a + n = l) = false := by simpa using h2
      obtain rfl : R = false := by rw [← hR]; simp [h1, h2]
      clear hR h1 h2
      go_enter Try.func89, Try.ntmps89
      go_wp2
      go_ret
      exact ⟨rfl, rfl⟩
def reE (x : ImgArg) (X Y W H : Int) : Int := if unE x X Y W H = 0 then (if endB X W (uwI x) x.w = true ∧ endB Y H (uhI x) x.h = true then 0 else 13) else unE x X Y W H
/-- What Redact yields. -/
def redD (x : ImgArg) (X Y W H : Int) : ImgArg := if reE x X Y W H = 0 then putAll x (redG x X Y W H) else zeroI
theorem cut_redact (x : ImgArg) (hf : FewOk x) (X Y W H : Int) (w : World) (hI : IsImg w x.val x) :
    Calls Try.prog 41 #[x.val, .agg #[.int .i64 X, .int .i64 Y, .int .i64 W, .int .i64 H]] w fun r w' => (∃ x1, ImgRes (redD x X Y W H) (reE x X Y W H) r w' x1) ∧ Below w.heap.size w w' := by
  have hpl := hI.planes
  have HI := Lib.hid hI
  have hL := LR.begin hI X Y W H 73
  obtain ⟨N, hN⟩ : ∃ N, N = w.heap.size := ⟨_, rfl⟩
  rw [← hN] at hL
  have HN := Lib.hid hN
  have hun := fun V h => cut_units x hf X Y W H V h
  have hfr := fun V h => img_frame x V h hf.c20
  have K1 : 8 * hhN (partsOf (psOf x.cs)) = uwI x := rfl
  have K2 : 8 * vvN (partsOf (psOf x.cs)) = uhI x := rfl
  rw [K1, K2] at hfr
  clear K1 K2
  have HEA := Lib.hid (fun (h0 : unE x X Y W H = 0) V hI => cut_each x hf (un_ok h0).R (unA x Y) (unB x X) (upI H (uhI x)) (upI W (uwI x)) (unit_ok h0).1 (unit_ok h0).2.1 (unit_ok h0).2.2.1 (unit_ok h0).2.2.2 90 (enters_of Try.func90 (by kernel_rfl) rfl) (redG x X Y W H) (redG_ok (un_ok h0) hpl) (fun i hi u W hA => red_do (un_ok h0) (fun c hc => (hpl c hc).1) i hi u W hA) V hI)
  have HV1 := Lib.hid (fun (h0 : unE x X Y W H = 0) => (show unV x X Y W H = #[.int .i64 (unA x Y), .int .i64 (unB x X), .int .i64 (upI H (uhI x)), .int .i64 (upI W (uwI x))] from if_pos h0))
  have HV2 := Lib.hid (fun (h0 : unE x X Y W H ≠ 0) => (show unV x X Y W H = #[.int .i64 0, .int .i64 0, .int .i64 0, .int .i64 0] from if_neg h0))
  have HF0 := Lib.hid (fun (h0 : unE x X Y W H = 0) => wiE_zero (unE_zero h0).1)
  have HR := Lib.hid (fun (h0 : unE x X Y W H = 0) => (un_ok h0).R)
  obtain ⟨D, hD⟩ : ∃ D, redD x X Y W H = D := ⟨_, rfl⟩
  obtain ⟨F, hF⟩ : ∃ F, reE x X Y W H = F := ⟨_, rfl⟩
  rw [hD, hF]
  unfold redD at hD
  rw [hF] at hD
  unfold reE at hF
  obtain ⟨E, hE⟩ : ∃ E, unE x X Y W H = E := ⟨_, rfl⟩
  rw [hE] at hF hun HEA HV1 HV2 HF0 HR
  have HD := Lib.hid hD; have HF := Lib.hid hF
  unfold ImgArg.val at hun HEA hfr
  clear hN hI hD hE hF
  unfold ImgArg.val
  go_enter Try.func41, Try.ntmps41
  go_upto_region 1 with fail
  refine wp_world (CI N x X Y W H w) ⟨hL.below ((Below.refl _ _).alloc (Nat.le_refl _) _), Blk.new' _ _ _ (by rw [HN.out]; simp)⟩ ?_
  rw [← HN.out]
  clear hL
  intro V hL
  have hNN := hL.l.l.hM
  by_cases h0 : E = 0
  · subst h0
    have hea := HEA.out rfl
    rw [HV1.out rfl] at hun
    obtain ⟨hi0, ⟨X0, W0, X1, W1⟩, Y0, H0, Y1, H1⟩ := HF0.out rfl
    have hR := HR.out rfl
    obtain ⟨hnw, hnh, hnu, hnv, -⟩ := hR.nums
    rw [hR.fr] at hfr
    have hF := HF.out
    rw [if_pos rfl] at hF
    have HF := Lib.hid hF
    have he1 := cut_ends X W (uwI x) x.w (by omega) (by omega) (by omega)
    have he2 := cut_ends Y H (uhI x) x.h (by omega) (by omega) (by omega)
    clear HV1 HV2 HF0 HR HEA hi0 hR hF
    generalize uwI x = uw at *
    generalize uhI x = uh at *
    obtain ⟨b1, hb1⟩ : ∃ b, endB X W uw x.w = b := ⟨_, rfl⟩
    obtain ⟨b2, hb2⟩ : ∃ b, endB Y H uh x.h = b := ⟨_, rfl⟩
    have hF := HF.out
    rw [hb1, hb2] at hF
    rw [hb1] at he1
    rw [hb2] at he2
    have HF2 := Lib.hid hF
    clear HF hb1 hb2 hF
    generalize unA x Y = a at *
    generalize unB x X = b at *
    generalize upI H uh = hh at *
    generalize upI W uw = dd at *
    generalize acN x.w (partsOf (psOf x.cs)) = ac at *
    generalize dnN x.h (partsOf (psOf x.cs)) = dn at *
    go_upto_region 2 with (first
      | (refine wpList_load_row rfl 26 _ rfl N rfl 26 _ _ _ hL.l.l.bN Try.underlying26 rfl (by kernel_rfl) ?_)
      | (refine wpList_load_row rfl 73 _ rfl (N + 1) rfl 73 _ _ _ hL.l.bR Try.underlying73 rfl (by kernel_rfl) ?_)
      | (go_at_call 85; refine (hun _ hL.l.l.img).mono ?_; rintro r w3 ⟨rfl, hb3⟩; replace hL := hL.below hb3; obtain ⟨M, hM⟩ : ∃ M, M = w3.heap.size := ⟨_, rfl⟩; have HM := Lib.hid hM; clear hM)
      | (refine wpList_store_row rfl 70 _ _ rfl M _ (by rw [HM.out]; rfl) rfl 70 _ (Blk.new' _ _ _ HM.out) (by kernel_rfl) rfl (by simp [Value.oneCell']) ?_; simp only [Act.put]))
    have hbe : Below w3.heap.size w3 ((w3.alloc (.cells #[.int .i64 0, .int .i64 0, .int .i64 0, .int .i64 0] 70)).setRow M #[.int .i64 a, .int .i64 b, .int .i64 hh, .int .i64 dd]) := Below.setRow ((Below.refl _ _).alloc (Nat.le_refl _) _) (Nat.le_of_eq HM.out.symm) _
    try rw [← HM.out]
    refine wp_world (fun V => CI N x X Y W H w V ∧ Blk V M #[.int .i64 a, .int .i64 b, .int .i64 hh, .int .i64 dd] 70) ⟨hL.below hbe, (Blk.new' _ _ _ HM.out).row _⟩ ?_
    clear hbe hL hun HM hb3
    rintro V1 ⟨hL, bM⟩
    go_upto_region 6 with (first
      | (refine wpList_load_row rfl 26 _ rfl N rfl 26 _ _ _ hL.l.l.bN Try.underlying26 rfl (by kernel_rfl) ?_)
      | (go_at_call 48; refine (hfr _ hL.l.l.img).mono ?_; rintro r w4 ⟨f, rfl, hb4, -, hf2⟩; obtain ⟨FF, rfl, -, hFU⟩ := hf2 (by first | rfl | trivial); replace hL := hL.below hb4; replace bM := bM.below hb4 bM.lt)
      | (go_at_call 49; refine (fr_unit FF uw uh ac dn _ hFU).mono ?_; rintro r w5 ⟨rfl, hb5⟩; replace hL := hL.below hb5; replace bM := bM.below hb5 bM.lt))
    clear hfr hf2 hFU hb4 hb5
    have r0 := hL.l.bR.cell 0; have r1 := hL.l.bR.cell 1; have r2 := hL.l.bR.cell 2; have r3 := hL.l.bR.cell 3; have n0 := hL.l.l.bN.cell 0; have n1 := hL.l.l.bN.cell 1
    cases b1
    · obtain rfl : F = 13 := by rw [← HF2.out]; rfl
      obtain rfl : D = zeroI := by rw [← HD.out]; rfl
      clear HF2 HD hea he2
      go_upto_region 7 with (go_at_call 89; (with_reducible refine (he1 _).mono ?_); rintro e w4 ⟨rfl, rfl⟩)
      clear he1 r0 r1 r2 r3 n0 n1
      go_wp2_with (refine wpList_store_row rfl 26 _ _ rfl (N + 2) _ rfl rfl 26 _ hL.bQ (by kernel_rfl) rfl (by simp [Value.oneCell']) ?_)
      refine bodyPost_ret (results_row_tmp rfl _ _ (N + 2) 26 _ _ rfl (hL.bQ.row _) Try.underlying26 rfl (by kernel_rfl)) rfl ?_
      exact ⟨⟨zeroI, ⟨rfl, SameD.refl _, zeroI_own _, zeroI_few, by decide, by decide⟩⟩, Below.setRow hL.l.hB (by omega) _⟩
    · cases b2
      · obtain rfl : F = 13 := by rw [← HF2.out]; rfl
        obtain rfl : D = zeroI := by rw [← HD.out]; rfl
        clear HF2 HD hea
        go_upto_region 7 with (first
          | (go_at_call 89; (with_reducible refine (he1 _).mono ?_); rintro e w4 ⟨rfl, rfl⟩)
          | (go_at_call 89; (with_reducible refine (he2 _).mono ?_); rintro e w4 ⟨rfl, rfl⟩))
        clear he1 he2 r0 r1 r2 r3 n0 n1
        go_wp2_with (refine wpList_store_row rfl 26 _ _ rfl (N + 2) _ rfl rfl 26 _ hL.bQ (by kernel_rfl) rfl (by simp [Value.oneCell']) ?_)
        refine bodyPost_ret (results_row_tmp rfl _ _ (N + 2) 26 _ _ rfl (hL.bQ.row _) Try.underlying26 rfl (by kernel_rfl)) rfl ?_
        exact ⟨⟨zeroI, ⟨rfl, SameD.refl _, zeroI_own _, zeroI_few, by decide, by decide⟩⟩, Below.setRow hL.l.hB (by omega) _⟩
      · obtain rfl : F = 0 := by rw [← HF2.out]; rfl
        have hD := HD.out
        rw [if_pos rfl] at hD
        have HD := Lib.hid hD
        clear HF2 hD
        go_upto_region 8 with (first
          | (go_at_call 89; (with_reducible refine (he1 _).mono ?_); rintro e w4 ⟨rfl, rfl⟩)
          | (go_at_call 89; (with_reducible refine (he2 _).mono ?_); rintro e w4 ⟨rfl, rfl⟩))
        clear he1 he2 r0 r1 r2 r3 n0 n1
        obtain ⟨V2, hV2⟩ : ∃ V2 : World, V2 = w5 := ⟨_, rfl⟩
        subst hV2
        have hM1 := hL.bQ.lt
        go_wp2_with (first
          | (refine wpList_load_row rfl 26 _ rfl N rfl 26 _ _ _ hL.l.l.bN Try.underlying26 rfl (by kernel_rfl) ?_)
          | (refine wpList_load_row rfl 70 _ rfl M rfl 70 _ _ _ bM Try.underlying70 rfl (by kernel_rfl) ?_)
          | (go_at_call 87; refine (hea _ hL.l.l.img).mono ?_; rintro r w6 ⟨⟨yw, yh, ycu, yqu, ytu, ycs, yqs, yts⟩, rfl, hSD, hfy, hOy⟩; have hb6 := hOy.hB; obtain ⟨yb, ycap, rfl⟩ : ∃ b c, ycu = .slice b ycs.length c := hOy.row.len; obtain ⟨qb, qcap, rfl⟩ : ∃ b c, yqu = .slice b yqs.length c := hOy.q.len; obtain ⟨tb, tcap, rfl⟩ : ∃ b c, ytu = .slice b yts.length c := hOy.t.len; have hL2 := hL.below hb6)
          | (refine wpList_store_row rfl 26 _ _ rfl (N + 2) _ rfl rfl 26 _ hL2.bQ (by kernel_rfl) rfl (by simp [Value.oneCell']) ?_))
        refine bodyPost_ret (results_row_tmp rfl _ _ (N + 2) 26 _ _ rfl (hL2.bQ.row _) Try.underlying26 rfl (by kernel_rfl)) rfl ?_
        have hfin := hOy.setRow (N + 2) hM1 #[.int .i64 yw, .int .i64 yh, .slice yb ycs.length ycap, .slice qb yqs.length qcap, .slice tb yts.length tcap] w (by omega) hL2.l.hB
        have hw1 : (Lit.int .i64 yw).wf = true := by have := hSD.w; simp only at this; rw [this]; exact HI.out.ww
        have hw2 : (Lit.int .i64 yh).wf = true := by have := hSD.h; simp only at this; rw [this]; exact HI.out.wh
        exact ⟨⟨⟨yw, yh, .slice yb ycs.length ycap, .slice qb yqs.length qcap, .slice tb yts.length tcap, ycs, yqs, yts⟩, ⟨rfl, by rw [← HD.out]; exact hSD, hfin.ownT, hfy, hw1, hw2⟩⟩, Below.setRow hL2.l.hB (by omega) _⟩
  · have hF := HF.out
    rw [if_neg h0] at hF
    subst hF
    have hD := HD.out
    rw [if_neg h0] at hD
    subst hD
    rw [HV2.out h0] at hun
    have t0 : (E != 0) = true := by simpa using h0
    clear HEA HD HF HV1 HV2 HF0 HR h0 hfr
    go_wp2_with (first
      | (refine wpList_load_row rfl 26 _ rfl N rfl 26 _ _ _ hL.l.l.bN Try.underlying26 rfl (by kernel_rfl) ?_)
      | (refine wpList_load_row rfl 73 _ rfl (N + 1) rfl 73 _ _ _ hL.l.bR Try.underlying73 rfl (by kernel_rfl) ?_)
      | (go_at_call 85; refine (hun _ hL.l.l.img).mono ?_; rintro r w3 ⟨rfl, hb3⟩; replace hL := hL.below hb3; obtain ⟨M, hM⟩ : ∃ M, M = w3.heap.size := ⟨_, rfl⟩; have HM := Lib.hid hM; clear hM)
      | (refine wpList_store_row rfl 70 _ _ rfl M _ (by rw [HM.out]; rfl) rfl 70 _ (Blk.new' _ _ _ HM.out) (by kernel_rfl) rfl (by simp [Value.oneCell']) ?_; simp only [Act.put])
      | (refine wpList_store_row rfl 26 _ _ rfl (N + 2) _ rfl rfl 26 _ ((hL.below (Below.setRow ((Below.refl _ _).alloc (Nat.le_refl _) _) (Nat.le_of_eq HM.out.symm) _)).bQ) (by kernel_rfl) rfl (by simp [Value.oneCell']) ?_))
    have hL2 := hL.below (Below.setRow ((Below.refl w3.heap.size w3).alloc (Nat.le_refl _) (.cells #[.int .i64 0, .int .i64 0, .int .i64 0, .int .i64 0] 70)) (Nat.le_of_eq HM.out.symm) #[.int .i64 0, .int .i64 0, .int .i64 0, .int .i64 0])
    refine bodyPost_ret (results_row_tmp rfl _ _ (N + 2) 26 _ _ rfl (hL2.bQ.row _) Try.underlying26 rfl (by kernel_rfl)) rfl ?_
    exact ⟨⟨zeroI, ⟨rfl, SameD.refl _, zeroI_own _, zeroI_few, by decide, by decide⟩⟩, Below.setRow hL2.l.hB (by omega) _⟩
end Go.Proofs.Ytgmhhocpdfdplaa
/- What is cropped, and what is redacted, is right. -/
namespace Go.Proofs.Ytgmhhocpdfdplaa
open Go.RowKit
set_option maxRecDepth 100000
def strip2 (c : CompArg) : CompArg := ⟨c.id, c.h, c.v, c.q, 0, 0, .slice none 0 0, []⟩
theorem getD_strip2 (cs : List CompArg) (k : Nat) : (cs.map strip2).getD k noComp = strip2 (cs.getD k noComp) := by
  simp only [List.getD_eq_getElem?_getD, List.getElem?_map]
  cases cs[k]? <;> rfl
theorem compsE_strip2 (cs : List CompArg) : compsE (cs.map strip2) = compsE cs := by
  unfold compsE compE
  simp only [getD_strip2, List.length_map]
  rfl
theorem psOf_strip2 (cs : List CompArg) : psOf (cs.map strip2) = psOf cs := by simp [psOf, strip2]
theorem tablesE_strip2 (x : ImgArg) : tablesE { x with cs := x.cs.map strip2 } = tablesE x := by
  have eu : ∀ y, usedQ (x.cs.map strip2) y = usedQ x.cs y := fun y => by
    unfold usedQ
    simp only [getD_strip2, List.length_map]
    rfl
  unfold tablesE quantsE compsTE quantE compTE
  simp only [getD_strip2, List.length_map, eu]
  rfl
theorem RightI.ranged {x : ImgArg} (h : RightI x) : ∀ c ∈ x.cs, ∀ b ∈ c.bs, rangedB b = true := by
  intro c hc b hb
  obtain ⟨i, hi, rfl⟩ := List.getElem_of_mem hc
  obtain ⟨k, hk, rfl⟩ := List.getElem_of_mem hb
  have h1 : compBE (x.cs.getD i noComp) = 0 := firstE_all h.bl i (Nat.zero_le _) (by omega)
  rw [comp_getD hi] at h1
  have h2 : blockE ((x.cs[i]'hi).bs.getD k []) = 0 := firstE_all h1 k (Nat.zero_le _) (by omega)
  rw [List.getD_eq_getElem?_getD, List.getElem?_eq_getElem hk, Option.getD_some] at h2
  unfold blockE at h2
  split at h2
  · assumption
  · cases h2
theorem right_like {x y : ImgArg} (hR : RightI x) (hs : y.cs.map strip2 = x.cs.map strip2) (hq : y.qs = x.qs) (ht : y.ts = x.ts) (hf : frE y = 0)
    (hp : ∀ i (hi : i < y.cs.length), planeE ((frG y).getD i ⟨0, 0, 0, 0⟩) (y.cs[i]'hi) = 0) (hb : ∀ c ∈ y.cs, ∀ b ∈ c.bs, rangedB b = true) : RightI y := by
  refine ⟨hf, ?_, ?_, ?_, ?_, by rw [ht]; exact hR.tg⟩
  · rw [← compsE_strip2, hs, compsE_strip2]; exact hR.co
  · rw [← tablesE_strip2 y]
    have e : tablesE { y with cs := y.cs.map strip2 } = tablesE { x with cs := x.cs.map strip2 } := by
      unfold tablesE quantsE compsTE
      simp only
      rw [hs, hq]
    rw [e, tablesE_strip2]
    exact hR.ta
  · exact firstE_none fun k _ hk => by
      have hk' : k < y.cs.length := by omega
      rw [comp_getD hk']
      exact hp k hk'
  · exact firstE_none fun k _ hk => by
      have hk' : k < y.cs.length := by omega
      show compBE (y.cs.getD k noComp) = 0
      rw [comp_getD hk']
      exact firstE_none fun j _ hj => by
        have hj' : j < (y.cs[k]'hk').bs.length := by omega
        have := hb _ (List.getElem_mem hk') _ (List.getElem_mem hj')
        simp only [List.getD_eq_getElem?_getD, List.getElem?_eq_getElem hj', Option.getD_some]
        unfold blockE
        rw [if_pos this]
theorem putAll_strip2 (x : ImgArg) (G : Nat → PlaneV) : (putAll x G).cs.map strip2 = x.cs.map strip2 := by
  refine List.ext_getElem? fun i => ?_
  unfold putAll
  simp only [List.getElem?_map]
  by_cases hi : i < x.cs.length
  · simp only [List.getElem?_range hi, List.getElem?_eq_getElem hi, Option.map_some, comp_getD hi]
    rfl
  · rw [List.getElem?_eq_none (by simp; omega), List.getElem?_eq_none (by omega)]
    rfl
theorem putAll_at (x : ImgArg) (G : Nat → PlaneV) {i : Nat} (hi : i < x.cs.length) (hi' : i < (putAll x G).cs.length) : (putAll x G).cs[i]'hi' = setP (x.cs[i]'hi) (G i).c (G i).r (.slice none 0 0) (G i).l := by
  simp only [putAll, List.getElem_map, List.getElem_range, comp_getD hi]
theorem putAll_len (x : ImgArg) (G : Nat → PlaneV) : (putAll x G).cs.length = x.cs.length := by simp [putAll]
theorem psOf_eq {xs ys : List CompArg} (h : xs.map strip2 = ys.map strip2) : psOf xs = psOf ys := by rw [← psOf_strip2 xs, h, psOf_strip2]
theorem smN_le {f g : Nat → Int} : ∀ n, (∀ k, k < n → f k ≤ g k) → smN f n ≤ smN g n
  | 0, _ => Int.le_refl _
  | n + 1, h => by
    simp only [smN]
    have h1 := smN_le n (fun k hk => h k (by omega))
    have h2 := h n (by omega)
    omega
theorem upI_mono {a b c : Int} (hc : 1 ≤ c) (h : a ≤ b) : upI a c ≤ upI b c := by
  unfold upI
  exact Int.ediv_le_ediv (by omega) (by omega)
theorem newE_smaller {x y x' y' : Int} {ps : List (Int × Int)} (h : newE x y ps = 0) (h1 : 1 ≤ x') (h2 : x' ≤ x) (h3 : 1 ≤ y') (h4 : y' ≤ y) : newE x' y' ps = 0 := by
  have hz := newE_zero h
  have hr : rightE x y ps = 0 := by
    unfold newE at h
    split at h
    · exact h
    · rename_i h5; exact Decidable.not_not.1 h5
  have hok := hz.1
  have hr' : rightE x' y' ps = 0 := by
    unfold rightE at hr ⊢
    split at hr
    · cases hr
    · rename_i h6
      split at hr
      · cases hr
      · rename_i h7
        rw [if_neg (by rintro (h | h | h | h); exact absurd h (by omega); exact absurd h (by omega); exact h6 (.inr (.inr (.inl h))); exact h6 (.inr (.inr (.inr h)))), if_neg (by omega)]
        exact hr
  unfold newE at h ⊢
  rw [if_neg (by rw [hr]; simp)] at h
  rw [if_neg (by rw [hr']; simp)]
  split at h
  · cases h
  · rename_i h8
    rw [if_neg h8]
    split at h
    · cases h
    · rename_i h9
      rw [if_neg]
      have hh := hok.hh; have hv := hok.vv
      have a1 := upI_mono (a := x') (b := x) (c := 8 * hhN (partsOf ps)) (by omega) h2
      have a2 := upI_mono (a := y') (b := y) (c := 8 * vvN (partsOf ps)) (by omega) h4
      have a3 := (upI_in (a := x') (b := 8 * hhN (partsOf ps)) (by omega) (by omega)).1
      have a4 := (upI_in (a := y') (b := 8 * vvN (partsOf ps)) (by omega) (by omega)).1
      have hle : totN x' y' (partsOf ps) ≤ totN x y (partsOf ps) := smN_le _ fun k hk => by
        have hp := hok.ps k hk
        have b1 : acN x' (partsOf ps) * hA (partsOf ps) k ≤ acN x (partsOf ps) * hA (partsOf ps) k := Int.mul_le_mul_of_nonneg_right a1 (by omega)
        have b2 : dnN y' (partsOf ps) * vA (partsOf ps) k ≤ dnN y (partsOf ps) * vA (partsOf ps) k := Int.mul_le_mul_of_nonneg_right a2 (by omega)
        have b3 : 0 ≤ dnN y' (partsOf ps) * vA (partsOf ps) k := Int.mul_nonneg a4 (by omega)
        have b4 : 0 ≤ acN x (partsOf ps) * hA (partsOf ps) k := Int.mul_nonneg (by have := hok.ac; omega) (by omega)
        exact Int.mul_le_mul b1 b2 b3 b4
      omega
theorem planeE_ok {g : GridV} {c : CompArg} (h1 : Pl.right c.c c.r c.bs.length = true) (h2 : c.c = g.c) (h3 : c.r = g.r) : planeE g c = 0 := if_pos ⟨⟨h1, h2⟩, h3⟩
/-- What is cropped is right. -/
theorem crop_right {x : ImgArg} {X Y W H : Int} (h : unE x X Y W H = 0) : RightI (cropD x X Y W H) := by
  have q := un_ok h
  obtain ⟨h0, h1, h2⟩ := unE_zero h
  obtain ⟨hi, ⟨x1, x2, x3, x4⟩, y1, y2, y3, y4⟩ := wiE_zero h0
  have hR := q.R
  have hD : cropD x X Y W H = { putAll x (cropG x X Y W H) with w := W, h := H } := if_pos h
  rw [hD]
  have hst := putAll_strip2 x (cropG x X Y W H)
  have hps : psOf (putAll x (cropG x X Y W H)).cs = psOf x.cs := psOf_eq hst
  have hqs : qsP { putAll x (cropG x X Y W H) with w := W, h := H } = qsP x := by unfold qsP; simp only; rw [hps]
  have hfr : frE { putAll x (cropG x X Y W H) with w := W, h := H } = 0 := by
    unfold frE
    simp only
    rw [hps]
    exact newE_smaller hR.fr x2 (by omega) y2 (by omega)
  refine right_like hR hst rfl rfl hfr (fun i hi => ?_) (fun c hc b hb => ?_)
  · have hi' : i < x.cs.length := by rw [← putAll_len x (cropG x X Y W H)]; exact hi
    obtain ⟨c, r, a, b, hh, d, n⟩ := q.nats hi'
    have hat := putAll_at x (cropG x X Y W H) hi' hi
    rw [frG_at _ hi]
    have e1 : acI { putAll x (cropG x X Y W H) with w := W, h := H } = upI W (uwI x) := by unfold acI acN; rw [hqs]; rfl
    have e2 : dnI { putAll x (cropG x X Y W H) with w := W, h := H } = upI H (uhI x) := by unfold dnI dnN; rw [hqs]; rfl
    have e3 : pH { putAll x (cropG x X Y W H) with w := W, h := H } i = pH x i := by unfold pH; rw [hqs]
    have e4 : pV { putAll x (cropG x X Y W H) with w := W, h := H } i = pV x i := by unfold pV; rw [hqs]
    rw [e1, e2, e3, e4]
    show planeE _ ((putAll x (cropG x X Y W H)).cs[i]'hi) = 0
    rw [hat]
    have hl := Pl.win_len (c := c) (r := r) (a := a) (b := b) (h := hh) (d := d) n.n n.ah n.bd hh (Nat.le_refl _)
    refine planeE_ok ?_ rfl rfl
    unfold setP cropG
    simp only
    rw [comp_getD hi', n.ec, n.ea, n.eb, n.eh, n.ed]
    simp only [Int.toNat_natCast]
    rw [hl, Nat.mul_comm]
    refine Pl.right_of n.d1 n.h1 ?_
    have k1 : hh ≤ r := by have := n.ah; omega
    have k2 : d ≤ c := by have := n.bd; omega
    exact Nat.le_trans (Nat.mul_le_mul k2 k1) n.cr
  · obtain ⟨i, hi, rfl⟩ := List.getElem_of_mem hc
    have hi' : i < x.cs.length := by rw [← putAll_len x (cropG x X Y W H)]; exact hi
    have hat := putAll_at x (cropG x X Y W H) hi' hi
    have hb2 : b ∈ ((putAll x (cropG x X Y W H)).cs[i]'hi).bs := hb
    rw [hat] at hb2
    have hb3 : b ∈ (x.cs[i]'hi').bs := by
      have := win_mem hb2
      rwa [comp_getD hi'] at this
    exact hR.ranged _ (List.getElem_mem hi') b hb3
/-- What is redacted is right. -/
theorem red_right {x : ImgArg} {X Y W H : Int} (h : reE x X Y W H = 0) : unE x X Y W H = 0 ∧ RightI (redD x X Y W H) := by
  have hu : unE x X Y W H = 0 := by
    unfold reE at h
    split at h
    · assumption
    · rename_i h1; exact absurd h h1
  refine ⟨hu, ?_⟩
  have q := un_ok hu
  have hR := q.R
  have hD : redD x X Y W H = putAll x (redG x X Y W H) := if_pos h
  rw [hD]
  have hst := putAll_strip2 x (redG x X Y W H)
  have hps : psOf (putAll x (redG x X Y W H)).cs = psOf x.cs := psOf_eq hst
  have hfg : frG (putAll x (redG x X Y W H)) = frG x := by unfold frG; rw [hps]; rfl
  have hfr : frE (putAll x (redG x X Y W H)) = 0 := by
    unfold frE
    rw [hps]
    exact hR.fr
  refine right_like hR hst rfl rfl hfr (fun i hi => ?_) (fun c hc b hb => ?_)
  · have hi' : i < x.cs.length := by rw [← putAll_len x (redG x X Y W H)]; exact hi
    obtain ⟨k1, k2, k3⟩ := hR.plane hi'
    rw [hfg, putAll_at x (redG x X Y W H) hi' hi, frG_at x hi']
    refine planeE_ok ?_ ?_ ?_
    · unfold setP redG
      simp only
      rw [comp_getD hi', Pl.pnt_len]
      exact k1
    · unfold setP redG
      simp only
      rw [comp_getD hi', k2]
      rfl
    · unfold setP redG
      simp only
      rw [comp_getD hi', k3]
      rfl
  · obtain ⟨i, hi, rfl⟩ := List.getElem_of_mem hc
    have hi' : i < x.cs.length := by rw [← putAll_len x (redG x X Y W H)]; exact hi
    rw [putAll_at x (redG x X Y W H) hi' hi] at hb
    have hb2 : b ∈ (redG x X Y W H i).l := hb
    unfold redG at hb2
    simp only [Pl.pnt, List.mem_map, List.mem_range] at hb2
    obtain ⟨j, hj, rfl⟩ := hb2
    rw [comp_getD hi'] at hj ⊢
    split
    · rfl
    · rw [← Pl.blk_eq hj]
      exact hR.ranged _ (List.getElem_mem hi') _ (List.getElem_mem hj)
end Go.Proofs.Ytgmhhocpdfdplaa
/- Cropping twice is cropping once, in plain words. -/
namespace Go.Proofs.Ytgmhhocpdfdplaa
open Go.RowKit
set_option maxRecDepth 100000
theorem cd_strip2 {xs ys : List CompArg} (h : xs.map cd = ys.map cd) : xs.map strip2 = ys.map strip2 := by
  have e : ∀ l : List CompArg, l.map strip2 = (l.map cd).map (fun t => (⟨t.1.1, t.1.2.1, t.1.2.2.1, t.1.2.2.2, 0, 0, .slice none 0 0, []⟩ : CompArg)) := fun l => by rw [List.map_map]; rfl
  rw [e xs, e ys, h]
theorem SameD.qsP {x y : ImgArg} (h : SameD x y) : qsP y = qsP x := by
  unfold Go.Proofs.Ytgmhhocpdfdplaa.qsP
  rw [psOf_eq (cd_strip2 h.cs)]
theorem SameD.unE {x y : ImgArg} (h : SameD x y) (X Y W H : Int) : unE y X Y W H = unE x X Y W H := by
  unfold Go.Proofs.Ytgmhhocpdfdplaa.unE wiE uwI uhI
  rw [h.err, h.w, h.h, h.qsP]
theorem SameD.getD {x y : ImgArg} (h : SameD x y) (i : Nat) : cd (y.cs.getD i noComp) = cd (x.cs.getD i noComp) := by
  have hi := congrArg (fun l => l[i]?) h.cs
  simp only [List.getElem?_map] at hi
  simp only [List.getD_eq_getElem?_getD]
  cases hx : y.cs[i]? with
  | none => cases hy : x.cs[i]? with
    | none => rfl
    | some b => rw [hx, hy] at hi; cases hi
  | some a => cases hy : x.cs[i]? with
    | none => rw [hx, hy] at hi; cases hi
    | some b =>
      rw [hx, hy] at hi
      simpa using hi
theorem SameD.trans {x y z : ImgArg} (h : SameD x y) (k : SameD y z) : SameD x z := ⟨k.w.trans h.w, k.h.trans h.h, k.cs.trans h.cs, k.qs.trans h.qs, k.ts.trans h.ts⟩
theorem SameD.symm {x y : ImgArg} (h : SameD x y) : SameD y x := ⟨h.w.symm, h.h.symm, h.cs.symm, h.qs.symm, h.ts.symm⟩
/-- Planes put into images alike. -/
theorem putAll_cd {x y : ImgArg} {G K : Nat → PlaneV} (hl : y.cs.length = x.cs.length) (hc : ∀ i, i < x.cs.length → ((y.cs.getD i noComp).id, (y.cs.getD i noComp).h, (y.cs.getD i noComp).v, (y.cs.getD i noComp).q) = ((x.cs.getD i noComp).id, (x.cs.getD i noComp).h, (x.cs.getD i noComp).v, (x.cs.getD i noComp).q))
    (hG : ∀ i, i < x.cs.length → K i = G i) : (putAll y K).cs.map cd = (putAll x G).cs.map cd := by
  unfold putAll
  simp only [List.map_map, hl]
  refine List.map_congr_left fun i hi => ?_
  have hi' : i < x.cs.length := List.mem_range.1 hi
  have h1 := hc i hi'
  simp only [Function.comp, cd, setP, hG i hi']
  rw [h1]
theorem SameD.cropG {x y : ImgArg} (h : SameD x y) (X Y W H : Int) : cropG y X Y W H = cropG x X Y W H := by
  funext i
  have hq := h.qsP
  have hg := h.getD i
  unfold Go.Proofs.Ytgmhhocpdfdplaa.cropG unA unB uwI uhI pH pV
  rw [hq]
  have e1 : (y.cs.getD i noComp).bs = (x.cs.getD i noComp).bs := congrArg (fun t => t.2.2.2) hg
  have e2 : (y.cs.getD i noComp).c = (x.cs.getD i noComp).c := congrArg (fun t => t.2.1) hg
  rw [e1, e2]
theorem SameD.crop {x y : ImgArg} (h : SameD x y) (X Y W H : Int) : SameD (cropD x X Y W H) (cropD y X Y W H) := by
  unfold cropD
  rw [h.unE]
  by_cases h0 : Go.Proofs.Ytgmhhocpdfdplaa.unE x X Y W H = 0
  · rw [if_pos h0, if_pos h0]
    exact ⟨rfl, rfl, putAll_cd h.len (fun i _ => congrArg (fun t => t.1) (h.getD i)) (fun i _ => by rw [h.cropG]), h.qs, h.ts⟩
  · rw [if_neg h0, if_neg h0]
    exact SameD.refl _
theorem putAll_getD (x : ImgArg) (G : Nat → PlaneV) {i : Nat} (hi : i < x.cs.length) : (putAll x G).cs.getD i noComp = setP (x.cs.getD i noComp) (G i).c (G i).r (.slice none 0 0) (G i).l := by
  have hi' : i < (putAll x G).cs.length := by rw [putAll_len]; exact hi
  rw [comp_getD hi', putAll_at x G hi hi', comp_getD hi]
/-- Cropping twice is cropping once. -/
theorem crop_twice {x : ImgArg} {X Y W H X2 Y2 W2 H2 : Int} (h1 : unE x X Y W H = 0) (h2 : unE (cropD x X Y W H) X2 Y2 W2 H2 = 0) :
    unE x (X + X2) (Y + Y2) W2 H2 = 0 ∧ SameD (cropD x (X + X2) (Y + Y2) W2 H2) (cropD (cropD x X Y W H) X2 Y2 W2 H2) := by
  have q1 := un_ok h1
  have q2 := un_ok h2
  have hD : cropD x X Y W H = { putAll x (cropG x X Y W H) with w := W, h := H } := if_pos h1
  have hst := putAll_strip2 x (cropG x X Y W H)
  have hqs : qsP (cropD x X Y W H) = qsP x := by rw [hD]; unfold qsP; simp only; rw [psOf_eq hst]
  have hw : (cropD x X Y W H).w = W := by rw [hD]
  have hh : (cropD x X Y W H).h = H := by rw [hD]
  have hu : uwI (cropD x X Y W H) = uwI x := by unfold uwI; rw [hqs]
  have hv : uhI (cropD x X Y W H) = uhI x := by unfold uhI; rw [hqs]
  obtain ⟨a0, a1, a2⟩ := unE_zero h1
  obtain ⟨ai, ⟨x1, x2, x3, x4⟩, y1, y2, y3, y4⟩ := wiE_zero a0
  obtain ⟨b0, b1, b2⟩ := unE_zero h2
  obtain ⟨bi, ⟨z1, z2, z3, z4⟩, t1, t2, t3, t4⟩ := wiE_zero b0
  rw [hw] at z3 z4
  rw [hh] at t3 t4
  rw [hu] at b1
  rw [hv] at b2
  obtain ⟨-, -, hnu, hnv, -⟩ := q1.R.nums
  have e1 : (X + X2) % uwI x = 0 := by rw [Int.add_emod, a1, b1]; rfl
  have e2 : (Y + Y2) % uhI x = 0 := by rw [Int.add_emod, a2, b2]; rfl
  have h3 : unE x (X + X2) (Y + Y2) W2 H2 = 0 := by
    have hwi : wiE x (X + X2) (Y + Y2) W2 H2 = 0 := by
      unfold wiE
      rw [if_pos ai, if_pos]
      exact ⟨decide_eq_true ⟨by omega, by omega, by omega, by omega⟩, decide_eq_true ⟨by omega, by omega, by omega, by omega⟩⟩
    unfold unE
    rw [if_pos hwi, if_pos ⟨e1, e2⟩]
  refine ⟨h3, ?_⟩
  have q3 := un_ok h3
  have hA : unA x (Y + Y2) = unA x Y + unA (cropD x X Y W H) Y2 := by
    unfold unA
    rw [hv]
    exact Int.add_ediv_of_dvd_left (Int.dvd_of_emod_eq_zero a2)
  have hB : unB x (X + X2) = unB x X + unB (cropD x X Y W H) X2 := by
    unfold unB
    rw [hu]
    exact Int.add_ediv_of_dvd_left (Int.dvd_of_emod_eq_zero a1)
  have hp : ∀ i, pH (cropD x X Y W H) i = pH x i := fun i => by unfold pH; rw [hqs]
  have hpv : ∀ i, pV (cropD x X Y W H) i = pV x i := fun i => by unfold pV; rw [hqs]
  have hlen : (cropD x X Y W H).cs.length = x.cs.length := by rw [hD]; exact putAll_len _ _
  have hc2 : cropD (cropD x X Y W H) X2 Y2 W2 H2 = { putAll (cropD x X Y W H) (cropG (cropD x X Y W H) X2 Y2 W2 H2) with w := W2, h := H2 } := if_pos h2
  have hc3 : cropD x (X + X2) (Y + Y2) W2 H2 = { putAll x (cropG x (X + X2) (Y + Y2) W2 H2) with w := W2, h := H2 } := if_pos h3
  have hget : ∀ i, i < x.cs.length → (cropD x X Y W H).cs.getD i noComp = setP (x.cs.getD i noComp) (cropG x X Y W H i).c (cropG x X Y W H i).r (.slice none 0 0) (cropG x X Y W H i).l := fun i hi => by
    rw [hD]; exact putAll_getD x _ hi
  rw [hc2, hc3]
  refine ⟨rfl, rfl, putAll_cd hlen (fun i hi => by rw [hget i hi]; rfl) (fun i hi => ?_), ?_, ?_⟩
  · obtain ⟨c, r, a, b, h, d, n⟩ := q1.nats hi
    have hi2 : i < (cropD x X Y W H).cs.length := by rw [hlen]; exact hi
    obtain ⟨c', r', a', b', h', d', m⟩ := q2.nats hi2
    have ec' := m.ec
    have er' := m.er
    rw [← comp_getD hi2, hget i hi] at ec' er'
    have k1 : (cropG x X Y W H i).c = (d : Int) := n.ed
    have k2 : (cropG x X Y W H i).r = (h : Int) := n.eh
    have ecd : (d : Int) = c' := k1.symm.trans ec'
    have erh : (h : Int) = r' := k2.symm.trans er'
    obtain rfl : d = c' := by omega
    obtain rfl : h = r' := by omega
    have ma := m.ea; have mb := m.eb; have mh := m.eh; have md := m.ed
    rw [hpv, hv] at mh
    rw [hpv] at ma
    rw [hp, hu] at md
    rw [hp] at mb
    have hbs : ((cropD x X Y W H).cs.getD i noComp).bs = (cropG x X Y W H i).l := by rw [hget i hi]; rfl
    have hcc : ((cropD x X Y W H).cs.getD i noComp).c = (d : Int) := by rw [hget i hi]; exact k1
    have hl1 : (cropG x X Y W H i).l = Pl.win (x.cs.getD i noComp).bs c a b d h := by
      unfold cropG
      simp only
      rw [comp_getD hi, n.ec, n.ea, n.eb, n.eh, n.ed]
      simp only [Int.toNat_natCast]
    have hn := n.n
    rw [← comp_getD hi] at hn
    unfold cropG
    simp only [PlaneV.mk.injEq]
    rw [hp, hpv, hu, hv, hbs, hcc, hl1, hA, hB, Int.add_mul, Int.add_mul, ma, mb, mh, md, n.ea, n.eb, comp_getD hi, n.ec]
    simp only [Int.toNat_natCast, true_and]
    rw [show ((a : Int) + (a' : Int)).toNat = a + a' by omega, show ((b : Int) + (b' : Int)).toNat = b + b' by omega]
    exact Pl.win_win _ c a b d h a' b' d' h' (fun j hj => Pl.row_fits (by rw [← comp_getD hi]; exact hn) n.ah n.bd hj) m.ah m.bd
  · rw [hD]
    rfl
  · rw [hD]
    rfl
theorem unE_two {x : ImgArg} {X Y W H : Int} (h : imgE x = 0) : unE x X Y W H = 0 ∨ unE x X Y W H = 13 ∨ unE x X Y W H = 14 := by
  unfold unE wiE
  rw [if_pos h]
  by_cases k : insideB X W x.w = true ∧ insideB Y H x.h = true
  · rw [if_pos k, if_pos rfl]
    by_cases k2 : X % uwI x = 0 ∧ Y % uhI x = 0
    · rw [if_pos k2]; exact .inl rfl
    · rw [if_neg k2]; exact .inr (.inl rfl)
  · rw [if_neg k, if_neg (by decide)]
    exact .inr (.inr rfl)
end Go.Proofs.Ytgmhhocpdfdplaa
/- The statements on cuts: what stands while they run. -/
namespace Go.Proofs.Ytgmhhocpdfdplaa
open Go.RowKit
set_option maxRecDepth 100000
def shI (e : Int) (v : Value) : Prop := ∃ yw yh yb m ycap qb n qcap tb l tcap, v = .tuple #[.agg #[.int .i64 yw, .int .i64 yh, .slice yb m ycap, .slice qb n qcap, .slice tb l tcap], .int .i64 e]
def fI (D : ImgArg) (v : Value) : Fact := fun _ _ w => ∃ y : ImgArg, (∃ e, v = .tuple #[y.val, e]) ∧ SameD D y ∧ OwnT y w ∧ FewOk y ∧ (Lit.int .i64 y.w).wf = true ∧ (Lit.int .i64 y.h).wf = true
theorem fI_mono (D : ImgArg) (v : Value) : (fI D v).Mono := by
  intro lo hi w w' h hs hB
  obtain ⟨y, h1, h2, h3, h4⟩ := h
  exact ⟨y, h1, h2, h3.below hB, h4⟩
/-- An image y like D in box P. -/
structure BX (P : Nat) (D y : ImgArg) (V : World) : Prop where
  b : Blk V P #[.int .i64 y.w, .int .i64 y.h, y.cu, y.qu, y.tu] 26
  own : OwnT y V
  d : SameD D y
  few : FewOk y
  ww : (Lit.int .i64 y.w).wf = true
  wh : (Lit.int .i64 y.h).wf = true
theorem BX.below {P : Nat} {D y : ImgArg} {V V' : World} (h : BX P D y V) (hb : Below V.heap.size V V') : BX P D y V' := ⟨h.b.below hb h.b.lt, h.own.below hb, h.d, h.few, h.ww, h.wh⟩
theorem BX.img {P : Nat} {D y : ImgArg} {V : World} (h : BX P D y V) : IsImg V (.agg #[.int .i64 y.w, .int .i64 y.h, y.cu, y.qu, y.tu]) y := h.own.img h.few h.ww h.wh
theorem BX.slices {P : Nat} {D y : ImgArg} {V : World} (h : BX P D y V) : ∃ yb ycap qb qcap tb tcap, y.cu = .slice yb y.cs.length ycap ∧ y.qu = .slice qb y.qs.length qcap ∧ y.tu = .slice tb y.ts.length tcap := by
  obtain ⟨yb, ycap, h1⟩ := h.own.row.len
  obtain ⟨qb, qcap, h2⟩ := h.own.q.len
  obtain ⟨tb, tcap, h3⟩ := h.own.t.len
  exact ⟨yb, ycap, qb, qcap, tb, tcap, h1, h2, h3⟩
theorem ImgRes.vals {D : ImgArg} {e : Int} {r : Ending} {w' : World} {x1 : ImgArg} (h : ImgRes D e r w' x1) : ∃ v, r = .returned v ∧ shI e v ∧ ∀ lo hi, fI D v lo hi w' := by
  obtain ⟨yb, ycap, h1⟩ := h.own.row.len
  obtain ⟨qb, qcap, h2⟩ := h.own.q.len
  obtain ⟨tb, tcap, h3⟩ := h.own.t.len
  refine ⟨_, h.r, ⟨x1.w, x1.h, yb, x1.cs.length, ycap, qb, x1.qs.length, qcap, tb, x1.ts.length, tcap, ?_⟩, fun lo hi => ⟨x1, ⟨_, rfl⟩, h.d, h.own, h.few, h.ww, h.wh⟩⟩
  unfold ImgArg.val
  rw [h1, h2, h3]
theorem LR.setRow {N g : Nat} {x : ImgArg} {X Y W H : Int} {t : TypeId} {w V : World} (h : LR N x X Y W H t w V) (HI : IsImg w x.val x) (hg : N + 1 < g) (ds : Array Value) : LR N x X Y W H t w (V.setRow g ds) := by
  have hM := h.l.hM
  have hB := Below.setRow h.hB (g := g) (by omega) ds
  exact ⟨⟨h.l.bN.rowOther _ _ (by omega), HI.below hB, hM, hB⟩, h.bR.rowOther _ _ (by omega)⟩
theorem BX.setRow {P g : Nat} {D y : ImgArg} {V : World} {zs : Array Value} (h : BX P D y V) (hg : Blk V g zs 26) (hne : P ≠ g) (ds : Array Value) : BX P D y (V.setRow g ds) :=
  ⟨h.b.rowOther _ _ hne, h.own.setRow hg ds, h.d, h.few, h.ww, h.wh⟩
theorem BX.new {g : Nat} {D y : ImgArg} {V : World} {zs : Array Value} (hg : Blk V g zs 26) (ho : OwnT y V) (hd : SameD D y) (hf : FewOk y) (h1 : (Lit.int .i64 y.w).wf = true) (h2 : (Lit.int .i64 y.h).wf = true) : BX g D y (V.setRow g #[.int .i64 y.w, .int .i64 y.h, y.cu, y.qu, y.tu]) :=
  ⟨hg.row _, ho.setRow hg _, hd, hf, h1, h2⟩
/-- What a drawn region's call yields, as an image. -/
theorem fI_get {D : ImgArg} {e : Int} {yw yh : Int} {a b c : Value} {lo hi : Nat} {w : World} (h : fI D (.tuple #[.agg #[.int .i64 yw, .int .i64 yh, a, b, c], .int .i64 e]) lo hi w) :
    ∃ cs qs ts, SameD D ⟨yw, yh, a, b, c, cs, qs, ts⟩ ∧ OwnT ⟨yw, yh, a, b, c, cs, qs, ts⟩ w ∧ FewOk ⟨yw, yh, a, b, c, cs, qs, ts⟩ ∧ (Lit.int .i64 yw).wf = true ∧ (Lit.int .i64 yh).wf = true := by
  obtain ⟨⟨y0, y1, y2, y3, y4, cs, qs, ts⟩, ⟨e', he⟩, h1, h2, h3, h4, h5⟩ := h
  simp only [ImgArg.val, Value.tuple.injEq, Array.mk.injEq, List.cons.injEq, Value.agg.injEq, Value.int.injEq, true_and, and_true] at he
  obtain ⟨⟨rfl, rfl, rfl, rfl, rfl⟩, -⟩ := he
  exact ⟨cs, qs, ts, h1, h2, h3, h4, h5⟩
def zero5 : Array Value := #[.int .i64 0, .int .i64 0, .slice none 0 0, .slice none 0 0, .slice none 0 0]
end Go.Proofs.Ytgmhhocpdfdplaa
