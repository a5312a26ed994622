/- Texts on one foundation, joined: R11p, R11q, R11n, R11f, R11t, R11r. -/
import Derived.Test.YtgmhhocpdfdplaaGE
import Derived.Test.YtgmhhocpdfdplaaGF
import Derived.BigQuiet
import Derived.Test.YtgmhhocpdfdplaaGG
import Derived.Test.YtgmhhocpdfdplaaGJ
/- The reference's frame: as it is made; cells. -/
namespace Go.Proofs.Ytgmhhocpdfdplaa
open Go.RowKit
set_option maxRecDepth 100000
def zeroRF : Array Value := #[.int .i64 0, .int .i64 0, .int .i64 0, .int .i64 0, .slice none 0 0, .slice none 0 0]
/-- The reference's frame in block F while it is made; the result's block N. -/
structure NR (N F : Nat) (u gv : Value) (qs : List (Int × Int)) (gs : List GridV) (uw uh ac dn : Int) (w W : World) : Prop where
  bN : Blk W N #[.int .i64 0, .int .i64 0, .int .i64 0, .int .i64 0, .slice none 0 0, .slice none 0 0] 44
  bF : Blk W F #[.int .i64 uw, .int .i64 uh, .int .i64 ac, .int .i64 dn, u, gv] 44
  row : Row W N 112 2 u qs.length (qs.map partC).flatten
  grid : Row W N 107 4 gv gs.length (gs.map GridV.cells).flatten
  hN : N < F
  hB : Below N w W
section
variable {N F : Nat} {u gv : Value} {qs : List (Int × Int)} {gs : List GridV} {uw uh ac dn : Int} {w W W' : World}
theorem NR.below (h : NR N F u gv qs gs uw uh ac dn w W) (hb : Below W.heap.size W W') : NR N F u gv qs gs uw uh ac dn w W' :=
  ⟨h.bN.below hb h.bN.lt, h.bF.below hb h.bF.lt, h.row.grow hb, h.grid.grow hb, h.hN, h.hB.trans (hb.mono (Nat.le_of_lt h.bN.lt))⟩
theorem NR.rowF (h : NR N F u gv qs gs uw uh ac dn w W) : ∀ g, u.ownBlock = some g → g ≠ F := h.row.typed h.bF (by decide)
theorem NR.gridF (h : NR N F u gv qs gs uw uh ac dn w W) : ∀ g, gv.ownBlock = some g → g ≠ F := h.grid.typed h.bF (by decide)
theorem NR.setUw (h : NR N F u gv qs gs uw uh ac dn w W) (z : Int) : NR N F u gv qs gs z uh ac dn w (W.setCell ⟨F, 0, none⟩ (.int .i64 z)) :=
  ⟨h.bN.other _ _ (Nat.ne_of_lt h.hN), h.bF.set 0 _, h.row.other _ _ h.rowF, h.grid.other _ _ h.gridF, h.hN, h.hB.setCell (Nat.le_of_lt h.hN) _⟩
theorem NR.setUh (h : NR N F u gv qs gs uw uh ac dn w W) (z : Int) : NR N F u gv qs gs uw z ac dn w (W.setCell ⟨F, 1, none⟩ (.int .i64 z)) :=
  ⟨h.bN.other _ _ (Nat.ne_of_lt h.hN), h.bF.set 1 _, h.row.other _ _ h.rowF, h.grid.other _ _ h.gridF, h.hN, h.hB.setCell (Nat.le_of_lt h.hN) _⟩
theorem NR.setAc (h : NR N F u gv qs gs uw uh ac dn w W) (z : Int) : NR N F u gv qs gs uw uh z dn w (W.setCell ⟨F, 2, none⟩ (.int .i64 z)) :=
  ⟨h.bN.other _ _ (Nat.ne_of_lt h.hN), h.bF.set 2 _, h.row.other _ _ h.rowF, h.grid.other _ _ h.gridF, h.hN, h.hB.setCell (Nat.le_of_lt h.hN) _⟩
theorem NR.setDn (h : NR N F u gv qs gs uw uh ac dn w W) (z : Int) : NR N F u gv qs gs uw uh ac z w (W.setCell ⟨F, 3, none⟩ (.int .i64 z)) :=
  ⟨h.bN.other _ _ (Nat.ne_of_lt h.hN), h.bF.set 3 _, h.row.other _ _ h.rowF, h.grid.other _ _ h.gridF, h.hN, h.hB.setCell (Nat.le_of_lt h.hN) _⟩
theorem NR.apart (h : NR N F u gv qs gs uw uh ac dn w W) : ∀ g, u.ownBlock = some g → some g ≠ gv.ownBlock := by
  intro g hg e
  rcases h.row.2 with ⟨rfl, _⟩ | ⟨g', cap, cur, rfl, _, hb, _⟩
  · cases hg
  · obtain rfl : g' = g := Option.some.inj hg
    exact h.grid.typed hb (by decide) g' e.symm rfl
theorem NR.app {v' : Value} {g : GridV} (h : NR N F u gv qs gs uw uh ac dn w W) (hg : W.grownBy W' gv.ownBlock) (hR : Row W' N 107 4 v' (gs.length + 1) ((gs.map GridV.cells).flatten ++ g.cells)) :
    NR N F u v' qs (gs ++ [g]) uw uh ac dn w (W'.setCell ⟨F, 5, none⟩ v') := by
  have hF : some F ≠ gv.ownBlock := fun e => h.gridF F e.symm rfl
  have hNn : some N ≠ gv.ownBlock := fun e => h.grid.typed h.bN (by decide) N e.symm rfl
  have hb := h.bF.grown hg hF
  refine ⟨(h.bN.grown hg hNn).other _ _ (Nat.ne_of_lt h.hN), hb.set 5 _, (Row.grown h.row hg h.apart).other _ _ h.rowF, ?_, h.hN, (Below.grown h.hB (Nat.le_of_lt h.bN.lt) hg (fun g e => (h.grid.lt g e).1)).setCell (Nat.le_of_lt h.hN) _⟩
  have := hR.other ⟨F, 5, none⟩ v' (hR.typed hb (by decide))
  rw [List.map_append, List.flatten_append, List.length_append]
  simpa using this
theorem NR.setRow (h : NR N F u gv qs gs uw uh ac dn w W) (k : Nat) (ds : Array Value) (hN : N ≠ k) (hF : k ≠ F) (hu : ∀ g, u.ownBlock = some g → g ≠ k) (hg : ∀ g, gv.ownBlock = some g → g ≠ k) (hk : N ≤ k) :
    NR N F u gv qs gs uw uh ac dn w (W.setRow k ds) :=
  ⟨h.bN.rowOther k ds hN, h.bF.rowOther k ds hF.symm, h.row.same fun g e => setRow_other W k g ds (hu g e), h.grid.same fun g e => setRow_other W k g ds (hg g e), h.hN, Below.setRow h.hB hk _⟩
theorem NR.parts (h : NR N F u gv qs gs uw uh ac dn w W) (hl : qs.length ≤ 1000000) : IsParts W u qs :=
  Ar.elems h.row.ar (fun c hc => by obtain ⟨p, _, rfl⟩ := List.mem_map.1 hc; rfl) (by simp) (by simp only [maxLen]; omega)
end
structure EarlyB (ps : List (Int × Int)) (i : Nat) : Prop where
  z : ∀ j, j < i → badP (ps.getD j (0, 0)) = false
end Go.Proofs.Ytgmhhocpdfdplaa
/- The reference's count of a frame's blocks, walked. -/
namespace Go.Proofs.Ytgmhhocpdfdplaa
open Go.RowKit
set_option maxRecDepth 100000
set_option maxHeartbeats 8000000
def noGr : GridV := ⟨0, 0, 0, 0⟩
/-- How many blocks the grids have. -/
def blkN (gs : List GridV) : Nat → Int := smN (fun k => (gs.getD k noGr).c * (gs.getD k noGr).r)
theorem ref_blocks (uw uh ac dn : Int) (ub : Option Addr) (un uc : Nat) (gv : Value) (gs : List GridV) (hl : gs.length ≤ 4) (hb : ∀ g ∈ gs, (0 ≤ g.c ∧ g.c ≤ 12000) ∧ 0 ≤ g.r ∧ g.r ≤ 12000) (w : World) (h : Elems w 4 gv (gs.map GridV.cells)) :
    Calls Try.prog 27 #[.agg #[.int .i64 uw, .int .i64 uh, .int .i64 ac, .int .i64 dn, .slice ub un uc, gv]] w fun r w' => r = .returned (.int .i64 (blkN gs gs.length)) ∧ Below w.heap.size w w' := by
  obtain ⟨gb, gc, rfl⟩ : ∃ b c, gv = .slice b gs.length c := by
    obtain ⟨b, c, hv, _⟩ := h.len
    exact ⟨b, c, by rw [hv, List.length_map]⟩
  obtain ⟨tf, htf⟩ : ∃ f, blkN gs = f := ⟨_, rfl⟩
  rw [htf]
  have TF0 := Lib.hid (show tf 0 = 0 by rw [← htf]; rfl)
  have TFS := Lib.hid (show ∀ k, (hk : k < gs.length) → tf (k + 1) = tf k + (gs[k]'hk).c * (gs[k]'hk).r from fun k hk => by rw [← htf]; simp only [blkN, smN]; simp [List.getD_eq_getElem?_getD, hk])
  have TFB := Lib.hid (show ∀ k, k ≤ gs.length → 0 ≤ tf k ∧ tf k ≤ 144000000 * (k : Int) from fun k hk => by
    rw [← htf]
    refine smN_in k (fun j hj => ?_)
    have hj' : j < gs.length := by omega
    have e : gs.getD j noGr = gs[j]'hj' := by simp [List.getD_eq_getElem?_getD, hj']
    have h2 := hb _ (List.getElem_mem hj')
    simp only [e]
    exact mul_in (A := 12000) (B := 12000) h2.1.1 h2.1.2 h2.2.1 h2.2.2)
  have HB := Lib.hid hb
  obtain ⟨N, hN⟩ : ∃ N, N = w.heap.size := ⟨_, rfl⟩
  have HN := Lib.hid hN
  rw [← hN]
  clear htf hb hN
  go_enter Try.func27, Try.ntmps27
  go_upto_region 1 with fail
  rw [← HN.out]
  refine wp_world (fun W => Blk W N #[.int .i64 uw, .int .i64 uh, .int .i64 ac, .int .i64 dn, .slice ub un uc, .slice gb gs.length gc] 44 ∧ Below w.heap.size w W) ⟨Blk.new' _ _ _ HN.out, (Below.refl _ _).alloc (Nat.le_refl _) _⟩ ?_
  rintro W ⟨bN, hB⟩
  go_wp2
  go_loopw [3, 4] (fun nv iv wr => ∃ k : Nat, k ≤ gs.length ∧ nv = .int .i64 (tf k) ∧ iv = .int .i64 k ∧ Blk wr N #[.int .i64 uw, .int .i64 uh, .int .i64 ac, .int .i64 dn, .slice ub un uc, .slice gb gs.length gc] 44 ∧ Below w.heap.size w wr) (fun _ iv _ => gs.length - (intOf iv).toNat)
  case atStart => exact ⟨0, Nat.zero_le _, by rw [TF0.out], rfl, bN, hB⟩
  case round =>
    clear bN hB
    obtain ⟨k, hk, rfl, rfl, bN, hB⟩ := hrel
    have q5 : wr.cell? ⟨N, 5, none⟩ = some (.slice gb gs.length gc) := bN.cell 5
    by_cases hlt : k < gs.length
    · have tl : decide (k < gs.length) = true := by simpa using hlt
      have hE := h.below hB
      obtain ⟨a, cap', he, c0, cj⟩ := hE.get (by decide) (i := k) (by simpa using hlt)
      rw [List.length_map] at he
      simp only [Value.slice.injEq] at he
      obtain ⟨rfl, -, rfl⟩ := he
      rw [getD_map' _ _ _ _ hlt] at c0 cj
      have c1 := cj 1 (by decide) (by decide)
      have j0 : (0 : Int) ≤ (k : Int) := by omega
      have j1 : (k : Int) < (gs.length : Int) := by omega
      have h1 := TFS.out k hlt
      have h2 := TFB.out k (by omega)
      have h3 := HB.out _ (List.getElem_mem hlt)
      obtain ⟨⟨g0, g1, g2, g3⟩, hg⟩ : ∃ g, gs[k]'hlt = g := ⟨_, rfl⟩
      rw [hg] at c0 c1 h1 h3
      simp only [GridV.cells, List.getElem?_cons_zero, List.getElem?_cons_succ] at c0 c1 h1 h3
      obtain ⟨m, hm⟩ : ∃ m, g0 * g1 = m := ⟨_, rfl⟩
      have hm1 := mul_in (a := g0) (b := g1) (A := 12000) (B := 12000) h3.1.1 h3.1.2 h3.2.1 h3.2.2
      rw [hm] at hm1 h1
      have e1 : wrap64 (g0 * g1) = m := by rw [hm]; exact IntWalk.wrap64_in _ (by omega)
      have e2 : wrap64 (tf k + m) = tf (k + 1) := by rw [h1]; exact IntWalk.wrap64_in _ (by omega)
      have E3 := Lib.hid (show Value.int .i64 (wrap64 (tf k + wrap64 (g0 * g1))) = .int .i64 (tf (k + 1)) by rw [e1, e2])
      clear e1 e2 hm hm1 h1 h2 h3 hg cj hE
      go_upto_region 5 with fail
      go_quiet (fail)
      go_wp2
      go_roundw
      case rel => exact ⟨k + 1, by omega, E3.out, by go_num, bN.drewN _, Below.drewN' hB _⟩
      case measure => simp [intOf]; omega
    · obtain rfl : k = gs.length := by omega
      have tl : decide (gs.length < gs.length) = false := by simp
      go_wp2
      go_ret
      exact ⟨rfl, by rw [HN.out]; exact hB⟩
end Go.Proofs.Ytgmhhocpdfdplaa
/- The reference's New of a frame, walked: where it is refused ahead of the frame. -/
namespace Go.Proofs.Ytgmhhocpdfdplaa
open Go.RowKit
set_option maxRecDepth 100000
set_option maxHeartbeats 2000000
/-- As mxN, from 1 on. -/
def m1N (f : Nat → Int) : Nat → Int
  | 0 => 1
  | k + 1 => max (m1N f k) (f k)
theorem m1N_eq (f : Nat → Int) : ∀ n, m1N f n = max 1 (mxN f n)
  | 0 => by simp only [m1N, mxN]; omega
  | n + 1 => by
    simp only [m1N, mxN, m1N_eq f n]
    omega
theorem m1N_hh {x y : Int} {qs : List (Int × Int)} (h : FrOk x y qs) : m1N (hA qs) qs.length = hhN qs := by
  rw [m1N_eq]
  have := h.hh
  show max 1 (hhN qs) = hhN qs
  omega
theorem m1N_vv {x y : Int} {qs : List (Int × Int)} (h : FrOk x y qs) : m1N (vA qs) qs.length = vvN qs := by
  rw [m1N_eq]
  have := h.vv
  show max 1 (vvN qs) = vvN qs
  omega
theorem smN_congr {f g : Nat → Int} : ∀ n, (∀ k, k < n → f k = g k) → smN f n = smN g n
  | 0, _ => rfl
  | n + 1, h => by
    simp only [smN]
    rw [smN_congr n (fun k hk => h k (by omega)), h n (by omega)]
theorem blkN_tot {x y : Int} {qs : List (Int × Int)} : blkN (gridsN x y qs) (gridsN x y qs).length = totN x y qs := by
  have hl : (gridsN x y qs).length = qs.length := by simp [gridsN]
  rw [hl]
  unfold blkN totN
  refine smN_congr _ fun k hk => ?_
  have e : (gridsN x y qs).getD k noGr = gridP x y (hhN qs) (vvN qs) (acN x qs) (dnN y qs) (qs[k]'hk) := by
    rw [List.getD_eq_getElem?_getD, List.getElem?_eq_getElem (by omega)]
    simp [gridsN]
  rw [e]
  simp [gridP, hA, vA, List.getD_eq_getElem?_getD, hk]
theorem grids_in {x y : Int} {qs : List (Int × Int)} (h : FrOk x y qs) : ∀ g ∈ gridsN x y qs, (0 ≤ g.c ∧ g.c ≤ 12000) ∧ 0 ≤ g.r ∧ g.r ≤ 12000 := by
  intro g hg
  obtain ⟨p, hp, rfl⟩ := List.mem_map.1 hg
  obtain ⟨k, hk, rfl⟩ := List.getElem_of_mem hp
  have h2 := h.ps k hk
  have e1 : (qs[k]'hk).1 = hA qs k := by simp [hA, List.getD_eq_getElem?_getD, hk]
  have e2 : (qs[k]'hk).2 = vA qs k := by simp [vA, List.getD_eq_getElem?_getD, hk]
  simp only [gridP]
  rw [e1, e2]
  have hac := h.ac
  have hdn := h.dn
  exact ⟨mul_in (A := 3000) (B := 4) hac.1 hac.2 (by omega) h2.2.1, mul_in (A := 3000) (B := 4) hdn.1 hdn.2 (by omega) h2.2.2.2⟩
/-- What the reference's New answers. -/
def RefNew (x y : Int) (ps : List (Int × Int)) (lo : Nat) (r : Ending) (w' : World) : Prop :=
  ∃ v, r = .returned (.tuple #[v, .int .i64 (newE x y ps)]) ∧ (newE x y ps ≠ 0 → v = .agg zeroRF) ∧
    (newE x y ps = 0 → ∃ u gv, v = .agg #[.int .i64 (8 * hhN (partsOf ps)), .int .i64 (8 * vvN (partsOf ps)), .int .i64 (acN x (partsOf ps)), .int .i64 (dnN y (partsOf ps)), u, gv] ∧
      Row w' lo 112 2 u (partsOf ps).length ((partsOf ps).map partC).flatten ∧ Row w' lo 107 4 gv (gridsN x y (partsOf ps)).length ((gridsN x y (partsOf ps)).map GridV.cells).flatten)
theorem anyF_hit (p : Nat → Bool) : ∀ (f i k : Nat), i ≤ k → k < i + f → p k = true → anyF p f i = true
  | 0, i, k, h1, h2, _ => absurd h2 (by omega)
  | f + 1, i, k, h1, h2, h3 => by
    by_cases hp : p i = true
    · exact anyF_stop p f i hp
    · rw [Bool.not_eq_true] at hp
      rw [anyF_go p f i hp]
      exact anyF_hit p f (i + 1) k (by rcases Nat.lt_or_ge i k with h | h; exact h; exact absurd (show p i = true by rw [show i = k by omega]; exact h3) (by rw [hp]; decide)) (by omega) h3
theorem anyF_none (p : Nat → Bool) : ∀ (f i : Nat), (∀ k, i ≤ k → k < i + f → p k = false) → anyF p f i = false
  | 0, _, _ => rfl
  | f + 1, i, h => by
    rw [anyF_go p f i (h i (Nat.le_refl _) (by omega))]
    exact anyF_none p f (i + 1) (fun k h1 h2 => h k (by omega) (by omega))
theorem newE_bad {x y : Int} {ps : List (Int × Int)} {e : Int} (h : rightE x y ps = e) (he : e ≠ 0) : newE x y ps = e := by
  unfold newE
  rw [h, if_pos he]
theorem ref_new (x y : Int) (pb : Option Addr) (cap : Nat) (ps : List (Int × Int)) (hl : ps.length ≤ 1000000) (w : World) (h : IsParts w (.slice pb ps.length cap) ps) :
    Calls Try.prog 70 #[.int .i64 x, .int .i64 y, .slice pb ps.length cap] w fun r w' => RefNew x y ps w.heap.size r w' ∧ Below w.heap.size w w' := by
  obtain ⟨N, hN⟩ : ∃ N, N = w.heap.size := ⟨_, rfl⟩
  have HN := Lib.hid hN
  rw [← hN]
  have hbe : Below w.heap.size w (w.alloc (.cells #[.int .i64 0, .int .i64 0, .int .i64 0, .int .i64 0, .slice none 0 0, .slice none 0 0] 44)) := (Below.refl _ _).alloc (Nat.le_refl _) _
  have HP := Lib.hid (fun W (hb : Below N w W) => h.below (by rw [hN] at hb; exact hb))
  clear hN
  go_enter Try.func70, Try.ntmps70
  go_upto_region 1 with fail
  rw [← HN.out]
  refine wp_world (fun W => Blk W N #[.int .i64 0, .int .i64 0, .int .i64 0, .int .i64 0, .slice none 0 0, .slice none 0 0] 44 ∧ Below N w W) ⟨Blk.new' _ _ _ HN.out, by rw [HN.out]; exact hbe⟩ ?_
  clear hbe h
  rintro W ⟨bN, hB⟩
  have fin : ∀ (W : World) (e : Int), rightE x y ps = e → e ≠ 0 → Below N w W → RefNew x y ps N (.returned (.tuple #[.agg #[.int .i64 0, .int .i64 0, .int .i64 0, .int .i64 0, .slice none 0 0, .slice none 0 0], .int .i64 e])) W ∧ Below N w W := fun W e h1 h2 h3 => by
    have h4 := newE_bad h1 h2
    exact ⟨⟨.agg zeroRF, by rw [h4]; rfl, fun _ => rfl, fun h => absurd (h4 ▸ h) h2⟩, h3⟩
  have FIN := Lib.hid fin
  clear fin
  by_cases c1 : x < 1 ∨ y < 1 ∨ ps.length = 0
  · have hr : rightE x y ps = 7 := by
      unfold rightE
      rw [if_pos (by rcases c1 with h | h | h; exact .inl h; exact .inr (.inl h); exact .inr (.inr (.inl h)))]
    have hcases : decide (x < 1) = true ∨ (decide (x < 1) = false ∧ decide (y < 1) = true) ∨ (decide (x < 1) = false ∧ decide (y < 1) = false ∧ decide (ps.length = 0) = true) := by
      simp only [decide_eq_true_eq, decide_eq_false_iff_not]; omega
    have HR := Lib.hid hr
    clear hr c1
    rcases hcases with t1 | ⟨t1, t2⟩ | ⟨t1, t2, t3⟩
    · go_wp2_with (first | refine wpList_buildTo rfl 44 _ rfl (some 28) rfl #[.int .i64 0, .int .i64 0, .int .i64 0, .int .i64 0, .slice none 0 0, .slice none 0 0] (by kernel_rfl) ?_ | refine wpList_store_row rfl 44 _ _ rfl N _ rfl rfl 44 _ bN (by kernel_rfl) rfl (by simp [Value.oneCell']) ?_)
      refine bodyPost_ret (results_row_tmp rfl _ _ N 44 _ _ rfl (bN.row _) Try.underlying44 rfl (by kernel_rfl)) rfl ?_
      exact FIN.out _ 7 HR.out (by decide) (Below.setRow hB (Nat.le_refl _) _)
    · go_wp2_with (first | refine wpList_buildTo rfl 44 _ rfl (some 28) rfl #[.int .i64 0, .int .i64 0, .int .i64 0, .int .i64 0, .slice none 0 0, .slice none 0 0] (by kernel_rfl) ?_ | refine wpList_store_row rfl 44 _ _ rfl N _ rfl rfl 44 _ bN (by kernel_rfl) rfl (by simp [Value.oneCell']) ?_)
      refine bodyPost_ret (results_row_tmp rfl _ _ N 44 _ _ rfl (bN.row _) Try.underlying44 rfl (by kernel_rfl)) rfl ?_
      exact FIN.out _ 7 HR.out (by decide) (Below.setRow hB (Nat.le_refl _) _)
    · have t3' : ((ps.length : Int) == 0) = true := by rw [of_decide_eq_true t3]; rfl
      have t3'' : decide ((ps.length : Int) = 0) = true := by rw [of_decide_eq_true t3]; rfl
      go_wp2_with (first | refine wpList_buildTo rfl 44 _ rfl (some 28) rfl #[.int .i64 0, .int .i64 0, .int .i64 0, .int .i64 0, .slice none 0 0, .slice none 0 0] (by kernel_rfl) ?_ | refine wpList_store_row rfl 44 _ _ rfl N _ rfl rfl 44 _ bN (by kernel_rfl) rfl (by simp [Value.oneCell']) ?_)
      refine bodyPost_ret (results_row_tmp rfl _ _ N 44 _ _ rfl (bN.row _) Try.underlying44 rfl (by kernel_rfl)) rfl ?_
      exact FIN.out _ 7 HR.out (by decide) (Below.setRow hB (Nat.le_refl _) _)
  have hx1 : 1 ≤ x := by omega
  have hy1 : 1 ≤ y := by omega
  have hn1 : 1 ≤ ps.length := by omega
  have t1 : decide (x < 1) = false := decide_eq_false (by omega)
  have t2 : decide (y < 1) = false := decide_eq_false (by omega)
  have t3 : decide (ps.length = 0) = false := decide_eq_false (by omega)
  have t3' : ((ps.length : Int) == 0) = false := by rw [beq_eq_false_iff_ne]; omega
  have t3'' : decide ((ps.length : Int) = 0) = false := decide_eq_false (by omega)
  clear c1
  go_wp2
  clear t1 t2 t3 t3' t3''
  go_loopw [8] (fun iv wr => ∃ i : Nat, i ≤ ps.length ∧ iv = .int .i64 i ∧ EarlyB ps i ∧ Blk wr N #[.int .i64 0, .int .i64 0, .int .i64 0, .int .i64 0, .slice none 0 0, .slice none 0 0] 44 ∧ Below N w wr) (fun iv _ => ps.length - (intOf iv).toNat)
  case atStart => exact ⟨0, Nat.zero_le _, rfl, ⟨fun j hj => absurd hj (by omega)⟩, bN, hB⟩
  case round =>
    clear bN hB
    obtain ⟨i, hi, rfl, hE, bN, hB⟩ := hrel
    by_cases hlt : i < ps.length
    · have tl : decide (i < ps.length) = true := by simpa using hlt
      obtain ⟨a, rfl, c0, c1⟩ := (HP.out wr hB).at hlt
      have j0 : (0 : Int) ≤ (i : Int) := by omega
      have j1 : (i : Int) < (ps.length : Int) := by omega
      have hgd : ps.getD i (0, 0) = ps[i]'hlt := by simp [List.getD_eq_getElem?_getD, hlt]
      obtain ⟨⟨p0, p1⟩, hp⟩ : ∃ p, ps[i]'hlt = p := ⟨_, rfl⟩
      rw [hp] at c0 c1 hgd
      simp only at c0 c1
      by_cases hbad : badP (p0, p1) = true
      · have hr : rightE x y ps = 7 := by
          have hb : anyBad ps = true := by
            unfold anyBad
            exact anyF_hit _ _ 0 i (Nat.zero_le _) (by omega) (by rw [hgd]; exact hbad)
          unfold rightE
          rw [if_pos (.inr (.inr (.inr hb)))]
        have HR := Lib.hid hr
        have hcases : decide (p0 < 1) = true ∨ (decide (p0 < 1) = false ∧ decide (p0 > 4) = true) ∨ (decide (p0 < 1) = false ∧ decide (p0 > 4) = false ∧ decide (p1 < 1) = true) ∨ (decide (p0 < 1) = false ∧ decide (p0 > 4) = false ∧ decide (p1 < 1) = false ∧ decide (p1 > 4) = true) := by
          simp only [badP, facB, Bool.or_eq_true, Bool.not_eq_true', decide_eq_false_iff_not, decide_eq_true_eq] at hbad ⊢
          omega
        clear hr hbad hE hgd hp
        rcases hcases with t1 | ⟨t1, t2⟩ | ⟨t1, t2, t3⟩ | ⟨t1, t2, t3, t4⟩
        all_goals
          go_wp2_with (first | refine wpList_buildTo rfl 44 _ rfl (some 65) rfl #[.int .i64 0, .int .i64 0, .int .i64 0, .int .i64 0, .slice none 0 0, .slice none 0 0] (by kernel_rfl) ?_ | refine wpList_store_row rfl 44 _ _ rfl N _ rfl rfl 44 _ bN (by kernel_rfl) rfl (by simp [Value.oneCell']) ?_)
          refine bodyPost_ret (results_row_tmp rfl _ _ N 44 _ _ rfl (bN.row _) Try.underlying44 rfl (by kernel_rfl)) rfl ?_
          exact FIN.out _ 7 HR.out (by decide) (Below.setRow hB (Nat.le_refl _) _)
      · rw [Bool.not_eq_true] at hbad
        have hE2 : EarlyB ps (i + 1) := ⟨fun j hj => by
          by_cases hji : j = i
          · rw [hji, hgd]; exact hbad
          · exact hE.z j (by omega)⟩
        have hin : (1 ≤ p0 ∧ p0 ≤ 4) ∧ 1 ≤ p1 ∧ p1 ≤ 4 := by
          simp only [badP, facB, Bool.or_eq_false_iff, Bool.not_eq_false', decide_eq_true_eq] at hbad
          exact hbad
        have t1 : decide (p0 < 1) = false := decide_eq_false (by omega)
        have t2 : decide (p0 > 4) = false := decide_eq_false (by omega)
        have t3 : decide (p1 < 1) = false := decide_eq_false (by omega)
        have t4 : decide (p1 > 4) = false := decide_eq_false (by omega)
        have HE := Lib.hid hE2
        clear hE hE2 hbad hin hgd hp
        go_wp2
        go_roundw
        case rel => exact ⟨i + 1, by omega, by go_num, HE.out, bN, hB⟩
        case measure => simp [intOf]; omega
    · obtain rfl : i = ps.length := by omega
      have tl : decide (ps.length < ps.length) = false := by simp
      have hany : anyBad ps = false := by
        unfold anyBad
        exact anyF_none _ _ 0 (fun j _ hj => hE.z j (by omega))
      have hno7 : ¬ (x < 1 ∨ y < 1 ∨ ps.length = 0 ∨ anyBad ps = true) := by
        rintro (h | h | h | h)
        · omega
        · omega
        · omega
        · rw [hany] at h; cases h
      have HNO := Lib.hid hno7
      clear hany hno7 hE
      have F2 : ∀ e, (if 16384 < x ∨ 16384 < y then (11 : Int) else if 4 < ps.length then 12 else 0) = e → rightE x y ps = e := fun e h => by unfold rightE; rw [if_neg HNO.out]; exact h
      have HF2 := Lib.hid F2
      clear F2 HNO
      by_cases c2 : 16384 < x ∨ 16384 < y
      · have hr := HF2.out 11 (by rw [if_pos c2])
        have HR := Lib.hid hr
        have hcases : decide (x > 16384) = true ∨ (decide (x > 16384) = false ∧ decide (y > 16384) = true) := by
          simp only [decide_eq_true_eq, decide_eq_false_iff_not]; omega
        clear hr c2
        rcases hcases with t1 | ⟨t1, t2⟩
        all_goals
          go_wp2_with (first | refine wpList_buildTo rfl 44 _ rfl (some 72) rfl #[.int .i64 0, .int .i64 0, .int .i64 0, .int .i64 0, .slice none 0 0, .slice none 0 0] (by kernel_rfl) ?_ | refine wpList_store_row rfl 44 _ _ rfl N _ rfl rfl 44 _ bN (by kernel_rfl) rfl (by simp [Value.oneCell']) ?_)
          refine bodyPost_ret (results_row_tmp rfl _ _ N 44 _ _ rfl (bN.row _) Try.underlying44 rfl (by kernel_rfl)) rfl ?_
          exact FIN.out _ 11 HR.out (by decide) (Below.setRow hB (Nat.le_refl _) _)
      have hx2 : x ≤ 16384 := by omega
      have hy2 : y ≤ 16384 := by omega
      have t1 : decide (x > 16384) = false := decide_eq_false (by omega)
      have t2 : decide (y > 16384) = false := decide_eq_false (by omega)
      by_cases c3 : 4 < ps.length
      · have hr := HF2.out 12 (by rw [if_neg c2, if_pos c3])
        have HR := Lib.hid hr
        have t3 : decide ((ps.length : Int) > 4) = true := decide_eq_true (by omega)
        have t3' : decide (4 < ps.length) = true := decide_eq_true c3
        clear hr c2 c3
        go_wp2_with (first | refine wpList_buildTo rfl 44 _ rfl (some 76) rfl #[.int .i64 0, .int .i64 0, .int .i64 0, .int .i64 0, .slice none 0 0, .slice none 0 0] (by kernel_rfl) ?_ | refine wpList_store_row rfl 44 _ _ rfl N _ rfl rfl 44 _ bN (by kernel_rfl) rfl (by simp [Value.oneCell']) ?_)
        refine bodyPost_ret (results_row_tmp rfl _ _ N 44 _ _ rfl (bN.row _) Try.underlying44 rfl (by kernel_rfl)) rfl ?_
        exact FIN.out _ 12 HR.out (by decide) (Below.setRow hB (Nat.le_refl _) _)
      have hr0 := HF2.out 0 (by rw [if_neg c2, if_neg c3])
      have t3 : decide ((ps.length : Int) > 4) = false := decide_eq_false (by omega)
      have t3' : decide (4 < ps.length) = false := decide_eq_false c3
      have hn4 : ps.length ≤ 4 := by omega
      have HOK := Lib.hid (rightE_ok hr0)
      have HR0 := Lib.hid hr0
      clear c2 c3 hr0 FIN HF2
      obtain ⟨pa, rfl⟩ : ∃ a, pb = some a := by
        obtain ⟨a, ha, -⟩ := (HP.out wr hB).at (i := 0) (by omega)
        exact ⟨a, ha⟩
      obtain ⟨F, hF⟩ : ∃ F, F = wr.heap.size := ⟨_, rfl⟩
      have hNF : N < F := by rw [hF]; exact bN.lt
      have hpar := (HP.out wr hB).ar
      rw [List.length_map] at hpar
      have hp1 : ∀ u ∈ (ps.map partC).flatten, u.oneCell' = true := fun u hu => by
        obtain ⟨c, hc, hu⟩ := List.mem_flatten.1 hu
        obtain ⟨p, _, rfl⟩ := List.mem_map.1 hc
        simp only [partC, List.mem_cons, List.not_mem_nil, or_false] at hu
        rcases hu with rfl | rfl <;> rfl
      go_upto_region 13 with fail
      rw [← hF]
      have hal := (Below.refl wr.heap.size wr).alloc (Nat.le_refl _) (.cells #[.int .i64 0, .int .i64 0, .int .i64 0, .int .i64 0, .slice none 0 0, .slice none 0 0] 44)
      refine wp_world (fun W => NR N F (.slice none 0 0) (.slice none 0 0) [] [] 0 0 0 0 w W ∧ Ar W 2 (.slice (some pa) ps.length cap) ps.length (ps.map partC).flatten) ⟨⟨bN.alloc _, Blk.new' _ _ _ hF, Row.nil _ _ _ _, Row.nil _ _ _ _, hNF, hB.alloc (Nat.le_of_lt bN.lt) _⟩, hpar.below hal⟩ ?_
      clear hal hpar bN hB hF
      rintro W0 ⟨hR, hpar⟩
      have q4 : W0.cell? ⟨F, 4, none⟩ = some (.slice none 0 0) := hR.bF.cell 4
      have hF0 := hR.bF.lt
      go_upto_if 84 with (refine wpList_append_copy _ rfl _ _ 41 rfl N 112 _ _ 2 16 rfl rfl rfl rfl rfl rfl rfl pa ps.length cap (ps.map partC).flatten rfl hpar.1 (fun j u hj => hpar.cell hj) hp1 (by simp only [maxLen]; omega) (by omega) (by omega) (fun v' w2 hR1 hg hat => ?_); obtain ⟨b2, c2, rfl⟩ := hR1.len; have bF' := hR.bF.grown hg (by simp); have r4 := bF'.cell 4; have f4 := bF'.free 4; have bN' := hR.bN.grown hg (by simp); simp only [Act.put, List.setIfInBounds_toArray, List.set_cons_zero, List.set_cons_succ])
      have hNR : NR N F (.slice b2 ps.length c2) (.slice none 0 0) ps [] 0 0 0 0 w (w2.setCell ⟨F, 4, none⟩ (.slice b2 ps.length c2)) :=
        ⟨bN'.other _ _ (Nat.ne_of_lt hNF), bF'.set 4 _, hR1.other _ _ (hR1.typed bF' (by decide)), Row.nil _ _ _ _, hNF, (Below.grown hR.hB (by omega) hg (fun g e => by cases e)).setCell (Nat.le_of_lt hNF) _⟩
      refine wp_world (NR N F (.slice b2 ps.length c2) (.slice none 0 0) ps [] 0 0 0 0 w) hNR ?_
      clear hNR hR hR1 hpar q4 hF0 hg hat bF' r4 f4 bN' hp1
      clear W0 w2 wr
      intro W0 hNR
      go_cut [] from 84 (fun wx => ∃ u, NR N F u (.slice none 0 0) (partsOf ps) [] 0 0 0 0 w wx)
      case first =>
        have hF0 : W0.cell? ⟨F, 4, none⟩ = some (.slice b2 ps.length c2) := hNR.bF.cell 4
        by_cases h1 : ps.length = 1
        · have s1 : ((ps.length : Int) == 1) = true := by rw [h1]; rfl
          have s2 : (ps.length == 1) = true := by simpa using h1
          have s3 : decide ((ps.length : Int) = 1) = true := decide_eq_true (by omega)
          have s4 : decide (ps.length = 1) = true := decide_eq_true h1
          obtain ⟨g, cap', he, hlo, hgs, hc⟩ := hNR.row.cells (by omega)
          simp only [Value.slice.injEq] at he
          obtain ⟨rfl, -, rfl⟩ := he
          have H1 := Lib.hid h1
          have j0 : (0 : Int) < (ps.length : Int) := by omega
          have j1 : (1 : Int) ≤ (ps.length : Int) := by omega
          obtain ⟨hR1, ⟨a0, ha0⟩, hf0, ⟨a1, ha1⟩, hf1⟩ := Row.two h1 hNR.row (.int .i64 1) (.int .i64 1)
          have hgF : F ≠ g := fun e => hNR.rowF g rfl e.symm
          have hgN : N ≠ g := fun e => hNR.row.typed hNR.bN (by decide) g rfl e.symm
          clear h1 hc
          go_wp2
          go_meet
          have e1 : partsOf ps = [(1, 1)] := by unfold partsOf; rw [if_pos H1.out]
          rw [e1]
          rw [H1.out] at hR1
          refine ⟨_, (hNR.bN.other _ _ hgN).other _ _ hgN, (hNR.bF.other _ _ hgF).other _ _ hgF, ?_, Row.nil _ _ _ _, hNF, (hNR.hB.setCell hlo _).setCell hlo _⟩
          rw [H1.out]
          exact hR1
        · have s1 : ((ps.length : Int) == 1) = false := by rw [beq_eq_false_iff_ne]; omega
          have s2 : (ps.length == 1) = false := by simpa using h1
          have s3 : decide ((ps.length : Int) = 1) = false := decide_eq_false (by omega)
          have s4 : decide (ps.length = 1) = false := decide_eq_false h1
          have H1 := Lib.hid h1
          clear h1
          go_wp2
          go_meet
          have e1 : partsOf ps = ps := by unfold partsOf; rw [if_neg H1.out]
          rw [e1]
          exact ⟨_, hNR⟩
      clear hNR
      clear W0
      obtain ⟨u, hNR⟩ := hcut
      have hok := HOK.out.parts
      have hlen := partsOf_len ps
      obtain ⟨qs, hq⟩ : ∃ qs, partsOf ps = qs := ⟨_, rfl⟩
      rw [hq] at hNR hok hlen
      have HQ := Lib.hid hq
      have HOQ := Lib.hid hok
      have hn3 : 1 ≤ qs.length := by omega
      have hn5 : qs.length ≤ 4 := by omega
      have HLEN := Lib.hid hlen
      have hui := hok.iu
      obtain ⟨hf, hhf⟩ : ∃ f, m1N (hA qs) = f := ⟨_, rfl⟩
      obtain ⟨vf, hvf⟩ : ∃ f, m1N (vA qs) = f := ⟨_, rfl⟩
      obtain ⟨uf, huf⟩ : ∃ f, smN (fun k => hA qs k * vA qs k) = f := ⟨_, rfl⟩
      have HF0 := Lib.hid (show hf 0 = 1 by rw [← hhf]; rfl)
      have VF0 := Lib.hid (show vf 0 = 1 by rw [← hvf]; rfl)
      have UF0 := Lib.hid (show uf 0 = 0 by rw [← huf]; rfl)
      have HFS := Lib.hid (show ∀ k, (hk : k < qs.length) → hf (k + 1) = max (hf k) (qs[k]'hk).1 from fun k hk => by rw [← hhf]; simp only [m1N, hA]; simp [List.getD_eq_getElem?_getD, hk])
      have VFS := Lib.hid (show ∀ k, (hk : k < qs.length) → vf (k + 1) = max (vf k) (qs[k]'hk).2 from fun k hk => by rw [← hvf]; simp only [m1N, vA]; simp [List.getD_eq_getElem?_getD, hk])
      have UFS := Lib.hid (show ∀ k, (hk : k < qs.length) → uf (k + 1) = uf k + (qs[k]'hk).1 * (qs[k]'hk).2 from fun k hk => by rw [← huf]; simp only [smN, hA, vA]; simp [List.getD_eq_getElem?_getD, hk])
      rw [huf] at hui
      have HUI := Lib.hid hui
      have HPK := Lib.hid (show ∀ k, (hk : k < qs.length) → (1 ≤ (qs[k]'hk).1 ∧ (qs[k]'hk).1 ≤ 4) ∧ 1 ≤ (qs[k]'hk).2 ∧ (qs[k]'hk).2 ≤ 4 from fun k hk => by
        have h1 := hok.ps k hk
        simp only [hA, vA] at h1
        simp [List.getD_eq_getElem?_getD, hk] at h1
        omega)
      have HHL := Lib.hid (show hf qs.length = hhN qs by rw [← hhf]; exact m1N_hh hok)
      have HVL := Lib.hid (show vf qs.length = vvN qs by rw [← hvf]; exact m1N_vv hok)
      have HUL := Lib.hid (show uf qs.length = iuN qs by rw [← huf]; rfl)
      clear hhf hvf huf hok hq hui hlen hn1 hn4 hi hlt tl t1 t2 t3 t3'
      obtain ⟨bu, cu, rfl⟩ := hNR.row.len
      go_wp2
      go_loopw [10, 11, 12, 13] (fun hv vv sv iv wr => ∃ k : Nat, k ≤ ps.length ∧ hv = .int .i64 (hf k) ∧ vv = .int .i64 (vf k) ∧ sv = .int .i64 (uf k) ∧ iv = .int .i64 k ∧ NR N F (.slice bu qs.length cu) (.slice none 0 0) qs [] 0 0 0 0 w wr) (fun _ _ _ iv _ => ps.length - (intOf iv).toNat)
      case atStart => exact ⟨0, Nat.zero_le _, by rw [HF0.out], by rw [VF0.out], by rw [UF0.out], rfl, hNR⟩
      case round =>
        clear hNR
        obtain ⟨k, hk, rfl, rfl, rfl, rfl, hNR⟩ := hrel
        by_cases hlt : k < ps.length
        · have tl : decide (k < ps.length) = true := by simpa using hlt
          have hltq : k < qs.length := by rw [HLEN.out]; exact hlt
          obtain ⟨a, ha, c0, c1⟩ := (hNR.parts (by omega)).at hltq
          obtain rfl := ha
          have q4 : World.cell? _ ⟨F, 4, none⟩ = some (.slice (some a) qs.length cu) := hNR.bF.cell 4
          have j0 : (0 : Int) ≤ (k : Int) := by omega
          have j1 : (k : Int) < (qs.length : Int) := by omega
          obtain ⟨⟨p0, p1⟩, hp⟩ : ∃ p, qs[k]'hltq = p := ⟨_, rfl⟩
          have h1 := HFS.out k hltq
          have h2 := VFS.out k hltq
          have h3 := UFS.out k hltq
          have h4 := HPK.out k hltq
          have h5 := HUI.out k (by omega)
          rw [hp] at h1 h2 h3 h4 c0 c1
          obtain ⟨⟨h6, h7⟩, h8, h9⟩ := h4
          simp only at h1 h2 h3 h6 h7 h8 h9 c0 c1
          obtain ⟨m, hm⟩ : ∃ m, p0 * p1 = m := ⟨_, rfl⟩
          have hm1 := mul_in (a := p0) (b := p1) (A := 4) (B := 4) (by omega) h7 (by omega) h9
          rw [hm] at hm1 h3
          have e1 : wrap64 (p0 * p1) = m := by rw [hm]; exact IntWalk.wrap64_in _ (by omega)
          have e2 : wrap64 (uf k + m) = uf (k + 1) := by rw [h3]; exact IntWalk.wrap64_in _ (by omega)
          have ES := Lib.hid (show Value.int .i64 (wrap64 (uf k + wrap64 (p0 * p1))) = .int .i64 (uf (k + 1)) by rw [e1, e2])
          have H1 := Lib.hid h1; have H2 := Lib.hid h2
          clear e1 e2 h3 hm hp hm1 h1 h2 h5
          obtain ⟨M, hM⟩ : ∃ M, M = wr.heap.size := ⟨_, rfl⟩
          go_upto_region 21 with fail
          refine wp_world (fun W => Blk W M #[.int .i64 p0, .int .i64 p1] 112 ∧ NR N F (.slice (some a) qs.length cu) (.slice none 0 0) qs [] 0 0 0 0 w W) ⟨Blk.new' _ _ _ hM, hNR.below ((Below.refl _ _).alloc (Nat.le_refl _) _)⟩ ?_
          rw [← hM]
          clear hM hNR c0 c1 q4
          rintro W1 ⟨bM, hNR⟩
          have k0 := bM.cell 0
          have k1 := bM.cell 1
          by_cases ca : p0 > hf k
          · have ta : decide (p0 > hf k) = true := decide_eq_true ca
            have ea := Lib.hid (show hf (k + 1) = p0 by rw [H1.out]; omega)
            clear ca
            by_cases cb' : p1 > vf k
            · have tb : decide (p1 > vf k) = true := decide_eq_true cb'
              have eb := Lib.hid (show vf (k + 1) = p1 by rw [H2.out]; omega)
              clear cb'
              go_wp2
              go_roundw
              case rel => exact ⟨k + 1, by omega, by rw [ea.out], by rw [eb.out], ES.out, by go_num, hNR⟩
              case measure => simp [intOf]; omega
            · have tb : decide (p1 > vf k) = false := decide_eq_false cb'
              have eb := Lib.hid (show vf (k + 1) = vf k by rw [H2.out]; omega)
              clear cb'
              go_wp2
              go_roundw
              case rel => exact ⟨k + 1, by omega, by rw [ea.out], by rw [eb.out], ES.out, by go_num, hNR⟩
              case measure => simp [intOf]; omega
          · have ta : decide (p0 > hf k) = false := decide_eq_false ca
            have ea := Lib.hid (show hf (k + 1) = hf k by rw [H1.out]; omega)
            clear ca
            by_cases cb' : p1 > vf k
            · have tb : decide (p1 > vf k) = true := decide_eq_true cb'
              have eb := Lib.hid (show vf (k + 1) = p1 by rw [H2.out]; omega)
              clear cb'
              go_wp2
              go_roundw
              case rel => exact ⟨k + 1, by omega, by rw [ea.out], by rw [eb.out], ES.out, by go_num, hNR⟩
              case measure => simp [intOf]; omega
            · have tb : decide (p1 > vf k) = false := decide_eq_false cb'
              have eb := Lib.hid (show vf (k + 1) = vf k by rw [H2.out]; omega)
              clear cb'
              go_wp2
              go_roundw
              case rel => exact ⟨k + 1, by omega, by rw [ea.out], by rw [eb.out], ES.out, by go_num, hNR⟩
              case measure => simp [intOf]; omega
        · obtain rfl : k = ps.length := by omega
          have tl : decide (ps.length < ps.length) = false := by simp
          rw [show hf ps.length = hhN qs by rw [← HLEN.out]; exact HHL.out, show vf ps.length = vvN qs by rw [← HLEN.out]; exact HVL.out, show uf ps.length = iuN qs by rw [← HLEN.out]; exact HUL.out]
          have hE : newE x y ps = (if 1 < ps.length ∧ 10 < iuN qs then 12 else if 16384 < totN x y qs then 11 else 0) := by
            unfold newE
            rw [HR0.out, if_neg (by decide), HQ.out]
          have hhh := HOQ.out.hh
          have hvv := HOQ.out.vv
          have hac := HOQ.out.ac
          have hdn := HOQ.out.dn
          have hiu := HUI.out qs.length (Nat.le_refl _)
          rw [HUL.out] at hiu
          have eac : upI x (8 * hhN qs) = acN x qs := rfl
          have edn : upI y (8 * vvN qs) = dnN y qs := rfl
          have egs : gridsN x y qs = qs.map (gridP x y (hhN qs) (vvN qs) (acN x qs) (dnN y qs)) := rfl
          have etot : totN x y qs = smN (fun k => (acN x qs * hA qs k) * (dnN y qs * vA qs k)) qs.length := rfl
          have EFIN := Lib.hid (show ∀ (W : World) (u gv : Value), newE x y ps = 0 → Row W N 112 2 u qs.length (qs.map partC).flatten → Row W N 107 4 gv (gridsN x y qs).length ((gridsN x y qs).map GridV.cells).flatten → RefNew x y ps N (.returned (.tuple #[.agg #[.int .i64 (8 * hhN qs), .int .i64 (8 * vvN qs), .int .i64 (acN x qs), .int .i64 (dnN y qs), u, gv], .int .i64 0])) W from fun W u gv h0 h1 h2 =>
            ⟨_, by rw [h0], fun h => absurd h0 h, fun _ => ⟨u, gv, by rw [HQ.out], by rw [HQ.out]; exact h1, by rw [HQ.out]; exact h2⟩⟩)
          have EBAD := Lib.hid (show ∀ (W : World) (e : Int), newE x y ps = e → e ≠ 0 → RefNew x y ps N (.returned (.tuple #[.agg #[.int .i64 0, .int .i64 0, .int .i64 0, .int .i64 0, .slice none 0 0, .slice none 0 0], .int .i64 e])) W from fun W e h1 h2 =>
            ⟨.agg zeroRF, by rw [h1]; rfl, fun _ => rfl, fun h => absurd (h1 ▸ h) h2⟩)
          have HTOT := Lib.hid (blkN_tot (x := x) (y := y) (qs := qs))
          have HGIN := Lib.hid (grids_in HOQ.out)
          generalize hhN qs = HH at *
          generalize vvN qs = VV at *
          generalize acN x qs = AC at *
          generalize dnN y qs = DN at *
          generalize iuN qs = IU at *
          have EAC := Lib.hid eac; have EDN := Lib.hid edn; have EGS := Lib.hid egs
          have HE := Lib.hid hE
          clear eac edn egs etot hE HHL HVL HUL HFS VFS UFS HUI HF0 VF0 UF0
          go_upto_region 26 with fail
          obtain ⟨wo, hwo⟩ : ∃ wo : World, wo = wr := ⟨_, rfl⟩
          go_cut [125] from 119 to 125 (fun c wx => c = .bool (decide (1 < ps.length ∧ 10 < IU)) ∧ wx = wo)
          case first =>
            by_cases c1 : 1 < ps.length
            · have t1 : decide ((ps.length : Int) > 1) = true := by simp; omega
              by_cases c2 : 10 < IU
              · have t2 : decide (IU > 10) = true := by simpa using c2
                go_wp2
                go_meet
                exact ⟨by simp; omega, hwo.symm⟩
              · have t2 : decide (IU > 10) = false := by simpa using c2
                go_wp2
                go_meet
                exact ⟨by simp; omega, hwo.symm⟩
            · have t1 : decide ((ps.length : Int) > 1) = false := by simp; omega
              go_wp2
              go_meet
              exact ⟨by simp; omega, hwo.symm⟩
          obtain ⟨rfl, rfl⟩ := hcut
          subst hwo
          by_cases hC : 1 < ps.length ∧ 10 < IU
          · rw [decide_eq_true hC]
            have h12 := Lib.hid (show newE x y ps = 12 by rw [HE.out, if_pos hC])
            clear hC
            have bN := hNR.bN
            have hB := hNR.hB
            go_wp2_with (first | refine wpList_buildTo rfl 44 _ rfl (some 126) rfl #[.int .i64 0, .int .i64 0, .int .i64 0, .int .i64 0, .slice none 0 0, .slice none 0 0] (by kernel_rfl) ?_ | refine wpList_store_row rfl 44 _ _ rfl N _ rfl rfl 44 _ bN (by kernel_rfl) rfl (by simp [Value.oneCell']) ?_)
            refine bodyPost_ret (results_row_tmp rfl _ _ N 44 _ _ rfl (bN.row _) Try.underlying44 rfl (by kernel_rfl)) rfl ?_
            exact ⟨EBAD.out _ 12 h12.out (by decide), Below.setRow hB (Nat.le_refl _) _⟩
          rw [decide_eq_false hC]
          have HE2 := Lib.hid (show newE x y ps = (if 16384 < totN x y qs then 11 else 0) by rw [HE.out, if_neg hC])
          clear hC HE
          have hu1 := ref_cover x (8 * HH) (by omega) (by omega) (by omega) (by omega)
          have hu2 := ref_cover y (8 * VV) (by omega) (by omega) (by omega) (by omega)
          rw [EAC.out] at hu1
          rw [EDN.out] at hu2
          have q0 := hNR.bF.cell 0; have q1 := hNR.bF.cell 1; have q2 := hNR.bF.cell 2; have q3 := hNR.bF.cell 3
          have f0 := hNR.bF.free 0; have f1 := hNR.bF.free 1; have f2 := hNR.bF.free 2; have f3 := hNR.bF.free 3
          obtain ⟨G, hG⟩ : ∃ G, gridP x y HH VV AC DN = G := ⟨_, rfl⟩
          have GP := Lib.hid (show ∀ p, G p = gridP x y HH VV AC DN p from fun p => by rw [hG])
          have GSS := Lib.hid (show gridsN x y qs = qs.map G by rw [EGS.out, hG])
          clear hG EGS
          go_upto_region 31 with (go_at_call 126; refine (hu1 _).mono ?_; rintro r wz ⟨rfl, rfl⟩)
          clear hu1
          go_wp2_with (go_at_call 126; refine (hu2 _).mono ?_; rintro r wz ⟨rfl, rfl⟩)
          clear hu2 q0 q1 q2 q3 f0 f1 f2 f3
          go_loopw [15] (fun iv wr => ∃ k : Nat, k ≤ ps.length ∧ iv = .int .i64 k ∧ ∃ gv gs, TakenG G qs k gs ∧ NR N F (.slice bu qs.length cu) gv qs gs (8 * HH) (8 * VV) AC DN w wr) (fun iv _ => ps.length - (intOf iv).toNat)
          case atStart => exact ⟨0, Nat.zero_le _, rfl, _, _, TakenG.zero _ _, (((hNR.setUw _).setUh _).setAc _).setDn _⟩
          case round =>
           clear hNR
           obtain ⟨k, hk, rfl, gv, gs, hT, hNR⟩ := hrel
           by_cases hlt : k < ps.length
           · have tl : decide (k < ps.length) = true := by simpa using hlt
             have hltq : k < qs.length := by rw [HLEN.out]; exact hlt
             obtain ⟨a, ha, c0, c1⟩ := (hNR.parts (by omega)).at hltq
             obtain rfl := ha
             obtain ⟨bv, cv, rfl⟩ := hNR.grid.len
             have q4 : World.cell? _ ⟨F, 4, none⟩ = some (.slice (some a) qs.length cu) := hNR.bF.cell 4
             have j0 : (0 : Int) ≤ (k : Int) := by omega
             have j1 : (k : Int) < (qs.length : Int) := by omega
             obtain ⟨⟨p0, p1⟩, hp⟩ : ∃ p, qs[k]'hltq = p := ⟨_, rfl⟩
             have h4 := HPK.out k hltq
             have h10 := hT.step hltq
             rw [hp] at h4 c0 c1 h10
             obtain ⟨⟨h6, h7⟩, h8, h9⟩ := h4
             simp only at h6 h7 h8 h9 c0 c1
             have hgl : gs.length ≤ 4 := by rw [hT.1]; omega
             obtain ⟨m1, hm1⟩ : ∃ m, AC * p0 = m := ⟨_, rfl⟩
             obtain ⟨m2, hm2⟩ : ∃ m, DN * p1 = m := ⟨_, rfl⟩
             obtain ⟨m3, hm3⟩ : ∃ m, x * p0 = m := ⟨_, rfl⟩
             obtain ⟨m4, hm4⟩ : ∃ m, y * p1 = m := ⟨_, rfl⟩
             have b1 := mul_in (a := AC) (b := p0) (A := 3000) (B := 4) hac.1 hac.2 (by omega) h7
             have b2 := mul_in (a := DN) (b := p1) (A := 3000) (B := 4) hdn.1 hdn.2 (by omega) h9
             have b3 := mul_in (a := x) (b := p0) (A := 16384) (B := 4) (by omega) hx2 (by omega) h7
             have b4 := mul_in (a := y) (b := p1) (A := 16384) (B := 4) (by omega) hy2 (by omega) h9
             rw [hm1] at b1; rw [hm2] at b2; rw [hm3] at b3; rw [hm4] at b4
             have E1 := Lib.hid (show IntKind.i64.wrap (AC * p0) = m1 by rw [hm1]; exact IntWalk.i64_in _ (by omega))
             have E2w := Lib.hid (show IntKind.i64.wrap (DN * p1) = m2 by rw [hm2]; exact IntWalk.i64_in _ (by omega))
             have E3w := Lib.hid (show IntKind.i64.wrap (x * p0) = m3 by rw [hm3]; exact IntWalk.i64_in _ (by omega))
             have E4w := Lib.hid (show IntKind.i64.wrap (y * p1) = m4 by rw [hm4]; exact IntWalk.i64_in _ (by omega))
             have l1 := upI_in (a := m3) (b := HH) b3.1 hhh.1
             have l2 := upI_in (a := upI m3 HH) (b := 8) l1.1 (by decide)
             have l3 := upI_in (a := m4) (b := VV) b4.1 hvv.1
             have l4 := upI_in (a := upI m4 VV) (b := 8) l3.1 (by decide)
             have u1 := ref_cover m3 HH b3.1 (by omega) hhh.1 (by omega)
             have u2 := ref_cover (upI m3 HH) 8 l1.1 (by omega) (by decide) (by decide)
             have u3 := ref_cover m4 VV b4.1 (by omega) hvv.1 (by omega)
             have u4 := ref_cover (upI m4 VV) 8 l3.1 (by omega) (by decide) (by decide)
             have hg : G (p0, p1) = ⟨m1, m2, upI (upI m3 HH) 8, upI (upI m4 VV) 8⟩ := by rw [GP.out]; unfold gridP; simp only; rw [hm1, hm2, hm3, hm4]
             rw [hg] at h10
             generalize upI (upI m3 HH) 8 = z2 at *
             generalize upI m3 HH = z1 at *
             generalize upI (upI m4 VV) 8 = z4 at *
             generalize upI m4 VV = z3 at *
             have H10 := Lib.hid h10
             clear hm1 hm2 hm3 hm4 b1 b2 b3 b4 l1 l2 l3 l4 hg hT hp h10
             obtain ⟨M, hM⟩ : ∃ M, M = wr.heap.size := ⟨_, rfl⟩
             go_upto_region 36 with fail
             refine wp_world (fun W => Blk W M #[.int .i64 p0, .int .i64 p1] 112 ∧ NR N F (.slice (some a) qs.length cu) (.slice bv gs.length cv) qs gs (8 * HH) (8 * VV) AC DN w W) ⟨Blk.new' _ _ _ hM, hNR.below ((Below.refl _ _).alloc (Nat.le_refl _) _)⟩ ?_
             rw [← hM]
             clear hM hNR c0 c1 q4
             rintro W ⟨bM, hNR⟩
             have hGm : ∀ W W', (Blk W M #[.int .i64 p0, .int .i64 p1] 112 ∧ NR N F (.slice (some a) qs.length cu) (.slice bv gs.length cv) qs gs (8 * HH) (8 * VV) AC DN w W) → Below W.heap.size W W' → (Blk W' M #[.int .i64 p0, .int .i64 p1] 112 ∧ NR N F (.slice (some a) qs.length cu) (.slice bv gs.length cv) qs gs (8 * HH) (8 * VV) AC DN w W') := fun W W' h hb => ⟨h.1.below hb h.1.lt, h.2.below hb⟩
             refine wp_region_mono [0, 1, 2, 3, 4, 5, 6, 7, 8, 9, 10, 11, 12, 13, 14, 15, 16, 17, 18, 19, 20, 21, 22, 23, 24, 25, 26, 27] [28, 29, 30] (fun W => Blk W M #[.int .i64 p0, .int .i64 p1] 112 ∧ NR N F (.slice (some a) qs.length cu) (.slice bv gs.length cv) qs gs (8 * HH) (8 * VV) AC DN w W)
               (fun | 17 => some (sFix (.int .i64 z1)) | 18 => some (sFix (.int .i64 z2)) | 24 => some (sFix (.int .i64 z3)) | 25 => some (sFix (.int .i64 z4)) | 27 => some (sSlice 1 #[.int .i64 m1, .int .i64 m2, .int .i64 z2, .int .i64 z4] 107) | _ => none) (fun _ => []) (by kernel_rfl) (by kernel_rfl) ⟨bM.drew, hNR.below (Below.refl _ _).drew⟩ ?_ ?_
             · intro i s hs
               match i with
               | 17 => cases hs; exact fun _ _ => sFix_mono _ _ _
               | 18 => cases hs; exact fun _ _ => sFix_mono _ _ _
               | 24 => cases hs; exact fun _ _ => sFix_mono _ _ _
               | 25 => cases hs; exact fun _ _ => sFix_mono _ _ _
               | 27 => cases hs; exact fun _ _ => sSlice_mono _ _ _ _ _
             clear bM hNR
             simp only [pick, List.getD_cons_succ, List.getD_cons_zero, List.zip_cons_cons, List.zip_nil_right]
             (first | (refine mono_skip (by rfl) ?_; simp only [Act.put, List.setIfInBounds_toArray, List.set_cons_zero, List.set_cons_succ]) | (refine mono_pure (v := ?_) (by rfl) rfl ?_ ?_; rotate_left; (intro wS hS; have nfa := hS.1.cell 0; have nfb := hS.1.cell 1; have nf0 := hS.2.bF.cell 0; have nf1 := hS.2.bF.cell 1; have nf2 := hS.2.bF.cell 2; have nf3 := hS.2.bF.cell 3; go_simp; try with_reducible rfl); simp only [Act.put, List.setIfInBounds_toArray, List.set_cons_zero, List.set_cons_succ]))
             refine mono_pure (v := .slice bv gs.length cv) (by rfl) rfl (fun w1 hS => by have cy : w1.cell? ⟨F, 5, none⟩ = some (.slice bv gs.length cv) := hS.2.bF.cell 5; go_simp; try with_reducible rfl) ?_
             simp only [Act.put, List.setIfInBounds_toArray, List.set_cons_zero, List.set_cons_succ]
             iterate 4 (first | (refine mono_skip (by rfl) ?_; simp only [Act.put, List.setIfInBounds_toArray, List.set_cons_zero, List.set_cons_succ]) | (refine mono_pure (v := ?_) (by rfl) rfl ?_ ?_; rotate_left; (intro wS hS; have nfa := hS.1.cell 0; have nfb := hS.1.cell 1; have nf0 := hS.2.bF.cell 0; have nf1 := hS.2.bF.cell 1; have nf2 := hS.2.bF.cell 2; have nf3 := hS.2.bF.cell 3; go_simp; try with_reducible rfl); simp only [Act.put, List.setIfInBounds_toArray, List.set_cons_zero, List.set_cons_succ]))
             refine mono_pure (v := .int .i64 m1) (by rfl) rfl (fun w1 hS => by go_simp; rw [E1.out]) ?_
             simp only [Act.put, List.setIfInBounds_toArray, List.set_cons_zero, List.set_cons_succ]
             iterate 4 (first | (refine mono_skip (by rfl) ?_; simp only [Act.put, List.setIfInBounds_toArray, List.set_cons_zero, List.set_cons_succ]) | (refine mono_pure (v := ?_) (by rfl) rfl ?_ ?_; rotate_left; (intro wS hS; have nfa := hS.1.cell 0; have nfb := hS.1.cell 1; have nf0 := hS.2.bF.cell 0; have nf1 := hS.2.bF.cell 1; have nf2 := hS.2.bF.cell 2; have nf3 := hS.2.bF.cell 3; go_simp; try with_reducible rfl); simp only [Act.put, List.setIfInBounds_toArray, List.set_cons_zero, List.set_cons_succ]))
             refine mono_pure (v := .int .i64 m2) (by rfl) rfl (fun w1 hS => by go_simp; rw [E2w.out]) ?_
             simp only [Act.put, List.setIfInBounds_toArray, List.set_cons_zero, List.set_cons_succ]
             iterate 3 (first | (refine mono_skip (by rfl) ?_; simp only [Act.put, List.setIfInBounds_toArray, List.set_cons_zero, List.set_cons_succ]) | (refine mono_pure (v := ?_) (by rfl) rfl ?_ ?_; rotate_left; (intro wS hS; have nfa := hS.1.cell 0; have nfb := hS.1.cell 1; have nf0 := hS.2.bF.cell 0; have nf1 := hS.2.bF.cell 1; have nf2 := hS.2.bF.cell 2; have nf3 := hS.2.bF.cell 3; go_simp; try with_reducible rfl); simp only [Act.put, List.setIfInBounds_toArray, List.set_cons_zero, List.set_cons_succ]))
             refine mono_pure (v := .int .i64 m3) (by rfl) rfl (fun w1 hS => by go_simp; rw [E3w.out]) ?_
             simp only [Act.put, List.setIfInBounds_toArray, List.set_cons_zero, List.set_cons_succ]
             (first | (refine mono_skip (by rfl) ?_; simp only [Act.put, List.setIfInBounds_toArray, List.set_cons_zero, List.set_cons_succ]) | (refine mono_pure (v := ?_) (by rfl) rfl ?_ ?_; rotate_left; (intro wS hS; have nfa := hS.1.cell 0; have nfb := hS.1.cell 1; have nf0 := hS.2.bF.cell 0; have nf1 := hS.2.bF.cell 1; have nf2 := hS.2.bF.cell 2; have nf3 := hS.2.bF.cell 3; go_simp; try with_reducible rfl); simp only [Act.put, List.setIfInBounds_toArray, List.set_cons_zero, List.set_cons_succ]))
             refine mono_fix (.int .i64 z1) (by rfl) rfl hGm (by intro w hG; go_simp; first | done | exact ⟨rfl, rfl⟩) (fun w1 hG hH => (u1 w1).mono fun e w' hh => by obtain ⟨rfl, rfl⟩ := hh; exact ⟨rfl, Below.refl _ _⟩) ?_
             simp only [Act.put, List.setIfInBounds_toArray, List.set_cons_zero, List.set_cons_succ]
             refine mono_fix (.int .i64 z2) (by rfl) rfl hGm (by intro w hG; go_simp; first | done | exact ⟨rfl, rfl⟩) (fun w1 hG hH => (u2 w1).mono fun e w' hh => by obtain ⟨rfl, rfl⟩ := hh; exact ⟨rfl, Below.refl _ _⟩) ?_
             simp only [Act.put, List.setIfInBounds_toArray, List.set_cons_zero, List.set_cons_succ]
             iterate 3 (first | (refine mono_skip (by rfl) ?_; simp only [Act.put, List.setIfInBounds_toArray, List.set_cons_zero, List.set_cons_succ]) | (refine mono_pure (v := ?_) (by rfl) rfl ?_ ?_; rotate_left; (intro wS hS; have nfa := hS.1.cell 0; have nfb := hS.1.cell 1; have nf0 := hS.2.bF.cell 0; have nf1 := hS.2.bF.cell 1; have nf2 := hS.2.bF.cell 2; have nf3 := hS.2.bF.cell 3; go_simp; try with_reducible rfl); simp only [Act.put, List.setIfInBounds_toArray, List.set_cons_zero, List.set_cons_succ]))
             refine mono_pure (v := .int .i64 m4) (by rfl) rfl (fun w1 hS => by go_simp; rw [E4w.out]) ?_
             simp only [Act.put, List.setIfInBounds_toArray, List.set_cons_zero, List.set_cons_succ]
             (first | (refine mono_skip (by rfl) ?_; simp only [Act.put, List.setIfInBounds_toArray, List.set_cons_zero, List.set_cons_succ]) | (refine mono_pure (v := ?_) (by rfl) rfl ?_ ?_; rotate_left; (intro wS hS; have nfa := hS.1.cell 0; have nfb := hS.1.cell 1; have nf0 := hS.2.bF.cell 0; have nf1 := hS.2.bF.cell 1; have nf2 := hS.2.bF.cell 2; have nf3 := hS.2.bF.cell 3; go_simp; try with_reducible rfl); simp only [Act.put, List.setIfInBounds_toArray, List.set_cons_zero, List.set_cons_succ]))
             refine mono_fix (.int .i64 z3) (by rfl) rfl hGm (by intro w hG; go_simp; first | done | exact ⟨rfl, rfl⟩) (fun w1 hG hH => (u3 w1).mono fun e w' hh => by obtain ⟨rfl, rfl⟩ := hh; exact ⟨rfl, Below.refl _ _⟩) ?_
             simp only [Act.put, List.setIfInBounds_toArray, List.set_cons_zero, List.set_cons_succ]
             refine mono_fix (.int .i64 z4) (by rfl) rfl hGm (by intro w hG; go_simp; first | done | exact ⟨rfl, rfl⟩) (fun w1 hG hH => (u4 w1).mono fun e w' hh => by obtain ⟨rfl, rfl⟩ := hh; exact ⟨rfl, Below.refl _ _⟩) ?_
             simp only [Act.put, List.setIfInBounds_toArray, List.set_cons_zero, List.set_cons_succ]
             (first | (refine mono_skip (by rfl) ?_; simp only [Act.put, List.setIfInBounds_toArray, List.set_cons_zero, List.set_cons_succ]) | (refine mono_pure (v := ?_) (by rfl) rfl ?_ ?_; rotate_left; (intro wS hS; have nfa := hS.1.cell 0; have nfb := hS.1.cell 1; have nf0 := hS.2.bF.cell 0; have nf1 := hS.2.bF.cell 1; have nf2 := hS.2.bF.cell 2; have nf3 := hS.2.bF.cell 3; go_simp; try with_reducible rfl); simp only [Act.put, List.setIfInBounds_toArray, List.set_cons_zero, List.set_cons_succ]))
             refine mono_slice 1 #[.int .i64 m1, .int .i64 m2, .int .i64 z2, .int .i64 z4] 107 (by rfl) rfl hGm (by intro wS; go_simp; try rfl) (fun g2 => ?_)
             simp only [Act.put, List.setIfInBounds_toArray, List.set_cons_zero, List.set_cons_succ]
             refine mono_nil ?_
             rintro W9 ⟨bM, hNR⟩ ⟨hbs, I, hI1, hI2⟩
             obtain ⟨i1, i2, i3, ⟨g, hg, i4, i5, i6⟩⟩ := hI1 27 _ (upd_self _ _ _)
             obtain rfl : g2 = g := by simpa using hg
             have hNl := hNR.bN.lt
             clear hI1 hI2 u1 u2 u3 u4 hGm
             go_wp2_with (refine wpList_append_Row _ rfl _ _ 42 rfl N 107 _ _ 4 32 rfl rfl rfl rfl rfl rfl _ _ _ rfl hNR.grid _ 1 1 [.int .i64 m1, .int .i64 m2, .int .i64 z2, .int .i64 z4] rfl (by omega) rfl (i6.cells) (by intro u hu; simp at hu; rcases hu with rfl | rfl | rfl | rfl <;> rfl) (by simp only [maxLen]; omega) (by omega) (by omega) (fun v' w2 hR1 hg hat => ?_); obtain ⟨b2, c2, rfl⟩ := hR1.len; have bF' := hNR.bF.grown hg (fun e => hNR.gridF F e.symm rfl); have r5 := bF'.cell 5; have f5 := bF'.free 5; simp only [Act.put, List.setIfInBounds_toArray, List.set_cons_zero, List.set_cons_succ])
             exact ⟨⟨k + 1, by omega, by go_num, _, _, H10.out, hNR.app (g := ⟨m1, m2, z2, z4⟩) hg hR1⟩, by simp [intOf]; omega⟩
           · obtain rfl : k = ps.length := by omega
             have tl : decide (ps.length < ps.length) = false := by simp
             rw [← HLEN.out] at hT
             have hgs : gs = gridsN x y qs := hT.all.trans GSS.out.symm
             have hgl : gs.length ≤ 4 := by rw [hT.1]; omega
             obtain ⟨bv, cv, rfl⟩ := hNR.grid.len
             have hbl := fun W h => ref_blocks (8 * HH) (8 * VV) AC DN bu qs.length cu (.slice bv gs.length cv) gs hgl (by rw [hgs]; exact HGIN.out) W h
             have hbt : blkN gs gs.length = totN x y qs := by rw [hgs]; exact HTOT.out
             rw [hbt] at hbl
             have hel : Elems wr 4 (.slice bv gs.length cv) (gs.map GridV.cells) := Ar.elems hNR.grid.ar (fun c hc => by obtain ⟨p, _, rfl⟩ := List.mem_map.1 hc; rfl) (by simp) (by simp only [maxLen]; omega)
             have hb1 := hbl _ hel
             have HGS := Lib.hid hgs
             clear hbl hbt hel hT hgs GSS GP HPK
             obtain ⟨T, hT⟩ : ∃ T, totN x y qs = T := ⟨_, rfl⟩
             rw [hT] at hb1
             have HTT := Lib.hid hT
             clear hT
             have bF := hNR.bF
             by_cases hC : 16384 < T
             · have t1 : decide (T > 16384) = true := decide_eq_true hC
               have h11 := Lib.hid (show newE x y ps = 11 by rw [HE2.out, HTT.out, if_pos hC])
               clear hC
               go_wp2_with (first | (refine wpList_load_row rfl 44 _ rfl F rfl 44 _ _ _ bF Try.underlying44 rfl (by kernel_rfl) ?_; simp only [Act.put, List.setIfInBounds_toArray, List.set_cons_zero, List.set_cons_succ]) | (go_at_call 27; refine hb1.mono ?_; rintro r w5 ⟨rfl, hbb⟩; have hN5 := hNR.below hbb) | (refine wpList_buildTo rfl 44 _ rfl (some 187) rfl #[.int .i64 0, .int .i64 0, .int .i64 0, .int .i64 0, .slice none 0 0, .slice none 0 0] (by kernel_rfl) ?_; simp only [Act.put, List.setIfInBounds_toArray, List.set_cons_zero, List.set_cons_succ]) | (refine wpList_store_row rfl 44 _ _ rfl N _ rfl rfl 44 _ hN5.bN (by kernel_rfl) rfl (by simp [Value.oneCell']) ?_))
               refine bodyPost_ret (results_row_tmp rfl _ _ N 44 _ _ rfl (hN5.bN.row _) Try.underlying44 rfl (by kernel_rfl)) rfl ?_
               exact ⟨EBAD.out _ 11 h11.out (by decide), Below.setRow hN5.hB (Nat.le_refl _) _⟩
             · have t1 : decide (T > 16384) = false := decide_eq_false hC
               have h0 := Lib.hid (show newE x y ps = 0 by rw [HE2.out, HTT.out, if_neg hC])
               clear hC
               go_upto_region 39 with (first | (refine wpList_load_row rfl 44 _ rfl F rfl 44 _ _ _ bF Try.underlying44 rfl (by kernel_rfl) ?_; simp only [Act.put, List.setIfInBounds_toArray, List.set_cons_zero, List.set_cons_succ]) | (go_at_call 27; refine hb1.mono ?_; rintro r w5 ⟨rfl, hbb⟩; have hN5 := hNR.below hbb))
               have bF5 := hN5.bF
               clear hNR bF hb1
               go_wp2_with (first | (refine wpList_load_row rfl 44 _ rfl F rfl 44 _ _ _ bF5 Try.underlying44 rfl (by kernel_rfl) ?_; simp only [Act.put, List.setIfInBounds_toArray, List.set_cons_zero, List.set_cons_succ]) | (refine wpList_store_row rfl 44 _ _ rfl N _ rfl rfl 44 _ hN5.bN (by kernel_rfl) rfl (by simp [Value.oneCell']) ?_))
               refine bodyPost_ret (results_row_tmp rfl _ _ N 44 _ _ rfl (hN5.bN.row _) Try.underlying44 rfl (by kernel_rfl)) rfl ?_
               refine ⟨EFIN.out _ _ _ h0.out (hN5.row.same fun g e => setRow_other _ _ _ _ (hN5.row.typed hN5.bN (by decide) g e)) ?_, Below.setRow hN5.hB (Nat.le_refl _) _⟩
               rw [← HGS.out]
               exact hN5.grid.same fun g e => setRow_other _ _ _ _ (hN5.grid.typed hN5.bN (by decide) g e)
end Go.Proofs.Ytgmhhocpdfdplaa
/- The reference's Frame of an image, walked. -/
namespace Go.Proofs.Ytgmhhocpdfdplaa
open Go.RowKit
set_option maxRecDepth 100000
set_option maxHeartbeats 4000000
def PrRow (w : World) (N : Nat) (u : Value) (cs : List CompArg) (k : Nat) : Prop := Row w N 112 2 u k ((psOf (cs.take k)).map partC).flatten
theorem PrRow.step {w : World} {N : Nat} {u : Value} {cs : List CompArg} {k : Nat} (hk : k < cs.length)
    (h : Row w N 112 2 u (k + 1) (((psOf (cs.take k)).map partC).flatten ++ [.int .i64 (cs[k]'hk).h, .int .i64 (cs[k]'hk).v])) : PrRow w N u cs (k + 1) := by
  unfold PrRow
  have e : ((psOf (cs.take (k + 1))).map partC).flatten = ((psOf (cs.take k)).map partC).flatten ++ [.int .i64 (cs[k]'hk).h, .int .i64 (cs[k]'hk).v] := by
    unfold psOf
    rw [List.take_succ_eq_append_getElem hk, List.map_append, List.map_append, List.flatten_append]
    simp only [List.map_cons, List.map_nil, List.flatten_cons, List.flatten_nil, partC, List.append_nil]
  rw [e]
  exact h
/-- The image in block N, the result's block behind it, the parts so far. -/
structure FrJ (N : Nat) (x : ImgArg) (u : Value) (k : Nat) (w W : World) : Prop where
  bN : Blk W N #[.int .i64 x.w, .int .i64 x.h, x.cu, x.qu, x.tu] 26
  bR : Blk W (N + 1) #[.int .i64 0, .int .i64 0, .int .i64 0, .int .i64 0, .slice none 0 0, .slice none 0 0] 44
  row : PrRow W N u x.cs k
  hB : Below N w W
theorem FrJ.below {N : Nat} {x : ImgArg} {u : Value} {k : Nat} {w W W' : World} (h : FrJ N x u k w W) (hb : Below W.heap.size W W') : FrJ N x u k w W' :=
  ⟨h.bN.below hb h.bN.lt, h.bR.below hb h.bR.lt, Row.grow h.row hb, h.hB.trans (hb.mono (Nat.le_of_lt h.bN.lt))⟩
theorem ref_frame (x : ImgArg) (w : World) (h : IsImg w x.val x) (hf : x.cs.length ≤ 20) :
    Calls Try.prog 25 #[x.val] w fun r w' => RefNew x.w x.h (psOf x.cs) w.heap.size r w' ∧ Below w.heap.size w w' := by
  obtain ⟨cb, ccap, hcu⟩ : ∃ b cap, x.cu = .slice b x.cs.length cap := h.cs.len
  have HCU := Lib.hid hcu
  unfold ImgArg.val at *
  have hlp : (psOf x.cs).length = x.cs.length := by simp [psOf]
  have HNEW := Lib.hid (fun pb cap W hp => ref_new x.w x.h pb cap (psOf x.cs) (by rw [hlp]; omega) W hp)
  rw [hlp] at HNEW
  obtain ⟨N, hN⟩ : ∃ N, N = w.heap.size := ⟨_, rfl⟩
  have HN := Lib.hid hN
  rw [← hN]
  have HCS := Lib.hid (fun W (hb : Below N w W) => (show IsComps W (.slice cb x.cs.length ccap) x.cs by rw [← hcu]; exact h.cs.below (by rw [← hN]; exact hb)))
  clear hN hlp hcu h
  go_enter Try.func25, Try.ntmps25
  go_upto_region 1 with fail
  rw [← HN.out]
  refine wp_world (fun W => FrJ N x (.slice none 0 0) 0 w W) ⟨(Blk.new' _ _ _ HN.out).alloc _, Blk.new' _ _ _ (by rw [HN.out]; simp), Row.nil _ _ _ _, by rw [HN.out]; exact ((Below.refl _ _).alloc (Nat.le_refl _) _).alloc (by simp) _⟩ ?_
  intro W0 hI
  go_wp2
  go_loopw [5, 4] (fun iv uv wr => ∃ k : Nat, k ≤ x.cs.length ∧ iv = .int .i64 k ∧ FrJ N x uv k w wr) (fun iv _ _ => x.cs.length - (intOf iv).toNat)
  case atStart => exact ⟨0, Nat.zero_le _, rfl, hI⟩
  case round =>
    clear hI
    obtain ⟨k, hk, rfl, hI⟩ := hrel
    obtain ⟨bu, cu, rfl⟩ := Row.len hI.row
    have p2 : wr.cell? ⟨N, 2, none⟩ = some (.slice cb x.cs.length ccap) := by rw [← HCU.out]; exact hI.bN.cell 2
    by_cases hlt : k < x.cs.length
    · have tl : decide (k < x.cs.length) = true := by simpa using hlt
      obtain ⟨a, rfl, -⟩ := (HCS.out wr hI.hB).at hlt
      have j0 : (0 : Int) ≤ (k : Int) := by omega
      have j1 : (k : Int) < (x.cs.length : Int) := by omega
      have HP2 := Lib.hid (fun W (h : FrJ N x (.slice bu k cu) k w W) => (show W.cell? ⟨N, 2, none⟩ = some (.slice (some a) x.cs.length ccap) by rw [← HCU.out]; exact h.bN.cell 2))
      have HC := Lib.hid (fun W (h : FrJ N x (.slice bu k cu) k w W) => (show W.cell? ⟨(a.add (k * 7)).block, (a.add (k * 7)).off + 1, none⟩ = some (.int .i64 (x.cs[k]'hlt).h) ∧ W.cell? ⟨(a.add (k * 7)).block, (a.add (k * 7)).off + 2, none⟩ = some (.int .i64 (x.cs[k]'hlt).v) by
        obtain ⟨a', ha', -, c1, c2, -⟩ := (HCS.out W h.hB).at hlt
        cases ha'
        exact ⟨c1, c2⟩))
      have hGm : ∀ W W', FrJ N x (.slice bu k cu) k w W → Below W.heap.size W W' → FrJ N x (.slice bu k cu) k w W' := fun W W' h hb => h.below hb
      go_upto_region 5 with fail
      refine wp_region_mono [0, 1, 2, 3, 4, 5, 6, 7, 8, 9, 10, 11, 12, 13, 14] [15, 16] (fun W => FrJ N x (.slice bu k cu) k w W)
        (fun | 14 => some (sSlice 1 #[.int .i64 (x.cs[k]'hlt).h, .int .i64 (x.cs[k]'hlt).v] 112) | _ => none) (fun _ => []) (by kernel_rfl) (by kernel_rfl) (hI.below (Below.refl _ _).drew) ?_ ?_
      · intro i s hs
        match i with
        | 14 => cases hs; exact fun _ _ => sSlice_mono _ _ _ _ _
      simp only [pick, List.getD_cons_succ, List.getD_cons_zero, List.zip_cons_cons, List.zip_nil_right]
      iterate 2 (first | (refine mono_skip (by rfl) ?_; simp only [Act.put, List.setIfInBounds_toArray, List.set_cons_zero, List.set_cons_succ]) | (refine mono_pure (v := ?_) (by rfl) rfl ?_ ?_; rotate_left; (intro wS hS; go_simp; try with_reducible rfl); simp only [Act.put, List.setIfInBounds_toArray, List.set_cons_zero, List.set_cons_succ]))
      refine mono_pure (v := .slice (some a) x.cs.length ccap) (by rfl) rfl (fun w1 hG => by have cy := HP2.out w1 hG; go_simp; try with_reducible rfl) ?_
      simp only [Act.put, List.setIfInBounds_toArray, List.set_cons_zero, List.set_cons_succ]
      iterate 3 (first | (refine mono_skip (by rfl) ?_; simp only [Act.put, List.setIfInBounds_toArray, List.set_cons_zero, List.set_cons_succ]) | (refine mono_pure (v := ?_) (by rfl) rfl ?_ ?_; rotate_left; (intro wS hS; go_simp; try with_reducible rfl); simp only [Act.put, List.setIfInBounds_toArray, List.set_cons_zero, List.set_cons_succ]))
      refine mono_pure (v := .int .i64 (x.cs[k]'hlt).h) (by rfl) rfl (fun w1 hG => by have cy := (HC.out w1 hG).1; go_simp; try with_reducible rfl) ?_
      simp only [Act.put, List.setIfInBounds_toArray, List.set_cons_zero, List.set_cons_succ]
      (first | (refine mono_skip (by rfl) ?_; simp only [Act.put, List.setIfInBounds_toArray, List.set_cons_zero, List.set_cons_succ]) | (refine mono_pure (v := ?_) (by rfl) rfl ?_ ?_; rotate_left; (intro wS hS; go_simp; try with_reducible rfl); simp only [Act.put, List.setIfInBounds_toArray, List.set_cons_zero, List.set_cons_succ]))
      refine mono_pure (v := .slice (some a) x.cs.length ccap) (by rfl) rfl (fun w1 hG => by have cy := HP2.out w1 hG; go_simp; try with_reducible rfl) ?_
      simp only [Act.put, List.setIfInBounds_toArray, List.set_cons_zero, List.set_cons_succ]
      iterate 3 (first | (refine mono_skip (by rfl) ?_; simp only [Act.put, List.setIfInBounds_toArray, List.set_cons_zero, List.set_cons_succ]) | (refine mono_pure (v := ?_) (by rfl) rfl ?_ ?_; rotate_left; (intro wS hS; go_simp; try with_reducible rfl); simp only [Act.put, List.setIfInBounds_toArray, List.set_cons_zero, List.set_cons_succ]))
      refine mono_pure (v := .int .i64 (x.cs[k]'hlt).v) (by rfl) rfl (fun w1 hG => by have cy := (HC.out w1 hG).2; go_simp; try with_reducible rfl) ?_
      simp only [Act.put, List.setIfInBounds_toArray, List.set_cons_zero, List.set_cons_succ]
      (first | (refine mono_skip (by rfl) ?_; simp only [Act.put, List.setIfInBounds_toArray, List.set_cons_zero, List.set_cons_succ]) | (refine mono_pure (v := ?_) (by rfl) rfl ?_ ?_; rotate_left; (intro wS hS; go_simp; try with_reducible rfl); simp only [Act.put, List.setIfInBounds_toArray, List.set_cons_zero, List.set_cons_succ]))
      refine mono_slice 1 #[.int .i64 (x.cs[k]'hlt).h, .int .i64 (x.cs[k]'hlt).v] 112 (by rfl) rfl hGm (by intro wS; go_simp; try rfl) (fun g2 => ?_)
      simp only [Act.put, List.setIfInBounds_toArray, List.set_cons_zero, List.set_cons_succ]
      refine mono_nil ?_
      clear hI p2
      rintro W9 hI ⟨hbs, I, hI1, hI2⟩
      obtain ⟨i1, i2, i3, ⟨g, hg, i4, i5, i6⟩⟩ := hI1 14 _ (upd_self _ _ _)
      obtain rfl : g2 = g := by simpa using hg
      have hNl := hI.bN.lt
      clear hI1 hI2 hGm
      go_wp2_with (refine wpList_append_Row _ rfl _ _ 41 rfl N 112 _ _ 2 16 rfl rfl rfl rfl rfl rfl _ _ _ rfl hI.row _ 1 1 [.int .i64 (x.cs[k]'hlt).h, .int .i64 (x.cs[k]'hlt).v] rfl (by omega) rfl (i6.cells) (by intro u hu; simp at hu; rcases hu with rfl | rfl <;> rfl) (by simp only [maxLen]; omega) (by omega) (by omega) (fun v' w2 hR1 hg hat => ?_))
      refine ⟨⟨k + 1, by omega, by go_num, ⟨hI.bN.grown hg (fun e => hI.row.typed hI.bN (by decide) N e.symm rfl), hI.bR.grown hg (fun e => hI.row.typed hI.bR (by decide) (N + 1) e.symm rfl), PrRow.step hlt hR1, Below.grown hI.hB (Nat.le_of_lt hNl) hg (fun g e => (hI.row.lt g e).1)⟩⟩, by simp [intOf]; omega⟩
    · obtain rfl : k = x.cs.length := by omega
      have tl : decide (x.cs.length < x.cs.length) = false := by simp
      have hp : IsParts wr (.slice bu x.cs.length cu) (psOf x.cs) := by
        have hr := hI.row
        unfold PrRow at hr
        rw [List.take_length] at hr
        exact Ar.elems hr.ar (fun c hc => by obtain ⟨p, _, rfl⟩ := List.mem_map.1 hc; rfl) (by simp [psOf]) (by simp only [maxLen]; omega)
      have hn := HNEW.out _ _ _ hp
      have q0 := hI.bN.cell 0
      have q1 := hI.bN.cell 1
      clear hp
      have hNl : N ≤ wr.heap.size := Nat.le_of_lt hI.bN.lt
      have HB := Lib.hid hI.hB
      have bR := hI.bR
      have hR0 := hI.bR.lt
      have fin : ∀ w5, Below wr.heap.size wr w5 → Blk w5 (N + 1) #[.int .i64 0, .int .i64 0, .int .i64 0, .int .i64 0, .slice none 0 0, .slice none 0 0] 44 ∧ Below N w w5 := fun w5 hb => ⟨hI.bR.below hb hI.bR.lt, hI.hB.trans (hb.mono hNl)⟩
      have FIN := Lib.hid fin
      clear fin hI
      by_cases h0 : newE x.w x.h (psOf x.cs) = 0
      · have H0 := Lib.hid h0
        clear h0
        go_wp2_with (first | (go_at_call 70; refine hn.mono ?_; rintro r w5 ⟨⟨v, rfl, -, hv⟩, hb5⟩; obtain ⟨u, gv, rfl, hu, hg⟩ := hv H0.out; obtain ⟨ub, uc, rfl⟩ := hu.len; obtain ⟨gb, gc, rfl⟩ := hg.len; obtain ⟨bR5, hB5⟩ := FIN.out w5 hb5) | (refine wpList_store_row rfl 44 _ _ rfl (N + 1) _ rfl rfl 44 _ bR5 (by kernel_rfl) rfl (by simp [Value.oneCell']) ?_))
        refine bodyPost_ret (results_row_tmp rfl _ _ (N + 1) 44 _ _ rfl (bR5.row _) Try.underlying44 rfl (by kernel_rfl)) rfl ?_
        exact ⟨⟨_, rfl, fun h => absurd H0.out h, fun _ => ⟨_, _, rfl, (hu.down hNl).same fun g e => setRow_other _ _ _ _ (hu.typed bR5 (by decide) g e), (hg.down hNl).same fun g e => setRow_other _ _ _ _ (hg.typed bR5 (by decide) g e)⟩⟩, Below.setRow hB5 (Nat.le_succ N) _⟩
      · have H0 := Lib.hid h0
        clear h0
        go_wp2_with (first | (go_at_call 70; refine hn.mono ?_; rintro r w5 ⟨⟨v, rfl, hv, -⟩, hb5⟩; obtain rfl := hv H0.out; obtain ⟨bR5, hB5⟩ := FIN.out w5 hb5; unfold zeroRF) | (refine wpList_store_row rfl 44 _ _ rfl (N + 1) _ rfl rfl 44 _ bR5 (by kernel_rfl) rfl (by simp [Value.oneCell']) ?_))
        refine bodyPost_ret (results_row_tmp rfl _ _ (N + 1) 44 _ _ rfl (bR5.row _) Try.underlying44 rfl (by kernel_rfl)) rfl ?_
        exact ⟨⟨_, rfl, fun _ => rfl, fun h => absurd h H0.out⟩, Below.setRow hB5 (Nat.le_succ N) _⟩
end Go.Proofs.Ytgmhhocpdfdplaa
/- The reference's tables, walked. -/
namespace Go.Proofs.Ytgmhhocpdfdplaa
open Go.RowKit
set_option maxRecDepth 100000
set_option maxHeartbeats 4000000
theorem firstE_five (e : Nat → Int) (h : ∀ k, e k = 0 ∨ e k = 5) : ∀ f i, firstE e f i = 0 ∨ firstE e f i = 5
  | 0, _ => .inl rfl
  | f + 1, i => by
    rcases h i with h0 | h0
    · rw [firstE_go e f i h0]; exact firstE_five e h f (i + 1)
    · exact .inr (by simp only [firstE, h0]; rfl)
/-- The image's box, and a table's. -/
structure RT (N K : Nat) (x : ImgArg) (q : QuantArg) (w W : World) : Prop where
  l : LI N x w W
  bK : Blk W K q.arr 39
theorem RT.below {N K : Nat} {x : ImgArg} {q : QuantArg} {w W W' : World} (h : RT N K x q w W) (hb : Below W.heap.size W W') : RT N K x q w W' := ⟨h.l.below hb, h.bK.below hb h.bK.lt⟩
theorem RT.drewN {N K : Nat} {x : ImgArg} {q : QuantArg} {w W : World} (h : RT N K x q w W) (n : Nat) : RT N K x q w (W.drewN n) := h.below (Below.drewN' (Below.refl _ _) n)
/-- What the second loop keeps. -/
def UsInv (K N n : Nat) (p : Nat → Bool) (ub : Bool) (x : ImgArg) (q : QuantArg) (w : World) (s5 s6 : Value) (wq : World) : Prop :=
  ∃ (k : Nat) (b : Bool), s5 = .bool b ∧ s6 = .int .i64 k ∧ k ≤ n ∧ (b || anyF p (n - k) k) = ub ∧ RT N K x q w wq
/-- What the third keeps. -/
def ZrInv (K N : Nat) (p : Nat → Bool) (zb : Bool) (x : ImgArg) (q : QuantArg) (w : World) (s7 : Value) (wq : World) : Prop :=
  ∃ k : Nat, s7 = .int .i64 k ∧ k ≤ 64 ∧ anyF p (64 - k) k = zb ∧ RT N K x q w wq
/-- What the fifth keeps. -/
def ThInv (N n : Nat) (p : Nat → Bool) (tb : Bool) (x : ImgArg) (w : World) (s9 s10 : Value) (wq : World) : Prop :=
  ∃ (k : Nat) (b : Bool), s9 = .bool b ∧ s10 = .int .i64 k ∧ k ≤ n ∧ (b || anyF p (n - k) k) = tb ∧ LI N x w wq
theorem tab_five {e : Nat → Int} {n i : Nat} {R c : Int} (hi : i < n) (hfe : firstE e n 0 = firstE e (n - i) i) (h5 : e i = 5) (hR : (if firstE e n 0 = 0 then c else firstE e n 0) = R) : R = 5 := by
  rw [hfe, show n - i = (n - (i + 1)) + 1 by omega, firstE_stop e _ i (by rw [h5]; decide), h5] at hR
  rw [← hR]; rfl
theorem tab_next {e : Nat → Int} {n i : Nat} (hi : i < n) (hfe : firstE e n 0 = firstE e (n - i) i) (h0 : e i = 0) : firstE e n 0 = firstE e (n - (i + 1)) (i + 1) := by
  rw [hfe, show n - i = (n - (i + 1)) + 1 by omega, firstE_go e _ i h0]
theorem any_next {p : Nat → Bool} {n k : Nat} (b : Bool) (hk : k < n) : (b || anyF p (n - k) k) = ((b || p k) || anyF p (n - (k + 1)) (k + 1)) := by
  rw [show n - k = (n - (k + 1)) + 1 by omega]
  show (b || (p k || _)) = _
  rw [Bool.or_assoc]
theorem idx_any (p : Nat → Bool) : ∀ f i, decide (0 ≤ idxF p f i) = anyF p f i
  | 0, _ => rfl
  | f + 1, i => by
    by_cases h : p i = true
    · rw [anyF_stop p f i h]; simp only [idxF, if_pos h]; exact decide_eq_true (by omega)
    · rw [Bool.not_eq_true] at h
      rw [anyF_go p f i h, ← idx_any p f (i + 1)]
      simp only [idxF, h]; rfl
theorem q_at (q : QuantArg) : q.arr[0]? = some (.int .i64 q.at_) := by simp [QuantArg.arr, QuantArg.cells]
theorem ref_tables (x : ImgArg) (hf : FewOk x) (w : World) (h : IsImg w x.val x) :
    Calls Try.prog 65 #[x.val] w fun r w' => r = .returned (.int .i64 (tablesE x)) ∧ Below w.heap.size w w' := by
  have hc20 := hf.c20
  have hq20 := hf.q20
  obtain ⟨cb, ccap, hcu⟩ := h.cs.len
  obtain ⟨qb, qcap, hqu⟩ := h.qs.len
  have HCU := Lib.hid hcu; have HQU := Lib.hid hqu
  have hL := LI.begin h
  obtain ⟨N, hN⟩ : ∃ N, N = w.heap.size := ⟨_, rfl⟩
  rw [← hN] at hL
  have HN := Lib.hid hN
  obtain ⟨e, he⟩ : ∃ e : Nat → Int, (fun i => quantE x.cs x.qs i (x.qs.getD i noQuant)) = e := ⟨_, rfl⟩
  obtain ⟨R, hR⟩ : ∃ R, tablesE x = R := ⟨_, rfl⟩
  rw [hR]
  unfold tablesE quantsE at hR
  rw [he] at hR
  have HR := Lib.hid hR
  have HE := Lib.hid (show ∀ i (hi : i < x.qs.length), e i = quantE x.cs x.qs i (x.qs[i]'hi) from fun i hi => by rw [← he]; simp only [quant_getD hi])
  clear hN h hcu hqu hR he
  unfold ImgArg.val
  go_enter Try.func65, Try.ntmps65
  go_upto_region 1 with fail
  refine wp_world (LI N x w) hL ?_
  rw [← HN.out]
  clear hL
  intro W hL
  go_wp2
  go_loopw [3] (fun iv wr => ∃ i : Nat, i ≤ x.qs.length ∧ iv = .int .i64 i ∧ firstE e x.qs.length 0 = firstE e (x.qs.length - i) i ∧ LI N x w wr) (fun iv _ => x.qs.length - (intOf iv).toNat)
  case atStart => exact ⟨0, Nat.zero_le _, rfl, rfl, hL⟩
  case round =>
    clear hL
    obtain ⟨i, hi, rfl, hfe, hL⟩ := hrel
    have q3 : wr.cell? ⟨N, 3, none⟩ = some (.slice qb x.qs.length qcap) := by rw [← HQU.out]; exact hL.bN.cell 3
    by_cases hlt : i < x.qs.length
    · have tl : decide (i < x.qs.length) = true := by simpa using hlt
      have hqs : ∀ W, LI N x w W → IsQuants W (.slice qb x.qs.length qcap) x.qs := fun W h => by have := h.img.qs; rwa [HQU.out] at this
      obtain ⟨a, rfl, -⟩ := (hqs wr hL).place hlt
      have j0 : (0 : Int) ≤ (i : Int) := by omega
      have j1 : (i : Int) < (x.qs.length : Int) := by omega
      have hei := HE.out i hlt
      have hq' := hqs wr hL
      have hx65 : (x.qs[i]'hlt).arr.size = 65 := QuantArg.arr_size (hq'.ok _ (List.getElem_mem hlt))
      have HFE := Lib.hid hfe
      have HQS := Lib.hid hqs
      have HEI := Lib.hid hei
      clear hfe hqs hei
      obtain ⟨K, hK⟩ : ∃ K, K = wr.heap.size := ⟨_, rfl⟩
      have HK := Lib.hid hK
      clear hK
      go_upto_region 5 with (first | (refine Great.wpList_runTo rfl _ rfl _ _ (q_load hq' hlt _ rfl rfl) ?_; simp only [Act.put, List.setIfInBounds_toArray, List.set_cons_zero, List.set_cons_succ]) | (refine Great.wpList_runTo rfl _ rfl _ _ (run_alloc_quant _ rfl) ?_; simp only [Act.put, List.setIfInBounds_toArray, List.set_cons_zero, List.set_cons_succ]) | (refine wpList_store_row rfl 39 _ _ rfl K _ (by rw [HK.out]; rfl) rfl 39 _ (Blk.new' _ _ _ HK.out) (by rw [hx65]; kernel_rfl) (by rw [hx65, zeroQuant_size]) (QuantArg.arr_one _) ?_; simp only [Act.put]))
      have hbK : Below wr.heap.size wr ((wr.alloc (.cells zeroQuant 39)).setRow K (x.qs[i]'hlt).arr) := Below.setRow ((Below.refl _ _).alloc (Nat.le_refl _) _) (Nat.le_of_eq HK.out.symm) _
      try rw [← HK.out]
      refine wp_world (RT N K x (x.qs[i]'hlt) w) ⟨hL.below hbK, (Blk.new' _ _ _ HK.out).row _⟩ ?_
      clear hbK hL q3 hq'
      intro W1 hR1
      obtain ⟨y, hy⟩ : ∃ y, (x.qs[i]'hlt).at_ = y := ⟨_, rfl⟩
      have k0 : ∀ W, RT N K x (x.qs[i]'hlt) w W → W.cell? ⟨K, 0, none⟩ = some (.int .i64 y) := fun W h => by rw [← hy, ← q_at]; exact h.bK.cell 0
      have K0 := Lib.hid k0
      have HY := Lib.hid hy
      clear k0 hy
      go_cut [46] from 23 to 46 (fun c wx => c = .bool (!(risesB x.qs i y)) ∧ RT N K x (x.qs[i]'hlt) w wx)
      case first =>
        have c0 := K0.out W1 hR1
        have q3 : W1.cell? ⟨N, 3, none⟩ = some (.slice (some a) x.qs.length qcap) := by rw [← HQU.out]; exact hR1.l.bN.cell 3
        by_cases h0 : y < 0
        · have t0 : decide (y < 0) = true := decide_eq_true h0
          have hb : risesB x.qs i y = false := decide_eq_false (by omega)
          have HB := Lib.hid hb
          clear hb h0
          go_quiet (fail)
          go_wp2_with fail
          go_meet
          exact ⟨by rw [HB.out]; rfl, hR1.drewN _⟩
        · have t0 : decide (y < 0) = false := decide_eq_false h0
          by_cases h1 : y > 3
          · have t1 : decide (y > 3) = true := decide_eq_true h1
            have hb : risesB x.qs i y = false := decide_eq_false (by omega)
            have HB := Lib.hid hb
            clear hb h0 h1
            go_quiet (fail)
            go_wp2_with fail
            go_meet
            exact ⟨by rw [HB.out]; rfl, hR1.drewN _⟩
          · have t1 : decide (y > 3) = false := decide_eq_false h1
            by_cases h2 : i = 0
            · have t2 : decide ((i : Int) > 0) = false := decide_eq_false (by omega)
              have t2' : decide (0 < i) = false := decide_eq_false (by omega)
              have hb : risesB x.qs i y = true := decide_eq_true ⟨by omega, by omega, .inl h2⟩
              have HB := Lib.hid hb
              clear hb h0 h1 h2
              go_quiet (fail)
              go_wp2_with fail
              go_meet
              exact ⟨by rw [HB.out]; rfl, hR1.drewN _⟩
            · have t2 : decide ((i : Int) > 0) = true := decide_eq_true (by omega)
              have t2' : decide (0 < i) = true := decide_eq_true (by omega)
              obtain ⟨m, hm⟩ : ∃ m : Nat, m = i - 1 := ⟨_, rfl⟩
              have hml : m < x.qs.length := by omega
              have em : (i : Int) - 1 = (m : Int) := by omega
              obtain ⟨a', ha', c1⟩ := (HQS.out W1 hR1.l).place hml
              cases ha'
              have hgd : (x.qs.getD (i - 1) noQuant).at_ = (x.qs[m]'hml).at_ := by rw [← hm, quant_getD hml]
              obtain ⟨z, hz⟩ : ∃ z, (x.qs[m]'hml).at_ = z := ⟨_, rfl⟩
              rw [hz] at c1 hgd
              have j2 : (0 : Int) ≤ (m : Int) := by omega
              have j3 : (m : Int) < (x.qs.length : Int) := by omega
              by_cases h3 : z ≥ y
              · have t3 : decide (z ≥ y) = true := decide_eq_true h3
                have hb : risesB x.qs i y = false := decide_eq_false (by rw [hgd]; omega)
                have HB := Lib.hid hb
                clear hb h0 h1 h2 h3 hgd hz hm
                go_quiet (fail)
                go_wp2_with fail
                go_meet
                exact ⟨by rw [HB.out]; rfl, hR1.drewN _⟩
              · have t3 : decide (z ≥ y) = false := decide_eq_false h3
                have hb : risesB x.qs i y = true := decide_eq_true ⟨by omega, by omega, .inr (by rw [hgd]; omega)⟩
                have HB := Lib.hid hb
                clear hb h0 h1 h2 h3 hgd hz hm
                go_quiet (fail)
                go_wp2_with fail
                go_meet
                exact ⟨by rw [HB.out]; rfl, hR1.drewN _⟩
      obtain ⟨rfl, hR2⟩ := hcut
      clear hR1
      by_cases hb : risesB x.qs i y = true
      · have tb : (!risesB x.qs i y) = false := by rw [hb]; rfl
        rw [tb]
        clear tb
        obtain ⟨ub, hub⟩ : ∃ ub, usedQ x.cs y = ub := ⟨_, rfl⟩
        have HUB := Lib.hid hub
        obtain ⟨p, hp⟩ : ∃ p : Nat → Bool, (fun k => decide ((x.cs.getD k noComp).q = y)) = p := ⟨_, rfl⟩
        have hany : anyF p x.cs.length 0 = ub := by rw [← hp]; exact hub
        have HANY := Lib.hid hany
        have HP := Lib.hid hp
        have HB := Lib.hid hb
        clear hub hany hp hb
        go_wp2
        obtain ⟨wo, hwo⟩ : ∃ wo : World, wo = wc := ⟨_, rfl⟩
        subst hwo
        go_loopw [5, 6] (fun s5 s6 wq => UsInv K N x.cs.length p ub x (x.qs[i]'hlt) w s5 s6 wq) (fun _ s6 _ => x.cs.length - (intOf s6).toNat)
        case atStart => exact ⟨0, false, rfl, rfl, Nat.zero_le _, HANY.out, hR2⟩
        case round =>
          clear hR2
          obtain ⟨k, b, rfl, rfl, hk, hany, hR3⟩ := hrel
          have q2 : wr.cell? ⟨N, 2, none⟩ = some (.slice cb x.cs.length ccap) := by rw [← HCU.out]; exact hR3.l.bN.cell 2
          by_cases hkl : k < x.cs.length
          · have tk : decide (k < x.cs.length) = true := by simpa using hkl
            have hcs : IsComps wr (.slice cb x.cs.length ccap) x.cs := by have := hR3.l.img.cs; rwa [HCU.out] at this
            obtain ⟨a2, rfl, -, -, -, c3, -⟩ := hcs.at hkl
            have c0 := K0.out wr hR3
            have k0 : (0 : Int) ≤ (k : Int) := by omega
            have k1 : (k : Int) < (x.cs.length : Int) := by omega
            have hpk : p k = decide ((x.cs[k]'hkl).q = y) := by rw [← HP.out]; simp only [comp_getD hkl]
            rw [any_next b hkl, hpk] at hany
            have HANY2 := Lib.hid hany
            clear hany hpk hcs
            generalize (x.cs[k]'hkl).q = z at *
            cases b
            · go_upto_region 11 with fail
              go_quiet (fail)
              go_wp2
              go_roundw
              case rel => exact ⟨k + 1, z == y, rfl, by go_num, by omega, by rw [← HANY2.out, Bool.false_or]; rfl, hR3.drewN _⟩
              case measure => simp [intOf]; omega
            · go_upto_region 11 with fail
              go_quiet (fail)
              go_wp2
              go_roundw
              case rel => exact ⟨k + 1, true, rfl, by go_num, by omega, by rw [← HANY2.out]; rfl, hR3.drewN _⟩
              case measure => simp [intOf]; omega
          · have tk : decide (k < x.cs.length) = false := by simpa using hkl
            rw [show x.cs.length - k = 0 by omega] at hany
            obtain rfl : b = ub := by rw [← hany]; exact (Bool.or_false b).symm
            clear hany HANY HP
            cases b
            · have h5 : e i = 5 := by rw [HEI.out]; unfold quantE; rw [HY.out, HUB.out]; simp
              have hR5 := tab_five hlt HFE.out h5 HR.out
              clear h5
              subst hR5
              go_wp2
              go_ret
              exact ⟨rfl, hR3.l.hB⟩
            · obtain ⟨zb, hzb⟩ : ∃ zb, zeroQ (x.qs[i]'hlt) = zb := ⟨_, rfl⟩
              have HZB := Lib.hid hzb
              obtain ⟨pz, hpz⟩ : ∃ pz : Nat → Bool, (fun k => decide ((x.qs[i]'hlt).q.getD k 0 = 0)) = pz := ⟨_, rfl⟩
              have hza : anyF pz 64 0 = zb := by rw [← hpz]; exact hzb
              have HZA := Lib.hid hza
              have HPZ := Lib.hid hpz
              clear hza hpz hzb
              go_wp2
              obtain ⟨wo, hwo⟩ : ∃ wo : World, wo = wr := ⟨_, rfl⟩
              subst hwo
              go_loopw [7] (fun s7 wq => ZrInv K N pz zb x (x.qs[i]'hlt) w s7 wq) (fun s7 _ => 64 - (intOf s7).toNat)
              case atStart => exact ⟨0, rfl, Nat.zero_le _, HZA.out, hR3⟩
              case round =>
                clear hR3
                obtain ⟨k, rfl, hk, hany, hR3⟩ := hrel
                by_cases hkl : k < 64
                · have tk : decide ((k : Int) < 64) = true := by simp; omega
                  have tk2 : decide (k < 64) = true := by simpa using hkl
                  have hok : (x.qs[i]'hlt).Ok := hR3.l.img.qs.ok _ (List.getElem_mem hlt)
                  have c1 : wr.cell? ⟨K, 1 + k, none⟩ = some (.int .u16 ((x.qs[i]'hlt).q.getD k 0)) := by rw [hR3.bK.cell (1 + k)]; exact q_arr_get hok k hkl
                  have k0 : (0 : Int) ≤ (k : Int) := by omega
                  have k1 : (k : Int) < 64 := by omega
                  have hpk : pz k = decide ((x.qs[i]'hlt).q.getD k 0 = 0) := by rw [← HPZ.out]
                  rw [show 64 - k = 64 - (k + 1) + 1 by omega] at hany
                  have HAN := Lib.hid hany
                  clear hany hok
                  generalize (x.qs[i]'hlt).q.getD k 0 = z at *
                  by_cases hz : z = 0
                  · have hany := HAN.out
                    rw [anyF_stop pz _ k (by rw [hpk]; exact decide_eq_true hz)] at hany
                    have h5 : e i = 5 := by rw [HEI.out]; unfold quantE; rw [HZB.out, ← hany]; simp
                    have hR5 := tab_five hlt HFE.out h5 HR.out
                    clear h5 hany HAN hpk
                    subst hR5
                    subst hz
                    go_wp2
                    go_ret
                    exact ⟨rfl, hR3.l.hB⟩
                  · have hany := HAN.out
                    rw [anyF_go pz _ k (by rw [hpk]; exact decide_eq_false hz)] at hany
                    have HAN2 := Lib.hid hany
                    have tz : (z == 0) = false := beq_eq_false_iff_ne.2 hz
                    have tz2 : decide (z = 0) = false := decide_eq_false hz
                    clear hany HAN hpk hz
                    go_wp2
                    go_roundw
                    case rel => exact ⟨k + 1, by go_num, by omega, HAN2.out, hR3⟩
                    case measure => simp [intOf]; omega
                · have tk : decide ((k : Int) < 64) = false := by simp; omega
                  have tk2 : decide (k < 64) = false := by simpa using hkl
                  rw [show 64 - k = 0 by omega] at hany
                  obtain rfl : zb = false := hany.symm
                  have h0 : e i = 0 := by rw [HEI.out]; unfold quantE; rw [HY.out, HB.out, HZB.out, HUB.out]; simp
                  have HN2 := Lib.hid (tab_next hlt HFE.out h0)
                  clear h0 hany
                  go_wp2
                  go_roundw
                  case rel => exact ⟨i + 1, by omega, by go_num, HN2.out, hR3.l⟩
                  case measure => simp [intOf]; omega
      · rw [Bool.not_eq_true] at hb
        have tb : (!risesB x.qs i y) = true := by rw [hb]; rfl
        have h5 : e i = 5 := by rw [HEI.out]; unfold quantE; rw [HY.out, hb]; rfl
        have hR5 := tab_five hlt HFE.out h5 HR.out
        rw [tb]
        clear tb hb h5
        subst hR5
        go_wp2
        go_ret
        exact ⟨rfl, hR2.l.hB⟩
    · have tl : decide (i < x.qs.length) = false := by simpa using hlt
      rw [show x.qs.length - i = 0 by omega] at hfe
      have hR := HR.out
      rw [if_pos (show firstE e x.qs.length 0 = 0 from hfe)] at hR
      obtain ⟨e2, he2⟩ : ∃ e2 : Nat → Int, (fun i => compTE x.qs (x.cs.getD i noComp)) = e2 := ⟨_, rfl⟩
      unfold compsTE at hR
      rw [he2] at hR
      have HR2 := Lib.hid hR
      have HE2 := Lib.hid (show ∀ i (hi : i < x.cs.length), e2 i = compTE x.qs (x.cs[i]'hi) from fun i hi => by rw [← he2]; simp only [comp_getD hi])
      clear hR he2 hfe
      go_wp2
      clear HR HE q3
      obtain ⟨wo, hwo⟩ : ∃ wo : World, wo = wr := ⟨_, rfl⟩
      subst hwo
      go_loopw [8] (fun iv wr => ∃ i : Nat, i ≤ x.cs.length ∧ iv = .int .i64 i ∧ firstE e2 (x.cs.length - i) i = R ∧ LI N x w wr) (fun iv _ => x.cs.length - (intOf iv).toNat)
      case atStart => exact ⟨0, Nat.zero_le _, rfl, HR2.out, hL⟩
      case round =>
        clear hL hlt hi tl
        obtain ⟨i, hi, rfl, hf2, hL⟩ := hrel
        have q2 : wr.cell? ⟨N, 2, none⟩ = some (.slice cb x.cs.length ccap) := by rw [← HCU.out]; exact hL.bN.cell 2
        by_cases hlt : i < x.cs.length
        · have tl : decide (i < x.cs.length) = true := by simpa using hlt
          obtain ⟨y, hy⟩ : ∃ y, (x.cs[i]'hlt).q = y := ⟨_, rfl⟩
          obtain ⟨p, hp⟩ : ∃ p : Nat → Bool, (fun k => decide ((x.qs.getD k noQuant).at_ = y)) = p := ⟨_, rfl⟩
          obtain ⟨tb, htb⟩ : ∃ tb, anyF p x.qs.length 0 = tb := ⟨_, rfl⟩
          have hei : e2 i = if tb = true then 0 else 5 := by
            rw [HE2.out i hlt, ← htb, ← idx_any, ← hp]
            unfold compTE tabI
            simp only [hy, decide_eq_true_eq]
          rw [show x.cs.length - i = x.cs.length - (i + 1) + 1 by omega] at hf2
          have HY := Lib.hid hy
          have HP := Lib.hid hp
          have HTB := Lib.hid htb
          have HEI := Lib.hid hei
          have HF2 := Lib.hid hf2
          have HCA := Lib.hid (show ∀ W, LI N x w W → ∃ a, cb = some a ∧ W.cell? ⟨(a.add (i * 7)).block, (a.add (i * 7)).off + 3, none⟩ = some (.int .i64 y) from fun W h => by
            have hcs : IsComps W (.slice cb x.cs.length ccap) x.cs := by have := h.img.cs; rwa [HCU.out] at this
            obtain ⟨a2, ha, -, -, -, c3, -⟩ := hcs.at hlt
            exact ⟨a2, ha, by rw [← hy]; exact c3⟩)
          have j0 : (0 : Int) ≤ (i : Int) := by omega
          have j1 : (i : Int) < (x.cs.length : Int) := by omega
          clear hy hp htb hei hf2
          go_wp2
          clear q2
          obtain ⟨wo2, hwo2⟩ : ∃ wo2 : World, wo2 = wr := ⟨_, rfl⟩
          subst hwo2
          go_loopw [9, 10] (fun s9 s10 wq => ThInv N x.qs.length p tb x w s9 s10 wq) (fun _ s10 _ => x.qs.length - (intOf s10).toNat)
          case atStart => exact ⟨0, false, rfl, rfl, Nat.zero_le _, HTB.out, hL⟩
          case round =>
            clear hL
            obtain ⟨k, b, rfl, rfl, hk, hany, hL⟩ := hrel
            have q2 : wr.cell? ⟨N, 2, none⟩ = some (.slice cb x.cs.length ccap) := by rw [← HCU.out]; exact hL.bN.cell 2
            have q3 : wr.cell? ⟨N, 3, none⟩ = some (.slice qb x.qs.length qcap) := by rw [← HQU.out]; exact hL.bN.cell 3
            by_cases hkl : k < x.qs.length
            · have tk : decide (k < x.qs.length) = true := by simpa using hkl
              have hqs : IsQuants wr (.slice qb x.qs.length qcap) x.qs := by have := hL.img.qs; rwa [HQU.out] at this
              obtain ⟨aq, rfl, c0⟩ := hqs.place hkl
              obtain ⟨ac, rfl, c3⟩ := HCA.out wr hL
              have k0 : (0 : Int) ≤ (k : Int) := by omega
              have k1 : (k : Int) < (x.qs.length : Int) := by omega
              have hpk : p k = decide ((x.qs[k]'hkl).at_ = y) := by rw [← HP.out]; simp only [quant_getD hkl]
              rw [any_next b hkl, hpk] at hany
              have HANY2 := Lib.hid hany
              clear hany hpk hqs
              generalize (x.qs[k]'hkl).at_ = z at *
              cases b
              · go_upto_region 26 with fail
                go_quiet (fail)
                go_wp2
                go_roundw
                case rel => exact ⟨k + 1, z == y, rfl, by go_num, by omega, by rw [← HANY2.out, Bool.false_or]; rfl, hL.below (Below.drewN' (Below.refl _ _) _)⟩
                case measure => simp [intOf]; omega
              · go_upto_region 26 with fail
                go_quiet (fail)
                go_wp2
                go_roundw
                case rel => exact ⟨k + 1, true, rfl, by go_num, by omega, by rw [← HANY2.out]; rfl, hL.below (Below.drewN' (Below.refl _ _) _)⟩
                case measure => simp [intOf]; omega
            · have tk : decide (k < x.qs.length) = false := by simpa using hkl
              rw [show x.qs.length - k = 0 by omega] at hany
              obtain rfl : b = tb := by rw [← hany]; exact (Bool.or_false b).symm
              clear hany
              cases b
              · have h5 := HF2.out
                rw [firstE_stop e2 _ i (by rw [HEI.out]; decide), HEI.out] at h5
                obtain rfl : R = 5 := h5.symm
                go_wp2
                go_ret
                exact ⟨rfl, hL.hB⟩
              · have h0 := HF2.out
                rw [firstE_go e2 _ i (by rw [HEI.out]; rfl)] at h0
                have HF3 := Lib.hid h0
                clear h0
                go_wp2
                go_roundw
                case rel => exact ⟨i + 1, by omega, by go_num, HF3.out, hL⟩
                case measure => simp [intOf]; omega
        · have tl : decide (i < x.cs.length) = false := by simpa using hlt
          rw [show x.cs.length - i = 0 by omega] at hf2
          obtain rfl : R = 0 := hf2.symm
          go_wp2
          go_ret
          exact ⟨rfl, hL.hB⟩
end Go.Proofs.Ytgmhhocpdfdplaa
/- The reference's Right of an image, walked. -/
namespace Go.Proofs.Ytgmhhocpdfdplaa
open Go.RowKit
set_option maxRecDepth 100000
set_option maxHeartbeats 8000000
theorem imgE_eq (x : ImgArg) : imgE x = if frE x = 0 then (if compsE x.cs = 0 then (if tablesE x = 0 then (if planesE x = 0 then (if blocksE x.cs = 0 then (if tagsE x.ts = 0 then 0 else tagsE x.ts) else blocksE x.cs) else planesE x) else tablesE x) else compsE x.cs) else frE x := rfl
/-- The image's box, the frame's. -/
structure RJ (N F lo : Nat) (x : ImgArg) (vs : Array Value) (gv : Value) (w W : World) : Prop where
  l : LI N x w W
  bF : Blk W F vs 44
  gr : frE x = 0 → vs[5]? = some gv ∧ Row W lo 107 4 gv x.cs.length ((frG x).map GridV.cells).flatten
theorem RJ.below {N F lo : Nat} {x : ImgArg} {vs : Array Value} {gv : Value} {w W W' : World} (h : RJ N F lo x vs gv w W) (hb : Below W.heap.size W W') : RJ N F lo x vs gv w W' :=
  ⟨h.l.below hb, h.bF.below hb h.bF.lt, fun h0 => ⟨(h.gr h0).1, Row.grow (h.gr h0).2 hb⟩⟩
theorem RefNew.vs {x : ImgArg} {lo : Nat} {r : Ending} {w' : World} (h : RefNew x.w x.h (psOf x.cs) lo r w') :
    ∃ vs gv, r = .returned (.tuple #[.agg vs, .int .i64 (frE x)]) ∧ vs.size = 6 ∧ vs.all (·.oneCell') = true ∧ (frE x = 0 → vs[5]? = some gv ∧ Row w' lo 107 4 gv x.cs.length ((frG x).map GridV.cells).flatten) := by
  obtain ⟨v, rfl, h1, h2⟩ := h
  by_cases h0 : frE x = 0
  · obtain ⟨u, gv, rfl, hu, hg⟩ := h2 h0
    obtain ⟨ub, uc, rfl⟩ := hu.len
    obtain ⟨gb, gc, rfl⟩ := hg.len
    refine ⟨_, _, rfl, rfl, by simp [Value.oneCell'], fun _ => ⟨rfl, ?_⟩⟩
    have hl := frG_len x
    unfold frG at hl
    rw [hl] at hg
    rw [hl]
    exact hg
  · obtain rfl := h1 h0
    exact ⟨zeroRF, .slice none 0 0, rfl, rfl, by simp [zeroRF, Value.oneCell'], fun h => absurd h h0⟩
theorem tab_stop {e : Nat → Int} {n i : Nat} {R c v : Int} (hi : i < n) (hfe : firstE e n 0 = firstE e (n - i) i) (h5 : e i = v) (hv : v ≠ 0) (hR : (if firstE e n 0 = 0 then c else firstE e n 0) = R) : R = v := by
  rw [hfe, show n - i = (n - (i + 1)) + 1 by omega, firstE_stop e _ i (by rw [h5]; exact hv), h5, if_neg hv] at hR
  exact hR.symm
theorem first_stop {e : Nat → Int} {n i : Nat} {v : Int} (hi : i < n) (hfe : firstE e n 0 = firstE e (n - i) i) (h5 : e i = v) (hv : v ≠ 0) : firstE e n 0 = v := by
  rw [hfe, show n - i = (n - (i + 1)) + 1 by omega, firstE_stop e _ i (by rw [h5]; exact hv), h5]
theorem ref_right11 (x : ImgArg) (hf : FewOk x) (w : World) (h : IsImg w x.val x) :
    Calls Try.prog 22 #[x.val] w fun r w' => r = .returned (.int .i64 (imgE x)) ∧ Below w.heap.size w w' := by
  have hc20 := hf.c20
  obtain ⟨cb, ccap, hcu⟩ := h.cs.len
  have HCU := Lib.hid hcu
  obtain ⟨tb, tcap, htu⟩ := h.ts.len
  have HTU := Lib.hid htu
  have hL := LI.begin h
  obtain ⟨N, hN⟩ : ∃ N, N = w.heap.size := ⟨_, rfl⟩
  rw [← hN] at hL
  have HN := Lib.hid hN
  have hfr := fun W h => ref_frame x W h hf.c20
  have hco := fun W h => ref_comps x.val x W h hf
  have hta := fun W h => ref_tables x hf W h
  obtain ⟨R, hR⟩ : ∃ R, imgE x = R := ⟨_, rfl⟩
  rw [hR]
  rw [imgE_eq] at hR
  have HR := Lib.hid hR
  clear hN h hcu hR htu
  unfold ImgArg.val at *
  go_enter Try.func22, Try.ntmps22
  go_upto_region 1 with fail
  refine wp_world (LI N x w) hL ?_
  rw [← HN.out]
  clear hL
  intro W hL
  go_upto_region 2 with (first
    | (refine wpList_load_row rfl 26 _ rfl N rfl 26 _ _ _ hL.bN Try.underlying26 rfl (by kernel_rfl) ?_)
    | (go_at_call 25; refine (hfr _ hL.img).mono ?_; rintro r w1 ⟨hv, hb1⟩; obtain ⟨vs, gv, rfl, hs6, h1c, hgr⟩ := hv.vs; have hL1 := hL.below hb1; obtain ⟨F, hF⟩ : ∃ F, F = w1.heap.size := ⟨_, rfl⟩; have HF := Lib.hid hF; clear hF hv)
    | (refine wpList_store_row rfl 44 _ _ rfl F _ (by rw [HF.out]; rfl) rfl 44 _ (Blk.new' _ _ _ HF.out) (by rw [hs6]; kernel_rfl) (by rw [hs6]; rfl) h1c ?_; simp only [Act.put]))
  have hN1 : N < w1.heap.size := hL1.bN.lt
  have hfw : Below w1.heap.size w1 ((w1.alloc (.cells zeroRF 44)).setRow F vs) := Below.setRow ((Below.refl _ _).alloc (Nat.le_refl _) _) (Nat.le_of_eq HF.out.symm) _
  try rw [← HF.out]
  refine wp_world (RJ N F W.heap.size x vs gv w) ⟨hL1.below hfw, (Blk.new' _ _ _ HF.out).row _, fun h0 => ⟨(hgr h0).1, Row.grow (hgr h0).2 hfw⟩⟩ ?_
  clear hfw hgr hL1 hb1 hL h1c hfr
  intro W1 hJ
  clear hN1 HF
  generalize W.heap.size = lo at *
  clear w1 W
  have HS6 := Lib.hid hs6
  clear hs6
  by_cases h1 : frE x = 0
  · have hR := HR.out
    rw [if_pos h1] at hR
    rw [h1]
    obtain ⟨c, hc⟩ : ∃ c, compsE x.cs = c := ⟨_, rfl⟩
    rw [hc] at hco hR
    by_cases h2 : c = 0
    · subst h2
      rw [if_pos rfl] at hR
      obtain ⟨c, hc2⟩ : ∃ c, tablesE x = c := ⟨_, rfl⟩
      rw [hc2] at hta hR
      by_cases h3 : c = 0
      · subst h3
        rw [if_pos rfl] at hR
        have HR2 := Lib.hid hR
        have H1 := Lib.hid h1
        clear hR h1 hc hc2 HR
        go_upto_region 9 with (first
          | (refine wpList_load_row rfl 26 _ rfl N rfl 26 _ _ _ hJ.l.bN Try.underlying26 rfl (by kernel_rfl) ?_)
          | (go_at_call 64; refine (hco _ hJ.l.img).mono ?_; rintro r w1 ⟨rfl, hb1⟩; replace hJ := hJ.below hb1)
          | (go_at_call 65; refine (hta _ hJ.l.img).mono ?_; rintro r w1 ⟨rfl, hb1⟩; replace hJ := hJ.below hb1))
        clear hco hta hb1
        go_wp2
        obtain ⟨e, he⟩ : ∃ e : Nat → Int, (fun i => planeE ((frG x).getD i ⟨0, 0, 0, 0⟩) (x.cs.getD i noComp)) = e := ⟨_, rfl⟩
        have hR := HR2.out
        unfold planesE at hR
        rw [he] at hR
        have HR := Lib.hid hR
        have HGL := Lib.hid (frG_len x)
        have HE := Lib.hid he
        clear he hR HR2
        have HEL := Lib.hid (show ∀ W, RJ N F lo x vs gv w W → Elems W 4 gv ((frG x).map GridV.cells) from fun W h =>
          Ar.elems (h.gr H1.out).2.ar (fun c hc => by obtain ⟨p, _, rfl⟩ := List.mem_map.1 hc; rfl) (by rw [List.length_map, HGL.out]) (by simp only [maxLen]; omega))
        go_loopw [5] (fun iv wr => ∃ i : Nat, i ≤ x.cs.length ∧ iv = .int .i64 i ∧ firstE e x.cs.length 0 = firstE e (x.cs.length - i) i ∧ RJ N F lo x vs gv w wr) (fun iv _ => x.cs.length - (intOf iv).toNat)
        case atStart => exact ⟨0, Nat.zero_le _, rfl, rfl, hJ⟩
        case round =>
          clear hJ
          obtain ⟨i, hi, rfl, hfe, hJ⟩ := hrel
          have q2 : wr.cell? ⟨N, 2, none⟩ = some (.slice cb x.cs.length ccap) := by rw [← HCU.out]; exact hJ.l.bN.cell 2
          by_cases hlt : i < x.cs.length
          · have tl : decide (i < x.cs.length) = true := by simpa using hlt
            have hcs : IsComps wr (.slice cb x.cs.length ccap) x.cs := by have := hJ.l.img.cs; rwa [HCU.out] at this
            obtain ⟨a, rfl, -, -, -, -, c4, c5, c6⟩ := hcs.at hlt
            obtain ⟨ub, uc, hu, -⟩ := (hcs.ok _ (List.getElem_mem hlt)).ar.len
            obtain ⟨ga, gcap, hgv, -⟩ := (HEL.out wr hJ).get (by decide) (i := i) (by rw [List.length_map, HGL.out]; exact hlt)
            rw [List.length_map, HGL.out] at hgv
            subst hgv
            have hgl : i < (frG x).length := by rw [HGL.out]; exact hlt
            obtain ⟨⟨g0, g1, g2, g3⟩, hg⟩ : ∃ g, (frG x)[i]'hgl = g := ⟨_, rfl⟩
            have hei : e i = planeE ⟨g0, g1, g2, g3⟩ (x.cs[i]'hlt) := by
              rw [← HE.out]
              simp only [comp_getD hlt]
              rw [← hg, List.getD_eq_getElem?_getD, List.getElem?_eq_getElem hgl, Option.getD_some]
            have HG := Lib.hid (show ∀ W, RJ N F lo x vs (.slice (some ga) x.cs.length gcap) w W → W.cell? ⟨F, 5, none⟩ = some (.slice (some ga) x.cs.length gcap) ∧ W.cell? (ga.add (i * 4)) = some (.int .i64 g0) ∧ W.cell? ⟨(ga.add (i * 4)).block, (ga.add (i * 4)).off + 1, none⟩ = some (.int .i64 g1) from fun W h => by
              obtain ⟨a', cap', he, d0, dj⟩ := (HEL.out W h).get (by decide) (i := i) (by rw [List.length_map]; exact hgl)
              simp only [Value.slice.injEq, Option.some.injEq] at he
              obtain ⟨rfl, -, -⟩ := he
              rw [getD_map' _ _ _ _ hgl, hg] at d0 dj
              exact ⟨(h.bF.cell 5).trans (h.gr H1.out).1, d0, dj 1 (by decide) (by decide)⟩)
            have j0 : (0 : Int) ≤ (i : Int) := by omega
            have j1 : (i : Int) < (x.cs.length : Int) := by omega
            unfold planeE at hei
            rw [hu] at c6
            have HFE := Lib.hid hfe
            clear hfe hcs hg hgl hu
            generalize (x.cs[i]'hlt).bs.length = un at *
            generalize (x.cs[i]'hlt).c = x4 at *
            generalize (x.cs[i]'hlt).r = x5 at *
            have hpr := fun W => ref_right x4 x5 un ub uc W
            obtain ⟨pr, hp⟩ : ∃ pr, Pl.right x4 x5 un = pr := ⟨_, rfl⟩
            rw [hp] at hpr hei
            clear hp
            obtain ⟨K, hK⟩ : ∃ K, K = wr.heap.size := ⟨_, rfl⟩
            have HK := Lib.hid hK
            have hbe : Below wr.heap.size wr (wr.alloc (.cells #[.int .i64 x4, .int .i64 x5, .slice ub un uc] 61)) := (Below.refl _ _).alloc (Nat.le_refl _) _
            clear hK
            go_upto_region 13 with fail
            rw [← HK.out]
            refine wp_world (fun W => RJ N F lo x vs (.slice (some ga) x.cs.length gcap) w W ∧ Blk W K #[.int .i64 x4, .int .i64 x5, .slice ub un uc] 61) ⟨hJ.below hbe, Blk.new' _ _ _ HK.out⟩ ?_
            clear hJ hbe q2 c4 c5 c6 HK
            rintro W ⟨hJ, bK⟩
            clear wr
            refine wp_region_det (fun W => RJ N F lo x vs (.slice (some ga) x.cs.length gcap) w W ∧ Blk W K #[.int .i64 x4, .int .i64 x5, .slice ub un uc] 61) (by kernel_rfl) (by kernel_rfl) ⟨hJ.below (Below.refl _ _).drew, bK.drew⟩ ?_
            clear hJ bK
            refine det_pure (by rfl) (fun w1 hS => run_exec_load_row 61 _ rfl K rfl 61 _ _ hS.2 Try.underlying61 rfl (by kernel_rfl)) ?_
            simp only [Act.put, List.setIfInBounds_toArray, List.set_cons_zero, List.set_cons_succ]
            refine det_call (v := .bool pr) (by rfl) (by intro wS hS; go_simp; first | done | exact ⟨rfl, rfl⟩) (fun W hS => (hpr W).mono fun e w' hh => ⟨hh.1, hS.1.below hh.2, hS.2.below hh.2 hS.2.lt⟩) ?_
            simp only [Act.put, List.setIfInBounds_toArray, List.set_cons_zero, List.set_cons_succ]
            clear hpr
            cases pr
            · (repeat (first | (refine det_skip (by rfl) ?_; simp only [Act.put, List.setIfInBounds_toArray, List.set_cons_zero, List.set_cons_succ]) | (refine det_pure (v := ?_) (by rfl) ?_ ?_; rotate_left; (intro wS hS; have k0 := hS.2.cell 0; have k1 := hS.2.cell 1; obtain ⟨f5, g0c, g1c⟩ := HG.out wS hS.1; go_simp; try with_reducible rfl); simp only [Act.put, List.setIfInBounds_toArray, List.set_cons_zero, List.set_cons_succ])))
              refine det_nil ?_
              rintro W7 ⟨hJ, -⟩
              have h5 : e i = 4 := by rw [hei]; exact if_neg (fun h => by cases h.1.1)
              have hR5 := tab_stop hlt HFE.out h5 (by decide) HR.out
              clear h5 hei
              subst hR5
              go_wp2
              go_ret
              exact ⟨rfl, hJ.l.hB⟩
            · by_cases h4 : x4 = g0
              · by_cases h5 : x5 = g1
                · have h0 : e i = 0 := by rw [hei]; exact if_pos ⟨⟨rfl, h4⟩, h5⟩
                  have HN2 := Lib.hid (tab_next hlt HFE.out h0)
                  have t1 : (x4 != g0) = false := by simpa using h4
                  have t2 : (x5 != g1) = false := by simpa using h5
                  clear h0 hei h4 h5
                  (repeat (first | (refine det_skip (by rfl) ?_; simp only [Act.put, List.setIfInBounds_toArray, List.set_cons_zero, List.set_cons_succ]) | (refine det_pure (v := ?_) (by rfl) ?_ ?_; rotate_left; (intro wS hS; have k0 := hS.2.cell 0; have k1 := hS.2.cell 1; obtain ⟨f5, g0c, g1c⟩ := HG.out wS hS.1; go_simp; try with_reducible rfl); simp only [Act.put, List.setIfInBounds_toArray, List.set_cons_zero, List.set_cons_succ])))
                  refine det_nil ?_
                  rintro W7 ⟨hJ, -⟩
                  go_wp2
                  go_roundw
                  case rel => exact ⟨i + 1, by omega, by go_num, HN2.out, hJ⟩
                  case measure => simp [intOf]; omega
                · have t1 : (x4 != g0) = false := by simpa using h4
                  have t2 : (x5 != g1) = true := by simpa using h5
                  have H5 := Lib.hid h5
                  clear h4 h5
                  (repeat (first | (refine det_skip (by rfl) ?_; simp only [Act.put, List.setIfInBounds_toArray, List.set_cons_zero, List.set_cons_succ]) | (refine det_pure (v := ?_) (by rfl) ?_ ?_; rotate_left; (intro wS hS; have k0 := hS.2.cell 0; have k1 := hS.2.cell 1; obtain ⟨f5, g0c, g1c⟩ := HG.out wS hS.1; go_simp; try with_reducible rfl); simp only [Act.put, List.setIfInBounds_toArray, List.set_cons_zero, List.set_cons_succ])))
                  refine det_nil ?_
                  rintro W7 ⟨hJ, -⟩
                  have h5 : e i = 4 := by rw [hei]; exact if_neg (fun h => H5.out h.2)
                  have hR5 := tab_stop hlt HFE.out h5 (by decide) HR.out
                  clear h5 hei
                  subst hR5
                  go_wp2
                  go_ret
                  exact ⟨rfl, hJ.l.hB⟩
              · have t1 : (x4 != g0) = true := by simpa using h4
                have H4 := Lib.hid h4
                clear h4
                (repeat (first | (refine det_skip (by rfl) ?_; simp only [Act.put, List.setIfInBounds_toArray, List.set_cons_zero, List.set_cons_succ]) | (refine det_pure (v := ?_) (by rfl) ?_ ?_; rotate_left; (intro wS hS; have k0 := hS.2.cell 0; have k1 := hS.2.cell 1; obtain ⟨f5, g0c, g1c⟩ := HG.out wS hS.1; go_simp; try with_reducible rfl); simp only [Act.put, List.setIfInBounds_toArray, List.set_cons_zero, List.set_cons_succ])))
                refine det_nil ?_
                rintro W7 ⟨hJ, -⟩
                have h5 : e i = 4 := by rw [hei]; exact if_neg (fun h => H4.out h.1.2)
                have hR5 := tab_stop hlt HFE.out h5 (by decide) HR.out
                clear h5 hei
                subst hR5
                go_wp2
                go_ret
                exact ⟨rfl, hJ.l.hB⟩
          · have tl : decide (i < x.cs.length) = false := by simpa using hlt
            rw [show x.cs.length - i = 0 by omega] at hfe
            have hR := HR.out
            rw [if_pos (show firstE e x.cs.length 0 = 0 from hfe)] at hR
            obtain ⟨e2, he2⟩ : ∃ e2 : Nat → Int, (fun i => compBE (x.cs.getD i noComp)) = e2 := ⟨_, rfl⟩
            have hbe : blocksE x.cs = firstE e2 x.cs.length 0 := by rw [← he2]; rfl
            rw [hbe] at hR
            have HR3 := Lib.hid hR
            have HE2 := Lib.hid (show ∀ i (hi : i < x.cs.length), e2 i = compBE (x.cs[i]'hi) from fun i hi => by rw [← he2]; simp only [comp_getD hi])
            clear hR hbe he2 hfe
            clear HR HE HEL
            go_wp2
            clear q2
            obtain ⟨wo, hwo⟩ : ∃ wo : World, wo = wr := ⟨_, rfl⟩
            subst hwo
            go_loopw [7] (fun iv wr => ∃ i : Nat, i ≤ x.cs.length ∧ iv = .int .i64 i ∧ firstE e2 x.cs.length 0 = firstE e2 (x.cs.length - i) i ∧ RJ N F lo x vs gv w wr) (fun iv _ => x.cs.length - (intOf iv).toNat)
            case atStart => exact ⟨0, Nat.zero_le _, rfl, rfl, hJ⟩
            case round =>
              clear hJ hlt hi tl
              obtain ⟨i, hi, rfl, hfe, hJ⟩ := hrel
              have q2 : wr.cell? ⟨N, 2, none⟩ = some (.slice cb x.cs.length ccap) := by rw [← HCU.out]; exact hJ.l.bN.cell 2
              by_cases hlt : i < x.cs.length
              · have tl : decide (i < x.cs.length) = true := by simpa using hlt
                have hcs : ∀ W, RJ N F lo x vs gv w W → IsComps W (.slice cb x.cs.length ccap) x.cs := fun W h => by have := h.l.img.cs; rwa [HCU.out] at this
                obtain ⟨a, rfl, -⟩ := (hcs wr hJ).at hlt
                obtain ⟨ub, uc, hu, -⟩ := ((hcs wr hJ).ok _ (List.getElem_mem hlt)).ar.len
                have h64 := ((hcs wr hJ).ok _ (List.getElem_mem hlt)).h64
                have hb3 := hf.b300 _ (List.getElem_mem hlt)
                have HC6 := Lib.hid (show ∀ W, RJ N F lo x vs gv w W → W.cell? ⟨N, 2, none⟩ = some (.slice (some a) x.cs.length ccap) ∧ W.cell? ⟨(a.add (i * 7)).block, (a.add (i * 7)).off + 4 + 2, none⟩ = some (.slice ub (x.cs[i]'hlt).bs.length uc) ∧ Ar W 64 (.slice ub (x.cs[i]'hlt).bs.length uc) (x.cs[i]'hlt).bs.length (bcells (x.cs[i]'hlt).bs) from fun W h => by
                  obtain ⟨a2, ha, -, -, -, -, -, -, c6⟩ := (hcs W h).at hlt
                  have har := ((hcs W h).ok _ (List.getElem_mem hlt)).ar
                  cases ha
                  rw [hu] at c6 har
                  exact ⟨by rw [← HCU.out]; exact h.l.bN.cell 2, c6, har⟩)
                have hei := HE2.out i hlt
                unfold compBE at hei
                generalize (x.cs[i]'hlt).bs = bs at *
                obtain ⟨e3, he3⟩ : ∃ e3 : Nat → Int, (fun k => blockE (bs.getD k [])) = e3 := ⟨_, rfl⟩
                rw [he3] at hei
                have HE3 := Lib.hid he3
                have HEI := Lib.hid hei
                have HFE := Lib.hid hfe
                obtain ⟨-, c6, -⟩ := HC6.out wr hJ
                have j0 : (0 : Int) ≤ (i : Int) := by omega
                have j1 : (i : Int) < (x.cs.length : Int) := by omega
                clear hcs hu hei he3 hfe
                go_wp2
                clear c6 q2
                obtain ⟨wo, hwo⟩ : ∃ wo : World, wo = wr := ⟨_, rfl⟩
                subst hwo
                go_loopw [8] (fun kv wq => ∃ k : Nat, k ≤ bs.length ∧ kv = .int .i64 k ∧ firstE e3 bs.length 0 = firstE e3 (bs.length - k) k ∧ RJ N F lo x vs gv w wq) (fun kv _ => bs.length - (intOf kv).toNat)
                case atStart => exact ⟨0, Nat.zero_le _, rfl, rfl, hJ⟩
                case round =>
                  clear hJ
                  obtain ⟨k, hk, rfl, hfk, hJ⟩ := hrel
                  obtain ⟨q2, c6, hA⟩ := HC6.out wr hJ
                  have HFK := Lib.hid hfk
                  clear hfk
                  by_cases hkl : k < bs.length
                  · have tk : decide (k < bs.length) = true := by simpa using hkl
                    obtain ⟨ad, cp, hsl, -, -⟩ := hA.some (by omega)
                    obtain ⟨rfl, rfl⟩ : ub = some ad ∧ uc = cp := by simpa using hsl
                    have k0 : (0 : Int) ≤ (k : Int) := by omega
                    have k1 : (k : Int) < (bs.length : Int) := by omega
                    obtain ⟨y, hy⟩ : ∃ y, bs.getD k [] = y := ⟨_, rfl⟩
                    have hy64 : y.length = 64 := by rw [← hy, List.getD_eq_getElem?_getD, List.getElem?_eq_getElem hkl]; exact h64 _ (List.getElem_mem hkl)
                    have hek : e3 k = blockE y := by rw [← HE3.out]; show blockE (bs.getD k []) = _; rw [hy]
                    unfold blockE at hek
                    have hrr := fun W => ref_ranged y hy64 W
                    obtain ⟨rb, hrb⟩ : ∃ rb, rangedB y = rb := ⟨_, rfl⟩
                    rw [hrb] at hrr hek
                    have HEK := Lib.hid hek
                    have HY64 := Lib.hid hy64
                    clear hek hrb hy64 hsl
                    cases rb
                    · go_wp2_with (first | (refine Great.wpList_runTo rfl _ rfl _ _ (ar_loady hA h64 k hkl y hy _ rfl rfl) ?_; simp only [Act.put, List.setIfInBounds_toArray, List.set_cons_zero, List.set_cons_succ]) | (go_at_call 67; refine (hrr _).mono ?_; rintro r w1 ⟨rfl, hb1⟩; replace hJ := hJ.below hb1))
                      have h5 : e2 i = 10 := by rw [HEI.out]; exact first_stop hkl HFK.out HEK.out (by decide)
                      have hR5 := tab_stop hlt HFE.out h5 (by decide) HR3.out
                      clear h5
                      subst hR5
                      go_ret
                      exact ⟨rfl, hJ.l.hB⟩
                    · go_wp2_with (first | (refine Great.wpList_runTo rfl _ rfl _ _ (ar_loady hA h64 k hkl y hy _ rfl rfl) ?_; simp only [Act.put, List.setIfInBounds_toArray, List.set_cons_zero, List.set_cons_succ]) | (go_at_call 67; refine (hrr _).mono ?_; rintro r w1 ⟨rfl, hb1⟩; replace hJ := hJ.below hb1))
                      have HN2 := Lib.hid (tab_next hkl HFK.out HEK.out)
                      go_roundw
                      case rel => exact ⟨k + 1, by omega, by go_num, HN2.out, hJ⟩
                      case measure => simp [intOf]; omega
                  · have tk : decide (k < bs.length) = false := by simpa using hkl
                    have h0 : e2 i = 0 := by rw [HEI.out, HFK.out, show bs.length - k = 0 by omega]; rfl
                    have HN2 := Lib.hid (tab_next hlt HFE.out h0)
                    clear h0
                    go_wp2
                    go_roundw
                    case rel => exact ⟨i + 1, by omega, by go_num, HN2.out, hJ⟩
                    case measure => simp [intOf]; omega
              · have tl : decide (i < x.cs.length) = false := by simpa using hlt
                rw [show x.cs.length - i = 0 by omega] at hfe
                have hR := HR3.out
                rw [if_pos (show firstE e2 x.cs.length 0 = 0 from hfe)] at hR
                have hT : tagsE x.ts = R := by
                  rw [← hR]
                  split
                  · assumption
                  · rfl
                unfold tagsE at hT
                have q4 : wr.cell? ⟨N, 4, none⟩ = some (.slice tb x.ts.length tcap) := by rw [← HTU.out]; exact hJ.l.bN.cell 4
                clear hR HR3 HE2 hfe
                by_cases h6 : 64 < x.ts.length
                · have t6 : decide ((x.ts.length : Int) > 64) = true := by simp; omega
                  have t6' : decide (64 < x.ts.length) = true := by simpa using h6
                  rw [if_pos h6] at hT
                  subst hT
                  go_wp2
                  go_ret
                  exact ⟨rfl, hJ.l.hB⟩
                · have t6 : decide ((x.ts.length : Int) > 64) = false := by simp; omega
                  have t6' : decide (64 < x.ts.length) = false := by simpa using h6
                  rw [if_neg h6] at hT
                  obtain ⟨e5, he5⟩ : ∃ e5 : Nat → Int, (fun i => tagE (x.ts.getD i ⟨0, ⟨#[]⟩⟩)) = e5 := ⟨_, rfl⟩
                  rw [he5] at hT
                  have HRT := Lib.hid hT
                  have HE5 := Lib.hid (show ∀ i (hi : i < x.ts.length), e5 i = tagE (x.ts[i]'hi) from fun i hi => by rw [← he5]; simp only [List.getD_eq_getElem?_getD, List.getElem?_eq_getElem hi, Option.getD_some])
                  clear hT he5
                  go_wp2
                  clear q4 q2
                  obtain ⟨wo, hwo⟩ : ∃ wo : World, wo = wr := ⟨_, rfl⟩
                  subst hwo
                  go_loopw [9] (fun iv wr => ∃ i : Nat, i ≤ x.ts.length ∧ iv = .int .i64 i ∧ firstE e5 x.ts.length 0 = firstE e5 (x.ts.length - i) i ∧ RJ N F lo x vs gv w wr) (fun iv _ => x.ts.length - (intOf iv).toNat)
                  case atStart => exact ⟨0, Nat.zero_le _, rfl, rfl, hJ⟩
                  case round =>
                    clear hJ hlt hi tl
                    obtain ⟨i, hi, rfl, hfe, hJ⟩ := hrel
                    have q4 : wr.cell? ⟨N, 4, none⟩ = some (.slice tb x.ts.length tcap) := by rw [← HTU.out]; exact hJ.l.bN.cell 4
                    have HFE := Lib.hid hfe
                    by_cases hlt : i < x.ts.length
                    · have tl : decide (i < x.ts.length) = true := by simpa using hlt
                      have hts : IsTags wr (.slice tb x.ts.length tcap) x.ts := by have := hJ.l.img.ts; rwa [HTU.out] at this
                      obtain ⟨a, rfl, c0, c1⟩ := hts.at hlt
                      have hei := HE5.out i hlt
                      obtain ⟨kd, hkd⟩ : ∃ kd, (x.ts[i]'hlt).kind = kd := ⟨_, rfl⟩
                      obtain ⟨sb, hsb⟩ : ∃ sb, (x.ts[i]'hlt).body = sb := ⟨_, rfl⟩
                      unfold tagE at hei
                      rw [hkd] at c0 hei
                      rw [hsb] at c1 hei
                      have HEI := Lib.hid hei
                      have j0 : (0 : Int) ≤ (i : Int) := by omega
                      have j1 : (i : Int) < (x.ts.length : Int) := by omega
                      obtain ⟨K, hK⟩ : ∃ K, K = wr.heap.size := ⟨_, rfl⟩
                      have HK := Lib.hid hK
                      clear hfe hts hei hkd hsb hK
                      go_upto_region 29 with fail
                      rw [← HK.out]
                      have hbe : Below wr.heap.size wr (wr.alloc (.cells #[.int .i64 kd, .string sb] 104)) := (Below.refl _ _).alloc (Nat.le_refl _) _
                      refine wp_world (fun W => RJ N F lo x vs gv w W ∧ Blk W K #[.int .i64 kd, .string sb] 104) ⟨hJ.below hbe, Blk.new' _ _ _ HK.out⟩ ?_
                      clear hJ hbe q4 c0 c1 HK
                      clear wr
                      rintro W ⟨hJ, bK⟩
                      have k0 := bK.cell 0
                      have k1 := bK.cell 1
                      by_cases h7 : kd < 224
                      · have t7 : decide (kd < 224) = true := decide_eq_true h7
                        have h5 : e5 i = 6 := by rw [HEI.out]; exact if_pos ⟨by omega, .inl h7⟩
                        have hR5 := (first_stop hlt HFE.out h5 (by decide)).symm.trans HRT.out
                        clear h5 h7
                        subst hR5
                        go_wp2
                        go_ret
                        exact ⟨rfl, hJ.l.hB⟩
                      · have t7 : decide (kd < 224) = false := decide_eq_false h7
                        by_cases h8 : kd > 239 ∧ kd ≠ 254
                        · have t8 : decide (kd > 239) = true := decide_eq_true h8.1
                          have t9 : (kd != 254) = true := by simpa using h8.2
                          have h5 : e5 i = 6 := by rw [HEI.out]; exact if_pos ⟨h8.2, .inr h8.1⟩
                          have hR5 := (first_stop hlt HFE.out h5 (by decide)).symm.trans HRT.out
                          clear h5 h7 h8
                          subst hR5
                          go_wp2
                          go_ret
                          exact ⟨rfl, hJ.l.hB⟩
                        · have hei := HEI.out
                          rw [if_neg (by omega)] at hei
                          have HE6 := Lib.hid hei
                          clear hei
                          go_cut [125] from 113 to 125 (fun c wx => c = .bool false ∧ (RJ N F lo x vs gv w wx ∧ Blk wx K #[.int .i64 kd, .string sb] 104))
                          case first =>
                            by_cases h9 : kd > 239
                            · have t8 : decide (kd > 239) = true := decide_eq_true h9
                              have t9 : (kd != 254) = false := by have : kd = 254 := by omega
                                                                  simpa using this
                              clear h7 h8 h9
                              go_wp2_with fail
                              go_meet
                              exact ⟨rfl, hJ, bK⟩
                            · have t8 : decide (kd > 239) = false := decide_eq_false h9
                              clear h7 h8 h9
                              go_wp2_with fail
                              go_meet
                              exact ⟨rfl, hJ, bK⟩
                          clear hJ bK k0 k1
                          obtain ⟨rfl, hJ, bK⟩ := hcut
                          have k1 := bK.cell 1
                          by_cases h10 : sb.size ≤ 65533
                          · have t10 : decide ((sb.size : Int) > 65533) = false := by simp; omega
                            have t10' : decide (65533 < sb.size) = false := by simp; omega
                            have hei := HE6.out
                            rw [if_pos h10] at hei
                            have HN2 := Lib.hid (tab_next hlt HFE.out hei)
                            clear hei h7 h8
                            go_wp2
                            go_roundw
                            case rel => exact ⟨i + 1, by omega, by go_num, HN2.out, hJ⟩
                            case measure => simp [intOf]; omega
                          · have t10 : decide ((sb.size : Int) > 65533) = true := by simp; omega
                            have t10' : decide (65533 < sb.size) = true := by simp; omega
                            have hei := HE6.out
                            rw [if_neg h10] at hei
                            have hR5 := (first_stop hlt HFE.out hei (by decide)).symm.trans HRT.out
                            clear hei h7 h8
                            subst hR5
                            go_wp2
                            go_ret
                            exact ⟨rfl, hJ.l.hB⟩
                    · have tl : decide (i < x.ts.length) = false := by simpa using hlt
                      rw [show x.ts.length - i = 0 by omega] at hfe
                      obtain rfl : R = 0 := HRT.out.symm.trans hfe
                      clear hfe
                      go_wp2
                      go_ret
                      exact ⟨rfl, hJ.l.hB⟩
      · rw [if_neg h3] at hR
        subst hR
        have t3 : (c != 0) = true := by simpa using h3
        have t3' : decide (c = 0) = false := decide_eq_false h3
        clear HR hc hc2 h1
        go_wp2_with (first
          | (refine wpList_load_row rfl 26 _ rfl N rfl 26 _ _ _ hJ.l.bN Try.underlying26 rfl (by kernel_rfl) ?_)
          | (go_at_call 64; refine (hco _ hJ.l.img).mono ?_; rintro r w1 ⟨rfl, hb1⟩; replace hJ := hJ.below hb1)
          | (go_at_call 65; refine (hta _ hJ.l.img).mono ?_; rintro r w1 ⟨rfl, hb1⟩; replace hJ := hJ.below hb1))
        go_ret
        exact ⟨rfl, hJ.l.hB⟩
    · rw [if_neg h2] at hR
      subst hR
      have t2 : (c != 0) = true := by simpa using h2
      have t2' : (c == 0) = false := by simpa using h2
      have t2'' : decide (c = 0) = false := decide_eq_false h2
      clear HR hc h1
      go_wp2_with (first
        | (refine wpList_load_row rfl 26 _ rfl N rfl 26 _ _ _ hJ.l.bN Try.underlying26 rfl (by kernel_rfl) ?_)
        | (go_at_call 64; refine (hco _ hJ.l.img).mono ?_; rintro r w1 ⟨rfl, hb1⟩; replace hJ := hJ.below hb1))
      go_ret
      exact ⟨rfl, hJ.l.hB⟩
  · have hR := HR.out
    rw [if_neg h1] at hR
    rw [hR] at h1 ⊢
    have t1 : (R != 0) = true := by simpa using h1
    clear hR
    go_wp2
    go_ret
    exact ⟨rfl, hJ.l.hB⟩
end Go.Proofs.Ytgmhhocpdfdplaa
