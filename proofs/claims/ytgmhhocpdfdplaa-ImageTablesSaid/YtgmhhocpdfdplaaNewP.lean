/- Package frame: what New computes, in plain words; the frame as it is made. -/
import Derived.Test.YtgmhhocpdfdplaaGrid
import Derived.Test.YtgmhhocpdfdplaaFr2
import Derived.Test.YtgmhhocpdfdplaaMono
import Derived.Test.YtgmhhocpdfdplaaDet1
namespace Go.Proofs.Ytgmhhocpdfdplaa
open Go.RowKit
set_option maxRecDepth 100000
def mxN (f : Nat → Int) : Nat → Int
  | 0 => 0
  | k + 1 => max (mxN f k) (f k)
def smN (f : Nat → Int) : Nat → Int
  | 0 => 0
  | k + 1 => smN f k + f k
theorem mxN_in {f : Nat → Int} {lo hi : Int} (h0 : 0 ≤ lo) : ∀ n, (∀ k, k < n → lo ≤ f k ∧ f k ≤ hi) → 0 ≤ mxN f n ∧ (0 < n → lo ≤ mxN f n ∧ mxN f n ≤ hi)
  | 0, _ => ⟨Int.le_refl _, fun h => absurd h (by omega)⟩
  | n + 1, h => by
    have ih := mxN_in h0 n (fun k hk => h k (by omega))
    have hn := h n (by omega)
    simp only [mxN]
    by_cases hz : n = 0
    · subst hz
      simp only [mxN]
      omega
    · have := ih.2 (by omega)
      omega
theorem smN_in {f : Nat → Int} {hi : Int} : ∀ n, (∀ k, k < n → 0 ≤ f k ∧ f k ≤ hi) → 0 ≤ smN f n ∧ smN f n ≤ hi * n
  | 0, _ => by simp [smN]
  | n + 1, h => by
    have ih := smN_in n (fun k hk => h k (by omega))
    have hn := h n (by omega)
    simp only [smN]
    rw [Int.natCast_add, Int.mul_add]
    simp only [Int.natCast_one, Int.mul_one]
    omega
def hA (qs : List (Int × Int)) (k : Nat) : Int := (qs.getD k (0, 0)).1
def vA (qs : List (Int × Int)) (k : Nat) : Int := (qs.getD k (0, 0)).2
def partsOf (ps : List (Int × Int)) : List (Int × Int) := if ps.length = 1 then [(1, 1)] else ps
def hhN (qs : List (Int × Int)) : Int := mxN (hA qs) qs.length
def vvN (qs : List (Int × Int)) : Int := mxN (vA qs) qs.length
def iuN (qs : List (Int × Int)) : Int := smN (fun k => hA qs k * vA qs k) qs.length
def gridP (x y hh vv ac dn : Int) (p : Int × Int) : GridV := ⟨ac * p.1, dn * p.2, upI (upI (x * p.1) hh) 8, upI (upI (y * p.2) vv) 8⟩
def acN (x : Int) (qs : List (Int × Int)) : Int := upI x (8 * hhN qs)
def dnN (y : Int) (qs : List (Int × Int)) : Int := upI y (8 * vvN qs)
def gridsN (x y : Int) (qs : List (Int × Int)) : List GridV := qs.map (gridP x y (hhN qs) (vvN qs) (acN x qs) (dnN y qs))
def totN (x y : Int) (qs : List (Int × Int)) : Int := smN (fun k => (acN x qs * hA qs k) * (dnN y qs * vA qs k)) qs.length
def newE (x y : Int) (ps : List (Int × Int)) : Int :=
  if rightE x y ps ≠ 0 then rightE x y ps else if 1 < ps.length ∧ 10 < iuN (partsOf ps) then 12 else if 16384 < totN x y (partsOf ps) then 11 else 0
theorem upI_in {a b : Int} (ha : 0 ≤ a) (hb : 1 ≤ b) : 0 ≤ upI a b ∧ upI a b ≤ a := by
  unfold upI
  refine ⟨Int.ediv_nonneg (by omega) (by omega), ?_⟩
  have h1 : a + b - 1 < (a + 1) * b := by
    have h2 : a * 1 ≤ a * b := Int.mul_le_mul_of_nonneg_left hb ha
    rw [Int.add_mul, Int.one_mul]
    omega
  have := Int.ediv_lt_of_lt_mul (by omega) h1
  omega
theorem upI_8 {a b : Int} (ha : 0 ≤ a) (hb : 8 ≤ b) : 8 * upI a b ≤ a + b - 1 := by
  have h0 := (upI_in ha (show 1 ≤ b by omega)).1
  have h1 : upI a b * b ≤ a + b - 1 := Int.ediv_mul_le _ (by omega)
  have h2 : upI a b * 8 ≤ upI a b * b := Int.mul_le_mul_of_nonneg_left hb h0
  omega
theorem anyF_all {p : Nat → Bool} : ∀ n i, anyF p n i = false → ∀ k, i ≤ k → k < i + n → p k = false
  | 0, _, _, k, h1, h2 => absurd h2 (by omega)
  | n + 1, i, h, k, h1, h2 => by
    by_cases hp : p i = true
    · rw [anyF_stop p n i hp] at h; cases h
    · rw [Bool.not_eq_true] at hp
      rw [anyF_go p n i hp] at h
      by_cases hk : k = i
      · subst hk; exact hp
      · exact anyF_all n (i + 1) h k (by omega) (by omega)
/-- What is known of right numbers. -/
structure FrOk (x y : Int) (qs : List (Int × Int)) : Prop where
  x1 : 1 ≤ x
  x2 : x ≤ 16384
  y1 : 1 ≤ y
  y2 : y ≤ 16384
  n1 : 1 ≤ qs.length
  n2 : qs.length ≤ 4
  ps : ∀ k, k < qs.length → 1 ≤ hA qs k ∧ hA qs k ≤ 4 ∧ 1 ≤ vA qs k ∧ vA qs k ≤ 4
theorem facB_in {n : Int} (h : facB n = true) : 1 ≤ n ∧ n ≤ 4 := by simpa [facB] using h
theorem rightE_ok {x y : Int} {ps : List (Int × Int)} (h : rightE x y ps = 0) : FrOk x y ps := by
  unfold rightE at h
  split at h
  · cases h
  rename_i h1
  split at h
  · cases h
  rename_i h2
  split at h
  · cases h
  rename_i h3
  simp only [not_or, Bool.not_eq_true] at h1 h2
  refine ⟨by omega, by omega, by omega, by omega, by omega, by omega, fun k hk => ?_⟩
  have hb := anyF_all _ _ h1.2.2.2 k (by omega) (by omega)
  simp only [badP, Bool.or_eq_false_iff, Bool.not_eq_false'] at hb
  have h4 := facB_in hb.1
  have h5 := facB_in hb.2
  exact ⟨h4.1, h4.2, h5.1, h5.2⟩
theorem FrOk.parts {x y : Int} {ps : List (Int × Int)} (h : FrOk x y ps) : FrOk x y (partsOf ps) := by
  unfold partsOf
  split
  · exact ⟨h.x1, h.x2, h.y1, h.y2, by simp, by simp, fun k hk => by
      obtain rfl : k = 0 := by simpa using hk
      decide⟩
  · exact h
theorem partsOf_len (ps : List (Int × Int)) : (partsOf ps).length = ps.length := by
  unfold partsOf
  split
  · rename_i h; rw [h]; rfl
  · rfl
section
variable {x y : Int} {qs : List (Int × Int)}
theorem FrOk.hh (h : FrOk x y qs) : 1 ≤ hhN qs ∧ hhN qs ≤ 4 := (mxN_in (lo := 1) (hi := 4) (by decide) qs.length (fun k hk => ⟨(h.ps k hk).1, (h.ps k hk).2.1⟩)).2 h.n1
theorem FrOk.vv (h : FrOk x y qs) : 1 ≤ vvN qs ∧ vvN qs ≤ 4 := (mxN_in (lo := 1) (hi := 4) (by decide) qs.length (fun k hk => ⟨(h.ps k hk).2.2.1, (h.ps k hk).2.2.2⟩)).2 h.n1
theorem mul_in {a b A B : Int} (h0 : 0 ≤ a) (h1 : a ≤ A) (h2 : 0 ≤ b) (h3 : b ≤ B) : 0 ≤ a * b ∧ a * b ≤ A * B :=
  ⟨Int.mul_nonneg h0 h2, Int.mul_le_mul h1 h3 h2 (by omega)⟩
theorem FrOk.ac (h : FrOk x y qs) : 0 ≤ acN x qs ∧ acN x qs ≤ 3000 := by
  have h1 := h.hh
  have h2 := h.x1
  have h3 := h.x2
  unfold acN
  have h4 := upI_8 (a := x) (b := 8 * hhN qs) (by omega) (by omega)
  have h5 := upI_in (a := x) (b := 8 * hhN qs) (by omega) (by omega)
  omega
theorem FrOk.dn (h : FrOk x y qs) : 0 ≤ dnN y qs ∧ dnN y qs ≤ 3000 := by
  have h1 := h.vv
  have h2 := h.y1
  have h3 := h.y2
  unfold dnN
  have h4 := upI_8 (a := y) (b := 8 * vvN qs) (by omega) (by omega)
  have h5 := upI_in (a := y) (b := 8 * vvN qs) (by omega) (by omega)
  omega
theorem FrOk.iu (h : FrOk x y qs) (k : Nat) (hk : k ≤ qs.length) : 0 ≤ smN (fun k => hA qs k * vA qs k) k ∧ smN (fun k => hA qs k * vA qs k) k ≤ 64 := by
  have h1 := smN_in (f := fun k => hA qs k * vA qs k) (hi := 16) k (fun j hj => by
    have h2 := h.ps j (by omega)
    exact mul_in (A := 4) (B := 4) (by omega) h2.2.1 (by omega) h2.2.2.2)
  have h3 := h.n2
  omega
end
/-- The frame in block F while it is made: its parts, grids and numbers. -/
structure NF (N F : Nat) (u gv : Value) (qs : List (Int × Int)) (gs : List GridV) (ac dn uw uh tot iu : Int) (w W : World) : Prop where
  bF : Blk W F #[u, gv, .int .i64 ac, .int .i64 dn, .int .i64 uw, .int .i64 uh, .int .i64 tot, .int .i64 iu] 158
  row : Row W N 154 2 u qs.length (qs.map partC).flatten
  grid : Row W N 116 4 gv gs.length (gs.map GridV.cells).flatten
  hN : N ≤ F
  hB : Below N w W
section
variable {N F : Nat} {u gv : Value} {qs : List (Int × Int)} {gs : List GridV} {ac dn uw uh tot iu : Int} {w W W' : World}
theorem NF.below (h : NF N F u gv qs gs ac dn uw uh tot iu w W) (hb : Below W.heap.size W W') : NF N F u gv qs gs ac dn uw uh tot iu w W' :=
  ⟨h.bF.below hb h.bF.lt, h.row.grow hb, h.grid.grow hb, h.hN, h.hB.trans (hb.mono (by have := h.bF.lt; have := h.hN; omega))⟩
theorem NF.rowF (h : NF N F u gv qs gs ac dn uw uh tot iu w W) : ∀ g, u.ownBlock = some g → g ≠ F := h.row.typed h.bF (by decide)
theorem NF.gridF (h : NF N F u gv qs gs ac dn uw uh tot iu w W) : ∀ g, gv.ownBlock = some g → g ≠ F := h.grid.typed h.bF (by decide)
theorem NF.setAc (h : NF N F u gv qs gs ac dn uw uh tot iu w W) (z : Int) : NF N F u gv qs gs z dn uw uh tot iu w (W.setCell ⟨F, 2, none⟩ (.int .i64 z)) :=
  ⟨h.bF.set 2 _, h.row.other _ _ h.rowF, h.grid.other _ _ h.gridF, h.hN, h.hB.setCell h.hN _⟩
theorem NF.setDn (h : NF N F u gv qs gs ac dn uw uh tot iu w W) (z : Int) : NF N F u gv qs gs ac z uw uh tot iu w (W.setCell ⟨F, 3, none⟩ (.int .i64 z)) :=
  ⟨h.bF.set 3 _, h.row.other _ _ h.rowF, h.grid.other _ _ h.gridF, h.hN, h.hB.setCell h.hN _⟩
theorem NF.setUw (h : NF N F u gv qs gs ac dn uw uh tot iu w W) (z : Int) : NF N F u gv qs gs ac dn z uh tot iu w (W.setCell ⟨F, 4, none⟩ (.int .i64 z)) :=
  ⟨h.bF.set 4 _, h.row.other _ _ h.rowF, h.grid.other _ _ h.gridF, h.hN, h.hB.setCell h.hN _⟩
theorem NF.setUh (h : NF N F u gv qs gs ac dn uw uh tot iu w W) (z : Int) : NF N F u gv qs gs ac dn uw z tot iu w (W.setCell ⟨F, 5, none⟩ (.int .i64 z)) :=
  ⟨h.bF.set 5 _, h.row.other _ _ h.rowF, h.grid.other _ _ h.gridF, h.hN, h.hB.setCell h.hN _⟩
theorem NF.setTot (h : NF N F u gv qs gs ac dn uw uh tot iu w W) (z : Int) : NF N F u gv qs gs ac dn uw uh z iu w (W.setCell ⟨F, 6, none⟩ (.int .i64 z)) :=
  ⟨h.bF.set 6 _, h.row.other _ _ h.rowF, h.grid.other _ _ h.gridF, h.hN, h.hB.setCell h.hN _⟩
theorem NF.setIu (h : NF N F u gv qs gs ac dn uw uh tot iu w W) (z : Int) : NF N F u gv qs gs ac dn uw uh tot z w (W.setCell ⟨F, 7, none⟩ (.int .i64 z)) :=
  ⟨h.bF.set 7 _, h.row.other _ _ h.rowF, h.grid.other _ _ h.gridF, h.hN, h.hB.setCell h.hN _⟩
theorem NF.parts (h : NF N F u gv qs gs ac dn uw uh tot iu w W) (hl : qs.length ≤ 1000000) : IsParts W u qs :=
  Ar.elems h.row.ar (fun c hc => by obtain ⟨p, _, rfl⟩ := List.mem_map.1 hc; rfl) (by simp) (by simp only [maxLen]; omega)
theorem NF.fr (h : NF N F u gv qs gs ac dn uw uh tot iu w W) (hl : gs.length ≤ 1000000) : IsFr W F gs :=
  ⟨_, _, _, _, _, _, _, _, h.bF, h.grid.down (Nat.zero_le _), hl⟩
end
end Go.Proofs.Ytgmhhocpdfdplaa
