/- How many blocks lie ahead of a block; what a range's round keeps. Package image's iterator as a function value. -/
import Derived.Test.YtgmhhocpdfdplaaImgHands
import Derived.Test.YtgmhhocpdfdplaaGL
namespace Go.Proofs.Ytgmhhocpdfdplaa
open Go.RowKit Go.Shelf
attribute [local go_sem] Oper.semAt_some
set_option maxRecDepth 100000
theorem image_blocks (x : ImgArg) (w : World) : Calls Try.prog 28 #[x.val] w fun e w' => e = .returned (.func (.func 76) #[] #[.pointer (some ⟨w.heap.size, 0, none⟩)]) ∧ w' = w.alloc (.cells #[.int .i64 x.w, .int .i64 x.h, x.cu, x.qu, x.tu] 26) := by
  unfold ImgArg.val
  go_enter Try.func28, Try.ntmps28
  go_wp2_with fail
  go_ret
  exact ⟨rfl, rfl⟩
/-- How many blocks the components below c have. -/
def offB (x : ImgArg) (c : Nat) : Nat := (befo x c).length
def lenB (x : ImgArg) (c : Nat) : Nat := (x.cs.getD c noComp).bs.length
theorem offB_zero (x : ImgArg) : offB x 0 = 0 := rfl
theorem offB_succ (x : ImgArg) (c : Nat) : offB x (c + 1) = offB x c + lenB x c := by
  unfold offB lenB
  rw [befo_succ, List.length_append]
  unfold spots
  rw [List.length_map, List.length_range]
theorem offB_mono (x : ImgArg) {c : Nat} : ∀ {d : Nat}, c ≤ d → offB x c ≤ offB x d
  | 0, h => by obtain rfl : c = 0 := by omega
               exact Nat.le_refl _
  | d + 1, h => by
    by_cases hc : c = d + 1
    · rw [hc]; exact Nat.le_refl _
    · rw [offB_succ]
      exact Nat.le_trans (offB_mono x (d := d) (by omega)) (Nat.le_add_right _ _)
theorem AtB.len {x : ImgArg} {pre : List (Nat × Nat)} {p : Nat × Nat} (h : AtB x pre p) : pre.length = offB x p.1 + p.2 := by
  rw [h.pre, List.length_append, List.length_map, List.length_range]
  rfl
theorem AtB.lt {x : ImgArg} {pre : List (Nat × Nat)} {p : Nat × Nat} (h : AtB x pre p) {c k : Nat} (hk : offB x c + k = pre.length) (hc : c ≤ x.cs.length) : c < x.cs.length := by
  have h1 := h.len
  have h2 := offB_succ x p.1
  have h3 : p.2 < lenB x p.1 := h.k
  have h4 := offB_mono x (c := p.1 + 1) (d := c)
  have h5 := h.c
  by_cases hn : c < x.cs.length
  · exact hn
  · have := h4 (by omega)
    omega
theorem AtB.at {x : ImgArg} {pre : List (Nat × Nat)} {p : Nat × Nat} (h : AtB x pre p) {c k : Nat} (hk : offB x c + k = pre.length) (hl : k < lenB x c) : c = p.1 ∧ k = p.2 := by
  have h1 := h.len
  have h3 : p.2 < lenB x p.1 := h.k
  have hc : c = p.1 := by
    by_cases h4 : c < p.1
    · have h5 := offB_mono x (c := c + 1) (d := p.1) (by omega)
      rw [offB_succ] at h5
      omega
    · by_cases h6 : p.1 < c
      · have h5 := offB_mono x (c := p.1 + 1) (d := c) (by omega)
        rw [offB_succ] at h5
        omega
      · omega
  subst hc
  exact ⟨rfl, by omega⟩
theorem smN_off (x : ImgArg) (hR : RightI x) : ∀ k, k ≤ x.cs.length → ((offB x k : Nat) : Int) = smN (fun k => ((frG x).getD k noGr).c * ((frG x).getD k noGr).r) k
  | 0, _ => rfl
  | k + 1, h => by
    have hk : k < x.cs.length := by omega
    rw [offB_succ, Int.natCast_add, smN_off x hR k (by omega)]
    have h0 := firstE_all hR.pl k (Nat.zero_le _) (by omega)
    simp only [comp_getD hk] at h0
    unfold planeE at h0
    split at h0
    · rename_i hp
      obtain ⟨⟨h1, h2⟩, h3⟩ := hp
      unfold Pl.right at h1
      simp only [Bool.and_eq_true, beq_iff_eq] at h1
      have hl : ((lenB x k : Nat) : Int) = (x.cs[k]'hk).c * (x.cs[k]'hk).r := by
        unfold lenB
        rw [comp_getD hk]
        exact h1.2
      rw [hl, h2, h3]
      rfl
    · exact absurd h0 (by decide)
/-- All blocks of a right image: as many as its frame's. -/
theorem offB_blk (x : ImgArg) (hR : RightI x) : ((offB x x.cs.length : Nat) : Int) = blkN (frG x) (frG x).length := by
  rw [frG_len]
  exact smN_off x hR _ (Nat.le_refl _)
/-- The reference's frame fv has t blocks, in every world behind w'. -/
def FrB (fv : Value) (t : Int) (w' : World) : Prop := ∀ W, Below w'.heap.size w' W → Calls Try.prog 27 #[fv] W fun r W' => r = .returned (.int .i64 t) ∧ Below W.heap.size W W'
theorem FrB.below {fv : Value} {t : Int} {w w' : World} (h : FrB fv t w) (hb : Below w.heap.size w w') : FrB fv t w' := fun W hW => h W (hb.trans (hW.mono hb.size))
theorem ref_frame_ok (x : ImgArg) (w : World) (h : IsImg w x.val x) (hf : x.cs.length ≤ 20) (h0 : frE x = 0) :
    Calls Try.prog 25 #[x.val] w fun r w' => (∃ u0 u1 u2 u3 pb pn pc gb gn gc, r = .returned (.tuple #[.agg #[.int .i64 u0, .int .i64 u1, .int .i64 u2, .int .i64 u3, .slice pb pn pc, .slice gb gn gc], .int .i64 0]) ∧
      FrB (.agg #[.int .i64 u0, .int .i64 u1, .int .i64 u2, .int .i64 u3, .slice pb pn pc, .slice gb gn gc]) (blkN (frG x) (frG x).length) w') ∧ Below w.heap.size w w' := by
  refine (ref_frame x w h hf).mono ?_
  rintro r w' ⟨⟨v, rfl, _, hv⟩, hb⟩
  obtain ⟨u, gv, rfl, hru, hrg⟩ := hv h0
  obtain ⟨pb, pc, rfl⟩ := hru.len
  obtain ⟨gb, gc, rfl⟩ := hrg.len
  have hok := (newE_zero h0).1
  have hz : newE x.w x.h (psOf x.cs) = 0 := h0
  refine ⟨⟨_, _, _, _, _, _, _, _, _, _, by rw [hz], fun W hW => ?_⟩, hb⟩
  refine ref_blocks _ _ _ _ _ _ _ _ (frG x) ?_ (grids_in hok) W ?_
  · have := hok.n2
    unfold frG gridsN
    rw [List.length_map]
    exact this
  · exact Ar.elems (hrg.grow hW).ar (fun c hc => by obtain ⟨p, _, rfl⟩ := List.mem_map.1 hc; rfl) (by simp [frG]) (by
      have := hok.n2
      rw [show (gridsN x.w x.h (partsOf (psOf x.cs))).length = (partsOf (psOf x.cs)).length by unfold gridsN; rw [List.length_map]]
      simp only [maxLen]; omega)
/-- What a round's parts keep. -/
structure Kp3 (N B L : Nat) (W U : World) : Prop where
  f : KeepsFrom L W U
  k : KB2 N B W U
  s : L ≤ U.heap.size
theorem Kp3.refl (N B L : Nat) (W : World) (h : L ≤ W.heap.size) : Kp3 N B L W W := ⟨KeepsFrom.refl _ _, ⟨KeepC.refl _ _, Below.refl _ _⟩, h⟩
theorem Kp3.below {N B L : Nat} {W U U' : World} (h : Kp3 N B L W U) (hb : Below U.heap.size U U') (hN : N ≤ L) : Kp3 N B L W U' :=
  ⟨h.f.trans ((KeepsFrom.of_below hb)), h.k.trans ⟨KeepC.below hb, hb.mono (Nat.le_trans hN h.s)⟩, Nat.le_trans h.s hb.size⟩
theorem Kp3.set {N B L A : Nat} {W U : World} (h : Kp3 N B L W U) (hB : A < B) (hN : N ≤ A) (v : Value) : Kp3 N B L W (U.setCell ⟨A, 0, none⟩ v) :=
  ⟨h.f.trans ((KeepsOthers.setCell _ _ _).from _), h.k.trans ⟨KeepC.set _ _ _ hB, (Below.refl _ _).setCell (p := ⟨A, 0, none⟩) hN _⟩, by simpa using h.s⟩
theorem load_bool (g : Nat) (v : Value) (hv : ∃ b, v = .bool b) (w : World) (h : w.cell? ⟨g, 0, none⟩ = some v) : (loadVar 4 ⟨g, 0, none⟩).run Try.prog w = .ok v w := by
  obtain ⟨b, rfl⟩ := hv
  go_simp
/-- The number in a box. -/
def boxN (W : World) (g : Nat) : Nat := match W.cell? ⟨g, 0, none⟩ with
  | some (.int _ z) => z.toNat
  | _ => 0
theorem boxN_of {W : World} {g j : Nat} {t : TypeId} (h : Blk W g #[.int .i64 j] t) : boxN W g = j := by
  unfold boxN
  rw [h.cell 0]
  simp
end Go.Proofs.Ytgmhhocpdfdplaa
