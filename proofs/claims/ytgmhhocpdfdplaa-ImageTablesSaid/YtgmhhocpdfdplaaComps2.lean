/- Package image: comps. -/
import Derived.Test.YtgmhhocpdfdplaaCompsE
namespace Go.Proofs.Ytgmhhocpdfdplaa
open Go.RowKit
set_option maxRecDepth 100000
set_option maxHeartbeats 4000000
theorem firstE_congr (e e' : Nat → Int) (n : Nat) : ∀ (f i : Nat), i + f ≤ n → (∀ k, k < n → e k = e' k) → firstE e f i = firstE e' f i := by
  intro f
  induction f with
  | zero => intro i _ _; rfl
  | succ f ih =>
    intro i h hk
    simp only [firstE]
    rw [hk i (by omega), ih (i + 1) (by omega) hk]
def compsE (cs : List CompArg) : Int := firstE (fun i => compE cs i (cs.getD i noComp)) cs.length 0
theorem img_comps (v : Value) (x : ImgArg) (w : World) (h : IsImg w v x) (hf : FewOk x) :
    Calls Try.prog 59 #[v] w fun r w' => r = .returned (.int .i64 (compsE x.cs)) ∧ Below w.heap.size w w' := by
  obtain ⟨rfl, -, -, hcs, -, -⟩ := h
  have hl := hf.c20
  obtain ⟨xw, xh, cu, qu, tu, cs, qs, ts⟩ := x
  simp only [ImgArg.val] at *
  obtain ⟨cb, ccap, hcu, hcc, -⟩ := hcs.el.len
  rw [List.length_map] at hcu hcc
  subst hcu
  have hbe : Below w.heap.size w (w.alloc (.cells #[.int .i64 xw, .int .i64 xh, .slice cb cs.length ccap, qu, tu] 26)) := (Below.refl _ _).alloc (Nat.le_refl _) _
  obtain ⟨N, hN⟩ : ∃ N, N = w.heap.size := ⟨_, rfl⟩
  have HN := Lib.hid hN
  rw [← hN]
  obtain ⟨R, hR⟩ : ∃ R, compsE cs = R := ⟨_, rfl⟩
  rw [hR]
  have HR := Lib.hid hR
  clear hf hN hR
  go_enter Try.func59, Try.ntmps59
  go_upto_region 1 with fail
  rw [← HN.out]
  refine wp_world (fun W => Blk W N #[.int .i64 xw, .int .i64 xh, .slice cb cs.length ccap, qu, tu] 26 ∧ IsComps W (.slice cb cs.length ccap) cs ∧ Below N w W) ⟨Blk.new' _ _ _ HN.out, hcs.below hbe, by rw [HN.out]; exact hbe⟩ ?_
  clear hcs hbe
  rintro W ⟨bN, hcs, hB⟩
  have q2 : W.cell? ⟨N, 2, none⟩ = some (.slice cb cs.length ccap) := bN.cell 2
  have hea := each_comps N cb ccap cs hl (fun i => compE cs i (cs.getD i noComp)) W hcs (fun i hi W' hb => by
    simp only [comp_getD hi]
    obtain ⟨a, rfl, -⟩ := hcs.at hi
    exact img_comps1 N xw xh qu tu a ccap cs hl i hi (by omega) W' (bN.below hb bN.lt) (hcs.below hb))
  have hr : firstE (fun i => compE cs i (cs.getD i noComp)) cs.length 0 = R := by rw [← HR.out]; rfl
  rw [hr] at hea
  clear hr HR
  go_wp2_with (go_at_call 106; refine hea.mono ?_; rintro r w1 ⟨rfl, hb1⟩; have hC := hB.trans (hb1.mono (Nat.le_of_lt bN.lt)))
  go_ret
  exact ⟨rfl, hC⟩
end Go.Proofs.Ytgmhhocpdfdplaa
