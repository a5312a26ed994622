/- The reference's count of a frame's blocks, walked. -/
import Derived.Test.YtgmhhocpdfdplaaR11p
import Derived.BigQuiet
namespace Go.Proofs.Ytgmhhocpdfdplaa
open Go.RowKit
set_option maxRecDepth 100000
set_option maxHeartbeats 8000000
def noGr : GridV := ⟨0, 0, 0, 0⟩
/-- How many blocks the grids have. -/
def blkN (gs : List GridV) : Nat → Int := smN (fun k => (gs.getD k noGr).c * (gs.getD k noGr).r)
theorem ref_blocks (uw uh ac dn : Int) (ub : Option Addr) (un uc : Nat) (gv : Value) (gs : List GridV) (hl : gs.length ≤ 4) (hb : ∀ g ∈ gs, (0 ≤ g.c ∧ g.c ≤ 12000) ∧ 0 ≤ g.r ∧ g.r ≤ 12000) (w : World) (h : Elems w 4 gv (gs.map GridV.cells)) :
    Calls Try.prog 27 #[.agg #[.int .i64 uw, .int .i64 uh, .int .i64 ac, .int .i64 dn, .slice ub un uc, gv]] w fun r w' => r = .returned (.int .i64 (blkN gs gs.length)) ∧ Below w.heap.size w w' := by
  obtain ⟨gb, gc, rfl⟩ : ∃ b c, gv = .slice b gs.length c := by
    obtain ⟨b, c, hv, _⟩ := h.len
    exact ⟨b, c, by rw [hv, List.length_map]⟩
  obtain ⟨tf, htf⟩ : ∃ f, blkN gs = f := ⟨_, rfl⟩
  rw [htf]
  have TF0 := Lib.hid (show tf 0 = 0 by rw [← htf]; rfl)
  have TFS := Lib.hid (show ∀ k, (hk : k < gs.length) → tf (k + 1) = tf k + (gs[k]'hk).c * (gs[k]'hk).r from fun k hk => by rw [← htf]; simp only [blkN, smN]; simp [List.getD_eq_getElem?_getD, hk])
  have TFB := Lib.hid (show ∀ k, k ≤ gs.length → 0 ≤ tf k ∧ tf k ≤ 144000000 * (k : Int) from fun k hk => by
    rw [← htf]
    refine smN_in k (fun j hj => ?_)
    have hj' : j < gs.length := by omega
    have e : gs.getD j noGr = gs[j]'hj' := by simp [List.getD_eq_getElem?_getD, hj']
    have h2 := hb _ (List.getElem_mem hj')
    simp only [e]
    exact mul_in (A := 12000) (B := 12000) h2.1.1 h2.1.2 h2.2.1 h2.2.2)
  have HB := Lib.hid hb
  obtain ⟨N, hN⟩ : ∃ N, N = w.heap.size := ⟨_, rfl⟩
  have HN := Lib.hid hN
  rw [← hN]
  clear htf hb hN
  go_enter Try.func27, Try.ntmps27
  go_upto_region 1 with fail
  rw [← HN.out]
  refine wp_world (fun W => Blk W N #[.int .i64 uw, .int .i64 uh, .int .i64 ac, .int .i64 dn, .slice ub un uc, .slice gb gs.length gc] 44 ∧ Below w.heap.size w W) ⟨Blk.new' _ _ _ HN.out, (Below.refl _ _).alloc (Nat.le_refl _) _⟩ ?_
  rintro W ⟨bN, hB⟩
  go_wp2
  go_loopw [3, 4] (fun nv iv wr => ∃ k : Nat, k ≤ gs.length ∧ nv = .int .i64 (tf k) ∧ iv = .int .i64 k ∧ Blk wr N #[.int .i64 uw, .int .i64 uh, .int .i64 ac, .int .i64 dn, .slice ub un uc, .slice gb gs.length gc] 44 ∧ Below w.heap.size w wr) (fun _ iv _ => gs.length - (intOf iv).toNat)
  case atStart => exact ⟨0, Nat.zero_le _, by rw [TF0.out], rfl, bN, hB⟩
  case round =>
    clear bN hB
    obtain ⟨k, hk, rfl, rfl, bN, hB⟩ := hrel
    have q5 : wr.cell? ⟨N, 5, none⟩ = some (.slice gb gs.length gc) := bN.cell 5
    by_cases hlt : k < gs.length
    · have tl : decide (k < gs.length) = true := by simpa using hlt
      have hE := h.below hB
      obtain ⟨a, cap', he, c0, cj⟩ := hE.get (by decide) (i := k) (by simpa using hlt)
      rw [List.length_map] at he
      simp only [Value.slice.injEq] at he
      obtain ⟨rfl, -, rfl⟩ := he
      rw [getD_map' _ _ _ _ hlt] at c0 cj
      have c1 := cj 1 (by decide) (by decide)
      have j0 : (0 : Int) ≤ (k : Int) := by omega
      have j1 : (k : Int) < (gs.length : Int) := by omega
      have h1 := TFS.out k hlt
      have h2 := TFB.out k (by omega)
      have h3 := HB.out _ (List.getElem_mem hlt)
      obtain ⟨⟨g0, g1, g2, g3⟩, hg⟩ : ∃ g, gs[k]'hlt = g := ⟨_, rfl⟩
      rw [hg] at c0 c1 h1 h3
      simp only [GridV.cells, List.getElem?_cons_zero, List.getElem?_cons_succ] at c0 c1 h1 h3
      obtain ⟨m, hm⟩ : ∃ m, g0 * g1 = m := ⟨_, rfl⟩
      have hm1 := mul_in (a := g0) (b := g1) (A := 12000) (B := 12000) h3.1.1 h3.1.2 h3.2.1 h3.2.2
      rw [hm] at hm1 h1
      have e1 : wrap64 (g0 * g1) = m := by rw [hm]; exact IntWalk.wrap64_in _ (by omega)
      have e2 : wrap64 (tf k + m) = tf (k + 1) := by rw [h1]; exact IntWalk.wrap64_in _ (by omega)
      have E3 := Lib.hid (show Value.int .i64 (wrap64 (tf k + wrap64 (g0 * g1))) = .int .i64 (tf (k + 1)) by rw [e1, e2])
      clear e1 e2 hm hm1 h1 h2 h3 hg cj hE
      go_upto_region 5 with fail
      go_quiet (fail)
      go_wp2
      go_roundw
      case rel => exact ⟨k + 1, by omega, E3.out, by go_num, bN.drewN _, Below.drewN' hB _⟩
      case measure => simp [intOf]; omega
    · obtain rfl : k = gs.length := by omega
      have tl : decide (gs.length < gs.length) = false := by simp
      go_wp2
      go_ret
      exact ⟨rfl, by rw [HN.out]; exact hB⟩
end Go.Proofs.Ytgmhhocpdfdplaa
