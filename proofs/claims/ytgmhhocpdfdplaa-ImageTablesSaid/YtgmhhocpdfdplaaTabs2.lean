/- Package image: what tables asks of one table: is there a nought, is its place used? -/
import Derived.Test.YtgmhhocpdfdplaaTableE
namespace Go.Proofs.Ytgmhhocpdfdplaa
open Go.RowKit
set_option maxRecDepth 100000
set_option maxHeartbeats 4000000
theorem q_arr_get {x : QuantArg} (h : x.Ok) (i : Nat) (hi : i < 64) : x.arr[1 + i]? = some (.int .u16 (x.q.getD i 0)) := by
  have hl := h.l64
  show (x.cells.toArray)[1 + i]? = _
  rw [Nat.add_comm 1 i]
  simp [QuantArg.cells, List.getD_eq_getElem?_getD, hl, hi]
theorem idx_zero (K : Nat) (x : QuantArg) (hx : x.Ok) (w : World) (hB : Blk w K x.arr 39) :
    Calls Try.prog 141 #[.slice (some ⟨K, 1, none⟩) 64 64, .int .u16 0] w fun e w' => IdxAny (anyF (fun k => decide (x.q.getD k 0 = 0)) 64 0) e ∧ w = w' := by
  obtain ⟨p, hp⟩ : ∃ p : Nat → Bool, (fun k => decide (x.q.getD k 0 = 0)) = p := ⟨_, rfl⟩
  rw [hp]
  obtain ⟨T, hT⟩ : ∃ T, anyF p 64 0 = T := ⟨_, rfl⟩
  rw [hT]
  have HT := Lib.hid hT
  have HP := Lib.hid hp
  clear hT hp
  go_enter Try.func141, Try.ntmps141
  go_wp2
  go_loop [8] (fun iv => ∃ i : Nat, iv = .int .i64 i ∧ i ≤ 64 ∧ anyF p (64 - i) i = T) (fun iv => 64 - (intOf iv).toNat)
  case atStart => exact ⟨0, rfl, by omega, HT.out⟩
  case round =>
    obtain ⟨i, rfl, hi, hf⟩ := hrel
    by_cases hlt : i < 64
    · have tl : decide ((i : Int) < 64) = true := by simp; omega
      have tl2 : decide (i < 64) = true := by simpa using hlt
      have c : w.cell? ⟨K, 1 + i, none⟩ = some (.int .u16 (x.q.getD i 0)) := by rw [hB.cell (1 + i)]; exact q_arr_get hx i hlt
      have j0 : (0 : Int) ≤ (i : Int) := by omega
      have j1 : (i : Int) < 64 := by omega
      have hpi : p i = decide (x.q.getD i 0 = 0) := by rw [← HP.out]
      rw [show 64 - i = 64 - (i + 1) + 1 by omega] at hf
      have HF := Lib.hid hf
      clear hf
      generalize x.q.getD i 0 = y at *
      by_cases hq : y = 0
      · have hf := HF.out
        rw [anyF_stop p _ i (by rw [hpi]; exact decide_eq_true hq)] at hf
        clear HF hpi
        subst hf hq
        go_wp2
        go_ret
        exact ⟨⟨(i : Int), rfl, by simp⟩, rfl⟩
      · have hf := HF.out
        rw [anyF_go p _ i (by rw [hpi]; exact decide_eq_false hq)] at hf
        have HF2 := Lib.hid hf
        have ty : ((0 : Int) == y) = false := beq_eq_false_iff_ne.2 (fun h => hq h.symm)
        have ty2 : decide ((0 : Int) = y) = false := decide_eq_false (fun h => hq h.symm)
        clear hf HF hpi hq
        go_wp2
        go_round
        case rel => exact ⟨i + 1, by go_num, by omega, HF2.out⟩
        case measure => simp [intOf]; omega
    · have tl : decide ((i : Int) < 64) = false := by simp; omega
      have tl2 : decide (i < 64) = false := by simpa using hlt
      rw [show 64 - i = 0 by omega] at hf
      obtain rfl : T = false := hf.symm
      go_wp2
      go_ret
      exact ⟨⟨-1, rfl, by decide⟩, rfl⟩
/-- Is one of a table's numbers a nought? -/
def zeroQ (x : QuantArg) : Bool := anyF (fun k => decide (x.q.getD k 0 = 0)) 64 0
theorem has_zero (K : Nat) (x : QuantArg) (hx : x.Ok) (w : World) (hB : Blk w K x.arr 39) :
    Calls Try.prog 115 #[.slice (some ⟨K, 1, none⟩) 64 64, .int .u16 0] w fun e w' => e = .returned (.bool (zeroQ x)) ∧ w = w' := by
  have hi := idx_zero K x hx w hB
  unfold zeroQ
  generalize anyF (fun k => decide (x.q.getD k 0 = 0)) 64 0 = b at *
  go_enter Try.func115, Try.ntmps115
  go_wp2_with (go_at_call 141; refine hi.mono ?_; rintro e w1 ⟨⟨r, rfl, hr⟩, rfl⟩)
  go_ret
  exact ⟨by first | rfl | rw [← hr]; rfl, rfl⟩
/-- Is a place a component's? -/
def usedQ (cs : List CompArg) (y : Int) : Bool := anyF (fun k => decide ((cs.getD k noComp).q = y)) cs.length 0
theorem img_used (N : Nat) (xw xh y : Int) (qu tu : Value) (cb : Option Addr) (cap : Nat) (cs : List CompArg) (hl : cs.length ≤ 1000000) (w : World) (bN : Blk w N #[.int .i64 xw, .int .i64 xh, .slice cb cs.length cap, qu, tu] 26) (h : IsComps w (.slice cb cs.length cap) cs) :
    Calls Try.prog 111 #[.int .i64 y, .pointer (some ⟨N, 0, none⟩)] w fun r w' => r = .returned (.bool (usedQ cs y)) ∧ Below w.heap.size w w' := by
  obtain ⟨M, hM⟩ : ∃ M, M = w.heap.size := ⟨_, rfl⟩
  have HM := Lib.hid hM
  rw [← hM]
  unfold usedQ
  have hca : ∀ W, IsComps W (.slice cb cs.length cap) cs → M < W.heap.size → W.cell? ⟨M, 0, none⟩ = some (.int .i64 y) → _ := fun W h1 h2 h3 => has_q M y cb cs.length cap cap cs (Nat.le_refl _) hl W h1 h2 h3
  generalize anyF (fun k => decide ((cs.getD k noComp).q = y)) cs.length 0 = b at *
  have hbe : Below w.heap.size w (w.alloc (.cells #[.int .i64 y] 3)) := (Below.refl _ _).alloc (Nat.le_refl _) _
  clear hM
  go_enter Try.func111, Try.ntmps111
  go_upto_region 1 with fail
  rw [← HM.out]
  refine wp_world (fun W => Blk W M #[.int .i64 y] 3 ∧ Blk W N #[.int .i64 xw, .int .i64 xh, .slice cb cs.length cap, qu, tu] 26 ∧ IsComps W (.slice cb cs.length cap) cs ∧ Below M w W) ⟨Blk.new' _ _ _ HM.out, bN.below hbe bN.lt, h.below hbe, by rw [HM.out]; exact hbe⟩ ?_
  rintro W ⟨bM, bN2, h2, hB⟩
  have q2 : W.cell? ⟨N, 2, none⟩ = some (.slice cb cs.length cap) := bN2.cell 2
  have hcall := hca W h2 bM.lt (bM.cell 0)
  go_wp2_with (go_at_call 108; refine hcall.mono ?_; rintro r w1 ⟨rfl, hb1⟩; have hC := hB.trans (hb1.mono (Nat.le_of_lt bM.lt)))
  go_ret
  exact ⟨rfl, hC⟩
end Go.Proofs.Ytgmhhocpdfdplaa
