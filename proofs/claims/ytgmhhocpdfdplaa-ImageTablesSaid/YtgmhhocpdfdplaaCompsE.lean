/- Package image: comps, and slices.ContainsFunc over components at two closures. Made by gen_comps.py. -/
import Derived.Test.YtgmhhocpdfdplaaEachC
namespace Go.Proofs.Ytgmhhocpdfdplaa
open Go.RowKit
set_option maxRecDepth 100000
set_option maxHeartbeats 4000000
def noComp : CompArg := ⟨0, 0, 0, 0, 0, 0, .slice none 0 0, []⟩
theorem comp_getD {cs : List CompArg} {k : Nat} (hk : k < cs.length) : cs.getD k noComp = cs[k]'hk := by simp [List.getD_eq_getElem?_getD, hk]
/-- Is one of the places from i on, f of them, so? -/
def anyF (p : Nat → Bool) : Nat → Nat → Bool
  | 0, _ => false
  | f + 1, i => p i || anyF p f (i + 1)
theorem anyF_go (p : Nat → Bool) (f i : Nat) (h : p i = false) : anyF p (f + 1) i = anyF p f (i + 1) := by simp only [anyF, h, Bool.false_or]
theorem anyF_stop (p : Nat → Bool) (f i : Nat) (h : p i = true) : anyF p (f + 1) i = true := by simp only [anyF, h, Bool.true_or]
def IdxAny (b : Bool) (e : Ending) : Prop := ∃ r : Int, e = .returned (.int .i64 r) ∧ decide (0 ≤ r) = b
theorem clo_id (M : Nat) (y x0 x1 x2 x3 x4 x5 : Int) (ub : Option Addr) (un uc : Nat) (w : World) (hM : M < w.heap.size) (hc : w.cell? ⟨M, 0, none⟩ = some (.int .i64 y)) :
    Calls Try.prog 109 #[.agg #[.int .i64 x0, .int .i64 x1, .int .i64 x2, .int .i64 x3, .int .i64 x4, .int .i64 x5, .slice ub un uc], .pointer (some ⟨M, 0, none⟩)] w fun r w' => r = .returned (.bool (decide (x0 = y))) ∧ Below w.heap.size w w' := by
  obtain ⟨N, hN⟩ : ∃ N, N = w.heap.size := ⟨_, rfl⟩
  have HN := Lib.hid hN
  have hbe : Below w.heap.size w (w.alloc (.cells #[.int .i64 x0, .int .i64 x1, .int .i64 x2, .int .i64 x3, .int .i64 x4, .int .i64 x5, .slice ub un uc] 63)) := (Below.refl _ _).alloc (Nat.le_refl _) _
  rw [← hN]
  go_enter Try.func109, Try.ntmps109
  go_upto_region 1 with fail
  rw [← HN.out]
  refine wp_world (fun W => Blk W N #[.int .i64 x0, .int .i64 x1, .int .i64 x2, .int .i64 x3, .int .i64 x4, .int .i64 x5, .slice ub un uc] 63 ∧ W.cell? ⟨M, 0, none⟩ = some (.int .i64 y) ∧ Below N w W) ⟨Blk.new' _ _ _ HN.out, (hbe.cell (p := ⟨M, 0, none⟩) hM).trans hc, by rw [HN.out]; exact hbe⟩ ?_
  clear hbe hc hN
  rintro W ⟨bN, hc, hB⟩
  have q : W.cell? ⟨N, 0, none⟩ = some (.int .i64 x0) := bN.cell 0
  go_wp2
  go_ret
  refine ⟨?_, hB⟩
  show Ending.returned (.bool (x0 == y)) = _
  have e : (x0 == y) = decide (x0 = y) := rfl
  rw [e]
theorem idx_id (M : Nat) (y : Int) (ab : Option Addr) (n cap cap2 : Nat) (cs : List CompArg) (hn : n ≤ cs.length) (hl : cs.length ≤ 1000000) (w : World) (h : IsComps w (.slice ab cs.length cap) cs) (hM : M < w.heap.size) (hc : w.cell? ⟨M, 0, none⟩ = some (.int .i64 y)) :
    Calls Try.prog 140 #[.slice ab n cap2, .func (.func 109) #[] #[.pointer (some ⟨M, 0, none⟩)]] w fun e w' => IdxAny (anyF (fun k => decide ((cs.getD k noComp).id = y)) n 0) e ∧ Below w.heap.size w w' := by
  obtain ⟨p, hp⟩ : ∃ p : Nat → Bool, (fun k => decide ((cs.getD k noComp).id = y)) = p := ⟨_, rfl⟩
  rw [hp]
  obtain ⟨T, hT⟩ : ∃ T, anyF p n 0 = T := ⟨_, rfl⟩
  rw [hT]
  have HT := Lib.hid hT
  have HP := Lib.hid hp
  clear hT hp
  go_enter Try.func140, Try.ntmps140
  go_wp2
  go_loopw [8] (fun iv wr => ∃ i : Nat, iv = .int .i64 i ∧ i ≤ n ∧ anyF p (n - i) i = T ∧ Below w.heap.size w wr) (fun iv _ => n - (intOf iv).toNat)
  case atStart => exact ⟨0, rfl, Nat.zero_le _, HT.out, Below.refl _ _⟩
  case round =>
    obtain ⟨i, rfl, hi, hf, hB⟩ := hrel
    by_cases hlt : i < n
    · have tl : decide (i < n) = true := by simpa using hlt
      have hlc : i < cs.length := by omega
      obtain ⟨a, rfl, c0, c1, c2, c3, c4, c5, c6⟩ := (h.below hB).at hlc
      have j0 : (0 : Int) ≤ (i : Int) := by omega
      have j1 : (i : Int) < (n : Int) := by omega
      have hu : ∃ ub un uc, (cs[i]'hlc).u = .slice ub un uc := by
        obtain ⟨ub, uc, hu, _⟩ := (h.ok _ (List.getElem_mem hlc)).ar.len
        exact ⟨ub, _, uc, hu⟩
      obtain ⟨ub, un, uc, hu⟩ := hu
      rw [show n - i = n - (i + 1) + 1 by omega] at hf
      have HF := Lib.hid hf
      have hpi : p i = decide ((cs[i]'hlc).id = y) := by rw [← HP.out]; simp only [comp_getD hlc]
      rw [hu] at c6
      clear hf hu
      generalize (cs[i]'hlc).id = x0 at *
      generalize (cs[i]'hlc).h = x1 at *
      generalize (cs[i]'hlc).v = x2 at *
      generalize (cs[i]'hlc).q = x3 at *
      generalize (cs[i]'hlc).c = x4 at *
      generalize (cs[i]'hlc).r = x5 at *
      have hcl := clo_id M y x0 x1 x2 x3 x4 x5 ub un uc wr (Nat.lt_of_lt_of_le hM hB.size) ((hB.cell (p := ⟨M, 0, none⟩) hM).trans hc)
      rw [← hpi] at hcl
      clear hpi
      by_cases hq : p i = true
      · have hf := HF.out
        rw [anyF_stop p _ i hq] at hf
        rw [hq] at hcl
        clear hq HF
        subst hf
        go_wp2_with (go_at_call 109; refine hcl.mono ?_; rintro r w1 ⟨rfl, hb1⟩; replace hB := hB.trans (hb1.mono hB.size))
        go_ret
        exact ⟨⟨(i : Int), rfl, by simp⟩, hB⟩
      · rw [Bool.not_eq_true] at hq
        have hf := HF.out
        rw [anyF_go p _ i hq] at hf
        have HF2 := Lib.hid hf
        rw [hq] at hcl
        clear hf hq HF
        go_wp2_with (go_at_call 109; refine hcl.mono ?_; rintro r w1 ⟨rfl, hb1⟩; replace hB := hB.trans (hb1.mono hB.size))
        go_roundw
        case rel => exact ⟨i + 1, by go_num, by omega, HF2.out, hB⟩
        case measure => simp [intOf]; omega
    · have tl : decide (i < n) = false := by simpa using hlt
      rw [show n - i = 0 by omega] at hf
      obtain rfl : T = false := hf.symm
      go_wp2
      go_ret
      exact ⟨⟨-1, rfl, by decide⟩, hB⟩
theorem has_id (M : Nat) (y : Int) (ab : Option Addr) (n cap cap2 : Nat) (cs : List CompArg) (hn : n ≤ cs.length) (hl : cs.length ≤ 1000000) (w : World) (h : IsComps w (.slice ab cs.length cap) cs) (hM : M < w.heap.size) (hc : w.cell? ⟨M, 0, none⟩ = some (.int .i64 y)) :
    Calls Try.prog 108 #[.slice ab n cap2, .func (.func 109) #[] #[.pointer (some ⟨M, 0, none⟩)]] w fun e w' => e = .returned (.bool (anyF (fun k => decide ((cs.getD k noComp).id = y)) n 0)) ∧ Below w.heap.size w w' := by
  have hi := idx_id M y ab n cap cap2 cs hn hl w h hM hc
  generalize anyF (fun k => decide ((cs.getD k noComp).id = y)) n 0 = b at *
  go_enter Try.func108, Try.ntmps108
  go_wp2_with (go_at_call 140; refine hi.mono ?_; rintro e w1 ⟨⟨r, rfl, hr⟩, hb1⟩)
  go_ret
  exact ⟨by first | rfl | rw [← hr]; rfl, hb1⟩
theorem clo_q (M : Nat) (y x0 x1 x2 x3 x4 x5 : Int) (ub : Option Addr) (un uc : Nat) (w : World) (hM : M < w.heap.size) (hc : w.cell? ⟨M, 0, none⟩ = some (.int .i64 y)) :
    Calls Try.prog 112 #[.agg #[.int .i64 x0, .int .i64 x1, .int .i64 x2, .int .i64 x3, .int .i64 x4, .int .i64 x5, .slice ub un uc], .pointer (some ⟨M, 0, none⟩)] w fun r w' => r = .returned (.bool (decide (x3 = y))) ∧ Below w.heap.size w w' := by
  obtain ⟨N, hN⟩ : ∃ N, N = w.heap.size := ⟨_, rfl⟩
  have HN := Lib.hid hN
  have hbe : Below w.heap.size w (w.alloc (.cells #[.int .i64 x0, .int .i64 x1, .int .i64 x2, .int .i64 x3, .int .i64 x4, .int .i64 x5, .slice ub un uc] 63)) := (Below.refl _ _).alloc (Nat.le_refl _) _
  rw [← hN]
  go_enter Try.func112, Try.ntmps112
  go_upto_region 1 with fail
  rw [← HN.out]
  refine wp_world (fun W => Blk W N #[.int .i64 x0, .int .i64 x1, .int .i64 x2, .int .i64 x3, .int .i64 x4, .int .i64 x5, .slice ub un uc] 63 ∧ W.cell? ⟨M, 0, none⟩ = some (.int .i64 y) ∧ Below N w W) ⟨Blk.new' _ _ _ HN.out, (hbe.cell (p := ⟨M, 0, none⟩) hM).trans hc, by rw [HN.out]; exact hbe⟩ ?_
  clear hbe hc hN
  rintro W ⟨bN, hc, hB⟩
  have q : W.cell? ⟨N, 3, none⟩ = some (.int .i64 x3) := bN.cell 3
  go_wp2
  go_ret
  refine ⟨?_, hB⟩
  show Ending.returned (.bool (x3 == y)) = _
  have e : (x3 == y) = decide (x3 = y) := rfl
  rw [e]
theorem idx_q (M : Nat) (y : Int) (ab : Option Addr) (n cap cap2 : Nat) (cs : List CompArg) (hn : n ≤ cs.length) (hl : cs.length ≤ 1000000) (w : World) (h : IsComps w (.slice ab cs.length cap) cs) (hM : M < w.heap.size) (hc : w.cell? ⟨M, 0, none⟩ = some (.int .i64 y)) :
    Calls Try.prog 140 #[.slice ab n cap2, .func (.func 112) #[] #[.pointer (some ⟨M, 0, none⟩)]] w fun e w' => IdxAny (anyF (fun k => decide ((cs.getD k noComp).q = y)) n 0) e ∧ Below w.heap.size w w' := by
  obtain ⟨p, hp⟩ : ∃ p : Nat → Bool, (fun k => decide ((cs.getD k noComp).q = y)) = p := ⟨_, rfl⟩
  rw [hp]
  obtain ⟨T, hT⟩ : ∃ T, anyF p n 0 = T := ⟨_, rfl⟩
  rw [hT]
  have HT := Lib.hid hT
  have HP := Lib.hid hp
  clear hT hp
  go_enter Try.func140, Try.ntmps140
  go_wp2
  go_loopw [8] (fun iv wr => ∃ i : Nat, iv = .int .i64 i ∧ i ≤ n ∧ anyF p (n - i) i = T ∧ Below w.heap.size w wr) (fun iv _ => n - (intOf iv).toNat)
  case atStart => exact ⟨0, rfl, Nat.zero_le _, HT.out, Below.refl _ _⟩
  case round =>
    obtain ⟨i, rfl, hi, hf, hB⟩ := hrel
    by_cases hlt : i < n
    · have tl : decide (i < n) = true := by simpa using hlt
      have hlc : i < cs.length := by omega
      obtain ⟨a, rfl, c0, c1, c2, c3, c4, c5, c6⟩ := (h.below hB).at hlc
      have j0 : (0 : Int) ≤ (i : Int) := by omega
      have j1 : (i : Int) < (n : Int) := by omega
      have hu : ∃ ub un uc, (cs[i]'hlc).u = .slice ub un uc := by
        obtain ⟨ub, uc, hu, _⟩ := (h.ok _ (List.getElem_mem hlc)).ar.len
        exact ⟨ub, _, uc, hu⟩
      obtain ⟨ub, un, uc, hu⟩ := hu
      rw [show n - i = n - (i + 1) + 1 by omega] at hf
      have HF := Lib.hid hf
      have hpi : p i = decide ((cs[i]'hlc).q = y) := by rw [← HP.out]; simp only [comp_getD hlc]
      rw [hu] at c6
      clear hf hu
      generalize (cs[i]'hlc).id = x0 at *
      generalize (cs[i]'hlc).h = x1 at *
      generalize (cs[i]'hlc).v = x2 at *
      generalize (cs[i]'hlc).q = x3 at *
      generalize (cs[i]'hlc).c = x4 at *
      generalize (cs[i]'hlc).r = x5 at *
      have hcl := clo_q M y x0 x1 x2 x3 x4 x5 ub un uc wr (Nat.lt_of_lt_of_le hM hB.size) ((hB.cell (p := ⟨M, 0, none⟩) hM).trans hc)
      rw [← hpi] at hcl
      clear hpi
      by_cases hq : p i = true
      · have hf := HF.out
        rw [anyF_stop p _ i hq] at hf
        rw [hq] at hcl
        clear hq HF
        subst hf
        go_wp2_with (go_at_call 112; refine hcl.mono ?_; rintro r w1 ⟨rfl, hb1⟩; replace hB := hB.trans (hb1.mono hB.size))
        go_ret
        exact ⟨⟨(i : Int), rfl, by simp⟩, hB⟩
      · rw [Bool.not_eq_true] at hq
        have hf := HF.out
        rw [anyF_go p _ i hq] at hf
        have HF2 := Lib.hid hf
        rw [hq] at hcl
        clear hf hq HF
        go_wp2_with (go_at_call 112; refine hcl.mono ?_; rintro r w1 ⟨rfl, hb1⟩; replace hB := hB.trans (hb1.mono hB.size))
        go_roundw
        case rel => exact ⟨i + 1, by go_num, by omega, HF2.out, hB⟩
        case measure => simp [intOf]; omega
    · have tl : decide (i < n) = false := by simpa using hlt
      rw [show n - i = 0 by omega] at hf
      obtain rfl : T = false := hf.symm
      go_wp2
      go_ret
      exact ⟨⟨-1, rfl, by decide⟩, hB⟩
theorem has_q (M : Nat) (y : Int) (ab : Option Addr) (n cap cap2 : Nat) (cs : List CompArg) (hn : n ≤ cs.length) (hl : cs.length ≤ 1000000) (w : World) (h : IsComps w (.slice ab cs.length cap) cs) (hM : M < w.heap.size) (hc : w.cell? ⟨M, 0, none⟩ = some (.int .i64 y)) :
    Calls Try.prog 108 #[.slice ab n cap2, .func (.func 112) #[] #[.pointer (some ⟨M, 0, none⟩)]] w fun e w' => e = .returned (.bool (anyF (fun k => decide ((cs.getD k noComp).q = y)) n 0)) ∧ Below w.heap.size w w' := by
  have hi := idx_q M y ab n cap cap2 cs hn hl w h hM hc
  generalize anyF (fun k => decide ((cs.getD k noComp).q = y)) n 0 = b at *
  go_enter Try.func108, Try.ntmps108
  go_wp2_with (go_at_call 140; refine hi.mono ?_; rintro e w1 ⟨⟨r, rfl, hr⟩, hb1⟩)
  go_ret
  exact ⟨by first | rfl | rw [← hr]; rfl, hb1⟩
/-- A component's error: its id, its place, an id twice. -/
def compE (cs : List CompArg) (i : Nat) (x : CompArg) : Int := if 0 ≤ x.id ∧ x.id ≤ 255 ∧ anyF (fun k => decide ((cs.getD k noComp).id = x.id)) i 0 = false ∧ 0 ≤ x.q ∧ x.q < 4 then 0 else 7
theorem img_comps1 (N : Nat) (xw xh : Int) (qu tu : Value) (a : Addr) (cap : Nat) (cs : List CompArg) (hl : cs.length ≤ 20) (i : Nat) (hi : i < cs.length) (hcap : i ≤ cap) (w : World) (bN : Blk w N #[.int .i64 xw, .int .i64 xh, .slice (some a) cs.length cap, qu, tu] 26) (h : IsComps w (.slice (some a) cs.length cap) cs) :
    Calls Try.prog 107 #[.int .i64 i, .agg #[.int .i64 (cs[i]'hi).id, .int .i64 (cs[i]'hi).h, .int .i64 (cs[i]'hi).v, .int .i64 (cs[i]'hi).q, .int .i64 (cs[i]'hi).c, .int .i64 (cs[i]'hi).r, (cs[i]'hi).u], .pointer (some ⟨N, 0, none⟩)] w fun r w' => r = .returned (.int .i64 (compE cs i (cs[i]'hi))) ∧ Below w.heap.size w w' := by
  obtain ⟨M, hM⟩ : ∃ M, M = w.heap.size := ⟨_, rfl⟩
  have HM := Lib.hid hM
  rw [← hM]
  have hNM : N < M := by rw [hM]; exact bN.lt
  have hte := fun (b : Bool) W => img_test b 7 W
  have hca : ∀ W, IsComps W (.slice (some a) cs.length cap) cs → M < W.heap.size → W.cell? ⟨M, 0, none⟩ = some (.int .i64 (cs[i]'hi).id) → _ := fun W h1 h2 h3 => has_id M (cs[i]'hi).id (some a) i cap cap cs (Nat.le_of_lt hi) (by omega) W h1 h2 h3
  have hu : ∃ ub un uc, (cs[i]'hi).u = .slice ub un uc := by
    obtain ⟨ub, uc, hu, _⟩ := (h.ok _ (List.getElem_mem hi)).ar.len
    exact ⟨ub, _, uc, hu⟩
  obtain ⟨ub, un, uc, hu⟩ := hu
  unfold compE
  rw [hu]
  generalize (cs[i]'hi).id = x0 at *
  generalize (cs[i]'hi).h = x1 at *
  generalize (cs[i]'hi).v = x2 at *
  generalize (cs[i]'hi).q = x3 at *
  generalize (cs[i]'hi).c = x4 at *
  generalize (cs[i]'hi).r = x5 at *
  generalize anyF (fun k => decide ((cs.getD k noComp).id = x0)) i 0 = tw at *
  have hbe : Below w.heap.size w (w.alloc (.cells #[.int .i64 x0, .int .i64 x1, .int .i64 x2, .int .i64 x3, .int .i64 x4, .int .i64 x5, .slice ub un uc] 63)) := (Below.refl _ _).alloc (Nat.le_refl _) _
  have j0 : (0 : Int) ≤ (i : Int) := by omega
  have j1 : (i : Int) ≤ (cap : Int) := by omega
  have hcs : (decide (0 ≤ x0) = false ∧ ¬ (0 ≤ x0 ∧ x0 ≤ 255 ∧ tw = false ∧ 0 ≤ x3 ∧ x3 < 4)) ∨ (decide (0 ≤ x0) = true ∧ decide (x0 ≤ 255) = false ∧ ¬ (0 ≤ x0 ∧ x0 ≤ 255 ∧ tw = false ∧ 0 ≤ x3 ∧ x3 < 4)) ∨ (decide (0 ≤ x0) = true ∧ decide (x0 ≤ 255) = true ∧ tw = true ∧ ¬ (0 ≤ x0 ∧ x0 ≤ 255 ∧ tw = false ∧ 0 ≤ x3 ∧ x3 < 4)) ∨ (decide (0 ≤ x0) = true ∧ decide (x0 ≤ 255) = true ∧ tw = false ∧ decide (0 ≤ x3) = false ∧ ¬ (0 ≤ x0 ∧ x0 ≤ 255 ∧ tw = false ∧ 0 ≤ x3 ∧ x3 < 4)) ∨ (decide (0 ≤ x0) = true ∧ decide (x0 ≤ 255) = true ∧ tw = false ∧ decide (0 ≤ x3) = true ∧ decide (x3 < 4) = false ∧ ¬ (0 ≤ x0 ∧ x0 ≤ 255 ∧ tw = false ∧ 0 ≤ x3 ∧ x3 < 4)) ∨ (decide (0 ≤ x0) = true ∧ decide (x0 ≤ 255) = true ∧ tw = false ∧ decide (0 ≤ x3) = true ∧ decide (x3 < 4) = true ∧ (0 ≤ x0 ∧ x0 ≤ 255 ∧ tw = false ∧ 0 ≤ x3 ∧ x3 < 4)) := by
    simp only [decide_eq_true_eq, decide_eq_false_iff_not]
    cases tw <;> simp <;> omega
  have hR : ∃ R, (if 0 ≤ x0 ∧ x0 ≤ 255 ∧ tw = false ∧ 0 ≤ x3 ∧ x3 < 4 then (0 : Int) else 7) = R := ⟨_, rfl⟩
  obtain ⟨R, hR⟩ := hR
  rw [hR]
  clear hM
  rcases hcs with ⟨t1, hn⟩ | ⟨t1, t2, hn⟩ | ⟨t1, t2, rfl, hn⟩ | ⟨t1, t2, rfl, t4, hn⟩ | ⟨t1, t2, rfl, t4, t5, hn⟩ | ⟨t1, t2, rfl, t4, t5, hn⟩
  all_goals
    first | rw [if_neg hn] at hR | rw [if_pos hn] at hR
    subst hR
    clear hn
    go_enter Try.func107, Try.ntmps107
    go_upto_region 1 with fail
    rw [← HM.out]
    refine wp_world (fun W => Blk W M #[.int .i64 x0, .int .i64 x1, .int .i64 x2, .int .i64 x3, .int .i64 x4, .int .i64 x5, .slice ub un uc] 63 ∧ Blk W N #[.int .i64 xw, .int .i64 xh, .slice (some a) cs.length cap, qu, tu] 26 ∧ IsComps W (.slice (some a) cs.length cap) cs ∧ Below M w W) ⟨Blk.new' _ _ _ HM.out, bN.below hbe bN.lt, h.below hbe, by rw [HM.out]; exact hbe⟩ ?_
    rintro W ⟨bM, bN2, h2, hB⟩
    have q2 : W.cell? ⟨N, 2, none⟩ = some (.slice (some a) cs.length cap) := bN2.cell 2
    have p0 : W.cell? ⟨M, 0, none⟩ = some (.int .i64 x0) := bM.cell 0
    have hcall := hca W h2 bM.lt p0
    go_wp2_with (first | (go_at_call 108; refine hcall.mono ?_; rintro r w1 ⟨rfl, hb1⟩; have hC := hB.trans (hb1.mono (Nat.le_of_lt bM.lt)); have bM2 := bM.below hb1 bM.lt; have p0' : w1.cell? ⟨M, 0, none⟩ = some (.int .i64 x0) := bM2.cell 0; have p3' : w1.cell? ⟨M, 3, none⟩ = some (.int .i64 x3) := bM2.cell 3) | (go_at_call 110; refine (hte _ _).mono ?_; rintro r w2 ⟨rfl, rfl⟩))
    go_ret
    exact ⟨rfl, hC⟩
end Go.Proofs.Ytgmhhocpdfdplaa
