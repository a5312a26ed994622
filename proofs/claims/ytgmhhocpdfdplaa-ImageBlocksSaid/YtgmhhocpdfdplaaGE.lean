/- Texts on one foundation, joined: Fr1, Clones, Fr2, Grid, NewP, NewF. -/
import Derived.Test.YtgmhhocpdfdplaaGC
import Derived.Laws.EntriesVeiled
import Derived.Test.YtgmhhocpdfdplaaGB
import Derived.Great.BuildSlice
import Derived.Test.YtgmhhocpdfdplaaGA
import Derived.BigQuiet
import Derived.OwnWalk
/- Package frame: right (may these be a frame's numbers?). -/
namespace Go.Proofs.Ytgmhhocpdfdplaa
open Go.RowKit
set_option maxRecDepth 100000
set_option maxHeartbeats 4000000
def facB (n : Int) : Bool := decide (1 ≤ n ∧ n ≤ 4)
theorem fr_right1 (n : Int) (w : World) : Calls Try.prog 149 #[.int .i64 n] w fun r w' => r = .returned (.bool (facB n)) ∧ w = w' := by
  by_cases h1 : 1 ≤ n
  · have t1 : decide (1 ≤ n) = true := by simpa using h1
    by_cases h2 : n ≤ 4
    · have t2 : decide (n ≤ 4) = true := by simpa using h2
      have hf : facB n = true := decide_eq_true ⟨h1, h2⟩
      rw [hf]; clear hf h1 h2
      go_enter Try.func149, Try.ntmps149
      go_wp2
      go_ret
      exact ⟨rfl, rfl⟩
    · have t2 : decide (n ≤ 4) = false := by simpa using h2
      have hf : facB n = false := decide_eq_false (by omega)
      rw [hf]; clear hf h1 h2
      go_enter Try.func149, Try.ntmps149
      go_wp2
      go_ret
      exact ⟨rfl, rfl⟩
  · have t1 : decide (1 ≤ n) = false := by simpa using h1
    have hf : facB n = false := decide_eq_false (by omega)
    rw [hf]; clear hf h1
    go_enter Try.func149, Try.ntmps149
    go_wp2
    go_ret
    exact ⟨rfl, rfl⟩
def badP (p : Int × Int) : Bool := !(facB p.1) || !(facB p.2)
theorem fr_right2 (U : Nat) (p : Int × Int) (w : World) (bU : Blk w U #[.func (.func 149) #[] #[]] 159) :
    Calls Try.prog 150 #[.agg #[.int .i64 p.1, .int .i64 p.2], .pointer (some ⟨U, 0, none⟩)] w fun r w' => r = .returned (.bool (badP p)) ∧ Below w.heap.size w w' := by
  obtain ⟨x, y⟩ := p
  obtain ⟨K, hK⟩ : ∃ K, K = w.heap.size := ⟨_, rfl⟩
  have HK := Lib.hid hK
  rw [← hK]
  unfold badP
  simp only
  have hx := fun W => fr_right1 x W
  have hy := fun W => fr_right1 y W
  have hbe : Below w.heap.size w (w.alloc (.cells #[.int .i64 x, .int .i64 y] 154)) := (Below.refl _ _).alloc (Nat.le_refl _) _
  generalize facB x = bx at *
  generalize facB y = by' at *
  clear hK
  cases bx
  all_goals
    go_enter Try.func150, Try.ntmps150
    go_upto_region 1 with fail
    rw [← HK.out]
    refine wp_world (fun W => Blk W K #[.int .i64 x, .int .i64 y] 154 ∧ Blk W U #[.func (.func 149) #[] #[]] 159 ∧ Below K w W) ⟨Blk.new' _ _ _ HK.out, bU.below hbe bU.lt, by rw [HK.out]; exact hbe⟩ ?_
    rintro W ⟨bK, bU2, hB⟩
    have k0 : W.cell? ⟨K, 0, none⟩ = some (.int .i64 x) := bK.cell 0
    have k1 : W.cell? ⟨K, 1, none⟩ = some (.int .i64 y) := bK.cell 1
    have u0 : W.cell? ⟨U, 0, none⟩ = some (.func (.func 149) #[] #[]) := bU2.cell 0
    go_wp2_with (go_at_call 149; first | (refine (hx _).mono ?_; clear hx; rintro r w1 ⟨rfl, rfl⟩) | (refine (hy _).mono ?_; rintro r w1 ⟨rfl, rfl⟩))
    go_ret
    exact ⟨by simp, hB⟩
def partC (p : Int × Int) : List Value := [.int .i64 p.1, .int .i64 p.2]
/-- The slice value v has these parts. -/
def IsParts (w : World) (v : Value) (ps : List (Int × Int)) : Prop := Elems w 2 v (ps.map partC)
theorem IsParts.below {w w' : World} {v : Value} {ps : List (Int × Int)} (h : IsParts w v ps) (hb : Below w.heap.size w w') : IsParts w' v ps := Elems.below h hb
theorem IsParts.len {w : World} {v : Value} {ps : List (Int × Int)} (h : IsParts w v ps) : ∃ b cap, v = .slice b ps.length cap := by
  obtain ⟨b, cap, hv, _⟩ := Elems.len h
  exact ⟨b, cap, by rw [hv, List.length_map]⟩
theorem IsParts.at {w : World} {b : Option Addr} {cap : Nat} {ps : List (Int × Int)} (h : IsParts w (.slice b ps.length cap) ps) {i : Nat} (hi : i < ps.length) :
    ∃ a, b = some a ∧ w.cell? (a.add (i * 2)) = some (.int .i64 (ps[i]'hi).1) ∧ w.cell? ⟨(a.add (i * 2)).block, (a.add (i * 2)).off + 1, none⟩ = some (.int .i64 (ps[i]'hi).2) := by
  obtain ⟨a, cap', he, h0, hj⟩ := Elems.get h (by decide) (i := i) (by simpa using hi)
  rw [getD_map' _ _ _ _ hi] at h0 hj
  simp only [Value.slice.injEq] at he
  exact ⟨a, he.1, h0, hj 1 (by decide) (by decide)⟩
theorem idx_part (U : Nat) (pb : Option Addr) (cap : Nat) (ps : List (Int × Int)) (hl : ps.length ≤ 1000000) (w : World) (h : IsParts w (.slice pb ps.length cap) ps) (bU : Blk w U #[.func (.func 149) #[] #[]] 159) :
    Calls Try.prog 154 #[.slice pb ps.length cap, .func (.func 150) #[] #[.pointer (some ⟨U, 0, none⟩)]] w fun e w' => IdxAny (anyF (fun k => badP (ps.getD k (0, 0))) ps.length 0) e ∧ Below w.heap.size w w' := by
  obtain ⟨p, hp⟩ : ∃ p : Nat → Bool, (fun k => badP (ps.getD k (0, 0))) = p := ⟨_, rfl⟩
  rw [hp]
  obtain ⟨T, hT⟩ : ∃ T, anyF p ps.length 0 = T := ⟨_, rfl⟩
  rw [hT]
  have HT := Lib.hid hT
  have HP := Lib.hid hp
  clear hT hp
  go_enter Try.func154, Try.ntmps154
  go_wp2
  go_loopw [8] (fun iv wr => ∃ i : Nat, iv = .int .i64 i ∧ i ≤ ps.length ∧ anyF p (ps.length - i) i = T ∧ Below w.heap.size w wr) (fun iv _ => ps.length - (intOf iv).toNat)
  case atStart => exact ⟨0, rfl, Nat.zero_le _, HT.out, Below.refl _ _⟩
  case round =>
    obtain ⟨i, rfl, hi, hf, hB⟩ := hrel
    by_cases hlt : i < ps.length
    · have tl : decide (i < ps.length) = true := by simpa using hlt
      obtain ⟨a, rfl, c0, c1⟩ := (h.below hB).at hlt
      have j0 : (0 : Int) ≤ (i : Int) := by omega
      have j1 : (i : Int) < (ps.length : Int) := by omega
      rw [show ps.length - i = ps.length - (i + 1) + 1 by omega] at hf
      have HF := Lib.hid hf
      have hpi : p i = badP (ps[i]'hlt) := by rw [← HP.out]; simp [List.getD_eq_getElem?_getD, hlt]
      have hcl := fr_right2 U (ps[i]'hlt) wr (bU.below hB bU.lt)
      rw [← hpi] at hcl
      clear hf hpi
      generalize (ps[i]'hlt).1 = x at *
      generalize (ps[i]'hlt).2 = y at *
      by_cases hq : p i = true
      · have hf := HF.out
        rw [anyF_stop p _ i hq] at hf
        rw [hq] at hcl
        clear hq HF
        subst hf
        go_wp2_with (go_at_call 150; refine hcl.mono ?_; rintro r w1 ⟨rfl, hb1⟩; replace hB := hB.trans (hb1.mono hB.size))
        go_ret
        exact ⟨⟨(i : Int), rfl, by simp⟩, hB⟩
      · rw [Bool.not_eq_true] at hq
        have hf := HF.out
        rw [anyF_go p _ i hq] at hf
        have HF2 := Lib.hid hf
        rw [hq] at hcl
        clear hf hq HF
        go_wp2_with (go_at_call 150; refine hcl.mono ?_; rintro r w1 ⟨rfl, hb1⟩; replace hB := hB.trans (hb1.mono hB.size))
        go_roundw
        case rel => exact ⟨i + 1, by go_num, by omega, HF2.out, hB⟩
        case measure => simp [intOf]; omega
    · have tl : decide (i < ps.length) = false := by simpa using hlt
      rw [show ps.length - i = 0 by omega] at hf
      obtain rfl : T = false := hf.symm
      go_wp2
      go_ret
      exact ⟨⟨-1, rfl, by decide⟩, hB⟩
def anyBad (ps : List (Int × Int)) : Bool := anyF (fun k => badP (ps.getD k (0, 0))) ps.length 0
theorem has_part (U : Nat) (pb : Option Addr) (cap : Nat) (ps : List (Int × Int)) (hl : ps.length ≤ 1000000) (w : World) (h : IsParts w (.slice pb ps.length cap) ps) (bU : Blk w U #[.func (.func 149) #[] #[]] 159) :
    Calls Try.prog 151 #[.slice pb ps.length cap, .func (.func 150) #[] #[.pointer (some ⟨U, 0, none⟩)]] w fun e w' => e = .returned (.bool (anyBad ps)) ∧ Below w.heap.size w w' := by
  have hi := idx_part U pb cap ps hl w h bU
  unfold anyBad
  generalize anyF (fun k => badP (ps.getD k (0, 0))) ps.length 0 = b at *
  go_enter Try.func151, Try.ntmps151
  go_wp2_with (go_at_call 154; refine hi.mono ?_; rintro e w1 ⟨⟨r, rfl, hr⟩, hb1⟩)
  go_ret
  exact ⟨by first | rfl | rw [← hr]; rfl, hb1⟩
/-- What frame.right answers. -/
def rightE (x y : Int) (ps : List (Int × Int)) : Int := if x < 1 ∨ y < 1 ∨ ps.length = 0 ∨ anyBad ps = true then 7 else if 16384 < x ∨ 16384 < y then 11 else if 4 < ps.length then 12 else 0
theorem fr_right (x y : Int) (pb : Option Addr) (cap : Nat) (ps : List (Int × Int)) (hl : ps.length ≤ 1000000) (w : World) (h : IsParts w (.slice pb ps.length cap) ps) :
    Calls Try.prog 137 #[.int .i64 x, .int .i64 y, .slice pb ps.length cap] w fun e w' => e = .returned (.int .i64 (rightE x y ps)) ∧ Below w.heap.size w w' := by
  obtain ⟨U, hU⟩ : ∃ U, U = w.heap.size := ⟨_, rfl⟩
  have HU := Lib.hid hU
  rw [← hU]
  have hbe : Below w.heap.size w (w.alloc (.cells #[.func (.func 149) #[] #[]] 159)) := (Below.refl _ _).alloc (Nat.le_refl _) _
  have hca := fun W h bU => has_part U pb cap ps hl W h bU
  unfold rightE
  generalize anyBad ps = bad at *
  have t0e : ps.length = 0 → decide ((ps.length : Int) = 0) = true := fun h => decide_eq_true (by omega)
  obtain ⟨R, hR⟩ : ∃ R, (if x < 1 ∨ y < 1 ∨ ps.length = 0 ∨ bad = true then (7 : Int) else if 16384 < x ∨ 16384 < y then 11 else if 4 < ps.length then 12 else 0) = R := ⟨_, rfl⟩
  rw [hR]
  have hcs : (R = 7 ∧ decide (x < 1) = true) ∨ (R = 7 ∧ decide (x < 1) = false ∧ decide (y < 1) = true) ∨ (R = 7 ∧ decide (x < 1) = false ∧ decide (y < 1) = false ∧ ps.length = 0) ∨ (R = 7 ∧ decide (x < 1) = false ∧ decide (y < 1) = false ∧ ps.length ≠ 0 ∧ bad = true) ∨
      (R = 11 ∧ decide (x < 1) = false ∧ decide (y < 1) = false ∧ ps.length ≠ 0 ∧ bad = false ∧ decide (16384 < x) = true) ∨ (R = 11 ∧ decide (x < 1) = false ∧ decide (y < 1) = false ∧ ps.length ≠ 0 ∧ bad = false ∧ decide (16384 < x) = false ∧ decide (16384 < y) = true) ∨
      (R = 12 ∧ decide (x < 1) = false ∧ decide (y < 1) = false ∧ ps.length ≠ 0 ∧ bad = false ∧ decide (16384 < x) = false ∧ decide (16384 < y) = false ∧ decide ((4 : Int) < (ps.length : Int)) = true) ∨ (R = 0 ∧ decide (x < 1) = false ∧ decide (y < 1) = false ∧ ps.length ≠ 0 ∧ bad = false ∧ decide (16384 < x) = false ∧ decide (16384 < y) = false ∧ decide ((4 : Int) < (ps.length : Int)) = false) := by
    by_cases a1 : x < 1
    · exact .inl ⟨by rw [← hR, if_pos (.inl a1)], decide_eq_true a1⟩
    have d1 : decide (x < 1) = false := decide_eq_false a1
    by_cases a2 : y < 1
    · exact .inr (.inl ⟨by rw [← hR, if_pos (.inr (.inl a2))], d1, decide_eq_true a2⟩)
    have d2 : decide (y < 1) = false := decide_eq_false a2
    by_cases a3 : ps.length = 0
    · exact .inr (.inr (.inl ⟨by rw [← hR, if_pos (.inr (.inr (.inl a3)))], d1, d2, a3⟩))
    cases bad
    · rw [if_neg (fun hh => by rcases hh with h | h | h | h; exact a1 h; exact a2 h; exact a3 h; cases h)] at hR
      by_cases a4 : 16384 < x
      · exact .inr (.inr (.inr (.inr (.inl ⟨by rw [← hR, if_pos (.inl a4)], d1, d2, a3, rfl, decide_eq_true a4⟩))))
      have d4 : decide (16384 < x) = false := decide_eq_false a4
      by_cases a5 : 16384 < y
      · exact .inr (.inr (.inr (.inr (.inr (.inl ⟨by rw [← hR, if_pos (.inr a5)], d1, d2, a3, rfl, d4, decide_eq_true a5⟩)))))
      have d5 : decide (16384 < y) = false := decide_eq_false a5
      rw [if_neg (fun hh => hh.elim a4 a5)] at hR
      by_cases a6 : 4 < ps.length
      · exact .inr (.inr (.inr (.inr (.inr (.inr (.inl ⟨by rw [← hR, if_pos a6], d1, d2, a3, rfl, d4, d5, decide_eq_true (by omega)⟩))))))
      · exact .inr (.inr (.inr (.inr (.inr (.inr (.inr ⟨by rw [← hR, if_neg a6], d1, d2, a3, rfl, d4, d5, decide_eq_false (by omega)⟩))))))
    · exact .inr (.inr (.inr (.inl ⟨by rw [← hR, if_pos (.inr (.inr (.inr rfl)))], d1, d2, a3, rfl⟩)))
  clear hR hU t0e
  rcases hcs with ⟨rfl, t1⟩ | ⟨rfl, t1, t2⟩ | ⟨rfl, t1, t2, t3⟩ | ⟨rfl, t1, t2, t3, rfl⟩ | ⟨rfl, t1, t2, t3, rfl, t4⟩ | ⟨rfl, t1, t2, t3, rfl, t4, t5⟩ | ⟨rfl, t1, t2, t3, rfl, t4, t5, t6⟩ | ⟨rfl, t1, t2, t3, rfl, t4, t5, t6⟩
  all_goals
    go_enter Try.func137, Try.ntmps137
    go_upto_region 2 with fail
    rw [← HU.out]
    refine wp_world (fun W => Blk W U #[.func (.func 149) #[] #[]] 159 ∧ IsParts W (.slice pb ps.length cap) ps ∧ Below U w W) ⟨Blk.new' _ _ _ HU.out, h.below hbe, by rw [HU.out]; exact hbe⟩ ?_
    rintro W ⟨bU, hP, hB⟩
    have hcw := hca W hP bU
    first
      | (have z0 : ((ps.length : Int) == 0) = false := beq_eq_false_iff_ne.2 (by omega)
         have z1 : (ps.length == 0) = false := beq_eq_false_iff_ne.2 (by omega)
         have z2 : decide ((ps.length : Int) = 0) = false := decide_eq_false (by omega)
         clear t3 hca)
      | (have z0 : ((ps.length : Int) == 0) = true := beq_iff_eq.2 (by omega)
         have z1 : (ps.length == 0) = true := beq_iff_eq.2 (by omega)
         have z2 : decide ((ps.length : Int) = 0) = true := decide_eq_true (by omega)
         clear t3 hca)
      | clear hca
    go_wp2_with (go_at_call 151; refine hcw.mono ?_; rintro r w1 ⟨rfl, hb1⟩; replace hB := hB.trans (hb1.mono (Nat.le_of_lt bU.lt)))
    go_ret
    exact ⟨rfl, hB⟩
end Go.Proofs.Ytgmhhocpdfdplaa
/- slices.Clone at parts, components, tables, tags. Made by gen_clones.py out of blocks_clone. -/
namespace Go.Proofs.Ytgmhhocpdfdplaa
open Go.RowKit
set_option maxRecDepth 100000
set_option maxHeartbeats 4000000
theorem part_clone (u : Value) (n : Nat) (xs : List Value) (hn : n ≤ 1000000) (w : World) (h : Ar w 2 u n xs) (h1 : ∀ u ∈ xs, u.oneCell' = true) :
    Calls Try.prog 138 #[u] w fun e w' => ∃ u', e = .returned u' ∧ Row w' w.heap.size 154 2 u' n xs ∧ Below w.heap.size w w' := by
  rcases h.2 with ⟨rfl, rfl⟩ | ⟨ad, cap, rfl, h2, h3, h4⟩
  · have hn0 : ∀ W, (binOp .eql 153 (.slice none 0 0) (.slice none 0 0)).run Try.prog W = .ok (.bool true) W := fun W => Lib.run_eql_slice_nil W 153 154 none 0 0 0 0 Try.underlying153
    obtain rfl : xs = [] := List.eq_nil_of_length_eq_zero (by simpa using h.1)
    go_enter Try.func138, Try.ntmps138
    go_wp2_with fail
    go_ret
    exact ⟨_, rfl, Row.nil _ _ _ _, Below.refl _ _⟩
  · have hn0 : ∀ W, (binOp .eql 153 (.slice (some ad) n cap) (.slice none 0 0)).run Try.prog W = .ok (.bool false) W := fun W => Lib.run_eql_slice_nil W 153 154 _ _ _ 0 0 Try.underlying153
    obtain ⟨N, hN⟩ : ∃ N, N = w.heap.size := ⟨_, rfl⟩
    have HN := Lib.hid hN
    rw [← hN]
    clear hN
    have hB1 : Below N w (w.alloc (.cells #[] 154)) := (Below.refl _ _).alloc (by rw [HN.out]; exact Nat.le_refl _) _
    have hA1 := h.below (w' := w.alloc (.cells #[] 154)) (by rw [← HN.out]; exact hB1)
    have hE : Row (w.alloc (.cells #[] 154)) N 154 2 (.slice (some ⟨w.heap.size, 0, none⟩) 0 0) 0 [] := Row.empty (Blk.new _ _ _) (by rw [HN.out]; exact Nat.le_refl _)
    go_enter Try.func138, Try.ntmps138
    go_wp2_with (refine wpList_append_ar _ rfl _ _ 153 rfl N 154 _ _ 2 16 rfl rfl rfl rfl rfl rfl _ 0 [] rfl hE _ n xs rfl hA1 h1 (by simp only [maxLen]; omega) (by omega) (by simp; rw [HN.out]; omega) (fun v' w3 hR1 hg3 hat => ?_))
    go_ret
    refine ⟨_, rfl, by simpa using hR1, Below.grown hB1 (by simp; rw [HN.out]; omega) hg3 (fun k e => by cases e; exact Nat.le_of_eq HN.out)⟩
theorem comp_clone (u : Value) (n : Nat) (xs : List Value) (hn : n ≤ 1000000) (w : World) (h : Ar w 7 u n xs) (h1 : ∀ u ∈ xs, u.oneCell' = true) :
    Calls Try.prog 71 #[u] w fun e w' => ∃ u', e = .returned u' ∧ Row w' w.heap.size 63 7 u' n xs ∧ Below w.heap.size w w' := by
  rcases h.2 with ⟨rfl, rfl⟩ | ⟨ad, cap, rfl, h2, h3, h4⟩
  · have hn0 : ∀ W, (binOp .eql 22 (.slice none 0 0) (.slice none 0 0)).run Try.prog W = .ok (.bool true) W := fun W => Lib.run_eql_slice_nil W 22 63 none 0 0 0 0 Try.underlying22
    obtain rfl : xs = [] := List.eq_nil_of_length_eq_zero (by simpa using h.1)
    go_enter Try.func71, Try.ntmps71
    go_wp2_with fail
    go_ret
    exact ⟨_, rfl, Row.nil _ _ _ _, Below.refl _ _⟩
  · have hn0 : ∀ W, (binOp .eql 22 (.slice (some ad) n cap) (.slice none 0 0)).run Try.prog W = .ok (.bool false) W := fun W => Lib.run_eql_slice_nil W 22 63 _ _ _ 0 0 Try.underlying22
    obtain ⟨N, hN⟩ : ∃ N, N = w.heap.size := ⟨_, rfl⟩
    have HN := Lib.hid hN
    rw [← hN]
    clear hN
    have hB1 : Below N w (w.alloc (.cells #[] 63)) := (Below.refl _ _).alloc (by rw [HN.out]; exact Nat.le_refl _) _
    have hA1 := h.below (w' := w.alloc (.cells #[] 63)) (by rw [← HN.out]; exact hB1)
    have hE : Row (w.alloc (.cells #[] 63)) N 63 7 (.slice (some ⟨w.heap.size, 0, none⟩) 0 0) 0 [] := Row.empty (Blk.new _ _ _) (by rw [HN.out]; exact Nat.le_refl _)
    go_enter Try.func71, Try.ntmps71
    go_wp2_with (refine wpList_append_ar _ rfl _ _ 22 rfl N 63 _ _ 7 72 rfl rfl rfl rfl rfl rfl _ 0 [] rfl hE _ n xs rfl hA1 h1 (by simp only [maxLen]; omega) (by omega) (by simp; rw [HN.out]; omega) (fun v' w3 hR1 hg3 hat => ?_))
    go_ret
    refine ⟨_, rfl, by simpa using hR1, Below.grown hB1 (by simp; rw [HN.out]; omega) hg3 (fun k e => by cases e; exact Nat.le_of_eq HN.out)⟩
theorem quant_clone (u : Value) (n : Nat) (xs : List Value) (hn : n ≤ 1000000) (w : World) (h : Ar w 65 u n xs) (h1 : ∀ u ∈ xs, u.oneCell' = true) :
    Calls Try.prog 72 #[u] w fun e w' => ∃ u', e = .returned u' ∧ Row w' w.heap.size 39 65 u' n xs ∧ Below w.heap.size w w' := by
  rcases h.2 with ⟨rfl, rfl⟩ | ⟨ad, cap, rfl, h2, h3, h4⟩
  · have hn0 : ∀ W, (binOp .eql 23 (.slice none 0 0) (.slice none 0 0)).run Try.prog W = .ok (.bool true) W := fun W => Lib.run_eql_slice_nil W 23 39 none 0 0 0 0 Try.underlying23
    obtain rfl : xs = [] := List.eq_nil_of_length_eq_zero (by simpa using h.1)
    go_enter Try.func72, Try.ntmps72
    go_wp2_with fail
    go_ret
    exact ⟨_, rfl, Row.nil _ _ _ _, Below.refl _ _⟩
  · have hn0 : ∀ W, (binOp .eql 23 (.slice (some ad) n cap) (.slice none 0 0)).run Try.prog W = .ok (.bool false) W := fun W => Lib.run_eql_slice_nil W 23 39 _ _ _ 0 0 Try.underlying23
    obtain ⟨N, hN⟩ : ∃ N, N = w.heap.size := ⟨_, rfl⟩
    have HN := Lib.hid hN
    rw [← hN]
    clear hN
    have hB1 : Below N w (w.alloc (.cells #[] 39)) := (Below.refl _ _).alloc (by rw [HN.out]; exact Nat.le_refl _) _
    have hA1 := h.below (w' := w.alloc (.cells #[] 39)) (by rw [← HN.out]; exact hB1)
    have hE : Row (w.alloc (.cells #[] 39)) N 39 65 (.slice (some ⟨w.heap.size, 0, none⟩) 0 0) 0 [] := Row.empty (Blk.new _ _ _) (by rw [HN.out]; exact Nat.le_refl _)
    go_enter Try.func72, Try.ntmps72
    go_wp2_with (refine wpList_append_ar _ rfl _ _ 23 rfl N 39 _ _ 65 136 rfl rfl rfl rfl rfl rfl _ 0 [] rfl hE _ n xs rfl hA1 h1 (by simp only [maxLen]; omega) (by omega) (by simp; rw [HN.out]; omega) (fun v' w3 hR1 hg3 hat => ?_))
    go_ret
    refine ⟨_, rfl, by simpa using hR1, Below.grown hB1 (by simp; rw [HN.out]; omega) hg3 (fun k e => by cases e; exact Nat.le_of_eq HN.out)⟩
theorem tag_clone (u : Value) (n : Nat) (xs : List Value) (hn : n ≤ 1000000) (w : World) (h : Ar w 2 u n xs) (h1 : ∀ u ∈ xs, u.oneCell' = true) :
    Calls Try.prog 84 #[u] w fun e w' => ∃ u', e = .returned u' ∧ Row w' w.heap.size 104 2 u' n xs ∧ Below w.heap.size w w' := by
  rcases h.2 with ⟨rfl, rfl⟩ | ⟨ad, cap, rfl, h2, h3, h4⟩
  · have hn0 : ∀ W, (binOp .eql 24 (.slice none 0 0) (.slice none 0 0)).run Try.prog W = .ok (.bool true) W := fun W => Lib.run_eql_slice_nil W 24 104 none 0 0 0 0 Try.underlying24
    obtain rfl : xs = [] := List.eq_nil_of_length_eq_zero (by simpa using h.1)
    go_enter Try.func84, Try.ntmps84
    go_wp2_with fail
    go_ret
    exact ⟨_, rfl, Row.nil _ _ _ _, Below.refl _ _⟩
  · have hn0 : ∀ W, (binOp .eql 24 (.slice (some ad) n cap) (.slice none 0 0)).run Try.prog W = .ok (.bool false) W := fun W => Lib.run_eql_slice_nil W 24 104 _ _ _ 0 0 Try.underlying24
    obtain ⟨N, hN⟩ : ∃ N, N = w.heap.size := ⟨_, rfl⟩
    have HN := Lib.hid hN
    rw [← hN]
    clear hN
    have hB1 : Below N w (w.alloc (.cells #[] 104)) := (Below.refl _ _).alloc (by rw [HN.out]; exact Nat.le_refl _) _
    have hA1 := h.below (w' := w.alloc (.cells #[] 104)) (by rw [← HN.out]; exact hB1)
    have hE : Row (w.alloc (.cells #[] 104)) N 104 2 (.slice (some ⟨w.heap.size, 0, none⟩) 0 0) 0 [] := Row.empty (Blk.new _ _ _) (by rw [HN.out]; exact Nat.le_refl _)
    go_enter Try.func84, Try.ntmps84
    go_wp2_with (refine wpList_append_ar _ rfl _ _ 24 rfl N 104 _ _ 2 24 rfl rfl rfl rfl rfl rfl _ 0 [] rfl hE _ n xs rfl hA1 h1 (by simp only [maxLen]; omega) (by omega) (by simp; rw [HN.out]; omega) (fun v' w3 hR1 hg3 hat => ?_))
    go_ret
    refine ⟨_, rfl, by simpa using hR1, Below.grown hB1 (by simp; rw [HN.out]; omega) hg3 (fun k e => by cases e; exact Nat.le_of_eq HN.out)⟩
end Go.Proofs.Ytgmhhocpdfdplaa
/- Package frame: up; Clone of parts kept as parts; the first part replaced. -/
namespace Go.Proofs.Ytgmhhocpdfdplaa
open Go.RowKit
set_option maxRecDepth 100000
set_option maxHeartbeats 4000000
/-- A quotient, rounded up. -/
def upI (a b : Int) : Int := (a + b - 1) / b
theorem fr_up (a b : Int) (ha : 0 ≤ a) (ha2 : a ≤ 1000000) (hb : 1 ≤ b) (hb2 : b ≤ 1000000) (w : World) : Calls Try.prog 139 #[.int .i64 a, .int .i64 b] w fun r w' => r = .returned (.int .i64 (upI a b)) ∧ w = w' := by
  have hb0 : b ≠ 0 := by omega
  have hbm : b ≠ -1 := by omega
  have e1 : IntKind.i64.wrap (a + b) = a + b := IntWalk.i64_in _ (by omega)
  have e2 : IntKind.i64.wrap (a + b - 1) = a + b - 1 := IntWalk.i64_in _ (by omega)
  have h0 : 0 ≤ a + b - 1 := by omega
  have hq : (a + b - 1) / b ≤ a + b - 1 := Int.ediv_le_self _ h0
  have hq0 : 0 ≤ (a + b - 1) / b := Int.ediv_nonneg h0 (by omega)
  unfold upI
  go_enter Try.func139, Try.ntmps139
  go_wp2
  go_ret
  exact ⟨rfl, rfl⟩
end Go.Proofs.Ytgmhhocpdfdplaa
/- Package frame: a frame in memory; Grid. -/
namespace Go.Proofs.Ytgmhhocpdfdplaa
open Go.RowKit
set_option maxRecDepth 100000
set_option maxHeartbeats 4000000
/-- A component's grid. -/
structure GridV where
  c : Int
  r : Int
  oc : Int
  or_ : Int
def GridV.cells (g : GridV) : List Value := [.int .i64 g.c, .int .i64 g.r, .int .i64 g.oc, .int .i64 g.or_]
/-- A frame at F with these grids. -/
def IsFr (w : World) (F : Nat) (gs : List GridV) : Prop :=
  ∃ (pv gv : Value) (v2 v3 v4 v5 v6 v7 : Value), Blk w F #[pv, gv, v2, v3, v4, v5, v6, v7] 158 ∧ Row w 0 116 4 gv gs.length (gs.map GridV.cells).flatten ∧ gs.length ≤ 1000000
/-- A frame at F with these numbers: a unit's sides, how many units there are. -/
def FrU (w : World) (F : Nat) (uw uh ac dn : Int) : Prop := ∃ pv gv v6 v7 : Value, Blk w F #[pv, gv, .int .i64 ac, .int .i64 dn, .int .i64 uw, .int .i64 uh, v6, v7] 158
theorem FrU.below {w w' : World} {F : Nat} {uw uh ac dn : Int} (h : FrU w F uw uh ac dn) (hb : Below w.heap.size w w') : FrU w' F uw uh ac dn := by
  obtain ⟨pv, gv, v6, v7, bF⟩ := h
  exact ⟨pv, gv, v6, v7, bF.below hb bF.lt⟩
theorem IsFr.below {w w' : World} {F : Nat} {gs : List GridV} (h : IsFr w F gs) (hb : Below w.heap.size w w') : IsFr w' F gs := by
  obtain ⟨pv, gv, v2, v3, v4, v5, v6, v7, bF, hE, hl⟩ := h
  exact ⟨pv, gv, v2, v3, v4, v5, v6, v7, bF.below hb bF.lt, hE.grow hb, hl⟩
/-- A cell of a block of another type is changed. -/
theorem IsFr.other {w : World} {F : Nat} {gs : List GridV} (h : IsFr w F gs) {g : Nat} {cs : Array Value} {t : TypeId} (hb : Blk w g cs t) (h1 : t ≠ 158) (h2 : t ≠ 116) (i : Nat) (v : Value) : IsFr (w.setCell ⟨g, i, none⟩ v) F gs := by
  obtain ⟨pv, gv, v2, v3, v4, v5, v6, v7, bF, hE, hl⟩ := h
  refine ⟨pv, gv, v2, v3, v4, v5, v6, v7, bF.other _ _ (fun e => ?_), hE.other _ _ (hE.typed hb h2), hl⟩
  have e1 : F = g := e
  subst e1
  have := bF.symm.trans hb
  simp at this
  exact h1 this.2.symm
/-- A slice of rows as a slice of elements. -/
theorem flat_get {size : Nat} : ∀ (L : List (List Value)) (i j : Nat), (∀ c ∈ L, c.length = size) → i < L.length → j < size → L.flatten[i * size + j]? = (L.getD i [])[j]?
  | [], i, j, _, h, _ => by simp at h
  | c :: l, 0, j, hL, _, hj => by
    have hc : c.length = size := hL c (by simp)
    rw [List.flatten_cons, List.getElem?_append_left (by omega)]
    simp
  | c :: l, i + 1, j, hL, hi, hj => by
    have hc : c.length = size := hL c (by simp)
    have e : (i + 1) * size + j = size + (i * size + j) := by rw [Nat.add_mul]; omega
    rw [List.flatten_cons, e, List.getElem?_append_right (by omega), hc, Nat.add_sub_cancel_left, flat_get l i j (fun c hc => hL c (by simp [hc])) (by simpa using hi) hj]
    simp
theorem Ar.elems {w : World} {size : Nat} {u : Value} {n : Nat} {L : List (List Value)} (h : Ar w size u n L.flatten) (hL : ∀ c ∈ L, c.length = size) (hn : L.length = n) (hm : n ≤ maxLen) : Elems w size u L := by
  subst hn
  refine ⟨hm, hL, ?_⟩
  rcases h.2 with ⟨h1, h2⟩ | ⟨a, cap, h1, h2, h3, h4⟩
  · exact .inl ⟨h1, List.eq_nil_of_length_eq_zero h2⟩
  · refine .inr ⟨a, cap, h1, h2, h3, fun i hi j hj => ?_⟩
    have hg := flat_get L i j hL hi hj
    have hl : (L.getD i []).length = size := by
      rw [List.getD_eq_getElem?_getD, List.getElem?_eq_getElem hi]
      exact hL _ (List.getElem_mem hi)
    obtain ⟨u, hu⟩ : ∃ u, (L.getD i [])[j]? = Option.some u := ⟨_, List.getElem?_eq_getElem (by omega)⟩
    rw [hu] at hg ⊢
    exact h4 _ _ hg
theorem fr_grid (F : Nat) (gs : List GridV) (i : Nat) (hi : i < gs.length) (w : World) (h : IsFr w F gs) :
    Calls Try.prog 73 #[.pointer (some ⟨F, 0, none⟩), .int .i64 i] w fun r w' => r = .returned (.tuple #[.agg #[.int .i64 (gs[i]'hi).c, .int .i64 (gs[i]'hi).r, .int .i64 (gs[i]'hi).oc, .int .i64 (gs[i]'hi).or_], .bool true]) ∧ Below w.heap.size w w' := by
  obtain ⟨pv, gv, v2, v3, v4, v5, v6, v7, bF, hE0, hl0⟩ := h
  have hE : Elems w 4 gv (gs.map GridV.cells) := Ar.elems hE0.ar (fun c hc => by obtain ⟨p, _, rfl⟩ := List.mem_map.1 hc; rfl) (by simp) (by simp only [maxLen]; omega)
  clear hE0 hl0
  obtain ⟨g, hg⟩ : ∃ g, gs[i]'hi = g := ⟨_, rfl⟩
  have HG := Lib.hid hg
  rw [hg]
  clear hg
  obtain ⟨x0, x1, x2, x3⟩ := g
  obtain ⟨N, hN⟩ : ∃ N, N = w.heap.size := ⟨_, rfl⟩
  have HN := Lib.hid hN
  rw [← hN]
  have hbe : Below w.heap.size w (w.alloc (.cells #[.int .i64 0, .int .i64 0, .int .i64 0, .int .i64 0] 116)) := (Below.refl _ _).alloc (Nat.le_refl _) _
  obtain ⟨a, cap, hgv, -⟩ := hE.get (by decide) (i := i) (by simpa using hi)
  rw [List.length_map] at hgv
  subst hgv
  clear hN
  have hFN : F < w.heap.size := bF.lt
  have j0 : (0 : Int) ≤ (i : Int) := by omega
  have j1 : (i : Int) < (gs.length : Int) := by omega
  have t1 : decide ((i : Int) < 0) = false := decide_eq_false (by omega)
  have t2 : decide ((gs.length : Int) ≤ (i : Int)) = false := decide_eq_false (by omega)
  go_enter Try.func73, Try.ntmps73
  go_upto_region 1 with fail
  rw [← HN.out]
  refine wp_world (fun W => Blk W N #[.int .i64 0, .int .i64 0, .int .i64 0, .int .i64 0] 116 ∧ Blk W F #[pv, .slice (some a) gs.length cap, v2, v3, v4, v5, v6, v7] 158 ∧ Elems W 4 (.slice (some a) gs.length cap) (gs.map GridV.cells) ∧ Below N w W) ⟨Blk.new' _ _ _ HN.out, bF.below hbe bF.lt, hE.below hbe, by rw [HN.out]; exact hbe⟩ ?_
  clear bF hE hbe
  rintro W ⟨bN, bF, hE, hB⟩
  have q1 : W.cell? ⟨F, 1, none⟩ = some (.slice (some a) gs.length cap) := bF.cell 1
  obtain ⟨a', cap', he, c0, cj⟩ := hE.get (by decide) (i := i) (by simpa using hi)
  rw [List.length_map] at he
  simp only [Value.slice.injEq, Option.some.injEq] at he
  obtain ⟨rfl, -, rfl⟩ := he
  rw [getD_map' _ _ _ _ hi, HG.out] at c0 cj
  have c1 := cj 1 (by decide) (by decide)
  have c2 := cj 2 (by decide) (by decide)
  have c3 := cj 3 (by decide) (by decide)
  simp only [GridV.cells, List.getElem?_cons_zero, List.getElem?_cons_succ] at c0 c1 c2 c3
  clear cj hE
  go_wp2_with (refine wpList_store_rowTo rfl 116 _ _ rfl rfl N #[.int .i64 x0, .int .i64 x1, .int .i64 x2, .int .i64 x3] rfl rfl 116 _ bN (by kernel_rfl) rfl (by simp [Value.oneCell']) ?_)
  refine bodyPost_ret (results_row_tmp rfl _ _ N 116 _ _ rfl (bN.row #[.int .i64 x0, .int .i64 x1, .int .i64 x2, .int .i64 x3]) Try.underlying116 rfl (by kernel_rfl)) rfl ?_
  exact ⟨rfl, Below.setRow hB (Nat.le_refl _) _⟩
end Go.Proofs.Ytgmhhocpdfdplaa
/- Package frame: what New computes, in plain words; the frame as it is made. -/
namespace Go.Proofs.Ytgmhhocpdfdplaa
open Go.RowKit
set_option maxRecDepth 100000
def mxN (f : Nat → Int) : Nat → Int
  | 0 => 0
  | k + 1 => max (mxN f k) (f k)
def smN (f : Nat → Int) : Nat → Int
  | 0 => 0
  | k + 1 => smN f k + f k
theorem mxN_in {f : Nat → Int} {lo hi : Int} (h0 : 0 ≤ lo) : ∀ n, (∀ k, k < n → lo ≤ f k ∧ f k ≤ hi) → 0 ≤ mxN f n ∧ (0 < n → lo ≤ mxN f n ∧ mxN f n ≤ hi)
  | 0, _ => ⟨Int.le_refl _, fun h => absurd h (by omega)⟩
  | n + 1, h => by
    have ih := mxN_in h0 n (fun k hk => h k (by omega))
    have hn := h n (by omega)
    simp only [mxN]
    by_cases hz : n = 0
    · subst hz
      simp only [mxN]
      omega
    · have := ih.2 (by omega)
      omega
theorem smN_in {f : Nat → Int} {hi : Int} : ∀ n, (∀ k, k < n → 0 ≤ f k ∧ f k ≤ hi) → 0 ≤ smN f n ∧ smN f n ≤ hi * n
  | 0, _ => by simp [smN]
  | n + 1, h => by
    have ih := smN_in n (fun k hk => h k (by omega))
    have hn := h n (by omega)
    simp only [smN]
    rw [Int.natCast_add, Int.mul_add]
    simp only [Int.natCast_one, Int.mul_one]
    omega
def hA (qs : List (Int × Int)) (k : Nat) : Int := (qs.getD k (0, 0)).1
def vA (qs : List (Int × Int)) (k : Nat) : Int := (qs.getD k (0, 0)).2
def partsOf (ps : List (Int × Int)) : List (Int × Int) := if ps.length = 1 then [(1, 1)] else ps
def hhN (qs : List (Int × Int)) : Int := mxN (hA qs) qs.length
def vvN (qs : List (Int × Int)) : Int := mxN (vA qs) qs.length
def iuN (qs : List (Int × Int)) : Int := smN (fun k => hA qs k * vA qs k) qs.length
def gridP (x y hh vv ac dn : Int) (p : Int × Int) : GridV := ⟨ac * p.1, dn * p.2, upI (upI (x * p.1) hh) 8, upI (upI (y * p.2) vv) 8⟩
def acN (x : Int) (qs : List (Int × Int)) : Int := upI x (8 * hhN qs)
def dnN (y : Int) (qs : List (Int × Int)) : Int := upI y (8 * vvN qs)
def gridsN (x y : Int) (qs : List (Int × Int)) : List GridV := qs.map (gridP x y (hhN qs) (vvN qs) (acN x qs) (dnN y qs))
def totN (x y : Int) (qs : List (Int × Int)) : Int := smN (fun k => (acN x qs * hA qs k) * (dnN y qs * vA qs k)) qs.length
def newE (x y : Int) (ps : List (Int × Int)) : Int :=
  if rightE x y ps ≠ 0 then rightE x y ps else if 1 < ps.length ∧ 10 < iuN (partsOf ps) then 12 else if 16384 < totN x y (partsOf ps) then 11 else 0
theorem upI_in {a b : Int} (ha : 0 ≤ a) (hb : 1 ≤ b) : 0 ≤ upI a b ∧ upI a b ≤ a := by
  unfold upI
  refine ⟨Int.ediv_nonneg (by omega) (by omega), ?_⟩
  have h1 : a + b - 1 < (a + 1) * b := by
    have h2 : a * 1 ≤ a * b := Int.mul_le_mul_of_nonneg_left hb ha
    rw [Int.add_mul, Int.one_mul]
    omega
  have := Int.ediv_lt_of_lt_mul (by omega) h1
  omega
theorem upI_8 {a b : Int} (ha : 0 ≤ a) (hb : 8 ≤ b) : 8 * upI a b ≤ a + b - 1 := by
  have h0 := (upI_in ha (show 1 ≤ b by omega)).1
  have h1 : upI a b * b ≤ a + b - 1 := Int.ediv_mul_le _ (by omega)
  have h2 : upI a b * 8 ≤ upI a b * b := Int.mul_le_mul_of_nonneg_left hb h0
  omega
theorem anyF_all {p : Nat → Bool} : ∀ n i, anyF p n i = false → ∀ k, i ≤ k → k < i + n → p k = false
  | 0, _, _, k, h1, h2 => absurd h2 (by omega)
  | n + 1, i, h, k, h1, h2 => by
    by_cases hp : p i = true
    · rw [anyF_stop p n i hp] at h; cases h
    · rw [Bool.not_eq_true] at hp
      rw [anyF_go p n i hp] at h
      by_cases hk : k = i
      · subst hk; exact hp
      · exact anyF_all n (i + 1) h k (by omega) (by omega)
/-- What is known of right numbers. -/
structure FrOk (x y : Int) (qs : List (Int × Int)) : Prop where
  x1 : 1 ≤ x
  x2 : x ≤ 16384
  y1 : 1 ≤ y
  y2 : y ≤ 16384
  n1 : 1 ≤ qs.length
  n2 : qs.length ≤ 4
  ps : ∀ k, k < qs.length → 1 ≤ hA qs k ∧ hA qs k ≤ 4 ∧ 1 ≤ vA qs k ∧ vA qs k ≤ 4
theorem facB_in {n : Int} (h : facB n = true) : 1 ≤ n ∧ n ≤ 4 := by simpa [facB] using h
theorem rightE_ok {x y : Int} {ps : List (Int × Int)} (h : rightE x y ps = 0) : FrOk x y ps := by
  unfold rightE at h
  split at h
  · cases h
  rename_i h1
  split at h
  · cases h
  rename_i h2
  split at h
  · cases h
  rename_i h3
  simp only [not_or, Bool.not_eq_true] at h1 h2
  refine ⟨by omega, by omega, by omega, by omega, by omega, by omega, fun k hk => ?_⟩
  have hb := anyF_all _ _ h1.2.2.2 k (by omega) (by omega)
  simp only [badP, Bool.or_eq_false_iff, Bool.not_eq_false'] at hb
  have h4 := facB_in hb.1
  have h5 := facB_in hb.2
  exact ⟨h4.1, h4.2, h5.1, h5.2⟩
theorem FrOk.parts {x y : Int} {ps : List (Int × Int)} (h : FrOk x y ps) : FrOk x y (partsOf ps) := by
  unfold partsOf
  split
  · exact ⟨h.x1, h.x2, h.y1, h.y2, by simp, by simp, fun k hk => by
      obtain rfl : k = 0 := by simpa using hk
      decide⟩
  · exact h
theorem partsOf_len (ps : List (Int × Int)) : (partsOf ps).length = ps.length := by
  unfold partsOf
  split
  · rename_i h; rw [h]; rfl
  · rfl
section
variable {x y : Int} {qs : List (Int × Int)}
theorem FrOk.hh (h : FrOk x y qs) : 1 ≤ hhN qs ∧ hhN qs ≤ 4 := (mxN_in (lo := 1) (hi := 4) (by decide) qs.length (fun k hk => ⟨(h.ps k hk).1, (h.ps k hk).2.1⟩)).2 h.n1
theorem FrOk.vv (h : FrOk x y qs) : 1 ≤ vvN qs ∧ vvN qs ≤ 4 := (mxN_in (lo := 1) (hi := 4) (by decide) qs.length (fun k hk => ⟨(h.ps k hk).2.2.1, (h.ps k hk).2.2.2⟩)).2 h.n1
theorem mul_in {a b A B : Int} (h0 : 0 ≤ a) (h1 : a ≤ A) (h2 : 0 ≤ b) (h3 : b ≤ B) : 0 ≤ a * b ∧ a * b ≤ A * B :=
  ⟨Int.mul_nonneg h0 h2, Int.mul_le_mul h1 h3 h2 (by omega)⟩
theorem FrOk.ac (h : FrOk x y qs) : 0 ≤ acN x qs ∧ acN x qs ≤ 3000 := by
  have h1 := h.hh
  have h2 := h.x1
  have h3 := h.x2
  unfold acN
  have h4 := upI_8 (a := x) (b := 8 * hhN qs) (by omega) (by omega)
  have h5 := upI_in (a := x) (b := 8 * hhN qs) (by omega) (by omega)
  omega
theorem FrOk.dn (h : FrOk x y qs) : 0 ≤ dnN y qs ∧ dnN y qs ≤ 3000 := by
  have h1 := h.vv
  have h2 := h.y1
  have h3 := h.y2
  unfold dnN
  have h4 := upI_8 (a := y) (b := 8 * vvN qs) (by omega) (by omega)
  have h5 := upI_in (a := y) (b := 8 * vvN qs) (by omega) (by omega)
  omega
theorem FrOk.iu (h : FrOk x y qs) (k : Nat) (hk : k ≤ qs.length) : 0 ≤ smN (fun k => hA qs k * vA qs k) k ∧ smN (fun k => hA qs k * vA qs k) k ≤ 64 := by
  have h1 := smN_in (f := fun k => hA qs k * vA qs k) (hi := 16) k (fun j hj => by
    have h2 := h.ps j (by omega)
    exact mul_in (A := 4) (B := 4) (by omega) h2.2.1 (by omega) h2.2.2.2)
  have h3 := h.n2
  omega
end
/-- The frame in block F while it is made: its parts, grids and numbers. -/
structure NF (N F : Nat) (u gv : Value) (qs : List (Int × Int)) (gs : List GridV) (ac dn uw uh tot iu : Int) (w W : World) : Prop where
  bF : Blk W F #[u, gv, .int .i64 ac, .int .i64 dn, .int .i64 uw, .int .i64 uh, .int .i64 tot, .int .i64 iu] 158
  row : Row W N 154 2 u qs.length (qs.map partC).flatten
  grid : Row W N 116 4 gv gs.length (gs.map GridV.cells).flatten
  hN : N ≤ F
  hB : Below N w W
section
variable {N F : Nat} {u gv : Value} {qs : List (Int × Int)} {gs : List GridV} {ac dn uw uh tot iu : Int} {w W W' : World}
theorem NF.below (h : NF N F u gv qs gs ac dn uw uh tot iu w W) (hb : Below W.heap.size W W') : NF N F u gv qs gs ac dn uw uh tot iu w W' :=
  ⟨h.bF.below hb h.bF.lt, h.row.grow hb, h.grid.grow hb, h.hN, h.hB.trans (hb.mono (by have := h.bF.lt; have := h.hN; omega))⟩
theorem NF.rowF (h : NF N F u gv qs gs ac dn uw uh tot iu w W) : ∀ g, u.ownBlock = some g → g ≠ F := h.row.typed h.bF (by decide)
theorem NF.gridF (h : NF N F u gv qs gs ac dn uw uh tot iu w W) : ∀ g, gv.ownBlock = some g → g ≠ F := h.grid.typed h.bF (by decide)
theorem NF.setAc (h : NF N F u gv qs gs ac dn uw uh tot iu w W) (z : Int) : NF N F u gv qs gs z dn uw uh tot iu w (W.setCell ⟨F, 2, none⟩ (.int .i64 z)) :=
  ⟨h.bF.set 2 _, h.row.other _ _ h.rowF, h.grid.other _ _ h.gridF, h.hN, h.hB.setCell h.hN _⟩
theorem NF.setDn (h : NF N F u gv qs gs ac dn uw uh tot iu w W) (z : Int) : NF N F u gv qs gs ac z uw uh tot iu w (W.setCell ⟨F, 3, none⟩ (.int .i64 z)) :=
  ⟨h.bF.set 3 _, h.row.other _ _ h.rowF, h.grid.other _ _ h.gridF, h.hN, h.hB.setCell h.hN _⟩
theorem NF.setUw (h : NF N F u gv qs gs ac dn uw uh tot iu w W) (z : Int) : NF N F u gv qs gs ac dn z uh tot iu w (W.setCell ⟨F, 4, none⟩ (.int .i64 z)) :=
  ⟨h.bF.set 4 _, h.row.other _ _ h.rowF, h.grid.other _ _ h.gridF, h.hN, h.hB.setCell h.hN _⟩
theorem NF.setUh (h : NF N F u gv qs gs ac dn uw uh tot iu w W) (z : Int) : NF N F u gv qs gs ac dn uw z tot iu w (W.setCell ⟨F, 5, none⟩ (.int .i64 z)) :=
  ⟨h.bF.set 5 _, h.row.other _ _ h.rowF, h.grid.other _ _ h.gridF, h.hN, h.hB.setCell h.hN _⟩
theorem NF.setTot (h : NF N F u gv qs gs ac dn uw uh tot iu w W) (z : Int) : NF N F u gv qs gs ac dn uw uh z iu w (W.setCell ⟨F, 6, none⟩ (.int .i64 z)) :=
  ⟨h.bF.set 6 _, h.row.other _ _ h.rowF, h.grid.other _ _ h.gridF, h.hN, h.hB.setCell h.hN _⟩
theorem NF.setIu (h : NF N F u gv qs gs ac dn uw uh tot iu w W) (z : Int) : NF N F u gv qs gs ac dn uw uh tot z w (W.setCell ⟨F, 7, none⟩ (.int .i64 z)) :=
  ⟨h.bF.set 7 _, h.row.other _ _ h.rowF, h.grid.other _ _ h.gridF, h.hN, h.hB.setCell h.hN _⟩
theorem NF.parts (h : NF N F u gv qs gs ac dn uw uh tot iu w W) (hl : qs.length ≤ 1000000) : IsParts W u qs :=
  Ar.elems h.row.ar (fun c hc => by obtain ⟨p, _, rfl⟩ := List.mem_map.1 hc; rfl) (by simp) (by simp only [maxLen]; omega)
theorem NF.fru (h : NF N F u gv qs gs ac dn uw uh tot iu w W) : FrU W F uw uh ac dn := ⟨_, _, _, _, h.bF⟩
theorem NF.fr (h : NF N F u gv qs gs ac dn uw uh tot iu w W) (hl : gs.length ≤ 1000000) : IsFr W F gs :=
  ⟨_, _, _, _, _, _, _, _, h.bF, h.grid.down (Nat.zero_le _), hl⟩
end
end Go.Proofs.Ytgmhhocpdfdplaa
/- Package frame: New. -/
namespace Go.Proofs.Ytgmhhocpdfdplaa
open Go.RowKit
set_option maxRecDepth 100000
set_option maxHeartbeats 8000000
theorem ite_max (a b : Int) : (if a < b then b else a) = max a b := by
  rw [Int.max_def]
  split <;> split <;> omega
/-- Both cells of the one element replaced. -/
theorem Row.two {w : World} {lo g cap n : Nat} {e : TypeId} {xs : List Value} (hn : n = 1) (h : Row w lo e 2 (.slice (some ⟨g, 0, none⟩) n cap) n xs) (c d : Value) :
    Row ((w.setCell ⟨g, 0, none⟩ c).setCell ⟨g, 1, none⟩ d) lo e 2 (.slice (some ⟨g, 0, none⟩) n cap) n [c, d] ∧ (∃ a, w.cell? ⟨g, 0, none⟩ = some a) ∧ w.frozen? ⟨g, 0, none⟩ = false ∧
      (∃ b, (w.setCell ⟨g, 0, none⟩ c).cell? ⟨g, 1, none⟩ = some b) ∧ (w.setCell ⟨g, 0, none⟩ c).frozen? ⟨g, 1, none⟩ = false := by
  subst hn
  rcases h.2 with ⟨h0, _⟩ | ⟨g', cap', cur, h0, h2, h3, h4, h5, h6, h7⟩
  · cases h0
  · cases h0
    have hs : 2 ≤ cur.size := by omega
    have h3b := h3.set 0 c
    have h3c := h3b.set 1 d
    refine ⟨⟨rfl, .inr ⟨g, cap, _, rfl, h2, h3c, h4, h5, by simpa using h6, ?_⟩⟩, ⟨_, (h3.cell 0).trans (Array.getElem?_eq_getElem (by omega))⟩, h3.free 0, ⟨_, (h3b.cell 1).trans (Array.getElem?_eq_getElem (by simp; omega))⟩, h3b.free 1⟩
    obtain ⟨l, rfl⟩ : ∃ l : List Value, cur = l.toArray := ⟨cur.toList, rfl⟩
    match l, hs with
    | a :: b :: r, _ => simp
theorem fr_new_bad (x y : Int) (pb : Option Addr) (cap : Nat) (ps : List (Int × Int)) (hl : ps.length ≤ 1000000) (h0 : rightE x y ps ≠ 0) (w : World) (h : IsParts w (.slice pb ps.length cap) ps) :
    Calls Try.prog 101 #[.int .i64 x, .int .i64 y, .slice pb ps.length cap] w fun r w' => r = .returned (.tuple #[.pointer none, .int .i64 (newE x y ps)]) ∧ Below w.heap.size w w' := by
  have hr := fr_right x y pb cap ps hl w h
  have he : newE x y ps = rightE x y ps := by unfold newE; rw [if_pos h0]
  rw [he]
  generalize rightE x y ps = e at *
  have te : (e != 0) = true := by simpa using h0
  clear he h h0
  go_enter Try.func101, Try.ntmps101
  go_wp2_with (go_at_call 137; refine hr.mono ?_; rintro r w1 ⟨rfl, hb1⟩)
  go_ret2
  exact ⟨rfl, hb1⟩
theorem NF.apart {N F : Nat} {u gv : Value} {qs : List (Int × Int)} {gs : List GridV} {ac dn uw uh tot iu : Int} {w W : World} (h : NF N F u gv qs gs ac dn uw uh tot iu w W) : ∀ g, u.ownBlock = some g → some g ≠ gv.ownBlock := by
  intro g hg e
  rcases h.row.2 with ⟨rfl, _⟩ | ⟨g', cap, cur, rfl, _, hb, _⟩
  · cases hg
  · obtain rfl : g' = g := Option.some.inj hg
    exact h.grid.typed hb (by decide) g' e.symm rfl
theorem NF.app {N F : Nat} {u gv v' : Value} {qs : List (Int × Int)} {gs : List GridV} {g : GridV} {ac dn uw uh tot iu : Int} {w W W2 : World} (h : NF N F u gv qs gs ac dn uw uh tot iu w W) (hg : W.grownBy W2 gv.ownBlock) (hR : Row W2 N 116 4 v' (gs.length + 1) ((gs.map GridV.cells).flatten ++ g.cells)) :
    NF N F u v' qs (gs ++ [g]) ac dn uw uh tot iu w (W2.setCell ⟨F, 1, none⟩ v') := by
  have hF : some F ≠ gv.ownBlock := fun e => h.gridF F e.symm rfl
  have hb := h.bF.grown hg hF
  refine ⟨hb.set 1 _, (Row.grown h.row hg h.apart).other _ _ h.rowF, ?_, h.hN, ((Below.grown h.hB (by have := h.bF.lt; have := h.hN; omega) hg (fun g e => (h.grid.lt g e).1))).setCell h.hN _⟩
  have := hR.other ⟨F, 1, none⟩ v' (hR.typed hb (by decide))
  rw [List.map_append, List.flatten_append, List.length_append]
  simpa using this
theorem NF.setRow {N F : Nat} {u gv : Value} {qs : List (Int × Int)} {gs : List GridV} {ac dn uw uh tot iu : Int} {w W : World} (h : NF N F u gv qs gs ac dn uw uh tot iu w W) (k : Nat) (ds : Array Value) (hF : k ≠ F) (hu : ∀ g, u.ownBlock = some g → g ≠ k) (hg : ∀ g, gv.ownBlock = some g → g ≠ k) (hN : N ≤ k) :
    NF N F u gv qs gs ac dn uw uh tot iu w (W.setRow k ds) :=
  ⟨h.bF.rowOther k ds hF.symm, h.row.same fun g e => setRow_other W k g ds (hu g e), h.grid.same fun g e => setRow_other W k g ds (hg g e), h.hN, Below.setRow h.hB hN _⟩
def TakenG (G : Int × Int → GridV) (qs : List (Int × Int)) (k : Nat) (gs : List GridV) : Prop := gs.length = k ∧ gs = (qs.take k).map G
theorem TakenG.zero (G : Int × Int → GridV) (qs : List (Int × Int)) : TakenG G qs 0 [] := ⟨rfl, rfl⟩
theorem TakenG.step {G : Int × Int → GridV} {qs : List (Int × Int)} {k : Nat} {gs : List GridV} (h : TakenG G qs k gs) (hk : k < qs.length) : TakenG G qs (k + 1) (gs ++ [G (qs[k]'hk)]) := by
  obtain ⟨h1, h2⟩ := h
  refine ⟨by simp [h1], ?_⟩
  rw [List.take_succ_eq_append_getElem hk, List.map_append, ← h2]
  rfl
theorem TakenG.all {G : Int × Int → GridV} {qs : List (Int × Int)} {gs : List GridV} (h : TakenG G qs qs.length gs) : gs = qs.map G := by
  rw [h.2, List.take_length]
theorem fr_new_ok (x y : Int) (pb : Option Addr) (cap : Nat) (ps : List (Int × Int)) (hl : ps.length ≤ 1000000) (h0 : rightE x y ps = 0) (w : World) (h : IsParts w (.slice pb ps.length cap) ps) :
    Calls Try.prog 101 #[.int .i64 x, .int .i64 y, .slice pb ps.length cap] w fun r w' => ∃ f, r = .returned (.tuple #[f, .int .i64 (newE x y ps)]) ∧ Below w.heap.size w w' ∧
      (newE x y ps ≠ 0 → f = .pointer none) ∧ (newE x y ps = 0 → ∃ F, f = .pointer (some ⟨F, 0, none⟩) ∧ IsFr w' F (gridsN x y (partsOf ps)) ∧ FrU w' F (8 * hhN (partsOf ps)) (8 * vvN (partsOf ps)) (acN x (partsOf ps)) (dnN y (partsOf ps))) := by
  have hok := rightE_ok h0
  have hr := fr_right x y pb cap ps hl w h
  rw [h0] at hr
  obtain ⟨E, hE⟩ : ∃ E, newE x y ps = E := ⟨_, rfl⟩
  rw [hE]
  unfold newE at hE
  rw [if_neg (by simpa using h0)] at hE
  have hcl := fun W h => part_clone (.slice pb ps.length cap) ps.length (ps.map partC).flatten (by omega) W h (fun u hu => by
    obtain ⟨c, hc, hu⟩ := List.mem_flatten.1 hu
    obtain ⟨p, _, rfl⟩ := List.mem_map.1 hc
    simp only [partC, List.mem_cons, List.not_mem_nil, or_false] at hu
    rcases hu with rfl | rfl <;> rfl)
  have hA : ∀ W, Below w.heap.size w W → Ar W 2 (.slice pb ps.length cap) ps.length (ps.map partC).flatten := fun W hb => by
    have := (Elems.below h hb).ar
    rwa [List.length_map] at this
  obtain ⟨N, hN⟩ : ∃ N, N = w.heap.size := ⟨_, rfl⟩
  have HN := Lib.hid hN
  have HE := Lib.hid hE
  have HOK := Lib.hid hok
  have hn1 := hok.n1
  have hn2 := hok.n2
  rw [← hN]
  clear hE hok h0 hl h hN
  go_enter Try.func101, Try.ntmps101
  go_upto_if 30 with (first | (go_at_call 137; refine hr.mono ?_; rintro r w1 ⟨rfl, hb1⟩) | (go_at_call 138; refine (hcl _ (hA _ hb1)).mono ?_; rintro r w2 ⟨u, rfl, hR, hb2⟩; obtain ⟨bu, cu, rfl⟩ := hR.len))
  obtain ⟨F, hF⟩ : ∃ F, F = w2.heap.size := ⟨_, rfl⟩
  have hB2 : Below N w w2 := (hb1.trans (hb2.mono hb1.size)).mono (Nat.le_of_eq HN.out)
  have hN2 : N ≤ w2.heap.size := by rw [HN.out]; exact Nat.le_trans hb1.size hb2.size
  rw [← hF]
  refine wp_world (fun W => NF N F (.slice bu ps.length cu) (.slice none 0 0) ps [] 0 0 0 0 0 0 w W) ⟨Blk.new' _ _ _ hF, (hR.down (by rw [HN.out]; exact hb1.size)).grow ((Below.refl _ _).alloc (Nat.le_refl _) _), Row.nil _ _ _ _, by omega, hB2.alloc hN2 _⟩ ?_
  clear hF hB2 hN2 hb1 hb2 hR hcl hr
  clear w1 w2
  intro W0 hNF
  go_cut [] from 30 (fun wx => ∃ u, NF N F u (.slice none 0 0) (partsOf ps) [] 0 0 0 0 0 0 w wx)
  case first =>
    have hF0 := hNF.bF.cell 0
    have hNF0 := hNF.hN
    by_cases h1 : ps.length = 1
    · have t1 : ((ps.length : Int) == 1) = true := by simp; omega
      have t2 : (ps.length == 1) = true := by simpa using h1
      have t3 : decide ((ps.length : Int) = 1) = true := decide_eq_true (by omega)
      obtain ⟨g, cap', he, hlo, hgs, hc⟩ := hNF.row.cells (by omega)
      simp only [Value.slice.injEq] at he
      obtain ⟨rfl, -, rfl⟩ := he
      have H1 := Lib.hid h1
      have j0 : (0 : Int) < (ps.length : Int) := by omega
      have j1 : (1 : Int) ≤ (ps.length : Int) := by omega
      obtain ⟨hR1, ⟨a0, ha0⟩, hf0, ⟨a1, ha1⟩, hf1⟩ := Row.two h1 hNF.row (.int .i64 1) (.int .i64 1)
      have hgF : F ≠ g := fun e => hNF.rowF g rfl e.symm
      clear h1 hc
      go_wp2
      go_meet
      have e1 : partsOf ps = [(1, 1)] := by unfold partsOf; rw [if_pos H1.out]
      rw [e1]
      rw [H1.out] at hR1
      refine ⟨_, (hNF.bF.other _ _ hgF).other _ _ hgF, ?_, Row.nil _ _ _ _, hNF0, (hNF.hB.setCell hlo _).setCell hlo _⟩
      rw [H1.out]
      exact hR1
    · have t1 : ((ps.length : Int) == 1) = false := by simp; omega
      have t2 : (ps.length == 1) = false := by simpa using h1
      have t3 : decide ((ps.length : Int) = 1) = false := decide_eq_false (by omega)
      have H1 := Lib.hid h1
      clear h1
      go_wp2
      go_meet
      have e1 : partsOf ps = ps := by unfold partsOf; rw [if_neg H1.out]
      rw [e1]
      exact ⟨_, hNF⟩
  clear hNF hA
  clear W0
  obtain ⟨u, hNF⟩ := hcut
  have hok := HOK.out.parts
  have hlen := partsOf_len ps
  obtain ⟨qs, hq⟩ : ∃ qs, partsOf ps = qs := ⟨_, rfl⟩
  rw [hq] at hNF hok hlen HE
  have HQ := Lib.hid hq
  have HOQ := Lib.hid hok
  have hn3 : 1 ≤ qs.length := by omega
  have hn4 : qs.length ≤ 4 := by omega
  have HLEN := Lib.hid hlen
  clear hlen
  have hps := Lib.hid hok.ps
  have hui := hok.iu
  obtain ⟨hf, hhf⟩ : ∃ f, mxN (hA qs) = f := ⟨_, rfl⟩
  obtain ⟨vf, hvf⟩ : ∃ f, mxN (vA qs) = f := ⟨_, rfl⟩
  obtain ⟨uf, huf⟩ : ∃ f, smN (fun k => hA qs k * vA qs k) = f := ⟨_, rfl⟩
  have hf0 : hf 0 = 0 := by rw [← hhf]; rfl
  have vf0 : vf 0 = 0 := by rw [← hvf]; rfl
  have uf0 : uf 0 = 0 := by rw [← huf]; rfl
  have hfs : ∀ k, (hk : k < qs.length) → hf (k + 1) = max (hf k) (qs[k]'hk).1 := fun k hk => by rw [← hhf]; simp only [mxN, hA]; simp [List.getD_eq_getElem?_getD, hk]
  have vfs : ∀ k, (hk : k < qs.length) → vf (k + 1) = max (vf k) (qs[k]'hk).2 := fun k hk => by rw [← hvf]; simp only [mxN, vA]; simp [List.getD_eq_getElem?_getD, hk]
  have ufs : ∀ k, (hk : k < qs.length) → uf (k + 1) = uf k + (qs[k]'hk).1 * (qs[k]'hk).2 := fun k hk => by rw [← huf]; simp only [smN, hA, vA]; simp [List.getD_eq_getElem?_getD, hk]
  rw [huf] at hui
  have hpk : ∀ k, (hk : k < qs.length) → (1 ≤ (qs[k]'hk).1 ∧ (qs[k]'hk).1 ≤ 4) ∧ 1 ≤ (qs[k]'hk).2 ∧ (qs[k]'hk).2 ≤ 4 := fun k hk => by
    have h1 := hok.ps k hk
    simp only [hA, vA] at h1
    simp [List.getD_eq_getElem?_getD, hk] at h1
    omega
  have hhl : hf qs.length = hhN qs := by rw [← hhf]; rfl
  have hvl : vf qs.length = vvN qs := by rw [← hvf]; rfl
  have hul : uf qs.length = iuN qs := by rw [← huf]; rfl
  have HF0 := Lib.hid hf0; have VF0 := Lib.hid vf0; have UF0 := Lib.hid uf0
  have HFS := Lib.hid hfs; have VFS := Lib.hid vfs; have UFS := Lib.hid ufs
  have HUI := Lib.hid hui
  have HPK := Lib.hid hpk
  have HHL := Lib.hid hhl; have HVL := Lib.hid hvl; have HUL := Lib.hid hul
  clear hf0 vf0 uf0 hfs vfs ufs hui hpk hhl hvl hul hhf hvf huf hok hq hps
  have hNF0 := hNF.hN
  obtain ⟨bu, cu, rfl⟩ := hNF.row.len
  have hF0 := hNF.bF.cell 0
  go_upto_region 8 with fail
  go_wp2
  clear hF0
  go_loopw [10, 11, 42] (fun hv vv iv wr => ∃ k : Nat, k ≤ qs.length ∧ hv = .int .i64 (hf k) ∧ vv = .int .i64 (vf k) ∧ iv = .int .i64 k ∧ NF N F (.slice bu qs.length cu) (.slice none 0 0) qs [] 0 0 0 0 0 (uf k) w wr) (fun _ _ iv _ => qs.length - (intOf iv).toNat)
  case atStart => exact ⟨0, Nat.zero_le _, by rw [HF0.out], by rw [VF0.out], rfl, by rw [UF0.out]; exact hNF⟩
  case round =>
    clear hNF
    obtain ⟨k, hk, rfl, rfl, rfl, hNF⟩ := hrel
    by_cases hlt : k < qs.length
    · have tl : decide (k < qs.length) = true := by simpa using hlt
      obtain ⟨a, ha, c0, c1⟩ := (hNF.parts (by omega)).at hlt
      obtain rfl := ha
      have j0 : (0 : Int) ≤ (k : Int) := by omega
      have j1 : (k : Int) < (qs.length : Int) := by omega
      obtain ⟨⟨p0, p1⟩, hp⟩ : ∃ p, qs[k]'hlt = p := ⟨_, rfl⟩
      have h1 := HFS.out k hlt
      have h2 := VFS.out k hlt
      have h3 := UFS.out k hlt
      have h4 := HPK.out k hlt
      have h5 := HUI.out k (by omega)
      rw [hp] at h1 h2 h3 h4 c0 c1
      obtain ⟨⟨h6, h7⟩, h8, h9⟩ := h4
      simp only at h1 h2 h3 h6 h7 h8 h9 c0 c1
      have H1 := Lib.hid h1; have H2 := Lib.hid h2; have H3 := Lib.hid h3
      obtain ⟨M, hM⟩ : ∃ M, M = wr.heap.size := ⟨_, rfl⟩
      clear h1 h2 h3 hp
      go_upto_region 11 with fail
      refine wp_world (fun W => Blk W M #[.int .i64 p0, .int .i64 p1] 154 ∧ NF N F (.slice (some a) qs.length cu) (.slice none 0 0) qs [] 0 0 0 0 0 (uf k) w W) ⟨Blk.new' _ _ _ hM, hNF.below ((Below.refl _ _).alloc (Nat.le_refl _) _)⟩ ?_
      rw [← hM]
      clear hM hNF c0 c1
      rintro W ⟨bM, hNF⟩
      refine wp_region_det (fun W => Blk W M #[.int .i64 p0, .int .i64 p1] 154 ∧ NF N F (.slice (some a) qs.length cu) (.slice none 0 0) qs [] 0 0 0 0 0 (uf k) w W) (by kernel_rfl) (by kernel_rfl) ⟨bM.drew, hNF.below (Below.refl _ _).drew⟩ ?_
      clear bM hNF
      (first | (refine det_skip (by rfl) ?_; simp only [Act.put, List.setIfInBounds_toArray, List.set_cons_zero, List.set_cons_succ]) | (refine det_pure (v := ?_) (by rfl) ?_ ?_; rotate_left; (intro wS hS; have nfa := hS.1.cell 0; have nfb := hS.1.cell 1; have nf2 := hS.2.bF.cell 2; have nf3 := hS.2.bF.cell 3; have nf4 := hS.2.bF.cell 4; have nf5 := hS.2.bF.cell 5; have nf6 := hS.2.bF.cell 6; have nf7 := hS.2.bF.cell 7; go_simp; try with_reducible rfl); simp only [Act.put, List.setIfInBounds_toArray, List.set_cons_zero, List.set_cons_succ]))
      (first | (refine det_skip (by rfl) ?_; simp only [Act.put, List.setIfInBounds_toArray, List.set_cons_zero, List.set_cons_succ]) | (refine det_pure (v := ?_) (by rfl) ?_ ?_; rotate_left; (intro wS hS; have nfa := hS.1.cell 0; have nfb := hS.1.cell 1; have nf2 := hS.2.bF.cell 2; have nf3 := hS.2.bF.cell 3; have nf4 := hS.2.bF.cell 4; have nf5 := hS.2.bF.cell 5; have nf6 := hS.2.bF.cell 6; have nf7 := hS.2.bF.cell 7; go_simp; try with_reducible rfl); simp only [Act.put, List.setIfInBounds_toArray, List.set_cons_zero, List.set_cons_succ]))
      (first | (refine det_skip (by rfl) ?_; simp only [Act.put, List.setIfInBounds_toArray, List.set_cons_zero, List.set_cons_succ]) | (refine det_pure (v := ?_) (by rfl) ?_ ?_; rotate_left; (intro wS hS; have nfa := hS.1.cell 0; have nfb := hS.1.cell 1; have nf2 := hS.2.bF.cell 2; have nf3 := hS.2.bF.cell 3; have nf4 := hS.2.bF.cell 4; have nf5 := hS.2.bF.cell 5; have nf6 := hS.2.bF.cell 6; have nf7 := hS.2.bF.cell 7; go_simp; try with_reducible rfl); simp only [Act.put, List.setIfInBounds_toArray, List.set_cons_zero, List.set_cons_succ]))
      refine det_pure (v := .int .i64 (max (hf k) p0)) (by rfl) (fun w1 hS => by go_simp; try exact ite_max _ _) ?_
      simp only [Act.put, List.setIfInBounds_toArray, List.set_cons_zero, List.set_cons_succ]
      (first | (refine det_skip (by rfl) ?_; simp only [Act.put, List.setIfInBounds_toArray, List.set_cons_zero, List.set_cons_succ]) | (refine det_pure (v := ?_) (by rfl) ?_ ?_; rotate_left; (intro wS hS; have nfa := hS.1.cell 0; have nfb := hS.1.cell 1; have nf2 := hS.2.bF.cell 2; have nf3 := hS.2.bF.cell 3; have nf4 := hS.2.bF.cell 4; have nf5 := hS.2.bF.cell 5; have nf6 := hS.2.bF.cell 6; have nf7 := hS.2.bF.cell 7; go_simp; try with_reducible rfl); simp only [Act.put, List.setIfInBounds_toArray, List.set_cons_zero, List.set_cons_succ]))
      (first | (refine det_skip (by rfl) ?_; simp only [Act.put, List.setIfInBounds_toArray, List.set_cons_zero, List.set_cons_succ]) | (refine det_pure (v := ?_) (by rfl) ?_ ?_; rotate_left; (intro wS hS; have nfa := hS.1.cell 0; have nfb := hS.1.cell 1; have nf2 := hS.2.bF.cell 2; have nf3 := hS.2.bF.cell 3; have nf4 := hS.2.bF.cell 4; have nf5 := hS.2.bF.cell 5; have nf6 := hS.2.bF.cell 6; have nf7 := hS.2.bF.cell 7; go_simp; try with_reducible rfl); simp only [Act.put, List.setIfInBounds_toArray, List.set_cons_zero, List.set_cons_succ]))
      (first | (refine det_skip (by rfl) ?_; simp only [Act.put, List.setIfInBounds_toArray, List.set_cons_zero, List.set_cons_succ]) | (refine det_pure (v := ?_) (by rfl) ?_ ?_; rotate_left; (intro wS hS; have nfa := hS.1.cell 0; have nfb := hS.1.cell 1; have nf2 := hS.2.bF.cell 2; have nf3 := hS.2.bF.cell 3; have nf4 := hS.2.bF.cell 4; have nf5 := hS.2.bF.cell 5; have nf6 := hS.2.bF.cell 6; have nf7 := hS.2.bF.cell 7; go_simp; try with_reducible rfl); simp only [Act.put, List.setIfInBounds_toArray, List.set_cons_zero, List.set_cons_succ]))
      refine det_pure (v := .int .i64 (max (vf k) p1)) (by rfl) (fun w1 hS => by go_simp; try exact ite_max _ _) ?_
      simp only [Act.put, List.setIfInBounds_toArray, List.set_cons_zero, List.set_cons_succ]
      (first | (refine det_skip (by rfl) ?_; simp only [Act.put, List.setIfInBounds_toArray, List.set_cons_zero, List.set_cons_succ]) | (refine det_pure (v := ?_) (by rfl) ?_ ?_; rotate_left; (intro wS hS; have nfa := hS.1.cell 0; have nfb := hS.1.cell 1; have nf2 := hS.2.bF.cell 2; have nf3 := hS.2.bF.cell 3; have nf4 := hS.2.bF.cell 4; have nf5 := hS.2.bF.cell 5; have nf6 := hS.2.bF.cell 6; have nf7 := hS.2.bF.cell 7; go_simp; try with_reducible rfl); simp only [Act.put, List.setIfInBounds_toArray, List.set_cons_zero, List.set_cons_succ]))
      (first | (refine det_skip (by rfl) ?_; simp only [Act.put, List.setIfInBounds_toArray, List.set_cons_zero, List.set_cons_succ]) | (refine det_pure (v := ?_) (by rfl) ?_ ?_; rotate_left; (intro wS hS; have nfa := hS.1.cell 0; have nfb := hS.1.cell 1; have nf2 := hS.2.bF.cell 2; have nf3 := hS.2.bF.cell 3; have nf4 := hS.2.bF.cell 4; have nf5 := hS.2.bF.cell 5; have nf6 := hS.2.bF.cell 6; have nf7 := hS.2.bF.cell 7; go_simp; try with_reducible rfl); simp only [Act.put, List.setIfInBounds_toArray, List.set_cons_zero, List.set_cons_succ]))
      refine det_nil ?_
      rintro W1 ⟨bM, hNF⟩
      obtain ⟨m, hm⟩ : ∃ m, p0 * p1 = m := ⟨_, rfl⟩
      have hm1 := mul_in (a := p0) (b := p1) (A := 4) (B := 4) (by omega) h7 (by omega) h9
      rw [hm] at hm1
      have e1 : IntKind.i64.wrap (p0 * p1) = m := by rw [hm]; exact IntWalk.i64_in _ (by omega)
      have e2 : IntKind.i64.wrap (uf k + m) = uf (k + 1) := by rw [H3.out, hm]; exact IntWalk.i64_in _ (by omega)
      have E1 := Lib.hid e1; have E2 := Lib.hid e2
      clear e1 e2 hm
      go_upto_region 12 with fail
      refine wp_region_mono [0, 1, 2, 3, 4, 5, 6, 7, 8, 9, 10, 11] [12] (fun W => Blk W M #[.int .i64 p0, .int .i64 p1] 154 ∧ NF N F (.slice (some a) qs.length cu) (.slice none 0 0) qs [] 0 0 0 0 0 (uf k) w W) (fun _ => none) (fun _ => []) (by kernel_rfl) (by kernel_rfl) ⟨bM.drew, hNF.below (Below.refl _ _).drew⟩ ?_ ?_
      · intro i s hs; cases hs
      clear bM hNF
      simp only [pick, List.getD_cons_succ, List.getD_cons_zero, List.zip_cons_cons, List.zip_nil_right]
      (first | (refine mono_skip (by rfl) ?_; simp only [Act.put, List.setIfInBounds_toArray, List.set_cons_zero, List.set_cons_succ]) | (refine mono_pure (v := ?_) (by rfl) rfl ?_ ?_; rotate_left; (intro wS hS; have nfa := hS.1.cell 0; have nfb := hS.1.cell 1; have nf2 := hS.2.bF.cell 2; have nf3 := hS.2.bF.cell 3; have nf4 := hS.2.bF.cell 4; have nf5 := hS.2.bF.cell 5; have nf6 := hS.2.bF.cell 6; have nf7 := hS.2.bF.cell 7; go_simp; try with_reducible rfl); simp only [Act.put, List.setIfInBounds_toArray, List.set_cons_zero, List.set_cons_succ]))
      (first | (refine mono_skip (by rfl) ?_; simp only [Act.put, List.setIfInBounds_toArray, List.set_cons_zero, List.set_cons_succ]) | (refine mono_pure (v := ?_) (by rfl) rfl ?_ ?_; rotate_left; (intro wS hS; have nfa := hS.1.cell 0; have nfb := hS.1.cell 1; have nf2 := hS.2.bF.cell 2; have nf3 := hS.2.bF.cell 3; have nf4 := hS.2.bF.cell 4; have nf5 := hS.2.bF.cell 5; have nf6 := hS.2.bF.cell 6; have nf7 := hS.2.bF.cell 7; go_simp; try with_reducible rfl); simp only [Act.put, List.setIfInBounds_toArray, List.set_cons_zero, List.set_cons_succ]))
      (first | (refine mono_skip (by rfl) ?_; simp only [Act.put, List.setIfInBounds_toArray, List.set_cons_zero, List.set_cons_succ]) | (refine mono_pure (v := ?_) (by rfl) rfl ?_ ?_; rotate_left; (intro wS hS; have nfa := hS.1.cell 0; have nfb := hS.1.cell 1; have nf2 := hS.2.bF.cell 2; have nf3 := hS.2.bF.cell 3; have nf4 := hS.2.bF.cell 4; have nf5 := hS.2.bF.cell 5; have nf6 := hS.2.bF.cell 6; have nf7 := hS.2.bF.cell 7; go_simp; try with_reducible rfl); simp only [Act.put, List.setIfInBounds_toArray, List.set_cons_zero, List.set_cons_succ]))
      (first | (refine mono_skip (by rfl) ?_; simp only [Act.put, List.setIfInBounds_toArray, List.set_cons_zero, List.set_cons_succ]) | (refine mono_pure (v := ?_) (by rfl) rfl ?_ ?_; rotate_left; (intro wS hS; have nfa := hS.1.cell 0; have nfb := hS.1.cell 1; have nf2 := hS.2.bF.cell 2; have nf3 := hS.2.bF.cell 3; have nf4 := hS.2.bF.cell 4; have nf5 := hS.2.bF.cell 5; have nf6 := hS.2.bF.cell 6; have nf7 := hS.2.bF.cell 7; go_simp; try with_reducible rfl); simp only [Act.put, List.setIfInBounds_toArray, List.set_cons_zero, List.set_cons_succ]))
      (first | (refine mono_skip (by rfl) ?_; simp only [Act.put, List.setIfInBounds_toArray, List.set_cons_zero, List.set_cons_succ]) | (refine mono_pure (v := ?_) (by rfl) rfl ?_ ?_; rotate_left; (intro wS hS; have nfa := hS.1.cell 0; have nfb := hS.1.cell 1; have nf2 := hS.2.bF.cell 2; have nf3 := hS.2.bF.cell 3; have nf4 := hS.2.bF.cell 4; have nf5 := hS.2.bF.cell 5; have nf6 := hS.2.bF.cell 6; have nf7 := hS.2.bF.cell 7; go_simp; try with_reducible rfl); simp only [Act.put, List.setIfInBounds_toArray, List.set_cons_zero, List.set_cons_succ]))
      (first | (refine mono_skip (by rfl) ?_; simp only [Act.put, List.setIfInBounds_toArray, List.set_cons_zero, List.set_cons_succ]) | (refine mono_pure (v := ?_) (by rfl) rfl ?_ ?_; rotate_left; (intro wS hS; have nfa := hS.1.cell 0; have nfb := hS.1.cell 1; have nf2 := hS.2.bF.cell 2; have nf3 := hS.2.bF.cell 3; have nf4 := hS.2.bF.cell 4; have nf5 := hS.2.bF.cell 5; have nf6 := hS.2.bF.cell 6; have nf7 := hS.2.bF.cell 7; go_simp; try with_reducible rfl); simp only [Act.put, List.setIfInBounds_toArray, List.set_cons_zero, List.set_cons_succ]))
      (first | (refine mono_skip (by rfl) ?_; simp only [Act.put, List.setIfInBounds_toArray, List.set_cons_zero, List.set_cons_succ]) | (refine mono_pure (v := ?_) (by rfl) rfl ?_ ?_; rotate_left; (intro wS hS; have nfa := hS.1.cell 0; have nfb := hS.1.cell 1; have nf2 := hS.2.bF.cell 2; have nf3 := hS.2.bF.cell 3; have nf4 := hS.2.bF.cell 4; have nf5 := hS.2.bF.cell 5; have nf6 := hS.2.bF.cell 6; have nf7 := hS.2.bF.cell 7; go_simp; try with_reducible rfl); simp only [Act.put, List.setIfInBounds_toArray, List.set_cons_zero, List.set_cons_succ]))
      (first | (refine mono_skip (by rfl) ?_; simp only [Act.put, List.setIfInBounds_toArray, List.set_cons_zero, List.set_cons_succ]) | (refine mono_pure (v := ?_) (by rfl) rfl ?_ ?_; rotate_left; (intro wS hS; have nfa := hS.1.cell 0; have nfb := hS.1.cell 1; have nf2 := hS.2.bF.cell 2; have nf3 := hS.2.bF.cell 3; have nf4 := hS.2.bF.cell 4; have nf5 := hS.2.bF.cell 5; have nf6 := hS.2.bF.cell 6; have nf7 := hS.2.bF.cell 7; go_simp; try with_reducible rfl); simp only [Act.put, List.setIfInBounds_toArray, List.set_cons_zero, List.set_cons_succ]))
      refine mono_pure (v := .int .i64 m) (by rfl) rfl (fun w1 hS => by go_simp; rw [E1.out]) ?_
      simp only [Act.put, List.setIfInBounds_toArray, List.set_cons_zero, List.set_cons_succ]
      refine mono_pure (v := .int .i64 (uf (k + 1))) (by rfl) rfl (fun w1 hS => by go_simp; rw [E2.out]) ?_
      simp only [Act.put, List.setIfInBounds_toArray, List.set_cons_zero, List.set_cons_succ]
      (first | (refine mono_skip (by rfl) ?_; simp only [Act.put, List.setIfInBounds_toArray, List.set_cons_zero, List.set_cons_succ]) | (refine mono_pure (v := ?_) (by rfl) rfl ?_ ?_; rotate_left; (intro wS hS; have nfa := hS.1.cell 0; have nfb := hS.1.cell 1; have nf2 := hS.2.bF.cell 2; have nf3 := hS.2.bF.cell 3; have nf4 := hS.2.bF.cell 4; have nf5 := hS.2.bF.cell 5; have nf6 := hS.2.bF.cell 6; have nf7 := hS.2.bF.cell 7; go_simp; try with_reducible rfl); simp only [Act.put, List.setIfInBounds_toArray, List.set_cons_zero, List.set_cons_succ]))
      (first | (refine mono_skip (by rfl) ?_; simp only [Act.put, List.setIfInBounds_toArray, List.set_cons_zero, List.set_cons_succ]) | (refine mono_pure (v := ?_) (by rfl) rfl ?_ ?_; rotate_left; (intro wS hS; have nfa := hS.1.cell 0; have nfb := hS.1.cell 1; have nf2 := hS.2.bF.cell 2; have nf3 := hS.2.bF.cell 3; have nf4 := hS.2.bF.cell 4; have nf5 := hS.2.bF.cell 5; have nf6 := hS.2.bF.cell 6; have nf7 := hS.2.bF.cell 7; go_simp; try with_reducible rfl); simp only [Act.put, List.setIfInBounds_toArray, List.set_cons_zero, List.set_cons_succ]))
      refine mono_nil ?_
      rintro W2 ⟨bM, hNF⟩ -
      have q7 := hNF.bF.cell 7
      have f7 := hNF.bF.free 7
      go_wp2
      go_roundw
      · exact ⟨k + 1, by omega, by rw [H1.out], by rw [H2.out], by go_num, hNF.setIu _⟩
      · simp [intOf]; omega
    · obtain rfl : k = qs.length := by omega
      have tl : decide (qs.length < qs.length) = false := by simp
      rw [HHL.out, HVL.out]
      rw [HUL.out] at hNF
      have hhh := HOQ.out.hh
      have hvv := HOQ.out.vv
      have hac := HOQ.out.ac
      have hdn := HOQ.out.dn
      have hx1 := HOQ.out.x1; have hx2 := HOQ.out.x2; have hy1 := HOQ.out.y1; have hy2 := HOQ.out.y2
      have hiu := HUI.out qs.length (by omega)
      rw [HUL.out] at hiu
      have eac : upI x (8 * hhN qs) = acN x qs := rfl
      have edn : upI y (8 * vvN qs) = dnN y qs := rfl
      have egs : gridsN x y qs = qs.map (gridP x y (hhN qs) (vvN qs) (acN x qs) (dnN y qs)) := rfl
      have etot : totN x y qs = smN (fun k => (acN x qs * hA qs k) * (dnN y qs * vA qs k)) qs.length := rfl
      have hE := HE.out
      have fu : ∀ (w' : World) (F : Nat), FrU w' F (8 * hhN qs) (8 * vvN qs) (acN x qs) (dnN y qs) → FrU w' F (8 * hhN (partsOf ps)) (8 * vvN (partsOf ps)) (acN x (partsOf ps)) (dnN y (partsOf ps)) := fun w' F h => by rw [HQ.out]; exact h
      generalize hhN qs = HH at *
      generalize vvN qs = VV at *
      generalize acN x qs = AC at *
      generalize dnN y qs = DN at *
      generalize iuN qs = IU at *
      have EAC := Lib.hid eac; have EDN := Lib.hid edn; have EGS := Lib.hid egs; have ETOT := Lib.hid etot; have FU := Lib.hid fu
      clear fu eac edn egs etot HHL HVL HUL HE HFS VFS UFS HUI HF0 VF0 UF0 hlt
      have e8h : IntKind.i64.wrap (8 * HH) = 8 * HH := IntWalk.i64_in _ (by omega)
      have e8v : IntKind.i64.wrap (8 * VV) = 8 * VV := IntWalk.i64_in _ (by omega)
      have q7 := hNF.bF.cell 7
      go_upto_region 14 with fail
      obtain ⟨wo, hwo⟩ : ∃ wo : World, wo = wr := ⟨_, rfl⟩
      have HE := Lib.hid hE
      clear hE
      go_cut [76] from 67 to 76 (fun c wx => c = .bool (decide (1 < ps.length ∧ 10 < IU)) ∧ wx = wo)
      case first =>
        by_cases c1 : 1 < ps.length
        · have t1 : decide ((ps.length : Int) > 1) = true := by simp; omega
          by_cases c2 : 10 < IU
          · have t2 : decide (IU > 10) = true := by simpa using c2
            go_wp2
            go_meet
            exact ⟨by simp; omega, hwo.symm⟩
          · have t2 : decide (IU > 10) = false := by simpa using c2
            go_wp2
            go_meet
            exact ⟨by simp; omega, hwo.symm⟩
        · have t1 : decide ((ps.length : Int) > 1) = false := by simp; omega
          go_wp2
          go_meet
          exact ⟨by simp; omega, hwo.symm⟩
      obtain ⟨rfl, rfl⟩ := hcut
      by_cases hC : 1 < ps.length ∧ 10 < IU
      · rw [decide_eq_true hC]
        have hE := HE.out
        rw [if_pos hC] at hE
        have HE := Lib.hid hE
        clear hE
        have hnz := Lib.hid hC
        clear hC
        go_wp2
        go_ret2
        exact ⟨.pointer none, by rw [← HE.out]; rfl, by rw [hwo]; exact hNF.hB, fun _ => rfl, fun h => by rw [← HE.out] at h; cases h⟩
      · rw [decide_eq_false hC]
        have hE := HE.out
        rw [if_neg hC] at hE
        have HE := Lib.hid hE
        clear hE hC
        subst hwo
        have q4 := hNF.bF.cell 4
        have q5 := hNF.bF.cell 5
        have f4 := hNF.bF.free 4
        have f5 := hNF.bF.free 5
        go_upto_region 17 with fail
        have h4 := (hNF.setUw (8 * HH)).setUh (8 * VV)
        refine wp_world (NF N F (.slice bu qs.length cu) (.slice none 0 0) qs [] 0 0 (8 * HH) (8 * VV) 0 IU w) h4 ?_
        clear h4 hNF q4 q5 f4 f5 q7
        intro W4 hNF
        obtain ⟨uw, huw⟩ : ∃ v, 8 * HH = v := ⟨_, rfl⟩
        obtain ⟨uh, huh⟩ : ∃ v, 8 * VV = v := ⟨_, rfl⟩
        have hu1 := fr_up x uw (by omega) (by omega) (by omega) (by omega)
        have hu2 := fr_up y uh (by omega) (by omega) (by omega) (by omega)
        have ea : upI x uw = AC := by rw [← huw]; exact EAC.out
        have ed : upI y uh = DN := by rw [← huh]; exact EDN.out
        rw [ea] at hu1
        rw [ed] at hu2
        rw [huw, huh] at hNF ⊢
        have FU2 := Lib.hid (show ∀ (w' : World) (F : Nat), FrU w' F uw uh AC DN → FrU w' F (8 * hhN (partsOf ps)) (8 * vvN (partsOf ps)) (acN x (partsOf ps)) (dnN y (partsOf ps)) from fun w' F h => by rw [← huw, ← huh] at h; exact FU.out w' F h)
        clear FU
        clear huw huh ea ed e8h e8v
        have hGm : ∀ W W', NF N F (.slice bu qs.length cu) (.slice none 0 0) qs [] 0 0 uw uh 0 IU w W → Below W.heap.size W W' → NF N F (.slice bu qs.length cu) (.slice none 0 0) qs [] 0 0 uw uh 0 IU w W' := fun W W' h hb => h.below hb
        refine wp_region_in [1] [0, 2, 3, 4, 5, 6, 7, 8, 9, 10, 11, 12, 13, 14, 15] [16, 17, 18, 19] (NF N F (.slice bu qs.length cu) (.slice none 0 0) qs [] 0 0 uw uh 0 IU w)
          (fun | 7 => some (sFix (.int .i64 AC)) | 13 => some (sFix (.int .i64 DN)) | _ => none) (fun _ => []) (by kernel_rfl) (by kernel_rfl) (hNF.below (Below.refl _ _).drew) ?_ ?_
        · intro i s hs
          match i with
          | 7 => cases hs; exact fun _ _ => sFix_mono _ _ _
          | 13 => cases hs; exact fun _ _ => sFix_mono _ _ _
        clear hNF
        simp only [pick, List.getD_cons_succ, List.getD_cons_zero, List.zip_cons_cons, List.zip_nil_right]
        refine ins_step (.pointer (some ⟨F, 0, none⟩)) (by intro wS; go_simp; try rfl) ?_
        simp only [Act.put, List.setIfInBounds_toArray, List.set_cons_zero, List.set_cons_succ]
        refine ins_nil ?_
        (repeat (first | (refine mono_skip (by rfl) ?_; simp only [Act.put, List.setIfInBounds_toArray, List.set_cons_zero, List.set_cons_succ]) | (refine mono_pure (v := ?_) (by rfl) rfl ?_ ?_; rotate_left; (intro wS hS; have nf0 := hS.bF.cell 0; have nf1 := hS.bF.cell 1; have nf2 := hS.bF.cell 2; have nf3 := hS.bF.cell 3; have nf4 := hS.bF.cell 4; have nf5 := hS.bF.cell 5; have nf6 := hS.bF.cell 6; have nf7 := hS.bF.cell 7; go_simp; try with_reducible rfl); simp only [Act.put, List.setIfInBounds_toArray, List.set_cons_zero, List.set_cons_succ])))
        refine mono_fix (.int .i64 AC) (by rfl) rfl hGm (by intro w hG; go_simp; first | done | exact ⟨rfl, rfl⟩) (fun w1 hG hH => (hu1 w1).mono fun e w' hh => by obtain ⟨rfl, rfl⟩ := hh; exact ⟨rfl, Below.refl _ _⟩) ?_
        simp only [Act.put, List.setIfInBounds_toArray, List.set_cons_zero, List.set_cons_succ]
        (repeat (first | (refine mono_skip (by rfl) ?_; simp only [Act.put, List.setIfInBounds_toArray, List.set_cons_zero, List.set_cons_succ]) | (refine mono_pure (v := ?_) (by rfl) rfl ?_ ?_; rotate_left; (intro wS hS; have nf0 := hS.bF.cell 0; have nf1 := hS.bF.cell 1; have nf2 := hS.bF.cell 2; have nf3 := hS.bF.cell 3; have nf4 := hS.bF.cell 4; have nf5 := hS.bF.cell 5; have nf6 := hS.bF.cell 6; have nf7 := hS.bF.cell 7; go_simp; try with_reducible rfl); simp only [Act.put, List.setIfInBounds_toArray, List.set_cons_zero, List.set_cons_succ])))
        refine mono_fix (.int .i64 DN) (by rfl) rfl hGm (by intro w hG; go_simp; first | done | exact ⟨rfl, rfl⟩) (fun w1 hG hH => (hu2 w1).mono fun e w' hh => by obtain ⟨rfl, rfl⟩ := hh; exact ⟨rfl, Below.refl _ _⟩) ?_
        simp only [Act.put, List.setIfInBounds_toArray, List.set_cons_zero, List.set_cons_succ]
        (repeat (first | (refine mono_skip (by rfl) ?_; simp only [Act.put, List.setIfInBounds_toArray, List.set_cons_zero, List.set_cons_succ]) | (refine mono_pure (v := ?_) (by rfl) rfl ?_ ?_; rotate_left; (intro wS hS; have nf0 := hS.bF.cell 0; have nf1 := hS.bF.cell 1; have nf2 := hS.bF.cell 2; have nf3 := hS.bF.cell 3; have nf4 := hS.bF.cell 4; have nf5 := hS.bF.cell 5; have nf6 := hS.bF.cell 6; have nf7 := hS.bF.cell 7; go_simp; try with_reducible rfl); simp only [Act.put, List.setIfInBounds_toArray, List.set_cons_zero, List.set_cons_succ])))
        refine mono_nil ?_
        rintro W5 hNF -
        clear hu1 hu2 hGm
        have f2 := hNF.bF.free 2
        have f3 := hNF.bF.free 3
        have q2 := hNF.bF.cell 2
        have q3 := hNF.bF.cell 3
        go_wp2
        refine onlyN_intro ?_
        go_upto_region 18 with fail
        refine wp_world (NF N F (.slice bu qs.length cu) (.slice none 0 0) qs [] AC DN uw uh 0 IU w) ((hNF.setAc AC).setDn DN) ?_
        clear hNF f2 f3 q2 q3
        intro W6 hNF
        have q0 := hNF.bF.cell 0
        obtain ⟨G, hG⟩ : ∃ G, gridP x y HH VV AC DN = G := ⟨_, rfl⟩
        obtain ⟨tf, htf⟩ : ∃ f, smN (fun k => AC * hA qs k * (DN * vA qs k)) = f := ⟨_, rfl⟩
        have tf0 : tf 0 = 0 := by rw [← htf]; rfl
        have tfs : ∀ k, (hk : k < qs.length) → tf (k + 1) = tf k + AC * (qs[k]'hk).1 * (DN * (qs[k]'hk).2) := fun k hk => by rw [← htf]; simp only [smN, hA, vA]; simp [List.getD_eq_getElem?_getD, hk]
        have tfb : ∀ k, k ≤ qs.length → 0 ≤ tf k ∧ tf k ≤ 144000000 * (k : Int) := fun k hk => by
          rw [← htf]
          refine smN_in k (fun j hj => ?_)
          have h2 := HOQ.out.ps j (by omega)
          have h3 := mul_in (a := AC) (b := hA qs j) (A := 3000) (B := 4) hac.1 hac.2 (by omega) h2.2.1
          have h4 := mul_in (a := DN) (b := vA qs j) (A := 3000) (B := 4) hdn.1 hdn.2 (by omega) h2.2.2.2
          exact mul_in (A := 12000) (B := 12000) h3.1 h3.2 h4.1 h4.2
        have TF0 := Lib.hid tf0; have TFS := Lib.hid tfs; have TFB := Lib.hid tfb
        have TFE := Lib.hid (ETOT.out.trans (congrFun htf _))
        have GP := Lib.hid (show ∀ p, G p = gridP x y HH VV AC DN p from fun p => by rw [hG])
        have GSS := Lib.hid (show gridsN x y qs = qs.map G by rw [EGS.out, hG])
        clear tf0 tfs tfb htf hG ETOT EGS EAC EDN
        go_wp2
        clear q0
        go_loopw [110] (fun iv wr => ∃ k : Nat, k ≤ qs.length ∧ iv = .int .i64 k ∧ ∃ gv gs, TakenG G qs k gs ∧ NF N F (.slice bu qs.length cu) gv qs gs AC DN uw uh (tf k) IU w wr) (fun iv _ => qs.length - (intOf iv).toNat)
        case atStart => exact ⟨0, Nat.zero_le _, rfl, _, _, TakenG.zero _ _, by rw [TF0.out]; exact hNF⟩
        case round =>
          clear hNF
          obtain ⟨k, hk, rfl, gv, gs, hT, hNF⟩ := hrel
          by_cases hlt : k < qs.length
          · have tl : decide (k < qs.length) = true := by simpa using hlt
            obtain ⟨a, ha, c0, c1⟩ := (hNF.parts (by omega)).at hlt
            obtain rfl := ha
            obtain ⟨bv, cv, rfl⟩ := hNF.grid.len
            have j0 : (0 : Int) ≤ (k : Int) := by omega
            have j1 : (k : Int) < (qs.length : Int) := by omega
            obtain ⟨⟨p0, p1⟩, hp⟩ : ∃ p, qs[k]'hlt = p := ⟨_, rfl⟩
            have h3 := TFS.out k hlt
            have h4 := HPK.out k hlt
            have h5 := TFB.out k (by omega)
            have h10 := hT.step hlt
            rw [hp] at h3 h4 c0 c1 h10
            obtain ⟨⟨h6, h7⟩, h8, h9⟩ := h4
            simp only at h3 h6 h7 h8 h9 c0 c1
            have hgv : ∀ g, (Value.slice bv gs.length cv).ownBlock = some g → g < wr.heap.size := fun g e => (hNF.grid.lt g e).2
            have hgl : gs.length ≤ 4 := by rw [hT.1]; omega
            obtain ⟨m1, hm1⟩ : ∃ m, AC * p0 = m := ⟨_, rfl⟩
            obtain ⟨m2, hm2⟩ : ∃ m, DN * p1 = m := ⟨_, rfl⟩
            obtain ⟨m3, hm3⟩ : ∃ m, x * p0 = m := ⟨_, rfl⟩
            obtain ⟨m4, hm4⟩ : ∃ m, y * p1 = m := ⟨_, rfl⟩
            have b1 := mul_in (a := AC) (b := p0) (A := 3000) (B := 4) hac.1 hac.2 (by omega) h7
            have b2 := mul_in (a := DN) (b := p1) (A := 3000) (B := 4) hdn.1 hdn.2 (by omega) h9
            have b3 := mul_in (a := x) (b := p0) (A := 16384) (B := 4) (by omega) hx2 (by omega) h7
            have b4 := mul_in (a := y) (b := p1) (A := 16384) (B := 4) (by omega) hy2 (by omega) h9
            rw [hm1] at b1; rw [hm2] at b2; rw [hm3] at b3; rw [hm4] at b4
            rw [hm1, hm2] at h3
            obtain ⟨m5, hm5⟩ : ∃ m, m1 * m2 = m := ⟨_, rfl⟩
            have b5 := mul_in (a := m1) (b := m2) (A := 12000) (B := 12000) b1.1 b1.2 b2.1 b2.2
            rw [hm5] at b5 h3
            have w1 : IntKind.i64.wrap (AC * p0) = m1 := by rw [hm1]; exact IntWalk.i64_in _ (by omega)
            have w2 : IntKind.i64.wrap (DN * p1) = m2 := by rw [hm2]; exact IntWalk.i64_in _ (by omega)
            have w3 : IntKind.i64.wrap (x * p0) = m3 := by rw [hm3]; exact IntWalk.i64_in _ (by omega)
            have w4 : IntKind.i64.wrap (y * p1) = m4 := by rw [hm4]; exact IntWalk.i64_in _ (by omega)
            have w5 : IntKind.i64.wrap (m1 * m2) = m5 := by rw [hm5]; exact IntWalk.i64_in _ (by omega)
            have w6 : IntKind.i64.wrap (tf k + m5) = tf (k + 1) := by rw [h3]; exact IntWalk.i64_in _ (by omega)
            have l1 := upI_in (a := m3) (b := HH) b3.1 hhh.1
            have l2 := upI_in (a := upI m3 HH) (b := 8) l1.1 (by decide)
            have l3 := upI_in (a := m4) (b := VV) b4.1 hvv.1
            have l4 := upI_in (a := upI m4 VV) (b := 8) l3.1 (by decide)
            have u1 := fr_up m3 HH b3.1 (by omega) hhh.1 (by omega)
            have u2 := fr_up (upI m3 HH) 8 l1.1 (by omega) (by decide) (by decide)
            have u3 := fr_up m4 VV b4.1 (by omega) hvv.1 (by omega)
            have u4 := fr_up (upI m4 VV) 8 l3.1 (by omega) (by decide) (by decide)
            have hg : G (p0, p1) = ⟨m1, m2, upI (upI m3 HH) 8, upI (upI m4 VV) 8⟩ := by rw [GP.out]; unfold gridP; simp only; rw [hm1, hm2, hm3, hm4]
            rw [hg] at h10
            generalize upI (upI m3 HH) 8 = z2 at *
            generalize upI m3 HH = z1 at *
            generalize upI (upI m4 VV) 8 = z4 at *
            generalize upI m4 VV = z3 at *
            have E1 := Lib.hid w1; have E2 := Lib.hid w2; have E3 := Lib.hid w3; have E4 := Lib.hid w4; have E5 := Lib.hid w5; have E6 := Lib.hid w6
            have H10 := Lib.hid h10
            have H3 := Lib.hid h3
            clear w1 w2 w3 w4 w5 w6 hm1 hm2 hm3 hm4 hm5 b1 b2 b3 b4 b5 l1 l2 l3 l4 hg hT hp h10 h3 h5
            obtain ⟨M, hM⟩ : ∃ M, M = wr.heap.size := ⟨_, rfl⟩
            go_upto_region 21 with fail
            refine wp_world (fun W => Blk W M #[.int .i64 p0, .int .i64 p1] 154 ∧ NF N F (.slice (some a) qs.length cu) (.slice bv gs.length cv) qs gs AC DN uw uh (tf k) IU w W) ⟨Blk.new' _ _ _ hM, hNF.below ((Below.refl _ _).alloc (Nat.le_refl _) _)⟩ ?_
            rw [← hM] at hgv ⊢
            have hFM : F < M := by rw [hM]; exact hNF.bF.lt
            have hgu : ∀ g, (Value.slice (some a) qs.length cu).ownBlock = some g → g < M := fun g e => by rw [hM]; exact (hNF.row.lt g e).2
            clear hM hNF c0 c1
            rintro W ⟨bM, hNF⟩
            have hGm : ∀ W W', (Blk W M #[.int .i64 p0, .int .i64 p1] 154 ∧ NF N F (.slice (some a) qs.length cu) (.slice bv gs.length cv) qs gs AC DN uw uh (tf k) IU w W) → Below W.heap.size W W' → (Blk W' M #[.int .i64 p0, .int .i64 p1] 154 ∧ NF N F (.slice (some a) qs.length cu) (.slice bv gs.length cv) qs gs AC DN uw uh (tf k) IU w W') := fun W W' h hb => ⟨h.1.below hb h.1.lt, h.2.below hb⟩
            have hMl := bM.lt
            refine wp_region_mono [0, 1, 2, 3, 4, 5, 6, 7, 8, 9, 10, 11, 12, 13, 14, 15, 16, 17, 18, 19, 20, 21, 22, 23, 24, 25, 26, 27, 28, 29] [30] (fun W => Blk W M #[.int .i64 p0, .int .i64 p1] 154 ∧ NF N F (.slice (some a) qs.length cu) (.slice bv gs.length cv) qs gs AC DN uw uh (tf k) IU w W)
              (fun | 19 => some (sFix (.int .i64 z1)) | 20 => some (sFix (.int .i64 z2)) | 26 => some (sFix (.int .i64 z3)) | 27 => some (sFix (.int .i64 z4)) | 29 => some (sNew #[.int .i64 0, .int .i64 0, .int .i64 0, .int .i64 0] 116) | _ => none) (fun _ => []) (by kernel_rfl) (by kernel_rfl) ⟨bM.drew, hNF.below (Below.refl _ _).drew⟩ ?_ ?_
            · intro i s hs
              match i with
              | 19 => cases hs; exact fun _ _ => sFix_mono _ _ _
              | 20 => cases hs; exact fun _ _ => sFix_mono _ _ _
              | 26 => cases hs; exact fun _ _ => sFix_mono _ _ _
              | 27 => cases hs; exact fun _ _ => sFix_mono _ _ _
              | 29 => cases hs; exact fun _ _ => sNew_mono _ _ _ _
            clear bM hNF
            simp only [pick, List.getD_cons_succ, List.getD_cons_zero, List.zip_cons_cons, List.zip_nil_right]
            iterate 6 (first | (refine mono_skip (by rfl) ?_; simp only [Act.put, List.setIfInBounds_toArray, List.set_cons_zero, List.set_cons_succ]) | (refine mono_pure (v := ?_) (by rfl) rfl ?_ ?_; rotate_left; (intro wS hS; have nfa := hS.1.cell 0; have nfb := hS.1.cell 1; have nf2 := hS.2.bF.cell 2; have nf3 := hS.2.bF.cell 3; have nf4 := hS.2.bF.cell 4; have nf5 := hS.2.bF.cell 5; have nf6 := hS.2.bF.cell 6; have nf7 := hS.2.bF.cell 7; go_simp; try with_reducible rfl); simp only [Act.put, List.setIfInBounds_toArray, List.set_cons_zero, List.set_cons_succ]))
            refine mono_pure (v := .int .i64 m1) (by rfl) rfl (fun w1 hS => by go_simp; rw [E1.out]) ?_
            simp only [Act.put, List.setIfInBounds_toArray, List.set_cons_zero, List.set_cons_succ]
            iterate 6 (first | (refine mono_skip (by rfl) ?_; simp only [Act.put, List.setIfInBounds_toArray, List.set_cons_zero, List.set_cons_succ]) | (refine mono_pure (v := ?_) (by rfl) rfl ?_ ?_; rotate_left; (intro wS hS; have nfa := hS.1.cell 0; have nfb := hS.1.cell 1; have nf2 := hS.2.bF.cell 2; have nf3 := hS.2.bF.cell 3; have nf4 := hS.2.bF.cell 4; have nf5 := hS.2.bF.cell 5; have nf6 := hS.2.bF.cell 6; have nf7 := hS.2.bF.cell 7; go_simp; try with_reducible rfl); simp only [Act.put, List.setIfInBounds_toArray, List.set_cons_zero, List.set_cons_succ]))
            refine mono_pure (v := .int .i64 m2) (by rfl) rfl (fun w1 hS => by go_simp; rw [E2.out]) ?_
            simp only [Act.put, List.setIfInBounds_toArray, List.set_cons_zero, List.set_cons_succ]
            iterate 3 (first | (refine mono_skip (by rfl) ?_; simp only [Act.put, List.setIfInBounds_toArray, List.set_cons_zero, List.set_cons_succ]) | (refine mono_pure (v := ?_) (by rfl) rfl ?_ ?_; rotate_left; (intro wS hS; have nfa := hS.1.cell 0; have nfb := hS.1.cell 1; have nf2 := hS.2.bF.cell 2; have nf3 := hS.2.bF.cell 3; have nf4 := hS.2.bF.cell 4; have nf5 := hS.2.bF.cell 5; have nf6 := hS.2.bF.cell 6; have nf7 := hS.2.bF.cell 7; go_simp; try with_reducible rfl); simp only [Act.put, List.setIfInBounds_toArray, List.set_cons_zero, List.set_cons_succ]))
            refine mono_pure (v := .int .i64 m3) (by rfl) rfl (fun w1 hS => by go_simp; rw [E3.out]) ?_
            simp only [Act.put, List.setIfInBounds_toArray, List.set_cons_zero, List.set_cons_succ]
            (first | (refine mono_skip (by rfl) ?_; simp only [Act.put, List.setIfInBounds_toArray, List.set_cons_zero, List.set_cons_succ]) | (refine mono_pure (v := ?_) (by rfl) rfl ?_ ?_; rotate_left; (intro wS hS; have nfa := hS.1.cell 0; have nfb := hS.1.cell 1; have nf2 := hS.2.bF.cell 2; have nf3 := hS.2.bF.cell 3; have nf4 := hS.2.bF.cell 4; have nf5 := hS.2.bF.cell 5; have nf6 := hS.2.bF.cell 6; have nf7 := hS.2.bF.cell 7; go_simp; try with_reducible rfl); simp only [Act.put, List.setIfInBounds_toArray, List.set_cons_zero, List.set_cons_succ]))
            refine mono_fix (.int .i64 z1) (by rfl) rfl hGm (by intro w hG; go_simp; first | done | exact ⟨rfl, rfl⟩) (fun w1 hG hH => (u1 w1).mono fun e w' hh => by obtain ⟨rfl, rfl⟩ := hh; exact ⟨rfl, Below.refl _ _⟩) ?_
            simp only [Act.put, List.setIfInBounds_toArray, List.set_cons_zero, List.set_cons_succ]
            refine mono_fix (.int .i64 z2) (by rfl) rfl hGm (by intro w hG; go_simp; first | done | exact ⟨rfl, rfl⟩) (fun w1 hG hH => (u2 w1).mono fun e w' hh => by obtain ⟨rfl, rfl⟩ := hh; exact ⟨rfl, Below.refl _ _⟩) ?_
            simp only [Act.put, List.setIfInBounds_toArray, List.set_cons_zero, List.set_cons_succ]
            iterate 3 (first | (refine mono_skip (by rfl) ?_; simp only [Act.put, List.setIfInBounds_toArray, List.set_cons_zero, List.set_cons_succ]) | (refine mono_pure (v := ?_) (by rfl) rfl ?_ ?_; rotate_left; (intro wS hS; have nfa := hS.1.cell 0; have nfb := hS.1.cell 1; have nf2 := hS.2.bF.cell 2; have nf3 := hS.2.bF.cell 3; have nf4 := hS.2.bF.cell 4; have nf5 := hS.2.bF.cell 5; have nf6 := hS.2.bF.cell 6; have nf7 := hS.2.bF.cell 7; go_simp; try with_reducible rfl); simp only [Act.put, List.setIfInBounds_toArray, List.set_cons_zero, List.set_cons_succ]))
            refine mono_pure (v := .int .i64 m4) (by rfl) rfl (fun w1 hS => by go_simp; rw [E4.out]) ?_
            simp only [Act.put, List.setIfInBounds_toArray, List.set_cons_zero, List.set_cons_succ]
            (first | (refine mono_skip (by rfl) ?_; simp only [Act.put, List.setIfInBounds_toArray, List.set_cons_zero, List.set_cons_succ]) | (refine mono_pure (v := ?_) (by rfl) rfl ?_ ?_; rotate_left; (intro wS hS; have nfa := hS.1.cell 0; have nfb := hS.1.cell 1; have nf2 := hS.2.bF.cell 2; have nf3 := hS.2.bF.cell 3; have nf4 := hS.2.bF.cell 4; have nf5 := hS.2.bF.cell 5; have nf6 := hS.2.bF.cell 6; have nf7 := hS.2.bF.cell 7; go_simp; try with_reducible rfl); simp only [Act.put, List.setIfInBounds_toArray, List.set_cons_zero, List.set_cons_succ]))
            refine mono_fix (.int .i64 z3) (by rfl) rfl hGm (by intro w hG; go_simp; first | done | exact ⟨rfl, rfl⟩) (fun w1 hG hH => (u3 w1).mono fun e w' hh => by obtain ⟨rfl, rfl⟩ := hh; exact ⟨rfl, Below.refl _ _⟩) ?_
            simp only [Act.put, List.setIfInBounds_toArray, List.set_cons_zero, List.set_cons_succ]
            refine mono_fix (.int .i64 z4) (by rfl) rfl hGm (by intro w hG; go_simp; first | done | exact ⟨rfl, rfl⟩) (fun w1 hG hH => (u4 w1).mono fun e w' hh => by obtain ⟨rfl, rfl⟩ := hh; exact ⟨rfl, Below.refl _ _⟩) ?_
            simp only [Act.put, List.setIfInBounds_toArray, List.set_cons_zero, List.set_cons_succ]
            (first | (refine mono_skip (by rfl) ?_; simp only [Act.put, List.setIfInBounds_toArray, List.set_cons_zero, List.set_cons_succ]) | (refine mono_pure (v := ?_) (by rfl) rfl ?_ ?_; rotate_left; (intro wS hS; have nfa := hS.1.cell 0; have nfb := hS.1.cell 1; have nf2 := hS.2.bF.cell 2; have nf3 := hS.2.bF.cell 3; have nf4 := hS.2.bF.cell 4; have nf5 := hS.2.bF.cell 5; have nf6 := hS.2.bF.cell 6; have nf7 := hS.2.bF.cell 7; go_simp; try with_reducible rfl); simp only [Act.put, List.setIfInBounds_toArray, List.set_cons_zero, List.set_cons_succ]))
            refine mono_alloc #[.int .i64 0, .int .i64 0, .int .i64 0, .int .i64 0] 116 (by rfl) rfl hGm (by intro w; go_simp; try with_reducible rfl) ?_
            intro g1
            simp only [Act.put, List.setIfInBounds_toArray, List.set_cons_zero, List.set_cons_succ]
            refine mono_nil ?_
            rintro W7 ⟨-, hNF⟩ ⟨hbs, I, hI1, -⟩
            obtain ⟨hg0, hg1, hg2, g', hge, hg3, -, hgb⟩ := hI1 29 _ (upd_self _ _ _)
            obtain rfl : g1 = g' := by simpa using hge
            have hgF : g1 ≠ F := by omega
            have hgU : ∀ g, (Value.slice (some a) qs.length cu).ownBlock = some g → g ≠ g1 := fun g e => by have := hgu g e; omega
            have hgG : ∀ g, (Value.slice bv gs.length cv).ownBlock = some g → g ≠ g1 := fun g e => by have := hgv g e; omega
            have hgN : N ≤ g1 := by omega
            clear hI1 hGm u1 u2 u3 u4
            go_wp2_with (refine wpList_store_row rfl 116 _ _ rfl g1 _ rfl rfl 116 _ hgb (by kernel_rfl) rfl (by simp [Value.oneCell']) ?_)
            go_upto_region 22 with fail
            refine wp_world (fun W => Blk W g1 #[.int .i64 m1, .int .i64 m2, .int .i64 z2, .int .i64 z4] 116 ∧ NF N F (.slice (some a) qs.length cu) (.slice bv gs.length cv) qs gs AC DN uw uh (tf k) IU w W) ⟨hgb.row _, hNF.setRow _ _ hgF hgU hgG hgN⟩ ?_
            clear hgb hNF hbs hg0 hg1 hg2 hg3 hgU hgu hgv hFM hMl
            rintro W8 ⟨bM, hNF⟩
            have hGm : ∀ W W', (Blk W g1 #[.int .i64 m1, .int .i64 m2, .int .i64 z2, .int .i64 z4] 116 ∧ NF N F (.slice (some a) qs.length cu) (.slice bv gs.length cv) qs gs AC DN uw uh (tf k) IU w W) → Below W.heap.size W W' → (Blk W' g1 #[.int .i64 m1, .int .i64 m2, .int .i64 z2, .int .i64 z4] 116 ∧ NF N F (.slice (some a) qs.length cu) (.slice bv gs.length cv) qs gs AC DN uw uh (tf k) IU w W') := fun W W' h hb => ⟨h.1.below hb h.1.lt, h.2.below hb⟩
            refine wp_region_in [0] [1, 2, 3, 4, 5, 6] [7, 8, 9, 10] (fun W => Blk W g1 #[.int .i64 m1, .int .i64 m2, .int .i64 z2, .int .i64 z4] 116 ∧ NF N F (.slice (some a) qs.length cu) (.slice bv gs.length cv) qs gs AC DN uw uh (tf k) IU w W)
              (fun | 6 => some (sSlice 1 #[.int .i64 m1, .int .i64 m2, .int .i64 z2, .int .i64 z4] 116) | _ => none) (fun _ => []) (by kernel_rfl) (by kernel_rfl) ⟨bM.drew, hNF.below (Below.refl _ _).drew⟩ ?_ ?_
            · intro i s hs
              match i with
              | 6 => cases hs; exact fun _ _ => sSlice_mono _ _ _ _ _
            clear bM hNF
            simp only [pick, List.getD_cons_succ, List.getD_cons_zero, List.zip_cons_cons, List.zip_nil_right]
            refine ins_step (.pointer (some ⟨F, 0, none⟩)) (by intro wS; go_simp; try rfl) ?_
            simp only [Act.put, List.setIfInBounds_toArray, List.set_cons_zero, List.set_cons_succ]
            refine ins_nil ?_
            iterate 3 (first | (refine mono_skip (by rfl) ?_; simp only [Act.put, List.setIfInBounds_toArray, List.set_cons_zero, List.set_cons_succ]) | (refine mono_pure (v := ?_) (by rfl) rfl ?_ ?_; rotate_left; (intro wS hS; have nfa := hS.1.cell 0; have nfb := hS.1.cell 1; have nf2 := hS.2.bF.cell 2; have nf3 := hS.2.bF.cell 3; have nf4 := hS.2.bF.cell 4; have nf5 := hS.2.bF.cell 5; have nf6 := hS.2.bF.cell 6; have nf7 := hS.2.bF.cell 7; go_simp; try with_reducible rfl); simp only [Act.put, List.setIfInBounds_toArray, List.set_cons_zero, List.set_cons_succ]))
            refine mono_pure (v := .slice bv gs.length cv) (by rfl) rfl (fun w1 hS => by have cy := hS.2.bF.cell 1; go_simp; try with_reducible rfl) ?_
            simp only [Act.put, List.setIfInBounds_toArray, List.set_cons_zero, List.set_cons_succ]
            refine mono_pure (by rfl) rfl (fun w1 hG => run_exec_load_row 116 _ rfl g1 rfl 116 _ _ hG.1 Try.underlying116 rfl (by kernel_rfl)) ?_
            simp only [Act.put, List.setIfInBounds_toArray, List.set_cons_zero, List.set_cons_succ]
            refine mono_slice 1 #[.int .i64 m1, .int .i64 m2, .int .i64 z2, .int .i64 z4] 116 (by rfl) rfl hGm (by intro wS; go_simp; try rfl) (fun g2 => ?_)
            simp only [Act.put, List.setIfInBounds_toArray, List.set_cons_zero, List.set_cons_succ]
            refine mono_nil ?_
            rintro W9 ⟨bM, hNF⟩ ⟨hbs, I, hI1, hI2⟩
            obtain ⟨i1, i2, i3, ⟨g, hg, i4, i5, i6⟩⟩ := hI1 6 _ (upd_self _ _ _)
            obtain rfl : g2 = g := by simpa using hg
            have hFl := hNF.bF.lt
            have hNF0 := hNF.hN
            go_wp2_with (refine wpList_append_Row _ rfl _ _ 156 rfl N 116 _ _ 4 32 rfl rfl rfl rfl rfl rfl _ _ _ rfl hNF.grid _ 1 1 [.int .i64 m1, .int .i64 m2, .int .i64 z2, .int .i64 z4] rfl (by omega) rfl (i6.cells) (by intro u hu; simp at hu; rcases hu with rfl | rfl | rfl | rfl <;> rfl) (by simp only [maxLen]; omega) (by omega) (by omega) (fun v' w2 hR1 hg hat => ?_); obtain ⟨b2, c2, rfl⟩ := hR1.len; have bF' := hNF.bF.grown hg (fun e => hNF.gridF F e.symm rfl); have r2 := bF'.cell 1; have f2 := bF'.free 1; have bM' := bM.grown hg (fun e => hgG g1 e.symm rfl))
            refine onlyN_intro ?_
            go_upto_region 23 with fail
            have hNF2 := hNF.app (g := ⟨m1, m2, z2, z4⟩) hg hR1
            have h10 := H10.out
            generalize gs ++ [⟨m1, m2, z2, z4⟩] = gs2 at h10 hNF2
            have H11 := Lib.hid h10
            refine wp_world (fun W => Blk W g1 #[.int .i64 m1, .int .i64 m2, .int .i64 z2, .int .i64 z4] 116 ∧ NF N F (.slice (some a) qs.length cu) (.slice b2 (gs.length + 1) c2) qs gs2 AC DN uw uh (tf k) IU w W) ⟨bM'.other _ _ hgF, hNF2⟩ ?_
            clear hNF hNF2 bM bM' bF' r2 f2 hR1 hat hg i1 i2 i3 i4 i5 i6 hI1 hI2 hbs h10 H10 hGm hgG hFl
            generalize (Value.slice b2 (gs.length + 1) c2) = gv2
            rintro W10 ⟨bM, hNF⟩
            refine wp_region_mono [0, 1, 2, 3, 4, 5, 6, 7, 8, 9, 10, 11] [12] (fun W => Blk W g1 #[.int .i64 m1, .int .i64 m2, .int .i64 z2, .int .i64 z4] 116 ∧ NF N F (.slice (some a) qs.length cu) gv2 qs gs2 AC DN uw uh (tf k) IU w W) (fun _ => none) (fun _ => []) (by kernel_rfl) (by kernel_rfl) ⟨bM.drew, hNF.below (Below.refl _ _).drew⟩ ?_ ?_
            · intro i s hs; cases hs
            clear bM hNF
            simp only [pick, List.getD_cons_succ, List.getD_cons_zero, List.zip_cons_cons, List.zip_nil_right]
            iterate 8 (first | (refine mono_skip (by rfl) ?_; simp only [Act.put, List.setIfInBounds_toArray, List.set_cons_zero, List.set_cons_succ]) | (refine mono_pure (v := ?_) (by rfl) rfl ?_ ?_; rotate_left; (intro wS hS; have nfa := hS.1.cell 0; have nfb := hS.1.cell 1; have nf2 := hS.2.bF.cell 2; have nf3 := hS.2.bF.cell 3; have nf4 := hS.2.bF.cell 4; have nf5 := hS.2.bF.cell 5; have nf6 := hS.2.bF.cell 6; have nf7 := hS.2.bF.cell 7; go_simp; try with_reducible rfl); simp only [Act.put, List.setIfInBounds_toArray, List.set_cons_zero, List.set_cons_succ]))
            refine mono_pure (v := .int .i64 m5) (by rfl) rfl (fun w1 hS => by go_simp; rw [E5.out]) ?_
            simp only [Act.put, List.setIfInBounds_toArray, List.set_cons_zero, List.set_cons_succ]
            refine mono_pure (v := .int .i64 (tf (k + 1))) (by rfl) rfl (fun w1 hS => by go_simp; rw [E6.out]) ?_
            simp only [Act.put, List.setIfInBounds_toArray, List.set_cons_zero, List.set_cons_succ]
            iterate 2 (first | (refine mono_skip (by rfl) ?_; simp only [Act.put, List.setIfInBounds_toArray, List.set_cons_zero, List.set_cons_succ]) | (refine mono_pure (v := ?_) (by rfl) rfl ?_ ?_; rotate_left; (intro wS hS; have nfa := hS.1.cell 0; have nfb := hS.1.cell 1; have nf2 := hS.2.bF.cell 2; have nf3 := hS.2.bF.cell 3; have nf4 := hS.2.bF.cell 4; have nf5 := hS.2.bF.cell 5; have nf6 := hS.2.bF.cell 6; have nf7 := hS.2.bF.cell 7; go_simp; try with_reducible rfl); simp only [Act.put, List.setIfInBounds_toArray, List.set_cons_zero, List.set_cons_succ]))
            refine mono_nil ?_
            rintro W11 ⟨bM, hNF⟩ -
            have q6 := hNF.bF.cell 6
            have f6 := hNF.bF.free 6
            go_wp2
            go_roundw
            · exact ⟨k + 1, by omega, by go_num, _, _, H11.out, hNF.setTot _⟩
            · simp [intOf]; omega
          · obtain rfl : k = qs.length := by omega
            have tl : decide (qs.length < qs.length) = false := by simp
            have hgs := hT.all
            have hE := HE.out
            rw [TFE.out] at hE
            have q6 := hNF.bF.cell 6
            have hHQ := HQ.out
            have hGS := GSS.out
            rw [← hgs] at hGS
            have hgl : gs.length ≤ 4 := by rw [hT.1]; omega
            have HG := Lib.hid (show gridsN x y (partsOf ps) = gs by rw [hHQ]; exact hGS)
            clear hHQ hGS hgs hT GSS TFE TFS TFB TF0 HE HQ HLEN
            generalize tf qs.length = T at *
            by_cases hC : 16384 < T
            · rw [if_pos hC] at hE
              have HE := Lib.hid hE
              have t1 : decide (T > 16384) = true := by simpa using hC
              clear hE hC
              go_wp2
              go_ret2
              exact ⟨.pointer none, by rw [← HE.out]; rfl, hNF.hB, fun _ => rfl, fun h => by rw [← HE.out] at h; cases h⟩
            · rw [if_neg hC] at hE
              have HE := Lib.hid hE
              have t1 : decide (T > 16384) = false := by simpa using hC
              clear hE hC
              go_wp2
              go_ret2
              refine ⟨.pointer (some ⟨F, 0, none⟩), by rw [← HE.out]; rfl, hNF.hB, fun h => absurd HE.out.symm h, fun _ => ⟨F, rfl, ?_, FU2.out _ _ hNF.fru⟩⟩
              rw [HG.out]
              exact hNF.fr (by omega)
/-- frame.New. -/
theorem fr_new (x y : Int) (pb : Option Addr) (cap : Nat) (ps : List (Int × Int)) (hl : ps.length ≤ 1000000) (w : World) (h : IsParts w (.slice pb ps.length cap) ps) :
    Calls Try.prog 101 #[.int .i64 x, .int .i64 y, .slice pb ps.length cap] w fun r w' => ∃ f, r = .returned (.tuple #[f, .int .i64 (newE x y ps)]) ∧ Below w.heap.size w w' ∧
      (newE x y ps ≠ 0 → f = .pointer none) ∧ (newE x y ps = 0 → ∃ F, f = .pointer (some ⟨F, 0, none⟩) ∧ IsFr w' F (gridsN x y (partsOf ps)) ∧ FrU w' F (8 * hhN (partsOf ps)) (8 * vvN (partsOf ps)) (acN x (partsOf ps)) (dnN y (partsOf ps))) := by
  by_cases h0 : rightE x y ps = 0
  · exact fr_new_ok x y pb cap ps hl h0 w h
  · have he : newE x y ps = rightE x y ps := by unfold newE; rw [if_pos h0]
    refine (fr_new_bad x y pb cap ps hl h0 w h).mono ?_
    rintro r w' ⟨rfl, hb⟩
    exact ⟨_, rfl, hb, fun _ => rfl, fun h => absurd (he ▸ h) h0⟩
end Go.Proofs.Ytgmhhocpdfdplaa
