/- Package frame: right (may these be a frame's numbers?). -/
import Derived.Test.YtgmhhocpdfdplaaComps2
import Derived.Laws.EntriesVeiled
namespace Go.Proofs.Ytgmhhocpdfdplaa
open Go.RowKit
set_option maxRecDepth 100000
set_option maxHeartbeats 4000000
def facB (n : Int) : Bool := decide (1 ≤ n ∧ n ≤ 4)
theorem fr_right1 (n : Int) (w : World) : Calls Try.prog 149 #[.int .i64 n] w fun r w' => r = .returned (.bool (facB n)) ∧ w = w' := by
  by_cases h1 : 1 ≤ n
  · have t1 : decide (1 ≤ n) = true := by simpa using h1
    by_cases h2 : n ≤ 4
    · have t2 : decide (n ≤ 4) = true := by simpa using h2
      have hf : facB n = true := decide_eq_true ⟨h1, h2⟩
      rw [hf]; clear hf h1 h2
      go_enter Try.func149, Try.ntmps149
      go_wp2
      go_ret
      exact ⟨rfl, rfl⟩
    · have t2 : decide (n ≤ 4) = false := by simpa using h2
      have hf : facB n = false := decide_eq_false (by omega)
      rw [hf]; clear hf h1 h2
      go_enter Try.func149, Try.ntmps149
      go_wp2
      go_ret
      exact ⟨rfl, rfl⟩
  · have t1 : decide (1 ≤ n) = false := by simpa using h1
    have hf : facB n = false := decide_eq_false (by omega)
    rw [hf]; clear hf h1
    go_enter Try.func149, Try.ntmps149
    go_wp2
    go_ret
    exact ⟨rfl, rfl⟩
def badP (p : Int × Int) : Bool := !(facB p.1) || !(facB p.2)
theorem fr_right2 (U : Nat) (p : Int × Int) (w : World) (bU : Blk w U #[.func (.func 149) #[] #[]] 159) :
    Calls Try.prog 150 #[.agg #[.int .i64 p.1, .int .i64 p.2], .pointer (some ⟨U, 0, none⟩)] w fun r w' => r = .returned (.bool (badP p)) ∧ Below w.heap.size w w' := by
  obtain ⟨x, y⟩ := p
  obtain ⟨K, hK⟩ : ∃ K, K = w.heap.size := ⟨_, rfl⟩
  have HK := Lib.hid hK
  rw [← hK]
  unfold badP
  simp only
  have hx := fun W => fr_right1 x W
  have hy := fun W => fr_right1 y W
  have hbe : Below w.heap.size w (w.alloc (.cells #[.int .i64 x, .int .i64 y] 154)) := (Below.refl _ _).alloc (Nat.le_refl _) _
  generalize facB x = bx at *
  generalize facB y = by' at *
  clear hK
  cases bx
  all_goals
    go_enter Try.func150, Try.ntmps150
    go_upto_region 1 with fail
    rw [← HK.out]
    refine wp_world (fun W => Blk W K #[.int .i64 x, .int .i64 y] 154 ∧ Blk W U #[.func (.func 149) #[] #[]] 159 ∧ Below K w W) ⟨Blk.new' _ _ _ HK.out, bU.below hbe bU.lt, by rw [HK.out]; exact hbe⟩ ?_
    rintro W ⟨bK, bU2, hB⟩
    have k0 : W.cell? ⟨K, 0, none⟩ = some (.int .i64 x) := bK.cell 0
    have k1 : W.cell? ⟨K, 1, none⟩ = some (.int .i64 y) := bK.cell 1
    have u0 : W.cell? ⟨U, 0, none⟩ = some (.func (.func 149) #[] #[]) := bU2.cell 0
    go_wp2_with (go_at_call 149; first | (refine (hx _).mono ?_; clear hx; rintro r w1 ⟨rfl, rfl⟩) | (refine (hy _).mono ?_; rintro r w1 ⟨rfl, rfl⟩))
    go_ret
    exact ⟨by simp, hB⟩
def partC (p : Int × Int) : List Value := [.int .i64 p.1, .int .i64 p.2]
/-- The slice value v has these parts. -/
def IsParts (w : World) (v : Value) (ps : List (Int × Int)) : Prop := Elems w 2 v (ps.map partC)
theorem IsParts.below {w w' : World} {v : Value} {ps : List (Int × Int)} (h : IsParts w v ps) (hb : Below w.heap.size w w') : IsParts w' v ps := Elems.below h hb
theorem IsParts.len {w : World} {v : Value} {ps : List (Int × Int)} (h : IsParts w v ps) : ∃ b cap, v = .slice b ps.length cap := by
  obtain ⟨b, cap, hv, _⟩ := Elems.len h
  exact ⟨b, cap, by rw [hv, List.length_map]⟩
theorem IsParts.at {w : World} {b : Option Addr} {cap : Nat} {ps : List (Int × Int)} (h : IsParts w (.slice b ps.length cap) ps) {i : Nat} (hi : i < ps.length) :
    ∃ a, b = some a ∧ w.cell? (a.add (i * 2)) = some (.int .i64 (ps[i]'hi).1) ∧ w.cell? ⟨(a.add (i * 2)).block, (a.add (i * 2)).off + 1, none⟩ = some (.int .i64 (ps[i]'hi).2) := by
  obtain ⟨a, cap', he, h0, hj⟩ := Elems.get h (by decide) (i := i) (by simpa using hi)
  rw [getD_map' _ _ _ _ hi] at h0 hj
  simp only [Value.slice.injEq] at he
  exact ⟨a, he.1, h0, hj 1 (by decide) (by decide)⟩
theorem idx_part (U : Nat) (pb : Option Addr) (cap : Nat) (ps : List (Int × Int)) (hl : ps.length ≤ 1000000) (w : World) (h : IsParts w (.slice pb ps.length cap) ps) (bU : Blk w U #[.func (.func 149) #[] #[]] 159) :
    Calls Try.prog 154 #[.slice pb ps.length cap, .func (.func 150) #[] #[.pointer (some ⟨U, 0, none⟩)]] w fun e w' => IdxAny (anyF (fun k => badP (ps.getD k (0, 0))) ps.length 0) e ∧ Below w.heap.size w w' := by
  obtain ⟨p, hp⟩ : ∃ p : Nat → Bool, (fun k => badP (ps.getD k (0, 0))) = p := ⟨_, rfl⟩
  rw [hp]
  obtain ⟨T, hT⟩ : ∃ T, anyF p ps.length 0 = T := ⟨_, rfl⟩
  rw [hT]
  have HT := Lib.hid hT
  have HP := Lib.hid hp
  clear hT hp
  go_enter Try.func154, Try.ntmps154
  go_wp2
  go_loopw [8] (fun iv wr => ∃ i : Nat, iv = .int .i64 i ∧ i ≤ ps.length ∧ anyF p (ps.length - i) i = T ∧ Below w.heap.size w wr) (fun iv _ => ps.length - (intOf iv).toNat)
  case atStart => exact ⟨0, rfl, Nat.zero_le _, HT.out, Below.refl _ _⟩
  case round =>
    obtain ⟨i, rfl, hi, hf, hB⟩ := hrel
    by_cases hlt : i < ps.length
    · have tl : decide (i < ps.length) = true := by simpa using hlt
      obtain ⟨a, rfl, c0, c1⟩ := (h.below hB).at hlt
      have j0 : (0 : Int) ≤ (i : Int) := by omega
      have j1 : (i : Int) < (ps.length : Int) := by omega
      rw [show ps.length - i = ps.length - (i + 1) + 1 by omega] at hf
      have HF := Lib.hid hf
      have hpi : p i = badP (ps[i]'hlt) := by rw [← HP.out]; simp [List.getD_eq_getElem?_getD, hlt]
      have hcl := fr_right2 U (ps[i]'hlt) wr (bU.below hB bU.lt)
      rw [← hpi] at hcl
      clear hf hpi
      generalize (ps[i]'hlt).1 = x at *
      generalize (ps[i]'hlt).2 = y at *
      by_cases hq : p i = true
      · have hf := HF.out
        rw [anyF_stop p _ i hq] at hf
        rw [hq] at hcl
        clear hq HF
        subst hf
        go_wp2_with (go_at_call 150; refine hcl.mono ?_; rintro r w1 ⟨rfl, hb1⟩; replace hB := hB.trans (hb1.mono hB.size))
        go_ret
        exact ⟨⟨(i : Int), rfl, by simp⟩, hB⟩
      · rw [Bool.not_eq_true] at hq
        have hf := HF.out
        rw [anyF_go p _ i hq] at hf
        have HF2 := Lib.hid hf
        rw [hq] at hcl
        clear hf hq HF
        go_wp2_with (go_at_call 150; refine hcl.mono ?_; rintro r w1 ⟨rfl, hb1⟩; replace hB := hB.trans (hb1.mono hB.size))
        go_roundw
        case rel => exact ⟨i + 1, by go_num, by omega, HF2.out, hB⟩
        case measure => simp [intOf]; omega
    · have tl : decide (i < ps.length) = false := by simpa using hlt
      rw [show ps.length - i = 0 by omega] at hf
      obtain rfl : T = false := hf.symm
      go_wp2
      go_ret
      exact ⟨⟨-1, rfl, by decide⟩, hB⟩
def anyBad (ps : List (Int × Int)) : Bool := anyF (fun k => badP (ps.getD k (0, 0))) ps.length 0
theorem has_part (U : Nat) (pb : Option Addr) (cap : Nat) (ps : List (Int × Int)) (hl : ps.length ≤ 1000000) (w : World) (h : IsParts w (.slice pb ps.length cap) ps) (bU : Blk w U #[.func (.func 149) #[] #[]] 159) :
    Calls Try.prog 151 #[.slice pb ps.length cap, .func (.func 150) #[] #[.pointer (some ⟨U, 0, none⟩)]] w fun e w' => e = .returned (.bool (anyBad ps)) ∧ Below w.heap.size w w' := by
  have hi := idx_part U pb cap ps hl w h bU
  unfold anyBad
  generalize anyF (fun k => badP (ps.getD k (0, 0))) ps.length 0 = b at *
  go_enter Try.func151, Try.ntmps151
  go_wp2_with (go_at_call 154; refine hi.mono ?_; rintro e w1 ⟨⟨r, rfl, hr⟩, hb1⟩)
  go_ret
  exact ⟨by first | rfl | rw [← hr]; rfl, hb1⟩
/-- What frame.right answers. -/
def rightE (x y : Int) (ps : List (Int × Int)) : Int := if x < 1 ∨ y < 1 ∨ ps.length = 0 ∨ anyBad ps = true then 7 else if 16384 < x ∨ 16384 < y then 11 else if 4 < ps.length then 12 else 0
theorem fr_right (x y : Int) (pb : Option Addr) (cap : Nat) (ps : List (Int × Int)) (hl : ps.length ≤ 1000000) (w : World) (h : IsParts w (.slice pb ps.length cap) ps) :
    Calls Try.prog 137 #[.int .i64 x, .int .i64 y, .slice pb ps.length cap] w fun e w' => e = .returned (.int .i64 (rightE x y ps)) ∧ Below w.heap.size w w' := by
  obtain ⟨U, hU⟩ : ∃ U, U = w.heap.size := ⟨_, rfl⟩
  have HU := Lib.hid hU
  rw [← hU]
  have hbe : Below w.heap.size w (w.alloc (.cells #[.func (.func 149) #[] #[]] 159)) := (Below.refl _ _).alloc (Nat.le_refl _) _
  have hca := fun W h bU => has_part U pb cap ps hl W h bU
  unfold rightE
  generalize anyBad ps = bad at *
  have t0e : ps.length = 0 → decide ((ps.length : Int) = 0) = true := fun h => decide_eq_true (by omega)
  obtain ⟨R, hR⟩ : ∃ R, (if x < 1 ∨ y < 1 ∨ ps.length = 0 ∨ bad = true then (7 : Int) else if 16384 < x ∨ 16384 < y then 11 else if 4 < ps.length then 12 else 0) = R := ⟨_, rfl⟩
  rw [hR]
  have hcs : (R = 7 ∧ decide (x < 1) = true) ∨ (R = 7 ∧ decide (x < 1) = false ∧ decide (y < 1) = true) ∨ (R = 7 ∧ decide (x < 1) = false ∧ decide (y < 1) = false ∧ ps.length = 0) ∨ (R = 7 ∧ decide (x < 1) = false ∧ decide (y < 1) = false ∧ ps.length ≠ 0 ∧ bad = true) ∨
      (R = 11 ∧ decide (x < 1) = false ∧ decide (y < 1) = false ∧ ps.length ≠ 0 ∧ bad = false ∧ decide (16384 < x) = true) ∨ (R = 11 ∧ decide (x < 1) = false ∧ decide (y < 1) = false ∧ ps.length ≠ 0 ∧ bad = false ∧ decide (16384 < x) = false ∧ decide (16384 < y) = true) ∨
      (R = 12 ∧ decide (x < 1) = false ∧ decide (y < 1) = false ∧ ps.length ≠ 0 ∧ bad = false ∧ decide (16384 < x) = false ∧ decide (16384 < y) = false ∧ decide ((4 : Int) < (ps.length : Int)) = true) ∨ (R = 0 ∧ decide (x < 1) = false ∧ decide (y < 1) = false ∧ ps.length ≠ 0 ∧ bad = false ∧ decide (16384 < x) = false ∧ decide (16384 < y) = false ∧ decide ((4 : Int) < (ps.length : Int)) = false) := by
    by_cases a1 : x < 1
    · exact .inl ⟨by rw [← hR, if_pos (.inl a1)], decide_eq_true a1⟩
    have d1 : decide (x < 1) = false := decide_eq_false a1
    by_cases a2 : y < 1
    · exact .inr (.inl ⟨by rw [← hR, if_pos (.inr (.inl a2))], d1, decide_eq_true a2⟩)
    have d2 : decide (y < 1) = false := decide_eq_false a2
    by_cases a3 : ps.length = 0
    · exact .inr (.inr (.inl ⟨by rw [← hR, if_pos (.inr (.inr (.inl a3)))], d1, d2, a3⟩))
    cases bad
    · rw [if_neg (fun hh => by rcases hh with h | h | h | h; exact a1 h; exact a2 h; exact a3 h; cases h)] at hR
      by_cases a4 : 16384 < x
      · exact .inr (.inr (.inr (.inr (.inl ⟨by rw [← hR, if_pos (.inl a4)], d1, d2, a3, rfl, decide_eq_true a4⟩))))
      have d4 : decide (16384 < x) = false := decide_eq_false a4
      by_cases a5 : 16384 < y
      · exact .inr (.inr (.inr (.inr (.inr (.inl ⟨by rw [← hR, if_pos (.inr a5)], d1, d2, a3, rfl, d4, decide_eq_true a5⟩)))))
      have d5 : decide (16384 < y) = false := decide_eq_false a5
      rw [if_neg (fun hh => hh.elim a4 a5)] at hR
      by_cases a6 : 4 < ps.length
      · exact .inr (.inr (.inr (.inr (.inr (.inr (.inl ⟨by rw [← hR, if_pos a6], d1, d2, a3, rfl, d4, d5, decide_eq_true (by omega)⟩))))))
      · exact .inr (.inr (.inr (.inr (.inr (.inr (.inr ⟨by rw [← hR, if_neg a6], d1, d2, a3, rfl, d4, d5, decide_eq_false (by omega)⟩))))))
    · exact .inr (.inr (.inr (.inl ⟨by rw [← hR, if_pos (.inr (.inr (.inr rfl)))], d1, d2, a3, rfl⟩)))
  clear hR hU t0e
  rcases hcs with ⟨rfl, t1⟩ | ⟨rfl, t1, t2⟩ | ⟨rfl, t1, t2, t3⟩ | ⟨rfl, t1, t2, t3, rfl⟩ | ⟨rfl, t1, t2, t3, rfl, t4⟩ | ⟨rfl, t1, t2, t3, rfl, t4, t5⟩ | ⟨rfl, t1, t2, t3, rfl, t4, t5, t6⟩ | ⟨rfl, t1, t2, t3, rfl, t4, t5, t6⟩
  all_goals
    go_enter Try.func137, Try.ntmps137
    go_upto_region 2 with fail
    rw [← HU.out]
    refine wp_world (fun W => Blk W U #[.func (.func 149) #[] #[]] 159 ∧ IsParts W (.slice pb ps.length cap) ps ∧ Below U w W) ⟨Blk.new' _ _ _ HU.out, h.below hbe, by rw [HU.out]; exact hbe⟩ ?_
    rintro W ⟨bU, hP, hB⟩
    have hcw := hca W hP bU
    first
      | (have z0 : ((ps.length : Int) == 0) = false := beq_eq_false_iff_ne.2 (by omega)
         have z1 : (ps.length == 0) = false := beq_eq_false_iff_ne.2 (by omega)
         have z2 : decide ((ps.length : Int) = 0) = false := decide_eq_false (by omega)
         clear t3 hca)
      | (have z0 : ((ps.length : Int) == 0) = true := beq_iff_eq.2 (by omega)
         have z1 : (ps.length == 0) = true := beq_iff_eq.2 (by omega)
         have z2 : decide ((ps.length : Int) = 0) = true := decide_eq_true (by omega)
         clear t3 hca)
      | clear hca
    go_wp2_with (go_at_call 151; refine hcw.mono ?_; rintro r w1 ⟨rfl, hb1⟩; replace hB := hB.trans (hb1.mono (Nat.le_of_lt bU.lt)))
    go_ret
    exact ⟨rfl, hB⟩
end Go.Proofs.Ytgmhhocpdfdplaa
