/- Package image: each over components, at each of its closures. Made by gen_eachc.py. -/
import Derived.Test.YtgmhhocpdfdplaaTagsE
namespace Go.Proofs.Ytgmhhocpdfdplaa
open Go.RowKit
set_option maxRecDepth 100000
set_option maxHeartbeats 4000000
theorem each_comps (N : Nat) (cb : Option Addr) (cap : Nat) (cs : List CompArg) (hl : cs.length ≤ 20) (e : Nat → Int) (w : World) (h : IsComps w (.slice cb cs.length cap) cs)
    (hc : ∀ (i : Nat) (hi : i < cs.length) (W : World), Below w.heap.size w W → Calls Try.prog 107 #[.int .i64 i, .agg #[.int .i64 (cs[i]'hi).id, .int .i64 (cs[i]'hi).h, .int .i64 (cs[i]'hi).v, .int .i64 (cs[i]'hi).q, .int .i64 (cs[i]'hi).c, .int .i64 (cs[i]'hi).r, (cs[i]'hi).u], .pointer (some ⟨N, 0, none⟩)] W fun r w' => r = .returned (.int .i64 (e i)) ∧ Below W.heap.size W w') :
    Calls Try.prog 106 #[.slice cb cs.length cap, .func (.func 107) #[] #[.pointer (some ⟨N, 0, none⟩)]] w fun r w' => r = .returned (.int .i64 (firstE e cs.length 0)) ∧ Below w.heap.size w w' := by
  obtain ⟨T, hT⟩ : ∃ T, firstE e cs.length 0 = T := ⟨_, rfl⟩
  rw [hT]
  have HT := Lib.hid hT
  have HC := Lib.hid hc
  clear hT hc
  go_enter Try.func106, Try.ntmps106
  go_wp2
  go_loopw [10] (fun iv wr => ∃ i : Nat, iv = .int .i64 i ∧ i ≤ cs.length ∧ firstE e (cs.length - i) i = T ∧ Below w.heap.size w wr) (fun iv _ => cs.length - (intOf iv).toNat)
  case atStart => exact ⟨0, rfl, Nat.zero_le _, HT.out, Below.refl _ _⟩
  case round =>
    obtain ⟨i, rfl, hi, hf, hB⟩ := hrel
    by_cases hlt : i < cs.length
    · have tl : decide (i < cs.length) = true := by simpa using hlt
      obtain ⟨a, rfl, c0, c1, c2, c3, c4, c5, c6⟩ := (h.below hB).at hlt
      have j0 : (0 : Int) ≤ (i : Int) := by omega
      have j1 : (i : Int) < (cs.length : Int) := by omega
      have hu : ∃ ub un ucap, (cs[i]'hlt).u = .slice ub un ucap := by
        obtain ⟨ub, ucap, hu, _⟩ := (h.ok _ (List.getElem_mem hlt)).ar.len
        exact ⟨ub, _, ucap, hu⟩
      obtain ⟨ub, un, ucap, hu⟩ := hu
      rw [show cs.length - i = cs.length - (i + 1) + 1 by omega] at hf
      have HF := Lib.hid hf
      have hc := HC.out i hlt
      rw [hu] at c6 hc
      clear hf hu
      generalize (cs[i]'hlt).id = x0 at *
      generalize (cs[i]'hlt).h = x1 at *
      generalize (cs[i]'hlt).v = x2 at *
      generalize (cs[i]'hlt).q = x3 at *
      generalize (cs[i]'hlt).c = x4 at *
      generalize (cs[i]'hlt).r = x5 at *
      go_upto_region 4 with fail
      obtain ⟨M, hM⟩ : ∃ M, M = wr.heap.size := ⟨_, rfl⟩
      have hsz := hB.size
      refine wp_world (fun W => Blk W M #[.int .i64 x0, .int .i64 x1, .int .i64 x2, .int .i64 x3, .int .i64 x4, .int .i64 x5, .slice ub un ucap] 63 ∧ Below w.heap.size w W) ⟨Blk.new' _ _ _ hM, hB.alloc hsz _⟩ ?_
      rw [← hM]
      clear hM hB c0 c1 c2 c3 c4 c5 c6 hsz
      rintro W ⟨bM, hB⟩
      by_cases he0 : e i = 0
      · have hf := HF.out
        rw [firstE_go e _ i he0] at hf
        have HF2 := Lib.hid hf
        rw [he0] at hc
        clear hf he0 HF
        go_wp2_with (first | (refine wpList_load_row rfl 63 _ rfl M rfl 63 _ _ _ bM Try.underlying63 rfl (by kernel_rfl) ?_) | (go_at_call 107; refine (hc _ hB).mono ?_; rintro r w1 ⟨rfl, hb1⟩; replace hB := hB.trans (hb1.mono hB.size)))
        go_roundw
        case rel => exact ⟨i + 1, by go_num, by omega, HF2.out, hB⟩
        case measure => simp [intOf]; omega
      · have hf := HF.out
        rw [firstE_stop e _ i he0] at hf
        rw [hf] at hc he0
        have tn : (T != 0) = true := by simpa using he0
        clear hf he0 HF
        go_wp2_with (first | (refine wpList_load_row rfl 63 _ rfl M rfl 63 _ _ _ bM Try.underlying63 rfl (by kernel_rfl) ?_) | (go_at_call 107; refine (hc _ hB).mono ?_; rintro r w1 ⟨rfl, hb1⟩; replace hB := hB.trans (hb1.mono hB.size)))
        go_ret
        exact ⟨rfl, hB⟩
    · have tl : decide (i < cs.length) = false := by simpa using hlt
      rw [show cs.length - i = 0 by omega] at hf
      obtain rfl : T = 0 := hf.symm
      go_wp2
      go_ret
      exact ⟨rfl, hB⟩
theorem each_tables (N : Nat) (cb : Option Addr) (cap : Nat) (cs : List CompArg) (hl : cs.length ≤ 20) (e : Nat → Int) (w : World) (h : IsComps w (.slice cb cs.length cap) cs)
    (hc : ∀ (i : Nat) (hi : i < cs.length) (W : World), Below w.heap.size w W → Calls Try.prog 116 #[.int .i64 i, .agg #[.int .i64 (cs[i]'hi).id, .int .i64 (cs[i]'hi).h, .int .i64 (cs[i]'hi).v, .int .i64 (cs[i]'hi).q, .int .i64 (cs[i]'hi).c, .int .i64 (cs[i]'hi).r, (cs[i]'hi).u], .pointer (some ⟨N, 0, none⟩)] W fun r w' => r = .returned (.int .i64 (e i)) ∧ Below W.heap.size W w') :
    Calls Try.prog 106 #[.slice cb cs.length cap, .func (.func 116) #[] #[.pointer (some ⟨N, 0, none⟩)]] w fun r w' => r = .returned (.int .i64 (firstE e cs.length 0)) ∧ Below w.heap.size w w' := by
  obtain ⟨T, hT⟩ : ∃ T, firstE e cs.length 0 = T := ⟨_, rfl⟩
  rw [hT]
  have HT := Lib.hid hT
  have HC := Lib.hid hc
  clear hT hc
  go_enter Try.func106, Try.ntmps106
  go_wp2
  go_loopw [10] (fun iv wr => ∃ i : Nat, iv = .int .i64 i ∧ i ≤ cs.length ∧ firstE e (cs.length - i) i = T ∧ Below w.heap.size w wr) (fun iv _ => cs.length - (intOf iv).toNat)
  case atStart => exact ⟨0, rfl, Nat.zero_le _, HT.out, Below.refl _ _⟩
  case round =>
    obtain ⟨i, rfl, hi, hf, hB⟩ := hrel
    by_cases hlt : i < cs.length
    · have tl : decide (i < cs.length) = true := by simpa using hlt
      obtain ⟨a, rfl, c0, c1, c2, c3, c4, c5, c6⟩ := (h.below hB).at hlt
      have j0 : (0 : Int) ≤ (i : Int) := by omega
      have j1 : (i : Int) < (cs.length : Int) := by omega
      have hu : ∃ ub un ucap, (cs[i]'hlt).u = .slice ub un ucap := by
        obtain ⟨ub, ucap, hu, _⟩ := (h.ok _ (List.getElem_mem hlt)).ar.len
        exact ⟨ub, _, ucap, hu⟩
      obtain ⟨ub, un, ucap, hu⟩ := hu
      rw [show cs.length - i = cs.length - (i + 1) + 1 by omega] at hf
      have HF := Lib.hid hf
      have hc := HC.out i hlt
      rw [hu] at c6 hc
      clear hf hu
      generalize (cs[i]'hlt).id = x0 at *
      generalize (cs[i]'hlt).h = x1 at *
      generalize (cs[i]'hlt).v = x2 at *
      generalize (cs[i]'hlt).q = x3 at *
      generalize (cs[i]'hlt).c = x4 at *
      generalize (cs[i]'hlt).r = x5 at *
      go_upto_region 4 with fail
      obtain ⟨M, hM⟩ : ∃ M, M = wr.heap.size := ⟨_, rfl⟩
      have hsz := hB.size
      refine wp_world (fun W => Blk W M #[.int .i64 x0, .int .i64 x1, .int .i64 x2, .int .i64 x3, .int .i64 x4, .int .i64 x5, .slice ub un ucap] 63 ∧ Below w.heap.size w W) ⟨Blk.new' _ _ _ hM, hB.alloc hsz _⟩ ?_
      rw [← hM]
      clear hM hB c0 c1 c2 c3 c4 c5 c6 hsz
      rintro W ⟨bM, hB⟩
      by_cases he0 : e i = 0
      · have hf := HF.out
        rw [firstE_go e _ i he0] at hf
        have HF2 := Lib.hid hf
        rw [he0] at hc
        clear hf he0 HF
        go_wp2_with (first | (refine wpList_load_row rfl 63 _ rfl M rfl 63 _ _ _ bM Try.underlying63 rfl (by kernel_rfl) ?_) | (go_at_call 116; refine (hc _ hB).mono ?_; rintro r w1 ⟨rfl, hb1⟩; replace hB := hB.trans (hb1.mono hB.size)))
        go_roundw
        case rel => exact ⟨i + 1, by go_num, by omega, HF2.out, hB⟩
        case measure => simp [intOf]; omega
      · have hf := HF.out
        rw [firstE_stop e _ i he0] at hf
        rw [hf] at hc he0
        have tn : (T != 0) = true := by simpa using he0
        clear hf he0 HF
        go_wp2_with (first | (refine wpList_load_row rfl 63 _ rfl M rfl 63 _ _ _ bM Try.underlying63 rfl (by kernel_rfl) ?_) | (go_at_call 116; refine (hc _ hB).mono ?_; rintro r w1 ⟨rfl, hb1⟩; replace hB := hB.trans (hb1.mono hB.size)))
        go_ret
        exact ⟨rfl, hB⟩
    · have tl : decide (i < cs.length) = false := by simpa using hlt
      rw [show cs.length - i = 0 by omega] at hf
      obtain rfl : T = 0 := hf.symm
      go_wp2
      go_ret
      exact ⟨rfl, hB⟩
theorem each_planes (N : Nat) (cb : Option Addr) (cap : Nat) (cs : List CompArg) (hl : cs.length ≤ 20) (e : Nat → Int) (w : World) (h : IsComps w (.slice cb cs.length cap) cs)
    (hc : ∀ (i : Nat) (hi : i < cs.length) (W : World), Below w.heap.size w W → Calls Try.prog 117 #[.int .i64 i, .agg #[.int .i64 (cs[i]'hi).id, .int .i64 (cs[i]'hi).h, .int .i64 (cs[i]'hi).v, .int .i64 (cs[i]'hi).q, .int .i64 (cs[i]'hi).c, .int .i64 (cs[i]'hi).r, (cs[i]'hi).u], .pointer (some ⟨N, 0, none⟩)] W fun r w' => r = .returned (.int .i64 (e i)) ∧ Below W.heap.size W w') :
    Calls Try.prog 106 #[.slice cb cs.length cap, .func (.func 117) #[] #[.pointer (some ⟨N, 0, none⟩)]] w fun r w' => r = .returned (.int .i64 (firstE e cs.length 0)) ∧ Below w.heap.size w w' := by
  obtain ⟨T, hT⟩ : ∃ T, firstE e cs.length 0 = T := ⟨_, rfl⟩
  rw [hT]
  have HT := Lib.hid hT
  have HC := Lib.hid hc
  clear hT hc
  go_enter Try.func106, Try.ntmps106
  go_wp2
  go_loopw [10] (fun iv wr => ∃ i : Nat, iv = .int .i64 i ∧ i ≤ cs.length ∧ firstE e (cs.length - i) i = T ∧ Below w.heap.size w wr) (fun iv _ => cs.length - (intOf iv).toNat)
  case atStart => exact ⟨0, rfl, Nat.zero_le _, HT.out, Below.refl _ _⟩
  case round =>
    obtain ⟨i, rfl, hi, hf, hB⟩ := hrel
    by_cases hlt : i < cs.length
    · have tl : decide (i < cs.length) = true := by simpa using hlt
      obtain ⟨a, rfl, c0, c1, c2, c3, c4, c5, c6⟩ := (h.below hB).at hlt
      have j0 : (0 : Int) ≤ (i : Int) := by omega
      have j1 : (i : Int) < (cs.length : Int) := by omega
      have hu : ∃ ub un ucap, (cs[i]'hlt).u = .slice ub un ucap := by
        obtain ⟨ub, ucap, hu, _⟩ := (h.ok _ (List.getElem_mem hlt)).ar.len
        exact ⟨ub, _, ucap, hu⟩
      obtain ⟨ub, un, ucap, hu⟩ := hu
      rw [show cs.length - i = cs.length - (i + 1) + 1 by omega] at hf
      have HF := Lib.hid hf
      have hc := HC.out i hlt
      rw [hu] at c6 hc
      clear hf hu
      generalize (cs[i]'hlt).id = x0 at *
      generalize (cs[i]'hlt).h = x1 at *
      generalize (cs[i]'hlt).v = x2 at *
      generalize (cs[i]'hlt).q = x3 at *
      generalize (cs[i]'hlt).c = x4 at *
      generalize (cs[i]'hlt).r = x5 at *
      go_upto_region 4 with fail
      obtain ⟨M, hM⟩ : ∃ M, M = wr.heap.size := ⟨_, rfl⟩
      have hsz := hB.size
      refine wp_world (fun W => Blk W M #[.int .i64 x0, .int .i64 x1, .int .i64 x2, .int .i64 x3, .int .i64 x4, .int .i64 x5, .slice ub un ucap] 63 ∧ Below w.heap.size w W) ⟨Blk.new' _ _ _ hM, hB.alloc hsz _⟩ ?_
      rw [← hM]
      clear hM hB c0 c1 c2 c3 c4 c5 c6 hsz
      rintro W ⟨bM, hB⟩
      by_cases he0 : e i = 0
      · have hf := HF.out
        rw [firstE_go e _ i he0] at hf
        have HF2 := Lib.hid hf
        rw [he0] at hc
        clear hf he0 HF
        go_wp2_with (first | (refine wpList_load_row rfl 63 _ rfl M rfl 63 _ _ _ bM Try.underlying63 rfl (by kernel_rfl) ?_) | (go_at_call 117; refine (hc _ hB).mono ?_; rintro r w1 ⟨rfl, hb1⟩; replace hB := hB.trans (hb1.mono hB.size)))
        go_roundw
        case rel => exact ⟨i + 1, by go_num, by omega, HF2.out, hB⟩
        case measure => simp [intOf]; omega
      · have hf := HF.out
        rw [firstE_stop e _ i he0] at hf
        rw [hf] at hc he0
        have tn : (T != 0) = true := by simpa using he0
        clear hf he0 HF
        go_wp2_with (first | (refine wpList_load_row rfl 63 _ rfl M rfl 63 _ _ _ bM Try.underlying63 rfl (by kernel_rfl) ?_) | (go_at_call 117; refine (hc _ hB).mono ?_; rintro r w1 ⟨rfl, hb1⟩; replace hB := hB.trans (hb1.mono hB.size)))
        go_ret
        exact ⟨rfl, hB⟩
    · have tl : decide (i < cs.length) = false := by simpa using hlt
      rw [show cs.length - i = 0 by omega] at hf
      obtain rfl : T = 0 := hf.symm
      go_wp2
      go_ret
      exact ⟨rfl, hB⟩
theorem each_blocks (cb : Option Addr) (cap : Nat) (cs : List CompArg) (hl : cs.length ≤ 20) (e : Nat → Int) (w : World) (h : IsComps w (.slice cb cs.length cap) cs)
    (hc : ∀ (i : Nat) (hi : i < cs.length) (W : World), Below w.heap.size w W → Calls Try.prog 119 #[.int .i64 i, .agg #[.int .i64 (cs[i]'hi).id, .int .i64 (cs[i]'hi).h, .int .i64 (cs[i]'hi).v, .int .i64 (cs[i]'hi).q, .int .i64 (cs[i]'hi).c, .int .i64 (cs[i]'hi).r, (cs[i]'hi).u]] W fun r w' => r = .returned (.int .i64 (e i)) ∧ Below W.heap.size W w') :
    Calls Try.prog 106 #[.slice cb cs.length cap, .func (.func 119) #[] #[]] w fun r w' => r = .returned (.int .i64 (firstE e cs.length 0)) ∧ Below w.heap.size w w' := by
  obtain ⟨T, hT⟩ : ∃ T, firstE e cs.length 0 = T := ⟨_, rfl⟩
  rw [hT]
  have HT := Lib.hid hT
  have HC := Lib.hid hc
  clear hT hc
  go_enter Try.func106, Try.ntmps106
  go_wp2
  go_loopw [10] (fun iv wr => ∃ i : Nat, iv = .int .i64 i ∧ i ≤ cs.length ∧ firstE e (cs.length - i) i = T ∧ Below w.heap.size w wr) (fun iv _ => cs.length - (intOf iv).toNat)
  case atStart => exact ⟨0, rfl, Nat.zero_le _, HT.out, Below.refl _ _⟩
  case round =>
    obtain ⟨i, rfl, hi, hf, hB⟩ := hrel
    by_cases hlt : i < cs.length
    · have tl : decide (i < cs.length) = true := by simpa using hlt
      obtain ⟨a, rfl, c0, c1, c2, c3, c4, c5, c6⟩ := (h.below hB).at hlt
      have j0 : (0 : Int) ≤ (i : Int) := by omega
      have j1 : (i : Int) < (cs.length : Int) := by omega
      have hu : ∃ ub un ucap, (cs[i]'hlt).u = .slice ub un ucap := by
        obtain ⟨ub, ucap, hu, _⟩ := (h.ok _ (List.getElem_mem hlt)).ar.len
        exact ⟨ub, _, ucap, hu⟩
      obtain ⟨ub, un, ucap, hu⟩ := hu
      rw [show cs.length - i = cs.length - (i + 1) + 1 by omega] at hf
      have HF := Lib.hid hf
      have hc := HC.out i hlt
      rw [hu] at c6 hc
      clear hf hu
      generalize (cs[i]'hlt).id = x0 at *
      generalize (cs[i]'hlt).h = x1 at *
      generalize (cs[i]'hlt).v = x2 at *
      generalize (cs[i]'hlt).q = x3 at *
      generalize (cs[i]'hlt).c = x4 at *
      generalize (cs[i]'hlt).r = x5 at *
      go_upto_region 4 with fail
      obtain ⟨M, hM⟩ : ∃ M, M = wr.heap.size := ⟨_, rfl⟩
      have hsz := hB.size
      refine wp_world (fun W => Blk W M #[.int .i64 x0, .int .i64 x1, .int .i64 x2, .int .i64 x3, .int .i64 x4, .int .i64 x5, .slice ub un ucap] 63 ∧ Below w.heap.size w W) ⟨Blk.new' _ _ _ hM, hB.alloc hsz _⟩ ?_
      rw [← hM]
      clear hM hB c0 c1 c2 c3 c4 c5 c6 hsz
      rintro W ⟨bM, hB⟩
      by_cases he0 : e i = 0
      · have hf := HF.out
        rw [firstE_go e _ i he0] at hf
        have HF2 := Lib.hid hf
        rw [he0] at hc
        clear hf he0 HF
        go_wp2_with (first | (refine wpList_load_row rfl 63 _ rfl M rfl 63 _ _ _ bM Try.underlying63 rfl (by kernel_rfl) ?_) | (go_at_call 119; refine (hc _ hB).mono ?_; rintro r w1 ⟨rfl, hb1⟩; replace hB := hB.trans (hb1.mono hB.size)))
        go_roundw
        case rel => exact ⟨i + 1, by go_num, by omega, HF2.out, hB⟩
        case measure => simp [intOf]; omega
      · have hf := HF.out
        rw [firstE_stop e _ i he0] at hf
        rw [hf] at hc he0
        have tn : (T != 0) = true := by simpa using he0
        clear hf he0 HF
        go_wp2_with (first | (refine wpList_load_row rfl 63 _ rfl M rfl 63 _ _ _ bM Try.underlying63 rfl (by kernel_rfl) ?_) | (go_at_call 119; refine (hc _ hB).mono ?_; rintro r w1 ⟨rfl, hb1⟩; replace hB := hB.trans (hb1.mono hB.size)))
        go_ret
        exact ⟨rfl, hB⟩
    · have tl : decide (i < cs.length) = false := by simpa using hlt
      rw [show cs.length - i = 0 by omega] at hf
      obtain rfl : T = 0 := hf.symm
      go_wp2
      go_ret
      exact ⟨rfl, hB⟩
end Go.Proofs.Ytgmhhocpdfdplaa
