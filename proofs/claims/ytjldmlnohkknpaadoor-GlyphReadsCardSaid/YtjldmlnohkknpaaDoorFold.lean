/- A rune's fold: the program's and the reference's. Made by gen_fold.py. -/
import Derived.Test.YtjldmlnohkknpaaDoorGlyph3
namespace Go.Proofs.YtjldmlnohkknpaaDoor
open Go.RowKit
set_option maxRecDepth 100000
set_option maxHeartbeats 4000000
/-- A rune's fold. -/
def foldR (r : Int) : Int :=
  if (65 ≤ r ∧ r ≤ 90) ∨ (192 ≤ r ∧ r ≤ 222 ∧ r ≠ 215) ∨ (913 ≤ r ∧ r ≤ 937 ∧ r ≠ 930) ∨ (1040 ≤ r ∧ r ≤ 1071) then r + 32 else if 1024 ≤ r ∧ r ≤ 1039 then r + 80 else r
theorem gl_fold (r : Int) (h0 : 0 ≤ r) (h1 : r ≤ 1114111) (w : World) : Calls Tryd.prog 38 #[.int .i32 r] w fun e w' => e = .returned (.int .i32 (foldR r)) ∧ w = w' := by
  have hcs : (0 ≤ r ∧ r ≤ 64) ∨ (65 ≤ r ∧ r ≤ 90) ∨ (91 ≤ r ∧ r ≤ 191) ∨ (192 ≤ r ∧ r ≤ 214) ∨ (215 ≤ r ∧ r ≤ 215) ∨ (216 ≤ r ∧ r ≤ 222) ∨ (223 ≤ r ∧ r ≤ 912) ∨ (913 ≤ r ∧ r ≤ 929) ∨ (930 ≤ r ∧ r ≤ 930) ∨ (931 ≤ r ∧ r ≤ 937) ∨ (938 ≤ r ∧ r ≤ 1023) ∨ (1024 ≤ r ∧ r ≤ 1039) ∨ (1040 ≤ r ∧ r ≤ 1071) ∨ (1072 ≤ r ∧ r ≤ 1114111) := by omega
  have e32 : IntKind.i32.wrap (r + 32) = r + 32 := IntWalk.i32_in _ (by omega)
  have e80 : IntKind.i32.wrap (r + 80) = r + 80 := IntWalk.i32_in _ (by omega)
  have E32 := Lib.hid e32
  have E80 := Lib.hid e80
  clear e32 e80
  rcases hcs with ⟨a, b⟩ | ⟨a, b⟩ | ⟨a, b⟩ | ⟨a, b⟩ | ⟨a, b⟩ | ⟨a, b⟩ | ⟨a, b⟩ | ⟨a, b⟩ | ⟨a, b⟩ | ⟨a, b⟩ | ⟨a, b⟩ | ⟨a, b⟩ | ⟨a, b⟩ | ⟨a, b⟩
  · have hf : foldR r = r := by unfold foldR; rw [if_neg (by omega), if_neg (by omega)]
    rw [hf]
    clear hf
    have t0 : decide ((65 : Int) ≤ r) = false := by simp; omega
    have t1 : decide (r ≤ 90) = true := by simp; omega
    have t2 : decide ((192 : Int) ≤ r) = false := by simp; omega
    have t3 : decide (r ≤ 222) = true := by simp; omega
    have t4 : decide (r = 215) = false := by simp; omega
    have t5 : decide ((913 : Int) ≤ r) = false := by simp; omega
    have t6 : decide (r ≤ 937) = true := by simp; omega
    have t7 : decide (r = 930) = false := by simp; omega
    have t8 : decide ((1040 : Int) ≤ r) = false := by simp; omega
    have t9 : decide (r ≤ 1071) = true := by simp; omega
    have t10 : decide ((1024 : Int) ≤ r) = false := by simp; omega
    have t11 : decide (r ≤ 1039) = true := by simp; omega
    have e32 := E32.out
    have e80 := E80.out
    go_enter Tryd.func38, Tryd.ntmps38
    go_wp2
    go_ret
    exact ⟨rfl, rfl⟩
  · have hf : foldR r = r + 32 := by unfold foldR; rw [if_pos (by omega)]
    rw [hf]
    clear hf
    have t0 : decide ((65 : Int) ≤ r) = true := by simp; omega
    have t1 : decide (r ≤ 90) = true := by simp; omega
    have t2 : decide ((192 : Int) ≤ r) = false := by simp; omega
    have t3 : decide (r ≤ 222) = true := by simp; omega
    have t4 : decide (r = 215) = false := by simp; omega
    have t5 : decide ((913 : Int) ≤ r) = false := by simp; omega
    have t6 : decide (r ≤ 937) = true := by simp; omega
    have t7 : decide (r = 930) = false := by simp; omega
    have t8 : decide ((1040 : Int) ≤ r) = false := by simp; omega
    have t9 : decide (r ≤ 1071) = true := by simp; omega
    have t10 : decide ((1024 : Int) ≤ r) = false := by simp; omega
    have t11 : decide (r ≤ 1039) = true := by simp; omega
    have e32 := E32.out
    have e80 := E80.out
    go_enter Tryd.func38, Tryd.ntmps38
    go_wp2
    go_ret
    exact ⟨rfl, rfl⟩
  · have hf : foldR r = r := by unfold foldR; rw [if_neg (by omega), if_neg (by omega)]
    rw [hf]
    clear hf
    have t0 : decide ((65 : Int) ≤ r) = true := by simp; omega
    have t1 : decide (r ≤ 90) = false := by simp; omega
    have t2 : decide ((192 : Int) ≤ r) = false := by simp; omega
    have t3 : decide (r ≤ 222) = true := by simp; omega
    have t4 : decide (r = 215) = false := by simp; omega
    have t5 : decide ((913 : Int) ≤ r) = false := by simp; omega
    have t6 : decide (r ≤ 937) = true := by simp; omega
    have t7 : decide (r = 930) = false := by simp; omega
    have t8 : decide ((1040 : Int) ≤ r) = false := by simp; omega
    have t9 : decide (r ≤ 1071) = true := by simp; omega
    have t10 : decide ((1024 : Int) ≤ r) = false := by simp; omega
    have t11 : decide (r ≤ 1039) = true := by simp; omega
    have e32 := E32.out
    have e80 := E80.out
    go_enter Tryd.func38, Tryd.ntmps38
    go_wp2
    go_ret
    exact ⟨rfl, rfl⟩
  · have hf : foldR r = r + 32 := by unfold foldR; rw [if_pos (by omega)]
    rw [hf]
    clear hf
    have t0 : decide ((65 : Int) ≤ r) = true := by simp; omega
    have t1 : decide (r ≤ 90) = false := by simp; omega
    have t2 : decide ((192 : Int) ≤ r) = true := by simp; omega
    have t3 : decide (r ≤ 222) = true := by simp; omega
    have t4 : decide (r = 215) = false := by simp; omega
    have t5 : decide ((913 : Int) ≤ r) = false := by simp; omega
    have t6 : decide (r ≤ 937) = true := by simp; omega
    have t7 : decide (r = 930) = false := by simp; omega
    have t8 : decide ((1040 : Int) ≤ r) = false := by simp; omega
    have t9 : decide (r ≤ 1071) = true := by simp; omega
    have t10 : decide ((1024 : Int) ≤ r) = false := by simp; omega
    have t11 : decide (r ≤ 1039) = true := by simp; omega
    have e32 := E32.out
    have e80 := E80.out
    go_enter Tryd.func38, Tryd.ntmps38
    go_wp2
    go_ret
    exact ⟨rfl, rfl⟩
  · have hf : foldR r = r := by unfold foldR; rw [if_neg (by omega), if_neg (by omega)]
    rw [hf]
    clear hf
    obtain rfl : r = 215 := by omega
    clear E32 E80
    go_enter Tryd.func38, Tryd.ntmps38
    go_wp2
    go_ret
    exact ⟨rfl, rfl⟩
  · have hf : foldR r = r + 32 := by unfold foldR; rw [if_pos (by omega)]
    rw [hf]
    clear hf
    have t0 : decide ((65 : Int) ≤ r) = true := by simp; omega
    have t1 : decide (r ≤ 90) = false := by simp; omega
    have t2 : decide ((192 : Int) ≤ r) = true := by simp; omega
    have t3 : decide (r ≤ 222) = true := by simp; omega
    have t4 : decide (r = 215) = false := by simp; omega
    have t5 : decide ((913 : Int) ≤ r) = false := by simp; omega
    have t6 : decide (r ≤ 937) = true := by simp; omega
    have t7 : decide (r = 930) = false := by simp; omega
    have t8 : decide ((1040 : Int) ≤ r) = false := by simp; omega
    have t9 : decide (r ≤ 1071) = true := by simp; omega
    have t10 : decide ((1024 : Int) ≤ r) = false := by simp; omega
    have t11 : decide (r ≤ 1039) = true := by simp; omega
    have e32 := E32.out
    have e80 := E80.out
    go_enter Tryd.func38, Tryd.ntmps38
    go_wp2
    go_ret
    exact ⟨rfl, rfl⟩
  · have hf : foldR r = r := by unfold foldR; rw [if_neg (by omega), if_neg (by omega)]
    rw [hf]
    clear hf
    have t0 : decide ((65 : Int) ≤ r) = true := by simp; omega
    have t1 : decide (r ≤ 90) = false := by simp; omega
    have t2 : decide ((192 : Int) ≤ r) = true := by simp; omega
    have t3 : decide (r ≤ 222) = false := by simp; omega
    have t4 : decide (r = 215) = false := by simp; omega
    have t5 : decide ((913 : Int) ≤ r) = false := by simp; omega
    have t6 : decide (r ≤ 937) = true := by simp; omega
    have t7 : decide (r = 930) = false := by simp; omega
    have t8 : decide ((1040 : Int) ≤ r) = false := by simp; omega
    have t9 : decide (r ≤ 1071) = true := by simp; omega
    have t10 : decide ((1024 : Int) ≤ r) = false := by simp; omega
    have t11 : decide (r ≤ 1039) = true := by simp; omega
    have e32 := E32.out
    have e80 := E80.out
    go_enter Tryd.func38, Tryd.ntmps38
    go_wp2
    go_ret
    exact ⟨rfl, rfl⟩
  · have hf : foldR r = r + 32 := by unfold foldR; rw [if_pos (by omega)]
    rw [hf]
    clear hf
    have t0 : decide ((65 : Int) ≤ r) = true := by simp; omega
    have t1 : decide (r ≤ 90) = false := by simp; omega
    have t2 : decide ((192 : Int) ≤ r) = true := by simp; omega
    have t3 : decide (r ≤ 222) = false := by simp; omega
    have t4 : decide (r = 215) = false := by simp; omega
    have t5 : decide ((913 : Int) ≤ r) = true := by simp; omega
    have t6 : decide (r ≤ 937) = true := by simp; omega
    have t7 : decide (r = 930) = false := by simp; omega
    have t8 : decide ((1040 : Int) ≤ r) = false := by simp; omega
    have t9 : decide (r ≤ 1071) = true := by simp; omega
    have t10 : decide ((1024 : Int) ≤ r) = false := by simp; omega
    have t11 : decide (r ≤ 1039) = true := by simp; omega
    have e32 := E32.out
    have e80 := E80.out
    go_enter Tryd.func38, Tryd.ntmps38
    go_wp2
    go_ret
    exact ⟨rfl, rfl⟩
  · have hf : foldR r = r := by unfold foldR; rw [if_neg (by omega), if_neg (by omega)]
    rw [hf]
    clear hf
    obtain rfl : r = 930 := by omega
    clear E32 E80
    go_enter Tryd.func38, Tryd.ntmps38
    go_wp2
    go_ret
    exact ⟨rfl, rfl⟩
  · have hf : foldR r = r + 32 := by unfold foldR; rw [if_pos (by omega)]
    rw [hf]
    clear hf
    have t0 : decide ((65 : Int) ≤ r) = true := by simp; omega
    have t1 : decide (r ≤ 90) = false := by simp; omega
    have t2 : decide ((192 : Int) ≤ r) = true := by simp; omega
    have t3 : decide (r ≤ 222) = false := by simp; omega
    have t4 : decide (r = 215) = false := by simp; omega
    have t5 : decide ((913 : Int) ≤ r) = true := by simp; omega
    have t6 : decide (r ≤ 937) = true := by simp; omega
    have t7 : decide (r = 930) = false := by simp; omega
    have t8 : decide ((1040 : Int) ≤ r) = false := by simp; omega
    have t9 : decide (r ≤ 1071) = true := by simp; omega
    have t10 : decide ((1024 : Int) ≤ r) = false := by simp; omega
    have t11 : decide (r ≤ 1039) = true := by simp; omega
    have e32 := E32.out
    have e80 := E80.out
    go_enter Tryd.func38, Tryd.ntmps38
    go_wp2
    go_ret
    exact ⟨rfl, rfl⟩
  · have hf : foldR r = r := by unfold foldR; rw [if_neg (by omega), if_neg (by omega)]
    rw [hf]
    clear hf
    have t0 : decide ((65 : Int) ≤ r) = true := by simp; omega
    have t1 : decide (r ≤ 90) = false := by simp; omega
    have t2 : decide ((192 : Int) ≤ r) = true := by simp; omega
    have t3 : decide (r ≤ 222) = false := by simp; omega
    have t4 : decide (r = 215) = false := by simp; omega
    have t5 : decide ((913 : Int) ≤ r) = true := by simp; omega
    have t6 : decide (r ≤ 937) = false := by simp; omega
    have t7 : decide (r = 930) = false := by simp; omega
    have t8 : decide ((1040 : Int) ≤ r) = false := by simp; omega
    have t9 : decide (r ≤ 1071) = true := by simp; omega
    have t10 : decide ((1024 : Int) ≤ r) = false := by simp; omega
    have t11 : decide (r ≤ 1039) = true := by simp; omega
    have e32 := E32.out
    have e80 := E80.out
    go_enter Tryd.func38, Tryd.ntmps38
    go_wp2
    go_ret
    exact ⟨rfl, rfl⟩
  · have hf : foldR r = r + 80 := by unfold foldR; rw [if_neg (by omega), if_pos (by omega)]
    rw [hf]
    clear hf
    have t0 : decide ((65 : Int) ≤ r) = true := by simp; omega
    have t1 : decide (r ≤ 90) = false := by simp; omega
    have t2 : decide ((192 : Int) ≤ r) = true := by simp; omega
    have t3 : decide (r ≤ 222) = false := by simp; omega
    have t4 : decide (r = 215) = false := by simp; omega
    have t5 : decide ((913 : Int) ≤ r) = true := by simp; omega
    have t6 : decide (r ≤ 937) = false := by simp; omega
    have t7 : decide (r = 930) = false := by simp; omega
    have t8 : decide ((1040 : Int) ≤ r) = false := by simp; omega
    have t9 : decide (r ≤ 1071) = true := by simp; omega
    have t10 : decide ((1024 : Int) ≤ r) = true := by simp; omega
    have t11 : decide (r ≤ 1039) = true := by simp; omega
    have e32 := E32.out
    have e80 := E80.out
    go_enter Tryd.func38, Tryd.ntmps38
    go_wp2
    go_ret
    exact ⟨rfl, rfl⟩
  · have hf : foldR r = r + 32 := by unfold foldR; rw [if_pos (by omega)]
    rw [hf]
    clear hf
    have t0 : decide ((65 : Int) ≤ r) = true := by simp; omega
    have t1 : decide (r ≤ 90) = false := by simp; omega
    have t2 : decide ((192 : Int) ≤ r) = true := by simp; omega
    have t3 : decide (r ≤ 222) = false := by simp; omega
    have t4 : decide (r = 215) = false := by simp; omega
    have t5 : decide ((913 : Int) ≤ r) = true := by simp; omega
    have t6 : decide (r ≤ 937) = false := by simp; omega
    have t7 : decide (r = 930) = false := by simp; omega
    have t8 : decide ((1040 : Int) ≤ r) = true := by simp; omega
    have t9 : decide (r ≤ 1071) = true := by simp; omega
    have t10 : decide ((1024 : Int) ≤ r) = true := by simp; omega
    have t11 : decide (r ≤ 1039) = false := by simp; omega
    have e32 := E32.out
    have e80 := E80.out
    go_enter Tryd.func38, Tryd.ntmps38
    go_wp2
    go_ret
    exact ⟨rfl, rfl⟩
  · have hf : foldR r = r := by unfold foldR; rw [if_neg (by omega), if_neg (by omega)]
    rw [hf]
    clear hf
    have t0 : decide ((65 : Int) ≤ r) = true := by simp; omega
    have t1 : decide (r ≤ 90) = false := by simp; omega
    have t2 : decide ((192 : Int) ≤ r) = true := by simp; omega
    have t3 : decide (r ≤ 222) = false := by simp; omega
    have t4 : decide (r = 215) = false := by simp; omega
    have t5 : decide ((913 : Int) ≤ r) = true := by simp; omega
    have t6 : decide (r ≤ 937) = false := by simp; omega
    have t7 : decide (r = 930) = false := by simp; omega
    have t8 : decide ((1040 : Int) ≤ r) = true := by simp; omega
    have t9 : decide (r ≤ 1071) = false := by simp; omega
    have t10 : decide ((1024 : Int) ≤ r) = true := by simp; omega
    have t11 : decide (r ≤ 1039) = false := by simp; omega
    have e32 := E32.out
    have e80 := E80.out
    go_enter Tryd.func38, Tryd.ntmps38
    go_wp2
    go_ret
    exact ⟨rfl, rfl⟩
theorem ref_fold_rune (r : Int) (h0 : 0 ≤ r) (h1 : r ≤ 1114111) (w : World) : Calls Tryd.prog 31 #[.int .i64 r] w fun e w' => e = .returned (.int .i64 (foldR r)) ∧ w = w' := by
  have hcs : (0 ≤ r ∧ r ≤ 64) ∨ (65 ≤ r ∧ r ≤ 90) ∨ (91 ≤ r ∧ r ≤ 191) ∨ (192 ≤ r ∧ r ≤ 214) ∨ (215 ≤ r ∧ r ≤ 215) ∨ (216 ≤ r ∧ r ≤ 222) ∨ (223 ≤ r ∧ r ≤ 912) ∨ (913 ≤ r ∧ r ≤ 929) ∨ (930 ≤ r ∧ r ≤ 930) ∨ (931 ≤ r ∧ r ≤ 937) ∨ (938 ≤ r ∧ r ≤ 1023) ∨ (1024 ≤ r ∧ r ≤ 1039) ∨ (1040 ≤ r ∧ r ≤ 1071) ∨ (1072 ≤ r ∧ r ≤ 1114111) := by omega
  have e32 : IntKind.i64.wrap (r + 32) = r + 32 := IntWalk.i64_in _ (by omega)
  have e80 : IntKind.i64.wrap (r + 80) = r + 80 := IntWalk.i64_in _ (by omega)
  have E32 := Lib.hid e32
  have E80 := Lib.hid e80
  clear e32 e80
  rcases hcs with ⟨a, b⟩ | ⟨a, b⟩ | ⟨a, b⟩ | ⟨a, b⟩ | ⟨a, b⟩ | ⟨a, b⟩ | ⟨a, b⟩ | ⟨a, b⟩ | ⟨a, b⟩ | ⟨a, b⟩ | ⟨a, b⟩ | ⟨a, b⟩ | ⟨a, b⟩ | ⟨a, b⟩
  · have hf : foldR r = r := by unfold foldR; rw [if_neg (by omega), if_neg (by omega)]
    rw [hf]
    clear hf
    have t0 : decide ((65 : Int) ≤ r) = false := by simp; omega
    have t1 : decide (r ≤ 90) = true := by simp; omega
    have t2 : decide ((192 : Int) ≤ r) = false := by simp; omega
    have t3 : decide (r ≤ 222) = true := by simp; omega
    have t4 : decide (r = 215) = false := by simp; omega
    have t5 : decide ((913 : Int) ≤ r) = false := by simp; omega
    have t6 : decide (r ≤ 937) = true := by simp; omega
    have t7 : decide (r = 930) = false := by simp; omega
    have t8 : decide ((1040 : Int) ≤ r) = false := by simp; omega
    have t9 : decide (r ≤ 1071) = true := by simp; omega
    have t10 : decide ((1024 : Int) ≤ r) = false := by simp; omega
    have t11 : decide (r ≤ 1039) = true := by simp; omega
    have e32 := E32.out
    have e80 := E80.out
    go_enter Tryd.func31, Tryd.ntmps31
    go_wp2
    go_ret
    exact ⟨rfl, rfl⟩
  · have hf : foldR r = r + 32 := by unfold foldR; rw [if_pos (by omega)]
    rw [hf]
    clear hf
    have t0 : decide ((65 : Int) ≤ r) = true := by simp; omega
    have t1 : decide (r ≤ 90) = true := by simp; omega
    have t2 : decide ((192 : Int) ≤ r) = false := by simp; omega
    have t3 : decide (r ≤ 222) = true := by simp; omega
    have t4 : decide (r = 215) = false := by simp; omega
    have t5 : decide ((913 : Int) ≤ r) = false := by simp; omega
    have t6 : decide (r ≤ 937) = true := by simp; omega
    have t7 : decide (r = 930) = false := by simp; omega
    have t8 : decide ((1040 : Int) ≤ r) = false := by simp; omega
    have t9 : decide (r ≤ 1071) = true := by simp; omega
    have t10 : decide ((1024 : Int) ≤ r) = false := by simp; omega
    have t11 : decide (r ≤ 1039) = true := by simp; omega
    have e32 := E32.out
    have e80 := E80.out
    go_enter Tryd.func31, Tryd.ntmps31
    go_wp2
    go_ret
    exact ⟨rfl, rfl⟩
  · have hf : foldR r = r := by unfold foldR; rw [if_neg (by omega), if_neg (by omega)]
    rw [hf]
    clear hf
    have t0 : decide ((65 : Int) ≤ r) = true := by simp; omega
    have t1 : decide (r ≤ 90) = false := by simp; omega
    have t2 : decide ((192 : Int) ≤ r) = false := by simp; omega
    have t3 : decide (r ≤ 222) = true := by simp; omega
    have t4 : decide (r = 215) = false := by simp; omega
    have t5 : decide ((913 : Int) ≤ r) = false := by simp; omega
    have t6 : decide (r ≤ 937) = true := by simp; omega
    have t7 : decide (r = 930) = false := by simp; omega
    have t8 : decide ((1040 : Int) ≤ r) = false := by simp; omega
    have t9 : decide (r ≤ 1071) = true := by simp; omega
    have t10 : decide ((1024 : Int) ≤ r) = false := by simp; omega
    have t11 : decide (r ≤ 1039) = true := by simp; omega
    have e32 := E32.out
    have e80 := E80.out
    go_enter Tryd.func31, Tryd.ntmps31
    go_wp2
    go_ret
    exact ⟨rfl, rfl⟩
  · have hf : foldR r = r + 32 := by unfold foldR; rw [if_pos (by omega)]
    rw [hf]
    clear hf
    have t0 : decide ((65 : Int) ≤ r) = true := by simp; omega
    have t1 : decide (r ≤ 90) = false := by simp; omega
    have t2 : decide ((192 : Int) ≤ r) = true := by simp; omega
    have t3 : decide (r ≤ 222) = true := by simp; omega
    have t4 : decide (r = 215) = false := by simp; omega
    have t5 : decide ((913 : Int) ≤ r) = false := by simp; omega
    have t6 : decide (r ≤ 937) = true := by simp; omega
    have t7 : decide (r = 930) = false := by simp; omega
    have t8 : decide ((1040 : Int) ≤ r) = false := by simp; omega
    have t9 : decide (r ≤ 1071) = true := by simp; omega
    have t10 : decide ((1024 : Int) ≤ r) = false := by simp; omega
    have t11 : decide (r ≤ 1039) = true := by simp; omega
    have e32 := E32.out
    have e80 := E80.out
    go_enter Tryd.func31, Tryd.ntmps31
    go_wp2
    go_ret
    exact ⟨rfl, rfl⟩
  · have hf : foldR r = r := by unfold foldR; rw [if_neg (by omega), if_neg (by omega)]
    rw [hf]
    clear hf
    obtain rfl : r = 215 := by omega
    clear E32 E80
    go_enter Tryd.func31, Tryd.ntmps31
    go_wp2
    go_ret
    exact ⟨rfl, rfl⟩
  · have hf : foldR r = r + 32 := by unfold foldR; rw [if_pos (by omega)]
    rw [hf]
    clear hf
    have t0 : decide ((65 : Int) ≤ r) = true := by simp; omega
    have t1 : decide (r ≤ 90) = false := by simp; omega
    have t2 : decide ((192 : Int) ≤ r) = true := by simp; omega
    have t3 : decide (r ≤ 222) = true := by simp; omega
    have t4 : decide (r = 215) = false := by simp; omega
    have t5 : decide ((913 : Int) ≤ r) = false := by simp; omega
    have t6 : decide (r ≤ 937) = true := by simp; omega
    have t7 : decide (r = 930) = false := by simp; omega
    have t8 : decide ((1040 : Int) ≤ r) = false := by simp; omega
    have t9 : decide (r ≤ 1071) = true := by simp; omega
    have t10 : decide ((1024 : Int) ≤ r) = false := by simp; omega
    have t11 : decide (r ≤ 1039) = true := by simp; omega
    have e32 := E32.out
    have e80 := E80.out
    go_enter Tryd.func31, Tryd.ntmps31
    go_wp2
    go_ret
    exact ⟨rfl, rfl⟩
  · have hf : foldR r = r := by unfold foldR; rw [if_neg (by omega), if_neg (by omega)]
    rw [hf]
    clear hf
    have t0 : decide ((65 : Int) ≤ r) = true := by simp; omega
    have t1 : decide (r ≤ 90) = false := by simp; omega
    have t2 : decide ((192 : Int) ≤ r) = true := by simp; omega
    have t3 : decide (r ≤ 222) = false := by simp; omega
    have t4 : decide (r = 215) = false := by simp; omega
    have t5 : decide ((913 : Int) ≤ r) = false := by simp; omega
    have t6 : decide (r ≤ 937) = true := by simp; omega
    have t7 : decide (r = 930) = false := by simp; omega
    have t8 : decide ((1040 : Int) ≤ r) = false := by simp; omega
    have t9 : decide (r ≤ 1071) = true := by simp; omega
    have t10 : decide ((1024 : Int) ≤ r) = false := by simp; omega
    have t11 : decide (r ≤ 1039) = true := by simp; omega
    have e32 := E32.out
    have e80 := E80.out
    go_enter Tryd.func31, Tryd.ntmps31
    go_wp2
    go_ret
    exact ⟨rfl, rfl⟩
  · have hf : foldR r = r + 32 := by unfold foldR; rw [if_pos (by omega)]
    rw [hf]
    clear hf
    have t0 : decide ((65 : Int) ≤ r) = true := by simp; omega
    have t1 : decide (r ≤ 90) = false := by simp; omega
    have t2 : decide ((192 : Int) ≤ r) = true := by simp; omega
    have t3 : decide (r ≤ 222) = false := by simp; omega
    have t4 : decide (r = 215) = false := by simp; omega
    have t5 : decide ((913 : Int) ≤ r) = true := by simp; omega
    have t6 : decide (r ≤ 937) = true := by simp; omega
    have t7 : decide (r = 930) = false := by simp; omega
    have t8 : decide ((1040 : Int) ≤ r) = false := by simp; omega
    have t9 : decide (r ≤ 1071) = true := by simp; omega
    have t10 : decide ((1024 : Int) ≤ r) = false := by simp; omega
    have t11 : decide (r ≤ 1039) = true := by simp; omega
    have e32 := E32.out
    have e80 := E80.out
    go_enter Tryd.func31, Tryd.ntmps31
    go_wp2
    go_ret
    exact ⟨rfl, rfl⟩
  · have hf : foldR r = r := by unfold foldR; rw [if_neg (by omega), if_neg (by omega)]
    rw [hf]
    clear hf
    obtain rfl : r = 930 := by omega
    clear E32 E80
    go_enter Tryd.func31, Tryd.ntmps31
    go_wp2
    go_ret
    exact ⟨rfl, rfl⟩
  · have hf : foldR r = r + 32 := by unfold foldR; rw [if_pos (by omega)]
    rw [hf]
    clear hf
    have t0 : decide ((65 : Int) ≤ r) = true := by simp; omega
    have t1 : decide (r ≤ 90) = false := by simp; omega
    have t2 : decide ((192 : Int) ≤ r) = true := by simp; omega
    have t3 : decide (r ≤ 222) = false := by simp; omega
    have t4 : decide (r = 215) = false := by simp; omega
    have t5 : decide ((913 : Int) ≤ r) = true := by simp; omega
    have t6 : decide (r ≤ 937) = true := by simp; omega
    have t7 : decide (r = 930) = false := by simp; omega
    have t8 : decide ((1040 : Int) ≤ r) = false := by simp; omega
    have t9 : decide (r ≤ 1071) = true := by simp; omega
    have t10 : decide ((1024 : Int) ≤ r) = false := by simp; omega
    have t11 : decide (r ≤ 1039) = true := by simp; omega
    have e32 := E32.out
    have e80 := E80.out
    go_enter Tryd.func31, Tryd.ntmps31
    go_wp2
    go_ret
    exact ⟨rfl, rfl⟩
  · have hf : foldR r = r := by unfold foldR; rw [if_neg (by omega), if_neg (by omega)]
    rw [hf]
    clear hf
    have t0 : decide ((65 : Int) ≤ r) = true := by simp; omega
    have t1 : decide (r ≤ 90) = false := by simp; omega
    have t2 : decide ((192 : Int) ≤ r) = true := by simp; omega
    have t3 : decide (r ≤ 222) = false := by simp; omega
    have t4 : decide (r = 215) = false := by simp; omega
    have t5 : decide ((913 : Int) ≤ r) = true := by simp; omega
    have t6 : decide (r ≤ 937) = false := by simp; omega
    have t7 : decide (r = 930) = false := by simp; omega
    have t8 : decide ((1040 : Int) ≤ r) = false := by simp; omega
    have t9 : decide (r ≤ 1071) = true := by simp; omega
    have t10 : decide ((1024 : Int) ≤ r) = false := by simp; omega
    have t11 : decide (r ≤ 1039) = true := by simp; omega
    have e32 := E32.out
    have e80 := E80.out
    go_enter Tryd.func31, Tryd.ntmps31
    go_wp2
    go_ret
    exact ⟨rfl, rfl⟩
  · have hf : foldR r = r + 80 := by unfold foldR; rw [if_neg (by omega), if_pos (by omega)]
    rw [hf]
    clear hf
    have t0 : decide ((65 : Int) ≤ r) = true := by simp; omega
    have t1 : decide (r ≤ 90) = false := by simp; omega
    have t2 : decide ((192 : Int) ≤ r) = true := by simp; omega
    have t3 : decide (r ≤ 222) = false := by simp; omega
    have t4 : decide (r = 215) = false := by simp; omega
    have t5 : decide ((913 : Int) ≤ r) = true := by simp; omega
    have t6 : decide (r ≤ 937) = false := by simp; omega
    have t7 : decide (r = 930) = false := by simp; omega
    have t8 : decide ((1040 : Int) ≤ r) = false := by simp; omega
    have t9 : decide (r ≤ 1071) = true := by simp; omega
    have t10 : decide ((1024 : Int) ≤ r) = true := by simp; omega
    have t11 : decide (r ≤ 1039) = true := by simp; omega
    have e32 := E32.out
    have e80 := E80.out
    go_enter Tryd.func31, Tryd.ntmps31
    go_wp2
    go_ret
    exact ⟨rfl, rfl⟩
  · have hf : foldR r = r + 32 := by unfold foldR; rw [if_pos (by omega)]
    rw [hf]
    clear hf
    have t0 : decide ((65 : Int) ≤ r) = true := by simp; omega
    have t1 : decide (r ≤ 90) = false := by simp; omega
    have t2 : decide ((192 : Int) ≤ r) = true := by simp; omega
    have t3 : decide (r ≤ 222) = false := by simp; omega
    have t4 : decide (r = 215) = false := by simp; omega
    have t5 : decide ((913 : Int) ≤ r) = true := by simp; omega
    have t6 : decide (r ≤ 937) = false := by simp; omega
    have t7 : decide (r = 930) = false := by simp; omega
    have t8 : decide ((1040 : Int) ≤ r) = true := by simp; omega
    have t9 : decide (r ≤ 1071) = true := by simp; omega
    have t10 : decide ((1024 : Int) ≤ r) = true := by simp; omega
    have t11 : decide (r ≤ 1039) = false := by simp; omega
    have e32 := E32.out
    have e80 := E80.out
    go_enter Tryd.func31, Tryd.ntmps31
    go_wp2
    go_ret
    exact ⟨rfl, rfl⟩
  · have hf : foldR r = r := by unfold foldR; rw [if_neg (by omega), if_neg (by omega)]
    rw [hf]
    clear hf
    have t0 : decide ((65 : Int) ≤ r) = true := by simp; omega
    have t1 : decide (r ≤ 90) = false := by simp; omega
    have t2 : decide ((192 : Int) ≤ r) = true := by simp; omega
    have t3 : decide (r ≤ 222) = false := by simp; omega
    have t4 : decide (r = 215) = false := by simp; omega
    have t5 : decide ((913 : Int) ≤ r) = true := by simp; omega
    have t6 : decide (r ≤ 937) = false := by simp; omega
    have t7 : decide (r = 930) = false := by simp; omega
    have t8 : decide ((1040 : Int) ≤ r) = true := by simp; omega
    have t9 : decide (r ≤ 1071) = false := by simp; omega
    have t10 : decide ((1024 : Int) ≤ r) = true := by simp; omega
    have t11 : decide (r ≤ 1039) = false := by simp; omega
    have e32 := E32.out
    have e80 := E80.out
    go_enter Tryd.func31, Tryd.ntmps31
    go_wp2
    go_ret
    exact ⟨rfl, rfl⟩
end Go.Proofs.YtjldmlnohkknpaaDoor
