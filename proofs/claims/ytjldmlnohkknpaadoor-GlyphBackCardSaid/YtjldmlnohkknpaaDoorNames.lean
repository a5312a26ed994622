/- Which runes may stand in a name, in a note: the program's and the reference's. Made by gen_names.py. -/
import Derived.Test.YtjldmlnohkknpaaDoorGlyph3
namespace Go.Proofs.YtjldmlnohkknpaaDoor
open Go.RowKit
set_option maxRecDepth 100000
set_option maxHeartbeats 4000000
/-- May a rune stand in a name? -/
def nameR (r : Int) : Bool := decide ((97 ≤ r ∧ r ≤ 122) ∨ (65 ≤ r ∧ r ≤ 90) ∨ (48 ≤ r ∧ r ≤ 57) ∨ r = 45 ∨ r = 95 ∨ r = 46 ∨ (161 ≤ r ∧ ¬ (8192 ≤ r ∧ r ≤ 8303) ∧ r ≠ 65279 ∧ ¬ (65533 ≤ r ∧ r ≤ 65535)))
/-- In a note? -/
def noteR (r : Int) : Bool := decide (r = 10 ∨ (32 ≤ r ∧ (r < 127 ∨ 159 < r)))
theorem gl_inName (r : Int) (h0 : 0 ≤ r) (h1 : r ≤ 1114111) (w : World) : Calls Tryd.prog 41 #[.int .i32 r] w fun e w' => e = .returned (.bool (nameR r)) ∧ w = w' := by
  have hcs : (0 ≤ r ∧ r ≤ 44) ∨ (45 ≤ r ∧ r ≤ 45) ∨ (46 ≤ r ∧ r ≤ 46) ∨ (47 ≤ r ∧ r ≤ 47) ∨ (48 ≤ r ∧ r ≤ 57) ∨ (58 ≤ r ∧ r ≤ 64) ∨ (65 ≤ r ∧ r ≤ 90) ∨ (91 ≤ r ∧ r ≤ 94) ∨ (95 ≤ r ∧ r ≤ 95) ∨ (96 ≤ r ∧ r ≤ 96) ∨ (97 ≤ r ∧ r ≤ 122) ∨ (123 ≤ r ∧ r ≤ 160) ∨ (161 ≤ r ∧ r ≤ 8191) ∨ (8192 ≤ r ∧ r ≤ 8303) ∨ (8304 ≤ r ∧ r ≤ 65278) ∨ (65279 ≤ r ∧ r ≤ 65279) ∨ (65280 ≤ r ∧ r ≤ 65532) ∨ (65533 ≤ r ∧ r ≤ 65535) ∨ (65536 ≤ r ∧ r ≤ 1114111) := by omega
  rcases hcs with ⟨a, b⟩ | ⟨a, b⟩ | ⟨a, b⟩ | ⟨a, b⟩ | ⟨a, b⟩ | ⟨a, b⟩ | ⟨a, b⟩ | ⟨a, b⟩ | ⟨a, b⟩ | ⟨a, b⟩ | ⟨a, b⟩ | ⟨a, b⟩ | ⟨a, b⟩ | ⟨a, b⟩ | ⟨a, b⟩ | ⟨a, b⟩ | ⟨a, b⟩ | ⟨a, b⟩ | ⟨a, b⟩
  · have hf : nameR r = false := by unfold nameR; exact decide_eq_false (by omega)
    rw [hf]
    clear hf
    have t0 : decide ((97 : Int) ≤ r) = false := by simp; omega
    have t1 : decide (r ≤ 122) = true := by simp; omega
    have t2 : decide ((65 : Int) ≤ r) = false := by simp; omega
    have t3 : decide (r ≤ 90) = true := by simp; omega
    have t4 : decide ((48 : Int) ≤ r) = false := by simp; omega
    have t5 : decide (r ≤ 57) = true := by simp; omega
    have t6 : decide (r = 45) = false := by simp; omega
    have u6 : (r == 45) = false := by simp; omega
    have t7 : decide (r = 95) = false := by simp; omega
    have u7 : (r == 95) = false := by simp; omega
    have t8 : decide (r = 46) = false := by simp; omega
    have u8 : (r == 46) = false := by simp; omega
    have t9 : decide ((8192 : Int) ≤ r) = false := by simp; omega
    have t10 : decide (r ≤ 8303) = true := by simp; omega
    have t11 : decide (r = 65279) = false := by simp; omega
    have u11 : (r == 65279) = false := by simp; omega
    have t12 : decide ((65533 : Int) ≤ r) = false := by simp; omega
    have t13 : decide (r ≤ 65535) = true := by simp; omega
    have t14 : decide ((161 : Int) ≤ r) = false := by simp; omega
    go_enter Tryd.func41, Tryd.ntmps41
    go_wp2
    go_ret
    exact ⟨rfl, rfl⟩
  · have hf : nameR r = true := by unfold nameR; exact decide_eq_true (by omega)
    rw [hf]
    clear hf
    obtain rfl : r = 45 := by omega
    go_enter Tryd.func41, Tryd.ntmps41
    go_wp2
    go_ret
    exact ⟨rfl, rfl⟩
  · have hf : nameR r = true := by unfold nameR; exact decide_eq_true (by omega)
    rw [hf]
    clear hf
    obtain rfl : r = 46 := by omega
    go_enter Tryd.func41, Tryd.ntmps41
    go_wp2
    go_ret
    exact ⟨rfl, rfl⟩
  · have hf : nameR r = false := by unfold nameR; exact decide_eq_false (by omega)
    rw [hf]
    clear hf
    obtain rfl : r = 47 := by omega
    go_enter Tryd.func41, Tryd.ntmps41
    go_wp2
    go_ret
    exact ⟨rfl, rfl⟩
  · have hf : nameR r = true := by unfold nameR; exact decide_eq_true (by omega)
    rw [hf]
    clear hf
    have t0 : decide ((97 : Int) ≤ r) = false := by simp; omega
    have t1 : decide (r ≤ 122) = true := by simp; omega
    have t2 : decide ((65 : Int) ≤ r) = false := by simp; omega
    have t3 : decide (r ≤ 90) = true := by simp; omega
    have t4 : decide ((48 : Int) ≤ r) = true := by simp; omega
    have t5 : decide (r ≤ 57) = true := by simp; omega
    have t6 : decide (r = 45) = false := by simp; omega
    have u6 : (r == 45) = false := by simp; omega
    have t7 : decide (r = 95) = false := by simp; omega
    have u7 : (r == 95) = false := by simp; omega
    have t8 : decide (r = 46) = false := by simp; omega
    have u8 : (r == 46) = false := by simp; omega
    have t9 : decide ((8192 : Int) ≤ r) = false := by simp; omega
    have t10 : decide (r ≤ 8303) = true := by simp; omega
    have t11 : decide (r = 65279) = false := by simp; omega
    have u11 : (r == 65279) = false := by simp; omega
    have t12 : decide ((65533 : Int) ≤ r) = false := by simp; omega
    have t13 : decide (r ≤ 65535) = true := by simp; omega
    have t14 : decide ((161 : Int) ≤ r) = false := by simp; omega
    go_enter Tryd.func41, Tryd.ntmps41
    go_wp2
    go_ret
    exact ⟨rfl, rfl⟩
  · have hf : nameR r = false := by unfold nameR; exact decide_eq_false (by omega)
    rw [hf]
    clear hf
    have t0 : decide ((97 : Int) ≤ r) = false := by simp; omega
    have t1 : decide (r ≤ 122) = true := by simp; omega
    have t2 : decide ((65 : Int) ≤ r) = false := by simp; omega
    have t3 : decide (r ≤ 90) = true := by simp; omega
    have t4 : decide ((48 : Int) ≤ r) = true := by simp; omega
    have t5 : decide (r ≤ 57) = false := by simp; omega
    have t6 : decide (r = 45) = false := by simp; omega
    have u6 : (r == 45) = false := by simp; omega
    have t7 : decide (r = 95) = false := by simp; omega
    have u7 : (r == 95) = false := by simp; omega
    have t8 : decide (r = 46) = false := by simp; omega
    have u8 : (r == 46) = false := by simp; omega
    have t9 : decide ((8192 : Int) ≤ r) = false := by simp; omega
    have t10 : decide (r ≤ 8303) = true := by simp; omega
    have t11 : decide (r = 65279) = false := by simp; omega
    have u11 : (r == 65279) = false := by simp; omega
    have t12 : decide ((65533 : Int) ≤ r) = false := by simp; omega
    have t13 : decide (r ≤ 65535) = true := by simp; omega
    have t14 : decide ((161 : Int) ≤ r) = false := by simp; omega
    go_enter Tryd.func41, Tryd.ntmps41
    go_wp2
    go_ret
    exact ⟨rfl, rfl⟩
  · have hf : nameR r = true := by unfold nameR; exact decide_eq_true (by omega)
    rw [hf]
    clear hf
    have t0 : decide ((97 : Int) ≤ r) = false := by simp; omega
    have t1 : decide (r ≤ 122) = true := by simp; omega
    have t2 : decide ((65 : Int) ≤ r) = true := by simp; omega
    have t3 : decide (r ≤ 90) = true := by simp; omega
    have t4 : decide ((48 : Int) ≤ r) = true := by simp; omega
    have t5 : decide (r ≤ 57) = false := by simp; omega
    have t6 : decide (r = 45) = false := by simp; omega
    have u6 : (r == 45) = false := by simp; omega
    have t7 : decide (r = 95) = false := by simp; omega
    have u7 : (r == 95) = false := by simp; omega
    have t8 : decide (r = 46) = false := by simp; omega
    have u8 : (r == 46) = false := by simp; omega
    have t9 : decide ((8192 : Int) ≤ r) = false := by simp; omega
    have t10 : decide (r ≤ 8303) = true := by simp; omega
    have t11 : decide (r = 65279) = false := by simp; omega
    have u11 : (r == 65279) = false := by simp; omega
    have t12 : decide ((65533 : Int) ≤ r) = false := by simp; omega
    have t13 : decide (r ≤ 65535) = true := by simp; omega
    have t14 : decide ((161 : Int) ≤ r) = false := by simp; omega
    go_enter Tryd.func41, Tryd.ntmps41
    go_wp2
    go_ret
    exact ⟨rfl, rfl⟩
  · have hf : nameR r = false := by unfold nameR; exact decide_eq_false (by omega)
    rw [hf]
    clear hf
    have t0 : decide ((97 : Int) ≤ r) = false := by simp; omega
    have t1 : decide (r ≤ 122) = true := by simp; omega
    have t2 : decide ((65 : Int) ≤ r) = true := by simp; omega
    have t3 : decide (r ≤ 90) = false := by simp; omega
    have t4 : decide ((48 : Int) ≤ r) = true := by simp; omega
    have t5 : decide (r ≤ 57) = false := by simp; omega
    have t6 : decide (r = 45) = false := by simp; omega
    have u6 : (r == 45) = false := by simp; omega
    have t7 : decide (r = 95) = false := by simp; omega
    have u7 : (r == 95) = false := by simp; omega
    have t8 : decide (r = 46) = false := by simp; omega
    have u8 : (r == 46) = false := by simp; omega
    have t9 : decide ((8192 : Int) ≤ r) = false := by simp; omega
    have t10 : decide (r ≤ 8303) = true := by simp; omega
    have t11 : decide (r = 65279) = false := by simp; omega
    have u11 : (r == 65279) = false := by simp; omega
    have t12 : decide ((65533 : Int) ≤ r) = false := by simp; omega
    have t13 : decide (r ≤ 65535) = true := by simp; omega
    have t14 : decide ((161 : Int) ≤ r) = false := by simp; omega
    go_enter Tryd.func41, Tryd.ntmps41
    go_wp2
    go_ret
    exact ⟨rfl, rfl⟩
  · have hf : nameR r = true := by unfold nameR; exact decide_eq_true (by omega)
    rw [hf]
    clear hf
    obtain rfl : r = 95 := by omega
    go_enter Tryd.func41, Tryd.ntmps41
    go_wp2
    go_ret
    exact ⟨rfl, rfl⟩
  · have hf : nameR r = false := by unfold nameR; exact decide_eq_false (by omega)
    rw [hf]
    clear hf
    obtain rfl : r = 96 := by omega
    go_enter Tryd.func41, Tryd.ntmps41
    go_wp2
    go_ret
    exact ⟨rfl, rfl⟩
  · have hf : nameR r = true := by unfold nameR; exact decide_eq_true (by omega)
    rw [hf]
    clear hf
    have t0 : decide ((97 : Int) ≤ r) = true := by simp; omega
    have t1 : decide (r ≤ 122) = true := by simp; omega
    have t2 : decide ((65 : Int) ≤ r) = true := by simp; omega
    have t3 : decide (r ≤ 90) = false := by simp; omega
    have t4 : decide ((48 : Int) ≤ r) = true := by simp; omega
    have t5 : decide (r ≤ 57) = false := by simp; omega
    have t6 : decide (r = 45) = false := by simp; omega
    have u6 : (r == 45) = false := by simp; omega
    have t7 : decide (r = 95) = false := by simp; omega
    have u7 : (r == 95) = false := by simp; omega
    have t8 : decide (r = 46) = false := by simp; omega
    have u8 : (r == 46) = false := by simp; omega
    have t9 : decide ((8192 : Int) ≤ r) = false := by simp; omega
    have t10 : decide (r ≤ 8303) = true := by simp; omega
    have t11 : decide (r = 65279) = false := by simp; omega
    have u11 : (r == 65279) = false := by simp; omega
    have t12 : decide ((65533 : Int) ≤ r) = false := by simp; omega
    have t13 : decide (r ≤ 65535) = true := by simp; omega
    have t14 : decide ((161 : Int) ≤ r) = false := by simp; omega
    go_enter Tryd.func41, Tryd.ntmps41
    go_wp2
    go_ret
    exact ⟨rfl, rfl⟩
  · have hf : nameR r = false := by unfold nameR; exact decide_eq_false (by omega)
    rw [hf]
    clear hf
    have t0 : decide ((97 : Int) ≤ r) = true := by simp; omega
    have t1 : decide (r ≤ 122) = false := by simp; omega
    have t2 : decide ((65 : Int) ≤ r) = true := by simp; omega
    have t3 : decide (r ≤ 90) = false := by simp; omega
    have t4 : decide ((48 : Int) ≤ r) = true := by simp; omega
    have t5 : decide (r ≤ 57) = false := by simp; omega
    have t6 : decide (r = 45) = false := by simp; omega
    have u6 : (r == 45) = false := by simp; omega
    have t7 : decide (r = 95) = false := by simp; omega
    have u7 : (r == 95) = false := by simp; omega
    have t8 : decide (r = 46) = false := by simp; omega
    have u8 : (r == 46) = false := by simp; omega
    have t9 : decide ((8192 : Int) ≤ r) = false := by simp; omega
    have t10 : decide (r ≤ 8303) = true := by simp; omega
    have t11 : decide (r = 65279) = false := by simp; omega
    have u11 : (r == 65279) = false := by simp; omega
    have t12 : decide ((65533 : Int) ≤ r) = false := by simp; omega
    have t13 : decide (r ≤ 65535) = true := by simp; omega
    have t14 : decide ((161 : Int) ≤ r) = false := by simp; omega
    go_enter Tryd.func41, Tryd.ntmps41
    go_wp2
    go_ret
    exact ⟨rfl, rfl⟩
  · have hf : nameR r = true := by unfold nameR; exact decide_eq_true (by omega)
    rw [hf]
    clear hf
    have t0 : decide ((97 : Int) ≤ r) = true := by simp; omega
    have t1 : decide (r ≤ 122) = false := by simp; omega
    have t2 : decide ((65 : Int) ≤ r) = true := by simp; omega
    have t3 : decide (r ≤ 90) = false := by simp; omega
    have t4 : decide ((48 : Int) ≤ r) = true := by simp; omega
    have t5 : decide (r ≤ 57) = false := by simp; omega
    have t6 : decide (r = 45) = false := by simp; omega
    have u6 : (r == 45) = false := by simp; omega
    have t7 : decide (r = 95) = false := by simp; omega
    have u7 : (r == 95) = false := by simp; omega
    have t8 : decide (r = 46) = false := by simp; omega
    have u8 : (r == 46) = false := by simp; omega
    have t9 : decide ((8192 : Int) ≤ r) = false := by simp; omega
    have t10 : decide (r ≤ 8303) = true := by simp; omega
    have t11 : decide (r = 65279) = false := by simp; omega
    have u11 : (r == 65279) = false := by simp; omega
    have t12 : decide ((65533 : Int) ≤ r) = false := by simp; omega
    have t13 : decide (r ≤ 65535) = true := by simp; omega
    have t14 : decide ((161 : Int) ≤ r) = true := by simp; omega
    go_enter Tryd.func41, Tryd.ntmps41
    go_wp2
    go_ret
    exact ⟨rfl, rfl⟩
  · have hf : nameR r = false := by unfold nameR; exact decide_eq_false (by omega)
    rw [hf]
    clear hf
    have t0 : decide ((97 : Int) ≤ r) = true := by simp; omega
    have t1 : decide (r ≤ 122) = false := by simp; omega
    have t2 : decide ((65 : Int) ≤ r) = true := by simp; omega
    have t3 : decide (r ≤ 90) = false := by simp; omega
    have t4 : decide ((48 : Int) ≤ r) = true := by simp; omega
    have t5 : decide (r ≤ 57) = false := by simp; omega
    have t6 : decide (r = 45) = false := by simp; omega
    have u6 : (r == 45) = false := by simp; omega
    have t7 : decide (r = 95) = false := by simp; omega
    have u7 : (r == 95) = false := by simp; omega
    have t8 : decide (r = 46) = false := by simp; omega
    have u8 : (r == 46) = false := by simp; omega
    have t9 : decide ((8192 : Int) ≤ r) = true := by simp; omega
    have t10 : decide (r ≤ 8303) = true := by simp; omega
    have t11 : decide (r = 65279) = false := by simp; omega
    have u11 : (r == 65279) = false := by simp; omega
    have t12 : decide ((65533 : Int) ≤ r) = false := by simp; omega
    have t13 : decide (r ≤ 65535) = true := by simp; omega
    have t14 : decide ((161 : Int) ≤ r) = true := by simp; omega
    go_enter Tryd.func41, Tryd.ntmps41
    go_wp2
    go_ret
    exact ⟨rfl, rfl⟩
  · have hf : nameR r = true := by unfold nameR; exact decide_eq_true (by omega)
    rw [hf]
    clear hf
    have t0 : decide ((97 : Int) ≤ r) = true := by simp; omega
    have t1 : decide (r ≤ 122) = false := by simp; omega
    have t2 : decide ((65 : Int) ≤ r) = true := by simp; omega
    have t3 : decide (r ≤ 90) = false := by simp; omega
    have t4 : decide ((48 : Int) ≤ r) = true := by simp; omega
    have t5 : decide (r ≤ 57) = false := by simp; omega
    have t6 : decide (r = 45) = false := by simp; omega
    have u6 : (r == 45) = false := by simp; omega
    have t7 : decide (r = 95) = false := by simp; omega
    have u7 : (r == 95) = false := by simp; omega
    have t8 : decide (r = 46) = false := by simp; omega
    have u8 : (r == 46) = false := by simp; omega
    have t9 : decide ((8192 : Int) ≤ r) = true := by simp; omega
    have t10 : decide (r ≤ 8303) = false := by simp; omega
    have t11 : decide (r = 65279) = false := by simp; omega
    have u11 : (r == 65279) = false := by simp; omega
    have t12 : decide ((65533 : Int) ≤ r) = false := by simp; omega
    have t13 : decide (r ≤ 65535) = true := by simp; omega
    have t14 : decide ((161 : Int) ≤ r) = true := by simp; omega
    go_enter Tryd.func41, Tryd.ntmps41
    go_wp2
    go_ret
    exact ⟨rfl, rfl⟩
  · have hf : nameR r = false := by unfold nameR; exact decide_eq_false (by omega)
    rw [hf]
    clear hf
    obtain rfl : r = 65279 := by omega
    go_enter Tryd.func41, Tryd.ntmps41
    go_wp2
    go_ret
    exact ⟨rfl, rfl⟩
  · have hf : nameR r = true := by unfold nameR; exact decide_eq_true (by omega)
    rw [hf]
    clear hf
    have t0 : decide ((97 : Int) ≤ r) = true := by simp; omega
    have t1 : decide (r ≤ 122) = false := by simp; omega
    have t2 : decide ((65 : Int) ≤ r) = true := by simp; omega
    have t3 : decide (r ≤ 90) = false := by simp; omega
    have t4 : decide ((48 : Int) ≤ r) = true := by simp; omega
    have t5 : decide (r ≤ 57) = false := by simp; omega
    have t6 : decide (r = 45) = false := by simp; omega
    have u6 : (r == 45) = false := by simp; omega
    have t7 : decide (r = 95) = false := by simp; omega
    have u7 : (r == 95) = false := by simp; omega
    have t8 : decide (r = 46) = false := by simp; omega
    have u8 : (r == 46) = false := by simp; omega
    have t9 : decide ((8192 : Int) ≤ r) = true := by simp; omega
    have t10 : decide (r ≤ 8303) = false := by simp; omega
    have t11 : decide (r = 65279) = false := by simp; omega
    have u11 : (r == 65279) = false := by simp; omega
    have t12 : decide ((65533 : Int) ≤ r) = false := by simp; omega
    have t13 : decide (r ≤ 65535) = true := by simp; omega
    have t14 : decide ((161 : Int) ≤ r) = true := by simp; omega
    go_enter Tryd.func41, Tryd.ntmps41
    go_wp2
    go_ret
    exact ⟨rfl, rfl⟩
  · have hf : nameR r = false := by unfold nameR; exact decide_eq_false (by omega)
    rw [hf]
    clear hf
    have t0 : decide ((97 : Int) ≤ r) = true := by simp; omega
    have t1 : decide (r ≤ 122) = false := by simp; omega
    have t2 : decide ((65 : Int) ≤ r) = true := by simp; omega
    have t3 : decide (r ≤ 90) = false := by simp; omega
    have t4 : decide ((48 : Int) ≤ r) = true := by simp; omega
    have t5 : decide (r ≤ 57) = false := by simp; omega
    have t6 : decide (r = 45) = false := by simp; omega
    have u6 : (r == 45) = false := by simp; omega
    have t7 : decide (r = 95) = false := by simp; omega
    have u7 : (r == 95) = false := by simp; omega
    have t8 : decide (r = 46) = false := by simp; omega
    have u8 : (r == 46) = false := by simp; omega
    have t9 : decide ((8192 : Int) ≤ r) = true := by simp; omega
    have t10 : decide (r ≤ 8303) = false := by simp; omega
    have t11 : decide (r = 65279) = false := by simp; omega
    have u11 : (r == 65279) = false := by simp; omega
    have t12 : decide ((65533 : Int) ≤ r) = true := by simp; omega
    have t13 : decide (r ≤ 65535) = true := by simp; omega
    have t14 : decide ((161 : Int) ≤ r) = true := by simp; omega
    go_enter Tryd.func41, Tryd.ntmps41
    go_wp2
    go_ret
    exact ⟨rfl, rfl⟩
  · have hf : nameR r = true := by unfold nameR; exact decide_eq_true (by omega)
    rw [hf]
    clear hf
    have t0 : decide ((97 : Int) ≤ r) = true := by simp; omega
    have t1 : decide (r ≤ 122) = false := by simp; omega
    have t2 : decide ((65 : Int) ≤ r) = true := by simp; omega
    have t3 : decide (r ≤ 90) = false := by simp; omega
    have t4 : decide ((48 : Int) ≤ r) = true := by simp; omega
    have t5 : decide (r ≤ 57) = false := by simp; omega
    have t6 : decide (r = 45) = false := by simp; omega
    have u6 : (r == 45) = false := by simp; omega
    have t7 : decide (r = 95) = false := by simp; omega
    have u7 : (r == 95) = false := by simp; omega
    have t8 : decide (r = 46) = false := by simp; omega
    have u8 : (r == 46) = false := by simp; omega
    have t9 : decide ((8192 : Int) ≤ r) = true := by simp; omega
    have t10 : decide (r ≤ 8303) = false := by simp; omega
    have t11 : decide (r = 65279) = false := by simp; omega
    have u11 : (r == 65279) = false := by simp; omega
    have t12 : decide ((65533 : Int) ≤ r) = true := by simp; omega
    have t13 : decide (r ≤ 65535) = false := by simp; omega
    have t14 : decide ((161 : Int) ≤ r) = true := by simp; omega
    go_enter Tryd.func41, Tryd.ntmps41
    go_wp2
    go_ret
    exact ⟨rfl, rfl⟩
theorem gl_inNote (r : Int) (h0 : 0 ≤ r) (h1 : r ≤ 1114111) (w : World) : Calls Tryd.prog 42 #[.int .i32 r] w fun e w' => e = .returned (.bool (noteR r)) ∧ w = w' := by
  have hcs : (0 ≤ r ∧ r ≤ 9) ∨ (10 ≤ r ∧ r ≤ 10) ∨ (11 ≤ r ∧ r ≤ 31) ∨ (32 ≤ r ∧ r ≤ 126) ∨ (127 ≤ r ∧ r ≤ 159) ∨ (160 ≤ r ∧ r ≤ 1114111) := by omega
  rcases hcs with ⟨a, b⟩ | ⟨a, b⟩ | ⟨a, b⟩ | ⟨a, b⟩ | ⟨a, b⟩ | ⟨a, b⟩
  · have hf : noteR r = false := by unfold noteR; exact decide_eq_false (by omega)
    rw [hf]
    clear hf
    have t0 : decide (r = 10) = false := by simp; omega
    have u0 : (r == 10) = false := by simp; omega
    have t1 : decide ((32 : Int) ≤ r) = false := by simp; omega
    have t2 : decide (r < 127) = true := by simp; omega
    have t3 : decide ((159 : Int) < r) = false := by simp; omega
    go_enter Tryd.func42, Tryd.ntmps42
    go_wp2
    go_ret
    exact ⟨rfl, rfl⟩
  · have hf : noteR r = true := by unfold noteR; exact decide_eq_true (by omega)
    rw [hf]
    clear hf
    obtain rfl : r = 10 := by omega
    go_enter Tryd.func42, Tryd.ntmps42
    go_wp2
    go_ret
    exact ⟨rfl, rfl⟩
  · have hf : noteR r = false := by unfold noteR; exact decide_eq_false (by omega)
    rw [hf]
    clear hf
    have t0 : decide (r = 10) = false := by simp; omega
    have u0 : (r == 10) = false := by simp; omega
    have t1 : decide ((32 : Int) ≤ r) = false := by simp; omega
    have t2 : decide (r < 127) = true := by simp; omega
    have t3 : decide ((159 : Int) < r) = false := by simp; omega
    go_enter Tryd.func42, Tryd.ntmps42
    go_wp2
    go_ret
    exact ⟨rfl, rfl⟩
  · have hf : noteR r = true := by unfold noteR; exact decide_eq_true (by omega)
    rw [hf]
    clear hf
    have t0 : decide (r = 10) = false := by simp; omega
    have u0 : (r == 10) = false := by simp; omega
    have t1 : decide ((32 : Int) ≤ r) = true := by simp; omega
    have t2 : decide (r < 127) = true := by simp; omega
    have t3 : decide ((159 : Int) < r) = false := by simp; omega
    go_enter Tryd.func42, Tryd.ntmps42
    go_wp2
    go_ret
    exact ⟨rfl, rfl⟩
  · have hf : noteR r = false := by unfold noteR; exact decide_eq_false (by omega)
    rw [hf]
    clear hf
    have t0 : decide (r = 10) = false := by simp; omega
    have u0 : (r == 10) = false := by simp; omega
    have t1 : decide ((32 : Int) ≤ r) = true := by simp; omega
    have t2 : decide (r < 127) = false := by simp; omega
    have t3 : decide ((159 : Int) < r) = false := by simp; omega
    go_enter Tryd.func42, Tryd.ntmps42
    go_wp2
    go_ret
    exact ⟨rfl, rfl⟩
  · have hf : noteR r = true := by unfold noteR; exact decide_eq_true (by omega)
    rw [hf]
    clear hf
    have t0 : decide (r = 10) = false := by simp; omega
    have u0 : (r == 10) = false := by simp; omega
    have t1 : decide ((32 : Int) ≤ r) = true := by simp; omega
    have t2 : decide (r < 127) = false := by simp; omega
    have t3 : decide ((159 : Int) < r) = true := by simp; omega
    go_enter Tryd.func42, Tryd.ntmps42
    go_wp2
    go_ret
    exact ⟨rfl, rfl⟩
theorem ref_inName (r : Int) (h0 : -1 ≤ r) (h1 : r ≤ 1114111) (w : World) : Calls Tryd.prog 43 #[.int .i64 r] w fun e w' => e = .returned (.bool (nameR r)) ∧ w = w' := by
  have hcs : (-1 ≤ r ∧ r ≤ -1) ∨ (0 ≤ r ∧ r ≤ 44) ∨ (45 ≤ r ∧ r ≤ 45) ∨ (46 ≤ r ∧ r ≤ 46) ∨ (47 ≤ r ∧ r ≤ 47) ∨ (48 ≤ r ∧ r ≤ 57) ∨ (58 ≤ r ∧ r ≤ 64) ∨ (65 ≤ r ∧ r ≤ 90) ∨ (91 ≤ r ∧ r ≤ 94) ∨ (95 ≤ r ∧ r ≤ 95) ∨ (96 ≤ r ∧ r ≤ 96) ∨ (97 ≤ r ∧ r ≤ 122) ∨ (123 ≤ r ∧ r ≤ 160) ∨ (161 ≤ r ∧ r ≤ 8191) ∨ (8192 ≤ r ∧ r ≤ 8303) ∨ (8304 ≤ r ∧ r ≤ 65278) ∨ (65279 ≤ r ∧ r ≤ 65279) ∨ (65280 ≤ r ∧ r ≤ 65532) ∨ (65533 ≤ r ∧ r ≤ 65535) ∨ (65536 ≤ r ∧ r ≤ 1114111) := by omega
  rcases hcs with ⟨a, b⟩ | ⟨a, b⟩ | ⟨a, b⟩ | ⟨a, b⟩ | ⟨a, b⟩ | ⟨a, b⟩ | ⟨a, b⟩ | ⟨a, b⟩ | ⟨a, b⟩ | ⟨a, b⟩ | ⟨a, b⟩ | ⟨a, b⟩ | ⟨a, b⟩ | ⟨a, b⟩ | ⟨a, b⟩ | ⟨a, b⟩ | ⟨a, b⟩ | ⟨a, b⟩ | ⟨a, b⟩ | ⟨a, b⟩
  · have hf : nameR r = false := by unfold nameR; exact decide_eq_false (by omega)
    rw [hf]
    clear hf
    obtain rfl : r = -1 := by omega
    go_enter Tryd.func43, Tryd.ntmps43
    go_wp2
    go_ret
    exact ⟨rfl, rfl⟩
  · have hf : nameR r = false := by unfold nameR; exact decide_eq_false (by omega)
    rw [hf]
    clear hf
    have t0 : decide ((97 : Int) ≤ r) = false := by simp; omega
    have t1 : decide (r ≤ 122) = true := by simp; omega
    have t2 : decide ((65 : Int) ≤ r) = false := by simp; omega
    have t3 : decide (r ≤ 90) = true := by simp; omega
    have t4 : decide ((48 : Int) ≤ r) = false := by simp; omega
    have t5 : decide (r ≤ 57) = true := by simp; omega
    have t6 : decide (r = 45) = false := by simp; omega
    have u6 : (r == 45) = false := by simp; omega
    have t7 : decide (r = 95) = false := by simp; omega
    have u7 : (r == 95) = false := by simp; omega
    have t8 : decide (r = 46) = false := by simp; omega
    have u8 : (r == 46) = false := by simp; omega
    have t9 : decide (r < 161) = true := by simp; omega
    have t10 : decide ((8192 : Int) ≤ r) = false := by simp; omega
    have t11 : decide (r ≤ 8303) = true := by simp; omega
    have t12 : decide (r = 65279) = false := by simp; omega
    have u12 : (r == 65279) = false := by simp; omega
    have t13 : decide ((65533 : Int) ≤ r) = false := by simp; omega
    have t14 : decide (r ≤ 65535) = true := by simp; omega
    go_enter Tryd.func43, Tryd.ntmps43
    go_wp2
    go_ret
    exact ⟨rfl, rfl⟩
  · have hf : nameR r = true := by unfold nameR; exact decide_eq_true (by omega)
    rw [hf]
    clear hf
    obtain rfl : r = 45 := by omega
    go_enter Tryd.func43, Tryd.ntmps43
    go_wp2
    go_ret
    exact ⟨rfl, rfl⟩
  · have hf : nameR r = true := by unfold nameR; exact decide_eq_true (by omega)
    rw [hf]
    clear hf
    obtain rfl : r = 46 := by omega
    go_enter Tryd.func43, Tryd.ntmps43
    go_wp2
    go_ret
    exact ⟨rfl, rfl⟩
  · have hf : nameR r = false := by unfold nameR; exact decide_eq_false (by omega)
    rw [hf]
    clear hf
    obtain rfl : r = 47 := by omega
    go_enter Tryd.func43, Tryd.ntmps43
    go_wp2
    go_ret
    exact ⟨rfl, rfl⟩
  · have hf : nameR r = true := by unfold nameR; exact decide_eq_true (by omega)
    rw [hf]
    clear hf
    have t0 : decide ((97 : Int) ≤ r) = false := by simp; omega
    have t1 : decide (r ≤ 122) = true := by simp; omega
    have t2 : decide ((65 : Int) ≤ r) = false := by simp; omega
    have t3 : decide (r ≤ 90) = true := by simp; omega
    have t4 : decide ((48 : Int) ≤ r) = true := by simp; omega
    have t5 : decide (r ≤ 57) = true := by simp; omega
    have t6 : decide (r = 45) = false := by simp; omega
    have u6 : (r == 45) = false := by simp; omega
    have t7 : decide (r = 95) = false := by simp; omega
    have u7 : (r == 95) = false := by simp; omega
    have t8 : decide (r = 46) = false := by simp; omega
    have u8 : (r == 46) = false := by simp; omega
    have t9 : decide (r < 161) = true := by simp; omega
    have t10 : decide ((8192 : Int) ≤ r) = false := by simp; omega
    have t11 : decide (r ≤ 8303) = true := by simp; omega
    have t12 : decide (r = 65279) = false := by simp; omega
    have u12 : (r == 65279) = false := by simp; omega
    have t13 : decide ((65533 : Int) ≤ r) = false := by simp; omega
    have t14 : decide (r ≤ 65535) = true := by simp; omega
    go_enter Tryd.func43, Tryd.ntmps43
    go_wp2
    go_ret
    exact ⟨rfl, rfl⟩
  · have hf : nameR r = false := by unfold nameR; exact decide_eq_false (by omega)
    rw [hf]
    clear hf
    have t0 : decide ((97 : Int) ≤ r) = false := by simp; omega
    have t1 : decide (r ≤ 122) = true := by simp; omega
    have t2 : decide ((65 : Int) ≤ r) = false := by simp; omega
    have t3 : decide (r ≤ 90) = true := by simp; omega
    have t4 : decide ((48 : Int) ≤ r) = true := by simp; omega
    have t5 : decide (r ≤ 57) = false := by simp; omega
    have t6 : decide (r = 45) = false := by simp; omega
    have u6 : (r == 45) = false := by simp; omega
    have t7 : decide (r = 95) = false := by simp; omega
    have u7 : (r == 95) = false := by simp; omega
    have t8 : decide (r = 46) = false := by simp; omega
    have u8 : (r == 46) = false := by simp; omega
    have t9 : decide (r < 161) = true := by simp; omega
    have t10 : decide ((8192 : Int) ≤ r) = false := by simp; omega
    have t11 : decide (r ≤ 8303) = true := by simp; omega
    have t12 : decide (r = 65279) = false := by simp; omega
    have u12 : (r == 65279) = false := by simp; omega
    have t13 : decide ((65533 : Int) ≤ r) = false := by simp; omega
    have t14 : decide (r ≤ 65535) = true := by simp; omega
    go_enter Tryd.func43, Tryd.ntmps43
    go_wp2
    go_ret
    exact ⟨rfl, rfl⟩
  · have hf : nameR r = true := by unfold nameR; exact decide_eq_true (by omega)
    rw [hf]
    clear hf
    have t0 : decide ((97 : Int) ≤ r) = false := by simp; omega
    have t1 : decide (r ≤ 122) = true := by simp; omega
    have t2 : decide ((65 : Int) ≤ r) = true := by simp; omega
    have t3 : decide (r ≤ 90) = true := by simp; omega
    have t4 : decide ((48 : Int) ≤ r) = true := by simp; omega
    have t5 : decide (r ≤ 57) = false := by simp; omega
    have t6 : decide (r = 45) = false := by simp; omega
    have u6 : (r == 45) = false := by simp; omega
    have t7 : decide (r = 95) = false := by simp; omega
    have u7 : (r == 95) = false := by simp; omega
    have t8 : decide (r = 46) = false := by simp; omega
    have u8 : (r == 46) = false := by simp; omega
    have t9 : decide (r < 161) = true := by simp; omega
    have t10 : decide ((8192 : Int) ≤ r) = false := by simp; omega
    have t11 : decide (r ≤ 8303) = true := by simp; omega
    have t12 : decide (r = 65279) = false := by simp; omega
    have u12 : (r == 65279) = false := by simp; omega
    have t13 : decide ((65533 : Int) ≤ r) = false := by simp; omega
    have t14 : decide (r ≤ 65535) = true := by simp; omega
    go_enter Tryd.func43, Tryd.ntmps43
    go_wp2
    go_ret
    exact ⟨rfl, rfl⟩
  · have hf : nameR r = false := by unfold nameR; exact decide_eq_false (by omega)
    rw [hf]
    clear hf
    have t0 : decide ((97 : Int) ≤ r) = false := by simp; omega
    have t1 : decide (r ≤ 122) = true := by simp; omega
    have t2 : decide ((65 : Int) ≤ r) = true := by simp; omega
    have t3 : decide (r ≤ 90) = false := by simp; omega
    have t4 : decide ((48 : Int) ≤ r) = true := by simp; omega
    have t5 : decide (r ≤ 57) = false := by simp; omega
    have t6 : decide (r = 45) = false := by simp; omega
    have u6 : (r == 45) = false := by simp; omega
    have t7 : decide (r = 95) = false := by simp; omega
    have u7 : (r == 95) = false := by simp; omega
    have t8 : decide (r = 46) = false := by simp; omega
    have u8 : (r == 46) = false := by simp; omega
    have t9 : decide (r < 161) = true := by simp; omega
    have t10 : decide ((8192 : Int) ≤ r) = false := by simp; omega
    have t11 : decide (r ≤ 8303) = true := by simp; omega
    have t12 : decide (r = 65279) = false := by simp; omega
    have u12 : (r == 65279) = false := by simp; omega
    have t13 : decide ((65533 : Int) ≤ r) = false := by simp; omega
    have t14 : decide (r ≤ 65535) = true := by simp; omega
    go_enter Tryd.func43, Tryd.ntmps43
    go_wp2
    go_ret
    exact ⟨rfl, rfl⟩
  · have hf : nameR r = true := by unfold nameR; exact decide_eq_true (by omega)
    rw [hf]
    clear hf
    obtain rfl : r = 95 := by omega
    go_enter Tryd.func43, Tryd.ntmps43
    go_wp2
    go_ret
    exact ⟨rfl, rfl⟩
  · have hf : nameR r = false := by unfold nameR; exact decide_eq_false (by omega)
    rw [hf]
    clear hf
    obtain rfl : r = 96 := by omega
    go_enter Tryd.func43, Tryd.ntmps43
    go_wp2
    go_ret
    exact ⟨rfl, rfl⟩
  · have hf : nameR r = true := by unfold nameR; exact decide_eq_true (by omega)
    rw [hf]
    clear hf
    have t0 : decide ((97 : Int) ≤ r) = true := by simp; omega
    have t1 : decide (r ≤ 122) = true := by simp; omega
    have t2 : decide ((65 : Int) ≤ r) = true := by simp; omega
    have t3 : decide (r ≤ 90) = false := by simp; omega
    have t4 : decide ((48 : Int) ≤ r) = true := by simp; omega
    have t5 : decide (r ≤ 57) = false := by simp; omega
    have t6 : decide (r = 45) = false := by simp; omega
    have u6 : (r == 45) = false := by simp; omega
    have t7 : decide (r = 95) = false := by simp; omega
    have u7 : (r == 95) = false := by simp; omega
    have t8 : decide (r = 46) = false := by simp; omega
    have u8 : (r == 46) = false := by simp; omega
    have t9 : decide (r < 161) = true := by simp; omega
    have t10 : decide ((8192 : Int) ≤ r) = false := by simp; omega
    have t11 : decide (r ≤ 8303) = true := by simp; omega
    have t12 : decide (r = 65279) = false := by simp; omega
    have u12 : (r == 65279) = false := by simp; omega
    have t13 : decide ((65533 : Int) ≤ r) = false := by simp; omega
    have t14 : decide (r ≤ 65535) = true := by simp; omega
    go_enter Tryd.func43, Tryd.ntmps43
    go_wp2
    go_ret
    exact ⟨rfl, rfl⟩
  · have hf : nameR r = false := by unfold nameR; exact decide_eq_false (by omega)
    rw [hf]
    clear hf
    have t0 : decide ((97 : Int) ≤ r) = true := by simp; omega
    have t1 : decide (r ≤ 122) = false := by simp; omega
    have t2 : decide ((65 : Int) ≤ r) = true := by simp; omega
    have t3 : decide (r ≤ 90) = false := by simp; omega
    have t4 : decide ((48 : Int) ≤ r) = true := by simp; omega
    have t5 : decide (r ≤ 57) = false := by simp; omega
    have t6 : decide (r = 45) = false := by simp; omega
    have u6 : (r == 45) = false := by simp; omega
    have t7 : decide (r = 95) = false := by simp; omega
    have u7 : (r == 95) = false := by simp; omega
    have t8 : decide (r = 46) = false := by simp; omega
    have u8 : (r == 46) = false := by simp; omega
    have t9 : decide (r < 161) = true := by simp; omega
    have t10 : decide ((8192 : Int) ≤ r) = false := by simp; omega
    have t11 : decide (r ≤ 8303) = true := by simp; omega
    have t12 : decide (r = 65279) = false := by simp; omega
    have u12 : (r == 65279) = false := by simp; omega
    have t13 : decide ((65533 : Int) ≤ r) = false := by simp; omega
    have t14 : decide (r ≤ 65535) = true := by simp; omega
    go_enter Tryd.func43, Tryd.ntmps43
    go_wp2
    go_ret
    exact ⟨rfl, rfl⟩
  · have hf : nameR r = true := by unfold nameR; exact decide_eq_true (by omega)
    rw [hf]
    clear hf
    have t0 : decide ((97 : Int) ≤ r) = true := by simp; omega
    have t1 : decide (r ≤ 122) = false := by simp; omega
    have t2 : decide ((65 : Int) ≤ r) = true := by simp; omega
    have t3 : decide (r ≤ 90) = false := by simp; omega
    have t4 : decide ((48 : Int) ≤ r) = true := by simp; omega
    have t5 : decide (r ≤ 57) = false := by simp; omega
    have t6 : decide (r = 45) = false := by simp; omega
    have u6 : (r == 45) = false := by simp; omega
    have t7 : decide (r = 95) = false := by simp; omega
    have u7 : (r == 95) = false := by simp; omega
    have t8 : decide (r = 46) = false := by simp; omega
    have u8 : (r == 46) = false := by simp; omega
    have t9 : decide (r < 161) = false := by simp; omega
    have t10 : decide ((8192 : Int) ≤ r) = false := by simp; omega
    have t11 : decide (r ≤ 8303) = true := by simp; omega
    have t12 : decide (r = 65279) = false := by simp; omega
    have u12 : (r == 65279) = false := by simp; omega
    have t13 : decide ((65533 : Int) ≤ r) = false := by simp; omega
    have t14 : decide (r ≤ 65535) = true := by simp; omega
    go_enter Tryd.func43, Tryd.ntmps43
    go_wp2
    go_ret
    exact ⟨rfl, rfl⟩
  · have hf : nameR r = false := by unfold nameR; exact decide_eq_false (by omega)
    rw [hf]
    clear hf
    have t0 : decide ((97 : Int) ≤ r) = true := by simp; omega
    have t1 : decide (r ≤ 122) = false := by simp; omega
    have t2 : decide ((65 : Int) ≤ r) = true := by simp; omega
    have t3 : decide (r ≤ 90) = false := by simp; omega
    have t4 : decide ((48 : Int) ≤ r) = true := by simp; omega
    have t5 : decide (r ≤ 57) = false := by simp; omega
    have t6 : decide (r = 45) = false := by simp; omega
    have u6 : (r == 45) = false := by simp; omega
    have t7 : decide (r = 95) = false := by simp; omega
    have u7 : (r == 95) = false := by simp; omega
    have t8 : decide (r = 46) = false := by simp; omega
    have u8 : (r == 46) = false := by simp; omega
    have t9 : decide (r < 161) = false := by simp; omega
    have t10 : decide ((8192 : Int) ≤ r) = true := by simp; omega
    have t11 : decide (r ≤ 8303) = true := by simp; omega
    have t12 : decide (r = 65279) = false := by simp; omega
    have u12 : (r == 65279) = false := by simp; omega
    have t13 : decide ((65533 : Int) ≤ r) = false := by simp; omega
    have t14 : decide (r ≤ 65535) = true := by simp; omega
    go_enter Tryd.func43, Tryd.ntmps43
    go_wp2
    go_ret
    exact ⟨rfl, rfl⟩
  · have hf : nameR r = true := by unfold nameR; exact decide_eq_true (by omega)
    rw [hf]
    clear hf
    have t0 : decide ((97 : Int) ≤ r) = true := by simp; omega
    have t1 : decide (r ≤ 122) = false := by simp; omega
    have t2 : decide ((65 : Int) ≤ r) = true := by simp; omega
    have t3 : decide (r ≤ 90) = false := by simp; omega
    have t4 : decide ((48 : Int) ≤ r) = true := by simp; omega
    have t5 : decide (r ≤ 57) = false := by simp; omega
    have t6 : decide (r = 45) = false := by simp; omega
    have u6 : (r == 45) = false := by simp; omega
    have t7 : decide (r = 95) = false := by simp; omega
    have u7 : (r == 95) = false := by simp; omega
    have t8 : decide (r = 46) = false := by simp; omega
    have u8 : (r == 46) = false := by simp; omega
    have t9 : decide (r < 161) = false := by simp; omega
    have t10 : decide ((8192 : Int) ≤ r) = true := by simp; omega
    have t11 : decide (r ≤ 8303) = false := by simp; omega
    have t12 : decide (r = 65279) = false := by simp; omega
    have u12 : (r == 65279) = false := by simp; omega
    have t13 : decide ((65533 : Int) ≤ r) = false := by simp; omega
    have t14 : decide (r ≤ 65535) = true := by simp; omega
    go_enter Tryd.func43, Tryd.ntmps43
    go_wp2
    go_ret
    exact ⟨rfl, rfl⟩
  · have hf : nameR r = false := by unfold nameR; exact decide_eq_false (by omega)
    rw [hf]
    clear hf
    obtain rfl : r = 65279 := by omega
    go_enter Tryd.func43, Tryd.ntmps43
    go_wp2
    go_ret
    exact ⟨rfl, rfl⟩
  · have hf : nameR r = true := by unfold nameR; exact decide_eq_true (by omega)
    rw [hf]
    clear hf
    have t0 : decide ((97 : Int) ≤ r) = true := by simp; omega
    have t1 : decide (r ≤ 122) = false := by simp; omega
    have t2 : decide ((65 : Int) ≤ r) = true := by simp; omega
    have t3 : decide (r ≤ 90) = false := by simp; omega
    have t4 : decide ((48 : Int) ≤ r) = true := by simp; omega
    have t5 : decide (r ≤ 57) = false := by simp; omega
    have t6 : decide (r = 45) = false := by simp; omega
    have u6 : (r == 45) = false := by simp; omega
    have t7 : decide (r = 95) = false := by simp; omega
    have u7 : (r == 95) = false := by simp; omega
    have t8 : decide (r = 46) = false := by simp; omega
    have u8 : (r == 46) = false := by simp; omega
    have t9 : decide (r < 161) = false := by simp; omega
    have t10 : decide ((8192 : Int) ≤ r) = true := by simp; omega
    have t11 : decide (r ≤ 8303) = false := by simp; omega
    have t12 : decide (r = 65279) = false := by simp; omega
    have u12 : (r == 65279) = false := by simp; omega
    have t13 : decide ((65533 : Int) ≤ r) = false := by simp; omega
    have t14 : decide (r ≤ 65535) = true := by simp; omega
    go_enter Tryd.func43, Tryd.ntmps43
    go_wp2
    go_ret
    exact ⟨rfl, rfl⟩
  · have hf : nameR r = false := by unfold nameR; exact decide_eq_false (by omega)
    rw [hf]
    clear hf
    have t0 : decide ((97 : Int) ≤ r) = true := by simp; omega
    have t1 : decide (r ≤ 122) = false := by simp; omega
    have t2 : decide ((65 : Int) ≤ r) = true := by simp; omega
    have t3 : decide (r ≤ 90) = false := by simp; omega
    have t4 : decide ((48 : Int) ≤ r) = true := by simp; omega
    have t5 : decide (r ≤ 57) = false := by simp; omega
    have t6 : decide (r = 45) = false := by simp; omega
    have u6 : (r == 45) = false := by simp; omega
    have t7 : decide (r = 95) = false := by simp; omega
    have u7 : (r == 95) = false := by simp; omega
    have t8 : decide (r = 46) = false := by simp; omega
    have u8 : (r == 46) = false := by simp; omega
    have t9 : decide (r < 161) = false := by simp; omega
    have t10 : decide ((8192 : Int) ≤ r) = true := by simp; omega
    have t11 : decide (r ≤ 8303) = false := by simp; omega
    have t12 : decide (r = 65279) = false := by simp; omega
    have u12 : (r == 65279) = false := by simp; omega
    have t13 : decide ((65533 : Int) ≤ r) = true := by simp; omega
    have t14 : decide (r ≤ 65535) = true := by simp; omega
    go_enter Tryd.func43, Tryd.ntmps43
    go_wp2
    go_ret
    exact ⟨rfl, rfl⟩
  · have hf : nameR r = true := by unfold nameR; exact decide_eq_true (by omega)
    rw [hf]
    clear hf
    have t0 : decide ((97 : Int) ≤ r) = true := by simp; omega
    have t1 : decide (r ≤ 122) = false := by simp; omega
    have t2 : decide ((65 : Int) ≤ r) = true := by simp; omega
    have t3 : decide (r ≤ 90) = false := by simp; omega
    have t4 : decide ((48 : Int) ≤ r) = true := by simp; omega
    have t5 : decide (r ≤ 57) = false := by simp; omega
    have t6 : decide (r = 45) = false := by simp; omega
    have u6 : (r == 45) = false := by simp; omega
    have t7 : decide (r = 95) = false := by simp; omega
    have u7 : (r == 95) = false := by simp; omega
    have t8 : decide (r = 46) = false := by simp; omega
    have u8 : (r == 46) = false := by simp; omega
    have t9 : decide (r < 161) = false := by simp; omega
    have t10 : decide ((8192 : Int) ≤ r) = true := by simp; omega
    have t11 : decide (r ≤ 8303) = false := by simp; omega
    have t12 : decide (r = 65279) = false := by simp; omega
    have u12 : (r == 65279) = false := by simp; omega
    have t13 : decide ((65533 : Int) ≤ r) = true := by simp; omega
    have t14 : decide (r ≤ 65535) = false := by simp; omega
    go_enter Tryd.func43, Tryd.ntmps43
    go_wp2
    go_ret
    exact ⟨rfl, rfl⟩
end Go.Proofs.YtjldmlnohkknpaaDoor
