/- A number's lowest bit turned. -/
import Derived.Test.YtgmhhocpdfdplaaCopyM
import Derived.Laws.Bits64
namespace Go.Proofs.Ytgmhhocpdfdplaa
open Go.RowKit
theorem wrap_i16' (n : Int) : IntKind.i16.wrap n = (n + 32768) % 65536 - 32768 := by
  simp [IntKind.wrap, IntKind.bits, IntKind.signed]
  split <;> omega
theorem xor64_ne (z : Int) : bits .xor .i64 z 1 ≠ z := by
  have e : bits .xor .i64 z 1 = IntKind.i64.wrap ((BitVec.ofInt 64 z ^^^ BitVec.ofInt 64 1).toNat : Int) := rfl
  rw [e, BitVec.toNat_xor]
  have h1 : (BitVec.ofInt 64 1).toNat = 1 := by decide
  have h2 : (BitVec.ofInt 64 z).toNat = (z % 18446744073709551616).toNat := by rw [BitVec.toNat_ofInt]; rfl
  rw [h1, h2]
  obtain ⟨n, hn⟩ : ∃ n, (z % 18446744073709551616).toNat = n := ⟨_, rfl⟩
  rw [hn]
  have h3 : (n ^^^ 1) % 2 = (n + 1) % 2 := by
    have hb : decide ((n ^^^ 1) % 2 = 1) = ((decide (n % 2 = 1)) ^^ (decide (1 % 2 = 1))) := by
      rw [← Nat.testBit_zero, ← Nat.testBit_zero, ← Nat.testBit_zero, Nat.testBit_xor]
    by_cases hn2 : n % 2 = 1
    · rw [decide_eq_true hn2] at hb
      have h4 := of_decide_eq_false (hb.trans rfl)
      omega
    · rw [decide_eq_false hn2] at hb
      have h4 := of_decide_eq_true (hb.trans rfl)
      omega
  obtain ⟨m, hm⟩ : ∃ m, n ^^^ 1 = m := ⟨_, rfl⟩
  rw [hm] at h3 ⊢
  rw [IntKind.wrap_i64]
  omega
theorem xor64_wf (z : Int) : (Lit.int .i64 (bits .xor .i64 z 1)).wf = true := by
  have e : bits .xor .i64 z 1 = IntKind.i64.wrap ((BitVec.ofInt 64 z ^^^ BitVec.ofInt 64 1).toNat : Int) := rfl
  rw [e]
  generalize ((BitVec.ofInt 64 z ^^^ BitVec.ofInt 64 1).toNat : Int) = m
  refine wf64 _ ?_ ?_
  · rw [IntKind.wrap_i64]; omega
  · rw [IntKind.wrap_i64]; omega
theorem xor16_wf (z : Int) : (Lit.int .i16 (bits .xor .i16 z 1)).wf = true := by
  have e : bits .xor .i16 z 1 = IntKind.i16.wrap ((BitVec.ofInt 16 z ^^^ BitVec.ofInt 16 1).toNat : Int) := rfl
  rw [e]
  generalize ((BitVec.ofInt 16 z ^^^ BitVec.ofInt 16 1).toNat : Int) = m
  have h1 : -32768 ≤ IntKind.i16.wrap m := by rw [wrap_i16']; omega
  have h2 : IntKind.i16.wrap m ≤ 32767 := by rw [wrap_i16']; omega
  generalize IntKind.i16.wrap m = y at *
  show (decide (IntKind.i16.min ≤ y) && decide (y ≤ IntKind.i16.max)) = true
  rw [decide_eq_true (show IntKind.i16.min ≤ y from h1), decide_eq_true (show y ≤ IntKind.i16.max from h2)]
  rfl
end Go.Proofs.Ytgmhhocpdfdplaa
