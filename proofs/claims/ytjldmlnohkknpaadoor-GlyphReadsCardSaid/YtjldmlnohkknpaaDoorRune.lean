/- The reference's Rune: the model's own decoding of a rune, -1 where there is none. -/
import Derived.Test.YtjldmlnohkknpaaDoorProg
import Derived.WalkKit
import Derived.Lib.Hide
import Derived.Lib.DecodeN
namespace Go.Proofs.YtjldmlnohkknpaaDoor
open Go.RowKit
set_option maxRecDepth 100000
/-- The rune at a place; -1, if there is no text. -/
def rn (s : ByteArray) (i : Nat) : Int := if Utf8.decode s i = (65533, 1) then -1 else (Utf8.decode s i).1
/-- How many bytes it has. -/
def wd (s : ByteArray) (i : Nat) : Nat := (Utf8.decode s i).2
def bt (s : ByteArray) (i : Nat) : Nat := (s.get! i).toNat
theorem bt_lt (s : ByteArray) (i : Nat) : bt s i < 256 := UInt8.toNat_lt _
theorem bt_get (s : ByteArray) (i : Nat) (h : i < s.size) : (s[i]'h).toNat = bt s i := by
  unfold bt
  congr 1
  show s.data[i] = s.data[i]!
  rw [getElem!_pos s.data i h]
theorem dec1 (n b0 b1 b2 b3 : Nat) (h : 194 ≤ b0 ∧ b0 < 224) (h1 : b1 < 256) : Lib.decodeN n b0 b1 b2 b3 = if 1 < n ∧ 128 ≤ b1 ∧ b1 ≤ 191 then ((b0 - 192) * 64 + (b1 - 128), 2) else (65533, 1) := by
  unfold Lib.decodeN
  repeat' split
  all_goals first | rfl | (exfalso; omega) | (apply Prod.ext <;> simp only <;> omega)
theorem dec2 (n b0 b1 b2 b3 : Nat) (h : 224 ≤ b0 ∧ b0 < 240) (h1 : b1 < 256) (h2 : b2 < 256) : Lib.decodeN n b0 b1 b2 b3 =
    if (2 < n ∧ (128 ≤ b1 ∧ b1 ≤ 191) ∧ (128 ≤ b2 ∧ b2 ≤ 191)) ∧ 2048 ≤ ((b0 - 224) * 64 + (b1 - 128)) * 64 + (b2 - 128) ∧ ¬ (55296 ≤ ((b0 - 224) * 64 + (b1 - 128)) * 64 + (b2 - 128) ∧ ((b0 - 224) * 64 + (b1 - 128)) * 64 + (b2 - 128) ≤ 57343) then (((b0 - 224) * 64 + (b1 - 128)) * 64 + (b2 - 128), 3) else (65533, 1) := by
  unfold Lib.decodeN
  repeat' split
  all_goals first | rfl | (exfalso; omega) | (apply Prod.ext <;> simp only <;> omega)
theorem dec3 (n b0 b1 b2 b3 : Nat) (h : 240 ≤ b0 ∧ b0 < 245) (h1 : b1 < 256) (h2 : b2 < 256) (h3 : b3 < 256) : Lib.decodeN n b0 b1 b2 b3 =
    if (3 < n ∧ (128 ≤ b1 ∧ b1 ≤ 191) ∧ (128 ≤ b2 ∧ b2 ≤ 191) ∧ (128 ≤ b3 ∧ b3 ≤ 191)) ∧ 65536 ≤ (((b0 - 240) * 64 + (b1 - 128)) * 64 + (b2 - 128)) * 64 + (b3 - 128) ∧ (((b0 - 240) * 64 + (b1 - 128)) * 64 + (b2 - 128)) * 64 + (b3 - 128) ≤ 1114111 then ((((b0 - 240) * 64 + (b1 - 128)) * 64 + (b2 - 128)) * 64 + (b3 - 128), 4) else (65533, 1) := by
  unfold Lib.decodeN
  repeat' split
  all_goals first | rfl | (exfalso; omega) | (apply Prod.ext <;> simp only <;> omega)
theorem dec0 (n b0 b1 b2 b3 : Nat) (h : b0 < 128) : Lib.decodeN n b0 b1 b2 b3 = (b0, 1) := by
  unfold Lib.decodeN
  rw [if_pos h]
theorem decX (n b0 b1 b2 b3 : Nat) (hb : b0 < 256) (h : (128 ≤ b0 ∧ b0 < 194) ∨ 245 ≤ b0) : Lib.decodeN n b0 b1 b2 b3 = (65533, 1) := by
  unfold Lib.decodeN
  repeat' split
  all_goals first | rfl | (exfalso; omega)
theorem dec_at (s : ByteArray) (i : Nat) : Utf8.decode s i = Lib.decodeN (s.size - i) (bt s i) (bt s (i + 1)) (bt s (i + 2)) (bt s (i + 3)) := Lib.decode_at s i
/-- What the reference reckons from k more bytes. -/
def rpart (c0 : Int) (s : ByteArray) (i : Nat) : Nat → Int
  | 0 => c0
  | k + 1 => rpart c0 s i k * 64 + bt s (i + (k + 1)) - 128
/-- k more bytes are of the kind that goes on. -/
def goes (s : ByteArray) (i k : Nat) : Prop := ∀ j, j < k → 128 ≤ bt s (i + (j + 1)) ∧ bt s (i + (j + 1)) ≤ 191
theorem goes_succ {s : ByteArray} {i k : Nat} (h : goes s i k) (h1 : 128 ≤ bt s (i + (k + 1)) ∧ bt s (i + (k + 1)) ≤ 191) : goes s i (k + 1) := fun j hj => by
  by_cases e : j = k
  · rw [e]; exact h1
  · exact h j (by omega)
theorem rpart_bd {s : ByteArray} {i : Nat} {c0 : Int} (h0 : 0 ≤ c0 ∧ c0 ≤ 31) : ∀ k, k ≤ 3 → goes s i k → 0 ≤ rpart c0 s i k ∧ rpart c0 s i k ≤ 10000000
  | 0, _, _ => by simp only [rpart]; omega
  | 1, _, h => by have := h 0 (by omega); simp only [rpart]; omega
  | 2, _, h => by have := h 0 (by omega); have := h 1 (by omega); simp only [rpart]; omega
  | 3, _, h => by have := h 0 (by omega); have := h 1 (by omega); have := h 2 (by omega); simp only [rpart]; omega
/-- A lead byte's kind: how many bytes more, what is taken off it, the least rune. -/
def Lead (b0 n : Nat) (base least : Int) : Prop := (194 ≤ b0 ∧ b0 < 224 ∧ n = 1 ∧ base = 192 ∧ least = 128) ∨ (224 ≤ b0 ∧ b0 < 240 ∧ n = 2 ∧ base = 224 ∧ least = 2048) ∨ (240 ≤ b0 ∧ b0 < 245 ∧ n = 3 ∧ base = 240 ∧ least = 65536)
theorem lead_bad {s : ByteArray} {i n : Nat} {base least : Int} (hl : Lead (bt s i) n base least) (h : s.size - i ≤ n ∨ ¬ goes s i n ∨ rpart (bt s i - base) s i n < least ∨ 1114111 < rpart (bt s i - base) s i n ∨ (55296 ≤ rpart (bt s i - base) s i n ∧ rpart (bt s i - base) s i n ≤ 57343)) : Utf8.decode s i = (65533, 1) := by
  have g1 := bt_lt s (i + 1)
  have g2 := bt_lt s (i + 2)
  have g3 := bt_lt s (i + 3)
  rw [dec_at]
  by_cases hg : goes s i n
  · simp only [hg, not_true_eq_false, false_or] at h
    rcases hl with ⟨l1, l2, rfl, rfl, rfl⟩ | ⟨l1, l2, rfl, rfl, rfl⟩ | ⟨l1, l2, rfl, rfl, rfl⟩
    · have a1 := hg 0 (by omega)
      simp only [rpart, Nat.zero_add] at h a1
      rw [dec1 _ _ _ _ _ ⟨l1, l2⟩ g1, if_neg (by omega)]
    · have a1 := hg 0 (by omega)
      have a2 := hg 1 (by omega)
      simp only [rpart, Nat.zero_add, Nat.reduceAdd] at h a1 a2
      rw [dec2 _ _ _ _ _ ⟨l1, l2⟩ g1 g2, if_neg (by omega)]
    · have a1 := hg 0 (by omega)
      have a2 := hg 1 (by omega)
      have a3 := hg 2 (by omega)
      simp only [rpart, Nat.zero_add, Nat.reduceAdd] at h a1 a2 a3
      rw [dec3 _ _ _ _ _ ⟨l1, l2⟩ g1 g2 g3, if_neg (by omega)]
  · rcases hl with ⟨l1, l2, rfl, rfl, rfl⟩ | ⟨l1, l2, rfl, rfl, rfl⟩ | ⟨l1, l2, rfl, rfl, rfl⟩
    · rw [dec1 _ _ _ _ _ ⟨l1, l2⟩ g1, if_neg fun hh => hg fun j hj => by
        obtain rfl : j = 0 := by omega
        simp only [Nat.zero_add]; omega]
    · rw [dec2 _ _ _ _ _ ⟨l1, l2⟩ g1 g2, if_neg fun hh => hg fun j hj => by
        rcases (show j = 0 ∨ j = 1 by omega) with rfl | rfl <;> simp only [Nat.zero_add, Nat.reduceAdd] <;> omega]
    · rw [dec3 _ _ _ _ _ ⟨l1, l2⟩ g1 g2 g3, if_neg fun hh => hg fun j hj => by
        rcases (show j = 0 ∨ j = 1 ∨ j = 2 by omega) with rfl | rfl | rfl <;> simp only [Nat.zero_add, Nat.reduceAdd] <;> omega]
theorem lead_ok {s : ByteArray} {i n : Nat} {base least : Int} (hl : Lead (bt s i) n base least) (h1 : n < s.size - i) (hg : goes s i n) (h2 : least ≤ rpart (bt s i - base) s i n) (h3 : rpart (bt s i - base) s i n ≤ 1114111) (h4 : ¬ (55296 ≤ rpart (bt s i - base) s i n ∧ rpart (bt s i - base) s i n ≤ 57343)) : Utf8.decode s i = ((rpart (bt s i - base) s i n).toNat, n + 1) := by
  have g1 := bt_lt s (i + 1)
  have g2 := bt_lt s (i + 2)
  have g3 := bt_lt s (i + 3)
  rw [dec_at]
  rcases hl with ⟨l1, l2, rfl, rfl, rfl⟩ | ⟨l1, l2, rfl, rfl, rfl⟩ | ⟨l1, l2, rfl, rfl, rfl⟩
  · have a1 := hg 0 (by omega)
    simp only [rpart, Nat.zero_add] at h2 h3 h4 a1 ⊢
    rw [dec1 _ _ _ _ _ ⟨l1, l2⟩ g1, if_pos (by omega)]
    apply Prod.ext <;> simp only <;> omega
  · have a1 := hg 0 (by omega)
    have a2 := hg 1 (by omega)
    simp only [rpart, Nat.zero_add, Nat.reduceAdd] at h2 h3 h4 a1 a2 ⊢
    rw [dec2 _ _ _ _ _ ⟨l1, l2⟩ g1 g2, if_pos (by omega)]
    apply Prod.ext <;> simp only <;> omega
  · have a1 := hg 0 (by omega)
    have a2 := hg 1 (by omega)
    have a3 := hg 2 (by omega)
    simp only [rpart, Nat.zero_add, Nat.reduceAdd] at h2 h3 h4 a1 a2 a3 ⊢
    rw [dec3 _ _ _ _ _ ⟨l1, l2⟩ g1 g2 g3, if_pos (by omega)]
    apply Prod.ext <;> simp only <;> omega
theorem rn_bad {s : ByteArray} {i : Nat} (h : Utf8.decode s i = (65533, 1)) : rn s i = -1 ∧ wd s i = 1 := by
  unfold rn wd
  rw [if_pos h, h]
  exact ⟨rfl, rfl⟩
theorem rn_ok {s : ByteArray} {i : Nat} {r : Nat × Nat} (h : Utf8.decode s i = r) (h1 : r.2 ≠ 1 ∨ r.1 < 65533) : rn s i = r.1 ∧ wd s i = r.2 := by
  unfold rn wd
  rw [h, if_neg (by rintro rfl; simp at h1)]
  exact ⟨rfl, rfl⟩
end Go.Proofs.YtjldmlnohkknpaaDoor
