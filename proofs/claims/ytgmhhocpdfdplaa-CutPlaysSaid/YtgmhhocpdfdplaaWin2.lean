/- Windows of windows; Window's contract at any rectangle. -/
import Derived.Test.YtgmhhocpdfdplaaGB
import Derived.Test.YtgmhhocpdfdplaaBlkEq
namespace Go.Proofs.Ytgmhhocpdfdplaa
open Go.RowKit
set_option maxRecDepth 100000
namespace Pl
theorem win_cons (bs : List (List Int)) (c a b d k : Nat) : win bs c a b d (k + 1) = (bs.drop (a * c + b)).take d ++ win bs c (a + 1) b d k := by
  unfold win
  rw [List.range_succ_eq_map, List.flatMap_cons, List.flatMap_map]
  congr 1
  congr 1
  funext i
  rw [show a + (i + 1) = a + 1 + i by omega]
theorem win_drop (bs : List (List Int)) (c b d : Nat) : ∀ (i a h : Nat), i ≤ h → (∀ j, j < i → (a + j) * c + b + d ≤ bs.length) → (win bs c a b d h).drop (i * d) = win bs c (a + i) b d (h - i)
  | 0, a, h, _, _ => by simp
  | i + 1, a, h, hi, hf => by
    obtain ⟨h, rfl⟩ : ∃ k, h = k + 1 := ⟨h - 1, by omega⟩
    have h0 := hf 0 (by omega)
    have hl : ((bs.drop (a * c + b)).take d).length = d := by rw [Nat.add_zero] at h0; simp; omega
    rw [win_cons, show (i + 1) * d = d + i * d by rw [Nat.add_mul, Nat.one_mul, Nat.add_comm], List.drop_append, hl]
    rw [List.drop_eq_nil_of_le (by omega), List.nil_append, Nat.add_sub_cancel_left]
    rw [win_drop bs c b d i (a + 1) h (by omega) (fun j hj => by have := hf (j + 1) (by omega); rwa [show a + (j + 1) = a + 1 + j by omega] at this)]
    rw [show a + 1 + i = a + (i + 1) by omega, show h + 1 - (i + 1) = h - i by omega]
theorem win_row (bs : List (List Int)) (c a b d h i b2 d2 : Nat) (hi : i < h) (hf : ∀ j, j < h → (a + j) * c + b + d ≤ bs.length) (hb : b2 + d2 ≤ d) :
    ((win bs c a b d h).drop (i * d + b2)).take d2 = (bs.drop ((a + i) * c + (b + b2))).take d2 := by
  rw [← List.drop_drop, win_drop bs c b d i a h (by omega) (fun j hj => hf j (by omega))]
  obtain ⟨k, hk⟩ : ∃ k, h - i = k + 1 := ⟨h - i - 1, by omega⟩
  rw [hk, win_cons]
  have h0 := hf i hi
  have hl : ((bs.drop ((a + i) * c + b)).take d).length = d := by simp; omega
  rw [List.drop_append, List.take_append, List.length_drop, hl, show d2 - (d - b2) = 0 by omega, List.take_zero, List.append_nil, List.drop_take, List.take_take, List.drop_drop, Nat.min_eq_left (by omega), Nat.add_assoc]
theorem win_win (bs : List (List Int)) (c a b d h a2 b2 d2 h2 : Nat) (hf : ∀ j, j < h → (a + j) * c + b + d ≤ bs.length) (ha : a2 + h2 ≤ h) (hb : b2 + d2 ≤ d) :
    win (win bs c a b d h) d a2 b2 d2 h2 = win bs c (a + a2) (b + b2) d2 h2 := by
  unfold win
  rw [List.flatMap_def, List.flatMap_def]
  congr 1
  apply List.map_congr_left
  intro i hi
  have hi := List.mem_range.1 hi
  have := win_row bs c a b d h (a2 + i) b2 d2 (by omega) hf hb
  rw [Nat.add_assoc]
  exact this
/-- What Window answers of a rectangle in a plane of n blocks. -/
instance (c r a b h d : Int) : Decidable (out c r a b h d) := by unfold out; infer_instance
def werr (c r : Int) (n : Nat) (a b h d : Int) : Int := if right c r n = true then (if out c r a b h d then 14 else 0) else 1
theorem right_nat {c r : Int} {n : Nat} (h : right c r n = true) : 1 ≤ c ∧ 1 ≤ r ∧ c ≤ 16384 ∧ r ≤ 16384 ∧ (n : Int) = c * r ∧ n ≤ 16384 := by
  unfold right at h
  simp only [Bool.and_eq_true, beq_iff_eq] at h
  have := sized_ok h.1
  omega
theorem sized_of {c r : Nat} (h1 : 1 ≤ c) (h2 : 1 ≤ r) (h3 : c * r ≤ 16384) : sized c r = 0 := by
  unfold sized
  have h4 : c ≤ c * r := Nat.le_mul_of_pos_right _ h2
  have hq : (16384 : Int) / (c : Int) < (r : Int) ↔ 16384 < (r : Int) * (c : Int) := Int.ediv_lt_iff_lt_mul (by omega)
  have h5 : (r : Int) * (c : Int) ≤ 16384 := by rw [Int.mul_comm]; exact_mod_cast h3
  rw [if_neg (by omega), if_neg]
  rintro (h | h)
  · omega
  · have := hq.1 h
    omega
theorem right_of {c r : Nat} (h1 : 1 ≤ c) (h2 : 1 ≤ r) (h3 : c * r ≤ 16384) : right c r (c * r) = true := by
  unfold right
  rw [sized_of h1 h2 h3]
  simp
theorem not_out {c r a b h d : Int} (hn : ¬ out c r a b h d) : 0 ≤ a ∧ 0 ≤ b ∧ 1 ≤ h ∧ 1 ≤ d ∧ a + h ≤ r ∧ b + d ≤ c := by
  unfold out at hn
  omega
end Pl
/-- What Window yields. -/
structure WinOk (W W' : World) (c r : Int) (bs : List (List Int)) (a b h d : Int) (v : Value) : Prop where
  right : Pl.right c r bs.length = true
  a0 : 0 ≤ a
  b0 : 0 ≤ b
  h1 : 1 ≤ h
  d1 : 1 ≤ d
  ar : a + h ≤ r
  bc : b + d ≤ c
  row : Row W' W.heap.size 57 64 v (h.toNat * d.toNat) (bcells (Pl.win bs c.toNat a.toNat b.toNat d.toNat h.toNat))
theorem plane_window_any (c r : Int) (u : Value) (bs : List (List Int)) (h64 : Right64 bs) (a b h d : Int) (w : World) (hA : Ar w 64 u bs.length (bcells bs)) :
    Calls Try.prog 88 #[.agg #[.int .i64 c, .int .i64 r, u], .agg #[.int .i64 a, .int .i64 b, .int .i64 h, .int .i64 d]] w fun e w' => Below w.heap.size w w' ∧
      (Pl.werr c r bs.length a b h d ≠ 0 → e = .returned (.tuple #[.agg #[.int .i64 0, .int .i64 0, .slice none 0 0], .int .i64 (Pl.werr c r bs.length a b h d)])) ∧
      (Pl.werr c r bs.length a b h d = 0 → ∃ v, e = .returned (.tuple #[.agg #[.int .i64 d, .int .i64 h, v], .int .i64 0]) ∧ WinOk w w' c r bs a b h d v) := by
  obtain ⟨bu, cap, rfl, _, _⟩ := hA.len
  by_cases hr : Pl.right c r bs.length = true
  · by_cases ho : Pl.out c r a b h d
    · have e : Pl.werr c r bs.length a b h d = 14 := by unfold Pl.werr; rw [if_pos hr, if_pos ho]
      rw [e]
      refine (plane_window_no c r bs.length bu cap a b h d 14 (by decide) w (fun W => (plane_within c r bs.length bu cap a b h d hr W).mono fun e w' hh => ⟨hh.1 ho, hh.2.2⟩)).mono ?_
      rintro e w' ⟨rfl, hb⟩
      exact ⟨hb, fun _ => rfl, fun h => by cases h⟩
    · have e : Pl.werr c r bs.length a b h d = 0 := by unfold Pl.werr; rw [if_pos hr, if_neg ho]
      rw [e]
      obtain ⟨k1, k2, k3, k4, k5, k6⟩ := Pl.right_nat hr
      obtain ⟨o1, o2, o3, o4, o5, o6⟩ := Pl.not_out ho
      obtain ⟨c, rfl⟩ : ∃ k : Nat, c = k := ⟨c.toNat, by omega⟩
      obtain ⟨r, rfl⟩ : ∃ k : Nat, r = k := ⟨r.toNat, by omega⟩
      obtain ⟨a, rfl⟩ : ∃ k : Nat, a = k := ⟨a.toNat, by omega⟩
      obtain ⟨b, rfl⟩ : ∃ k : Nat, b = k := ⟨b.toNat, by omega⟩
      obtain ⟨h, rfl⟩ : ∃ k : Nat, h = k := ⟨h.toNat, by omega⟩
      obtain ⟨d, rfl⟩ : ∃ k : Nat, d = k := ⟨d.toNat, by omega⟩
      refine (plane_window c r a b h d _ bs h64 (by exact_mod_cast k5) hr (by omega) (by omega) (by omega) (by omega) w hA).mono ?_
      rintro e w' ⟨v, rfl, hR, hb⟩
      exact ⟨hb, fun h => absurd rfl h, fun _ => ⟨v, rfl, hr, o1, o2, o3, o4, o5, o6, by simpa using hR⟩⟩
  · have e : Pl.werr c r bs.length a b h d = 1 := by unfold Pl.werr; rw [if_neg hr]
    rw [e]
    refine (plane_window_no c r bs.length bu cap a b h d 1 (by decide) w (fun W => plane_within_bad c r bs.length bu cap a b h d (by simpa using hr) W)).mono ?_
    rintro e w' ⟨rfl, hb⟩
    exact ⟨hb, fun _ => rfl, fun h => by cases h⟩
end Go.Proofs.Ytgmhhocpdfdplaa
