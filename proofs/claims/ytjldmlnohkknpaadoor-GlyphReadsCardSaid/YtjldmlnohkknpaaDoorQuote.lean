/- Runes and texts quoted: the program's and the reference's. -/
import Derived.Test.YtjldmlnohkknpaaDoorHex
namespace Go.Proofs.YtjldmlnohkknpaaDoor
open Go.RowKit
set_option maxRecDepth 100000
set_option maxHeartbeats 4000000
/-- A rune, printed. -/
def quoteR (r : Nat) : List UInt8 :=
  if r = 34 ∨ r = 92 then [92, UInt8.ofNat r] else if r = 10 then [92, 110] else if 32 ≤ r ∧ r ≤ 126 then [UInt8.ofNat r] else [92, 117, 123] ++ hexL r 1 ++ [125]
theorem enc_ascii (r : Nat) (h : r < 128) : Utf8.encode (r : Int) = ⟨[UInt8.ofNat r].toArray⟩ := by
  have : ∀ k : Fin 128, Utf8.encode (k.val : Int) = ⟨[UInt8.ofNat k.val].toArray⟩ := by decide
  exact this ⟨r, h⟩
theorem hexF_len : ∀ (f n : Nat) (out : List UInt8) (least : Nat), (hexF f n out least).length ≤ out.length + f
  | 0, _, _, _ => Nat.le_refl _
  | f + 1, n, out, least => by
    unfold hexF
    split
    · have := hexF_len f (n / 16) (dig (n % 16) :: out) least
      simp only [List.length_cons] at this
      omega
    · omega
theorem hexL_len (n least : Nat) : (hexL n least).length ≤ 8 := by
  have := hexF_len 8 n [] least
  show (hexF 8 n [] least).length ≤ 8
  simpa using this
theorem gl_quoted (r : Nat) (hr : r ≤ 1114111) (w : World) : Calls Tryd.prog 34 #[.int .i32 r] w fun e w' => e = .returned (.string ⟨(quoteR r).toArray⟩) ∧ w = w' := by
  have hh := gl_hex r 1 (by omega) (by omega) w
  rw [show ((1 : Nat) : Int) = 1 from rfl] at hh
  unfold quoteR
  clear hr
  by_cases h1 : r = 34 ∨ r = 92
  · rw [if_pos h1]
    rcases h1 with rfl | rfl
    all_goals
      clear hh
      go_enter Tryd.func34, Tryd.ntmps34
      go_wp2
      go_ret
      exact ⟨congrArg (fun x => Ending.returned (Value.string x)) (by decide), rfl⟩
  · rw [if_neg h1]
    have t34' : decide ((r : Int) = 34) = false := by simp; omega
    have t92' : decide ((r : Int) = 92) = false := by simp; omega
    have u34 : ((r : Int) == 34) = false := by simp; omega
    have u92 : ((r : Int) == 92) = false := by simp; omega
    by_cases h2 : r = 10
    · rw [if_pos h2]
      subst h2
      clear hh t34' t92' u34 u92
      go_enter Tryd.func34, Tryd.ntmps34
      go_wp2
      go_ret
      exact ⟨rfl, rfl⟩
    · rw [if_neg h2]
      clear h1
      have t10' : decide ((r : Int) = 10) = false := by simp; omega
      have u10 : ((r : Int) == 10) = false := by simp; omega
      by_cases h3 : 32 ≤ r ∧ r ≤ 126
      · rw [if_pos h3]
        have t32 : decide ((32 : Int) ≤ (r : Int)) = true := by simp; omega
        have t126 : decide ((r : Int) ≤ 126) = true := by simp; omega
        have he := enc_ascii r (by omega)
        have HE := Lib.hid he
        clear he hh h2 h3
        generalize (r : Int) = q at *
        go_enter Tryd.func34, Tryd.ntmps34
        go_wp2
        go_ret
        exact ⟨by rw [← HE.out]; rfl, rfl⟩
      · rw [if_neg h3]
        have t3 : decide ((32 : Int) ≤ (r : Int)) = false ∨ decide ((32 : Int) ≤ (r : Int)) = true ∧ decide ((r : Int) ≤ 126) = false := by simp only [decide_eq_true_eq, decide_eq_false_iff_not]; omega
        clear h2 h3
        have hxl := hexL_len r 1
        generalize hexL r 1 = hx at *
        generalize (r : Int) = q at *
        rcases t3 with t3 | ⟨t3, t4⟩
        all_goals
          go_enter Tryd.func34, Tryd.ntmps34
          go_wp2_with (go_at_call 33; refine hh.mono ?_; rintro e w1 ⟨rfl, rfl⟩)
          go_ret
          exact ⟨congrArg (fun x => Ending.returned (Value.string x)) ((congrArg (· ++ (⟨[125].toArray⟩ : ByteArray)) (str_add [92, 117, 123] hx)).trans (str_add _ [125])), rfl⟩
end Go.Proofs.YtjldmlnohkknpaaDoor
