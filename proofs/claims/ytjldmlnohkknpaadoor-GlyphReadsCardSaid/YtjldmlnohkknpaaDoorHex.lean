/- A number in hexadecimal digits: the program's and the reference's. -/
import Derived.Test.YtjldmlnohkknpaaDoorFoldT2
namespace Go.Proofs.YtjldmlnohkknpaaDoor
open Go.RowKit
set_option maxRecDepth 100000
set_option maxHeartbeats 4000000
def digs : List UInt8 := [48, 49, 50, 51, 52, 53, 54, 55, 56, 57, 97, 98, 99, 100, 101, 102]
def dig (n : Nat) : UInt8 := digs.getD n 0
/-- Digits ahead of what is there, by at most f rounds. -/
def hexF : Nat → Nat → List UInt8 → Nat → List UInt8
  | 0, _, out, _ => out
  | f + 1, n, out, least => if 0 < n ∨ out.length < least then hexF f (n / 16) (dig (n % 16) :: out) least else out
theorem hexF_stop (f n : Nat) (out : List UInt8) (least : Nat) (h : ¬ (0 < n ∨ out.length < least)) : hexF f n out least = out := by
  cases f with
  | zero => rfl
  | succ f => simp only [hexF, if_neg h]
theorem hexF_step (f n : Nat) (out : List UInt8) (least : Nat) (h : 0 < n ∨ out.length < least) : hexF (f + 1) n out least = hexF f (n / 16) (dig (n % 16) :: out) least := by simp only [hexF, if_pos h]
def hexL (n least : Nat) : List UInt8 := hexF 8 n [] least
theorem dig_slice (n : Nat) (hn : n < 16) : (⟨digs.toArray⟩ : ByteArray).extract n (n + 1) = ⟨[dig n].toArray⟩ := by
  have : ∀ k : Fin 16, (⟨digs.toArray⟩ : ByteArray).extract k.val (k.val + 1) = ⟨[dig k.val].toArray⟩ := by decide
  exact this ⟨n, hn⟩
theorem str_size (l : List UInt8) : (⟨l.toArray⟩ : ByteArray).size = l.length := by simp [ByteArray.size]
theorem and15 (k : Nat) (h : k ≤ 2000000) : bits .and .i32 (k : Int) 15 = ((k % 16 : Nat) : Int) := by
  have := bits_mask .i32 31 (by decide) (fun n a b => IntWalk.i32_in _ (by omega)) 4 (by decide) (k : Int) (by omega) (by omega)
  simpa using this
theorem sl_digs (n : Nat) (hn : n < 16) (W : World) : (Instr.slice 9 (.string ⟨#[48, 49, 50, 51, 52, 53, 54, 55, 56, 57, 97, 98, 99, 100, 101, 102]⟩) (some (.int .i32 (n : Int))) (some (.int .i32 ((n : Int) + 1))) none).run Tryd.prog W = .ok (.string ⟨[dig n].toArray⟩) W := by
  rw [run_slice_string W 9 _ .i32 .i32 (n : Int) ((n : Int) + 1) Tryd.underlying9 (by omega) (by omega) (by show (n : Int) + 1 ≤ 16; omega)]
  congr 2
  have e : ((n : Int) + 1).toNat = n + 1 := by omega
  rw [e, Int.toNat_natCast]
  exact dig_slice n hn
theorem gl_hex (n least : Nat) (hn : n ≤ 2000000) (hl : least ≤ 2) (w : World) : Calls Tryd.prog 33 #[.int .i32 n, .int .i64 least] w fun e w' => e = .returned (.string ⟨(hexL n least).toArray⟩) ∧ w = w' := by
  obtain ⟨T, hT⟩ : ∃ T, hexF 8 n [] least = T := ⟨_, rfl⟩
  unfold hexL
  rw [hT]
  have HT := Lib.hid hT
  clear hT
  go_enter Tryd.func33, Tryd.ntmps33
  go_wp2
  go_loop [0, 5] (fun x o => ∃ (f k : Nat) (out : List UInt8), k ≤ 2000000 ∧ k < 16 ^ f ∧ least ≤ out.length + f ∧ x = .int .i32 k ∧ o = .string ⟨out.toArray⟩ ∧ out.length + f ≤ 8 ∧ hexF f k out least = T) (fun x o => (intOf x).toNat + (least - (match o with | .string s => s.size | _ => 0)))
  case atStart => exact ⟨8, n, [], hn, by omega, by simp; omega, rfl, rfl, by simp, HT.out⟩
  case round =>
    obtain ⟨f, k, out, hk, hkf, hlf, rfl, rfl, hof, hF⟩ := hrel
    have HF := Lib.hid hF
    have HKF := Lib.hid hkf
    clear hF hkf
    have a15 := and15 k hk
    have hm16 : k % 16 < 16 := Nat.mod_lt _ (by decide)
    by_cases hgo : 0 < k ∨ out.length < least
    · obtain ⟨f, rfl⟩ : ∃ g, f = g + 1 := by
        cases f with
        | zero => exfalso; have := HKF.out; simp at this; omega
        | succ g => exact ⟨g, rfl⟩
      have hst := hexF_step f k out least hgo
      have hkd : k / 16 < 16 ^ f := by have := HKF.out; rw [Nat.pow_succ] at this; omega
      have HST := Lib.hid hst
      have HKD := Lib.hid hkd
      clear hst hkd
      rcases Nat.eq_zero_or_pos k with rfl | hk0
      · have tg2 : decide (out.length < least) = true := by simp; omega
        have b15 : bits .and .i32 0 15 = 0 := and15 0 (by omega)
        have hsl := fun W => sl_digs 0 (by decide) W
        simp only [Int.natCast_zero, Int.zero_add] at hsl
        clear a15
        go_wp2
        refine ⟨⟨f, 0, dig 0 :: out, by omega, HKD.out, by simp; omega, rfl, congrArg Value.string (str_add [dig 0] out), by simp; omega, HST.out.symm.trans HF.out⟩, ?_⟩
        show (0 : Int).toNat + (least - ((⟨[dig 0].toArray⟩ : ByteArray) ++ ⟨out.toArray⟩).size) < (0 : Int).toNat + (least - (⟨out.toArray⟩ : ByteArray).size)
        rw [str_add, str_size, str_size]
        simp
        omega
      · have tg : decide (0 < k) = true := by simpa using hk0
        have hsl := fun W => sl_digs (k % 16) hm16 W
        push_cast at hsl
        have e32 : wrap32 (((k % 16 : Nat) : Int) + 1) = ((k % 16 : Nat) : Int) + 1 := IntWalk.wrap32_in _ (by omega)
        go_wp2
        refine ⟨⟨f, k / 16, dig (k % 16) :: out, by omega, HKD.out, by simp; omega, by go_num, congrArg Value.string (str_add [dig (k % 16)] out), by simp; omega, HST.out.symm.trans HF.out⟩, ?_⟩
        have q : k / 16 < k := by omega
        show ((k : Int) / 16).toNat + (least - ((⟨[dig (k % 16)].toArray⟩ : ByteArray) ++ ⟨out.toArray⟩).size) < (k : Int).toNat + (least - (⟨out.toArray⟩ : ByteArray).size)
        rw [str_add, str_size, str_size]
        simp
        omega
    · have hst := hexF_stop f k out least hgo
      have tg1 : decide (0 < k) = false := by simp; omega
      have tg2 : decide (out.length < least) = false := by simp; omega
      obtain rfl : k = 0 := by omega
      have hTo : out = T := hst.symm.trans HF.out
      subst hTo
      clear hst a15
      go_wp2
      go_ret
      exact ⟨rfl, rfl⟩
theorem idx_digs (m : Nat) (hm : m < 16) (W : World) : (Instr.index 9 (.string ⟨#[48, 49, 50, 51, 52, 53, 54, 55, 56, 57, 97, 98, 99, 100, 101, 102]⟩) (.int .i64 (m : Int))).run Tryd.prog W = .ok (.int .u8 (dig m).toNat) W := by
  have hx : ∀ i : Nat, (h : i < 16) → (Instr.index 9 (.string ⟨#[48, 49, 50, 51, 52, 53, 54, 55, 56, 57, 97, 98, 99, 100, 101, 102]⟩) (.int .i64 (i : Int))).run Tryd.prog W = .ok (.int .u8 (dig i).toNat) W := by
    intro i h
    have hc : i = 0 ∨ i = 1 ∨ i = 2 ∨ i = 3 ∨ i = 4 ∨ i = 5 ∨ i = 6 ∨ i = 7 ∨ i = 8 ∨ i = 9 ∨ i = 10 ∨ i = 11 ∨ i = 12 ∨ i = 13 ∨ i = 14 ∨ i = 15 := by omega
    rcases hc with rfl | rfl | rfl | rfl | rfl | rfl | rfl | rfl | rfl | rfl | rfl | rfl | rfl | rfl | rfl | rfl
    all_goals
      rw [run_index_string W 9 _ .i64 _ Tryd.underlying9]
      rfl
  exact hx m hm
theorem conv_dig (d : UInt8) (W : World) : (convert 46 9 (.slice (some ⟨W.heap.size, 0, none⟩) 1 1)).run Tryd.prog (W.alloc (.cells #[.int .u8 d.toNat] 5)) = .ok (.string ⟨[d].toArray⟩) (W.alloc (.cells #[.int .u8 d.toNat] 5)) := by
  have h := conv_new W [(d.toNat : Int)] 1 rfl
  have e : strOfNums [(d.toNat : Int)] = ⟨[d].toArray⟩ := by simp [strOfNums]
  rw [e] at h
  exact h
theorem ref_hex (n least : Nat) (hn : n ≤ 2000000) (hl : least ≤ 2) (w : World) : Calls Tryd.prog 35 #[.int .i64 n, .int .i64 least] w fun e w' => e = .returned (.string ⟨(hexL n least).toArray⟩) ∧ Below w.heap.size w w' := by
  obtain ⟨T, hT⟩ : ∃ T, hexF 8 n [] least = T := ⟨_, rfl⟩
  unfold hexL
  rw [hT]
  have HT := Lib.hid hT
  clear hT
  go_enter Tryd.func35, Tryd.ntmps35
  go_wp2
  go_loopw [0, 6] (fun x o wr => ∃ (f k : Nat) (out : List UInt8), k ≤ 2000000 ∧ k < 16 ^ f ∧ least ≤ out.length + f ∧ x = .int .i64 k ∧ o = .string ⟨out.toArray⟩ ∧ out.length + f ≤ 8 ∧ hexF f k out least = T ∧ Below w.heap.size w wr) (fun x o _ => (intOf x).toNat + (least - (match o with | .string s => s.size | _ => 0)))
  case atStart => exact ⟨8, n, [], hn, by omega, by simp; omega, rfl, rfl, by simp, HT.out, Below.refl _ _⟩
  case round =>
    obtain ⟨f, k, out, hk, hkf, hlf, rfl, rfl, hof, hF, hbw⟩ := hrel
    have HF := Lib.hid hF
    have HKF := Lib.hid hkf
    clear hF hkf
    have hm16 : k % 16 < 16 := Nat.mod_lt _ (by decide)
    by_cases hgo : 0 < k ∨ out.length < least
    · obtain ⟨f, rfl⟩ : ∃ g, f = g + 1 := by
        cases f with
        | zero => exfalso; have := HKF.out; simp at this; omega
        | succ g => exact ⟨g, rfl⟩
      have hst := hexF_step f k out least hgo
      have hkd : k / 16 < 16 ^ f := by have := HKF.out; rw [Nat.pow_succ] at this; omega
      have HST := Lib.hid hst
      have HKD := Lib.hid hkd
      clear hst hkd
      rcases Nat.eq_zero_or_pos k with rfl | hk0
      · have tg2 : decide (out.length < least) = true := by simp; omega
        have hix := fun W => idx_digs 0 (by decide) W
        have hcv := fun W => conv_dig (dig 0) W
        simp only [Int.natCast_zero] at hix
        generalize hdd : dig 0 = d0 at hix hcv
        have HD := Lib.hid hdd
        clear hdd
        go_wp2
        refine ⟨⟨f, 0, d0 :: out, by omega, HKD.out, by simp; omega, rfl, congrArg Value.string (str_add [d0] out), by simp; omega, by rw [← HD.out]; exact HST.out.symm.trans HF.out, hbw.alloc hbw.size _⟩, ?_⟩
        show (0 : Int).toNat + (least - ((⟨[d0].toArray⟩ : ByteArray) ++ ⟨out.toArray⟩).size) < (0 : Int).toNat + (least - (⟨out.toArray⟩ : ByteArray).size)
        rw [str_add, str_size, str_size]
        simp
        omega
      · have tg : decide (0 < k) = true := by simpa using hk0
        have hix := fun W => idx_digs (k % 16) hm16 W
        have hcv := fun W => conv_dig (dig (k % 16)) W
        push_cast at hix
        generalize hdd : dig (k % 16) = d0 at hix hcv
        have HD := Lib.hid hdd
        clear hdd
        go_wp2
        refine ⟨⟨f, k / 16, d0 :: out, by omega, HKD.out, by simp; omega, by go_num, congrArg Value.string (str_add [d0] out), by simp; omega, by rw [← HD.out]; exact HST.out.symm.trans HF.out, hbw.alloc hbw.size _⟩, ?_⟩
        show ((k : Int) / 16).toNat + (least - ((⟨[d0].toArray⟩ : ByteArray) ++ ⟨out.toArray⟩).size) < (k : Int).toNat + (least - (⟨out.toArray⟩ : ByteArray).size)
        rw [str_add, str_size, str_size]
        simp
        omega
    · have hst := hexF_stop f k out least hgo
      have tg1 : decide (0 < k) = false := by simp; omega
      have tg2 : decide (out.length < least) = false := by simp; omega
      obtain rfl : k = 0 := by omega
      have hTo : out = T := hst.symm.trans HF.out
      subst hTo
      clear hst
      go_wp2
      go_ret
      exact ⟨rfl, hbw⟩
end Go.Proofs.YtjldmlnohkknpaaDoor
