/- The reference's Unquote, walked. Made by gen_unq.py. -/
import Derived.Test.YtjldmlnohkknpaaDoorUnquote
import Derived.Test.YtjldmlnohkknpaaDoorFoldT2
import Derived.Test.YtjldmlnohkknpaaDoorHex
namespace Go.Proofs.YtjldmlnohkknpaaDoor
open Go.RowKit
set_option maxRecDepth 100000
set_option maxHeartbeats 40000000
theorem ref_digit (c : Nat) (_hc : c < 256) (w : World) : Calls Tryd.prog 49 #[.int .u8 c] w fun e w' => e = .returned (.int .i64 (dg c)) ∧ w = w' := by
  have hcs : (c < 48) ∨ (48 ≤ c ∧ c ≤ 57) ∨ (58 ≤ c ∧ c < 97) ∨ (97 ≤ c ∧ c ≤ 102) ∨ 103 ≤ c := by omega
  rcases hcs with h | ⟨h, h'⟩ | ⟨h, h'⟩ | ⟨h, h'⟩ | h
  · have hd : dg c = -1 := by unfold dg; rw [if_neg (by omega), if_neg (by omega)]
    have t0 : decide ((48 : Int) ≤ (c : Int)) = false := by simp; omega
    have t1 : decide ((97 : Int) ≤ (c : Int)) = false := by simp; omega
    rw [hd]; clear hd
    go_enter Tryd.func49, Tryd.ntmps49
    go_wp2
    go_ret
    exact ⟨by first | rfl | (show Ending.returned (Value.int .i64 ((c : Int) - 97 + 10)) = _; congr 2; omega), rfl⟩
  · have hd : dg c = (c : Int) - 48 := by unfold dg; rw [if_pos (by omega)]
    have t0 : decide ((48 : Int) ≤ (c : Int)) = true := by simp; omega
    have t1 : decide ((c : Int) ≤ 57) = true := by simp; omega
    have e1 : IntKind.u8.wrap ((c : Int) - 48) = (c : Int) - 48 := IntWalk.u8_in _ (by omega)
    rw [hd]; clear hd
    go_enter Tryd.func49, Tryd.ntmps49
    go_wp2
    go_ret
    exact ⟨by first | rfl | (show Ending.returned (Value.int .i64 ((c : Int) - 97 + 10)) = _; congr 2; omega), rfl⟩
  · have hd : dg c = -1 := by unfold dg; rw [if_neg (by omega), if_neg (by omega)]
    have t0 : decide ((48 : Int) ≤ (c : Int)) = true := by simp; omega
    have t1 : decide ((c : Int) ≤ 57) = false := by simp; omega
    have t2 : decide ((97 : Int) ≤ (c : Int)) = false := by simp; omega
    rw [hd]; clear hd
    go_enter Tryd.func49, Tryd.ntmps49
    go_wp2
    go_ret
    exact ⟨by first | rfl | (show Ending.returned (Value.int .i64 ((c : Int) - 97 + 10)) = _; congr 2; omega), rfl⟩
  · have hd : dg c = (c : Int) - 87 := by unfold dg; rw [if_neg (by omega), if_pos (by omega)]
    have t0 : decide ((48 : Int) ≤ (c : Int)) = true := by simp; omega
    have t1 : decide ((c : Int) ≤ 57) = false := by simp; omega
    have t2 : decide ((97 : Int) ≤ (c : Int)) = true := by simp; omega
    have t3 : decide ((c : Int) ≤ 102) = true := by simp; omega
    have e1 : IntKind.u8.wrap ((c : Int) - 97) = (c : Int) - 97 := IntWalk.u8_in _ (by omega)
    rw [hd]; clear hd
    go_enter Tryd.func49, Tryd.ntmps49
    go_wp2
    go_ret
    exact ⟨by first | rfl | (show Ending.returned (Value.int .i64 ((c : Int) - 97 + 10)) = _; congr 2; omega), rfl⟩
  · have hd : dg c = -1 := by unfold dg; rw [if_neg (by omega), if_neg (by omega)]
    have t0 : decide ((48 : Int) ≤ (c : Int)) = true := by simp; omega
    have t1 : decide ((c : Int) ≤ 57) = false := by simp; omega
    have t2 : decide ((97 : Int) ≤ (c : Int)) = true := by simp; omega
    have t3 : decide ((c : Int) ≤ 102) = false := by simp; omega
    rw [hd]; clear hd
    go_enter Tryd.func49, Tryd.ntmps49
    go_wp2
    go_ret
    exact ⟨by first | rfl | (show Ending.returned (Value.int .i64 ((c : Int) - 97 + 10)) = _; congr 2; omega), rfl⟩
theorem ref_fault (s : ByteArray) (p : Nat) (hp : p ≤ s.size) (w : World) : Calls Tryd.prog 48 #[.string s, .int .i64 p] w fun e w' => e = .returned (.tuple #[.string ⟨#[]⟩, .int .i64 p, .int .i64 (fe s p)]) ∧ w = w' := by
  by_cases h : p < s.size
  · have t : decide ((s.size : Int) ≤ (p : Int)) = false := by simp; omega
    have hf : fe s p = 16 := by unfold fe; rw [if_pos h]
    rw [hf]
    clear hf hp
    go_enter Tryd.func48, Tryd.ntmps48
    go_wp2
    go_ret3
    exact ⟨rfl, rfl⟩
  · obtain rfl : p = s.size := by omega
    have t : decide ((s.size : Int) ≤ (s.size : Int)) = true := by simp
    have hf : fe s s.size = 2 := by unfold fe; rw [if_neg h]
    rw [hf]
    clear hf hp h
    go_enter Tryd.func48, Tryd.ntmps48
    go_wp2
    go_ret3
    exact ⟨rfl, rfl⟩
theorem bt_idx (s : ByteArray) (i : Nat) (h : i < s.size) : (s[i]'h).toNat = bt s i := bt_get s i h
theorem valid_ok {n : Int} (h : Lib.validRune n = true) : RuneOk n := by
  unfold Lib.validRune at h
  have := of_decide_eq_true h
  unfold RuneOk
  omega
theorem valid_bad {n : Int} (h : ¬ Lib.validRune n = true) (h0 : 0 ≤ n) : 1114111 < n ∨ (55296 ≤ n ∧ n ≤ 57343) := by
  unfold Lib.validRune at h
  have h' : ¬ ((0 ≤ n ∧ n < 0xD800) ∨ (0xDFFF < n ∧ n ≤ 0x10FFFF)) := fun hh => h (decide_eq_true hh)
  omega
/-- Of two digits: how many were read, what they come to. -/
def XInv (W : World) (d1 d2 : Int) (nv kv : Value) (wq : World) : Prop := wq = W ∧ ((kv = .int .i64 1 ∧ nv = .int .i64 0) ∨ (kv = .int .i64 2 ∧ nv = .int .i64 d1) ∨ (kv = .int .i64 3 ∧ nv = .int .i64 (d1 * 16 + d2)))
def XInv2 (W : World) (d1 : Int) (nv kv : Value) (wq : World) : Prop := wq = W ∧ ((kv = .int .i64 1 ∧ nv = .int .i64 0) ∨ (kv = .int .i64 2 ∧ nv = .int .i64 d1))
def XInv1 (W : World) (nv kv : Value) (wq : World) : Prop := wq = W ∧ kv = .int .i64 1 ∧ nv = .int .i64 0
/-- Of a rune's number: how many digits were read, where, what they come to. -/
def UInv (s : ByteArray) (F : Nat) (W : World) (iv nv : Value) (wq : World) : Prop := wq = W ∧ ∃ (c j : Nat) (n : Int), iv = .int .i64 j ∧ nv = .int .i64 n ∧ F + c ≤ j ∧ j ≤ F + c ∧ c ≤ 6 ∧ j ≤ s.size ∧ (0 ≤ n ∧ n < 16 ^ c) ∧ ((c = 0 ∧ n = 0) ∨ (1 ≤ c ∧ F < s.size ∧ 0 ≤ dg (bt s F) ∧ scan s (6 - c) j n = scan s 5 (F + 1) (dg (bt s F))))
theorem ref_unquote (s : ByteArray) (hs : s.size ≤ 1000000) (w : World) :
    Calls Tryd.prog 28 #[.string s] w fun e w' => e = .returned (.tuple #[.string ⟨(unquoteL s).1.toArray⟩, .int .i64 (unquoteL s).2.1, .int .i64 (unquoteL s).2.2]) ∧ Below w.heap.size w w' := by
  obtain ⟨T, hT⟩ : ∃ T, unquoteL s = T := ⟨_, rfl⟩
  rw [hT]
  have hft := fun p hp W => ref_fault s p hp W
  by_cases hc : 0 < s.size ∧ bt s 0 = 34
  · obtain ⟨hc1, hc2⟩ := hc
    unfold unquoteL at hT
    rw [if_pos ⟨hc1, hc2⟩] at hT
    have t0 : decide ((s.size : Int) = 0) = false := decide_eq_false (by omega)
    have t0' : ((s.size : Int) == 0) = false := beq_eq_false_iff_ne.2 (by omega)
    have t0n : (s.size == 0) = false := beq_eq_false_iff_ne.2 (by omega)
    have hb0 := bt_idx s 0 hc1
    rw [hc2] at hb0
    have i0 : (0 : Int) < (s.size : Int) := by omega
    have HT := Lib.hid hT
    clear hT hc2
    go_enter Tryd.func28, Tryd.ntmps28
    go_wp2
    clear hb0 t0 t0' t0n
    go_loopw [5, 6] (fun ov iv wr => ∃ (f i : Nat) (l : List UInt8), ov = .string ⟨l.toArray⟩ ∧ iv = .int .i64 i ∧ s.size < i + f ∧ i ≤ s.size ∧ l.length ≤ 4 * i ∧ unqF s f i l = T ∧ Below w.heap.size w wr) (fun _ iv _ => s.size - (intOf iv).toNat)
    case atStart => exact ⟨s.size + 1, 1, [], rfl, rfl, by omega, by omega, by simp, HT.out, Below.refl _ _⟩
    case round =>
      obtain ⟨f, i, l, rfl, rfl, hf, hil, hl, hu, hbw⟩ := hrel
      clear HT
      by_cases hlt : i < s.size
      · obtain ⟨f, rfl⟩ : ∃ g, f = g + 1 := ⟨f - 1, by omega⟩
        have tl : decide (i < s.size) = true := by simpa using hlt
        have hbi := bt_idx s i hlt
        have j0 : (0 : Int) ≤ (i : Int) := by omega
        have j1 : (i : Int) < (s.size : Int) := by omega
        by_cases h34 : bt s i = 34
        · rw [unqF_quote s f i l hlt h34] at hu
          subst hu
          rw [h34] at hbi
          have tg : decide ((s.size : Int) ≤ (i : Int)) = false := by simp; omega
          clear h34
          go_wp2
          go_ret3
          exact ⟨rfl, hbw⟩
        · have a34 : ((bt s i : Int) != 34) = true := by simp; omega
          have H34 := Lib.hid h34
          have HU := Lib.hid hu
          by_cases hpr : bt s i < 32 ∨ 126 < bt s i
          · have h92 : ¬ bt s i = 92 := by omega
            have hst : stepQ s i = .bad i := by unfold stepQ; rw [if_neg h92, if_pos hpr]
            obtain rfl : T = ([], i, fe s i) := by rw [← hu]; exact unqF_bad s f i i l hlt h34 hst
            have q5 : decide ((bt s i : Int) < 32) = true ∨ (decide ((bt s i : Int) < 32) = false ∧ decide ((126 : Int) < (bt s i : Int)) = true) := by simp only [decide_eq_true_eq, decide_eq_false_iff_not]; omega
            have hfi := hft i hil
            clear hft HU H34 h34 hu hst h92 hpr
            generalize bt s i = c at *
            rcases q5 with q5 | ⟨q5, q6⟩
            all_goals
              as_aux_lemma =>
                go_wp2_with (go_at_call 48; refine (hfi _).mono ?_; rintro r w1 ⟨rfl, rfl⟩)
                go_ret3
                exact ⟨rfl, hbw⟩
          · have q5 : decide ((bt s i : Int) < 32) = false := by simp; omega
            have q6 : decide ((126 : Int) < (bt s i : Int)) = false := by simp; omega
            by_cases h92 : bt s i = 92
            · have hst : stepQ s i = escQ s (i + 1) := by unfold stepQ; rw [if_pos h92]
              rw [h92] at hbi
              obtain ⟨p, hp⟩ : ∃ p, p = i + 1 := ⟨_, rfl⟩
              rw [← hp] at hst
              have hp1 : i < p := by omega
              have hp2 : p ≤ i + 1 := by omega
              unfold escQ at hst
              go_upto_region 12 with fail
              have hpi : (i : Int) + 1 = (p : Int) := by omega
              rw [hpi]
              clear hpi hp a34 q5 q6 hbi tl j0 j1 hpr h92 h34 hu
              by_cases hps : p < s.size
              · rw [if_pos hps] at hst
                have tp : decide ((s.size : Int) ≤ (p : Int)) = false := by simp; omega
                have tpn : decide (s.size ≤ p) = false := by simp; omega
                have hbp := bt_idx s p hps
                have j0 : (0 : Int) ≤ (p : Int) := by omega
                have j1 : (p : Int) < (s.size : Int) := by omega
                have j2 : (p : Int) + 1 ≤ (s.size : Int) := by omega
                by_cases e1 : bt s p = 34 ∨ bt s p = 92
                · rw [if_pos e1] at hst
                  have HST := Lib.hid hst
                  have ht2 : unqF s f (p + 1) (l ++ [s.get! p]) = T := by rw [← HU.out]; exact (unqF_ok s f i (p + 1) l [s.get! p] hlt H34.out HST.out).symm
                  have HT2 := Lib.hid ht2
                  have hsl := fun W => (run_slice_string (P := Tryd.prog) (w := W) 9 s .i64 .i64 (p : Int) ((p : Int) + 1) Tryd.underlying9 (by omega) (by omega) (by omega))
                  have hx : s.extract ((p : Int)).toNat (((p : Int) + 1)).toNat = ⟨[s.get! p].toArray⟩ := str_one s p hps
                  simp only [hx] at hsl
                  clear hx ht2 hst
                  rcases e1 with e1 | e1
                  all_goals
                    rw [e1] at hbp
                    clear e1
                    as_aux_lemma =>
                      go_wp2
                      go_roundw
                      case rel => exact ⟨f, p + 1, l ++ [s.get! p], by rw [← str_add], by go_num, by omega, by omega, by rw [List.length_append]; simp; omega, HT2.out, hbw⟩
                      case measure => simp [intOf]; omega
                · rw [if_neg e1] at hst
                  by_cases e2 : bt s p = 110
                  · rw [if_pos e2] at hst
                    have HST := Lib.hid hst
                    have ht2 : unqF s f (p + 1) (l ++ [10]) = T := by rw [← HU.out]; exact (unqF_ok s f i (p + 1) l [10] hlt H34.out HST.out).symm
                    have HT2 := Lib.hid ht2
                    rw [e2] at hbp
                    clear e1 e2 ht2 hst
                    as_aux_lemma =>
                      go_wp2
                      go_roundw
                      case rel => exact ⟨f, p + 1, l ++ [10], by rw [← str_add], by go_num, by omega, by omega, by rw [List.length_append]; simp; omega, HT2.out, hbw⟩
                      case measure => simp [intOf]; omega
                  · rw [if_neg e2] at hst
                    by_cases e3 : bt s p = 117
                    · rw [if_pos e3] at hst
                      rw [e3] at hbp
                      clear e1 e2 e3
                      unfold numQ at hst
                      by_cases b1 : p + 1 < s.size ∧ bt s (p + 1) = 123
                      · rw [if_pos b1] at hst
                        obtain ⟨b1s, b1c⟩ := b1
                        have x0 : (0 : Int) ≤ (p : Int) + 1 := by omega
                        have x1 : (p : Int) + 1 < (s.size : Int) := by omega
                        have x2 : ((p : Int) + 1).toNat = p + 1 := by omega
                        have xb := bt_idx s (p + 1) b1s
                        rw [b1c] at xb
                        have xt : decide ((s.size : Int) ≤ (p : Int) + 1) = false := by simp; omega
                        obtain ⟨F, hF⟩ : ∃ F, F = p + 1 + 1 := ⟨_, rfl⟩
                        rw [← hF] at hst
                        have hF1 : p + 1 < F := by omega
                        have hF2 : F ≤ p + 2 := by omega
                        have HST := Lib.hid hst
                        have HF := Lib.hid hF
                        clear hst hF b1c
                        as_aux_lemma =>
                          go_upto_region 37 with fail
                          have hFi : (p : Int) + 2 = (F : Int) := by have := HF.out; omega
                          have hFj : (p : Int) + 1 + 1 = (F : Int) := by have := HF.out; omega
                          first | rw [hFi] | rw [hFj]
                          clear hFi hFj x0 x1 x2 xb
                          go_wp2
                          try simp only [tpn]
                          obtain ⟨wo, hwo⟩ : ∃ wo : World, wo = wr := ⟨_, rfl⟩
                          subst hwo
                          go_loopw [6, 10] (fun iv nv wq => UInv s F wo iv nv wq) (fun iv _ _ => s.size - (intOf iv).toNat)
                          case atStart => exact ⟨rfl, 0, F, 0, rfl, rfl, by omega, by omega, by omega, by omega, by decide, .inl ⟨rfl, rfl⟩⟩
                          case round =>
                            obtain ⟨rfl, c, j, n, rfl, rfl, hj1, hj2, hc6, hjs, hn, hcase⟩ := hrel
                            obtain ⟨hn0, hn1⟩ := hn
                            have j0 : (0 : Int) ≤ (j : Int) := by omega
                            rcases hcase with ⟨rfl, rfl⟩ | ⟨hc1, hF0, hFd, hsc⟩
                            · obtain rfl : j = F := by omega
                              by_cases hd : j < s.size ∧ 0 ≤ dg (bt s j)
                              · obtain ⟨hds, hdd⟩ := hd
                                as_aux_lemma =>
                                  have j1 : (j : Int) < (s.size : Int) := by omega
                                  have tj : decide (j < s.size) = true := by simpa using hds
                                  have tj6 : decide ((j : Int) < (j : Int) + 6) = true := by simp; omega
                                  have hbj := bt_idx s j hds
                                  have hdg := ref_digit (bt s j) (bt_lt s j)
                                  have tdg : decide (0 ≤ dg (bt s j)) = true := by simpa using hdd
                                  have hbd := (dg_bd (bt s j)).2
                                  have HSC : Hid (scan s 5 (j + 1) (dg (bt s j)) = scan s 5 (j + 1) (dg (bt s j))) := Lib.hid rfl
                                  have HDD : Hid (0 ≤ dg (bt s j)) := Lib.hid hdd
                                  obtain ⟨d, hd⟩ : ∃ d, dg (bt s j) = d := ⟨_, rfl⟩
                                  rw [hd] at hdg tdg hbd hdd
                                  have HD := Lib.hid hd
                                  clear hd
                                  go_wp2_with (go_at_call 49; refine (hdg _).mono ?_; rintro r w7 ⟨rfl, rfl⟩)
                                  go_roundw
                                  case rel => exact ⟨rfl, 1, j + 1, d, by go_num, by go_num, by omega, by omega, by omega, by omega, ⟨hdd, by omega⟩, .inr ⟨by omega, hds, HDD.out, by rw [HD.out]⟩⟩
                                  case measure => simp [intOf]; omega
                              · obtain rfl : T = ([], j, fe s j) := by rw [← HU.out]; exact unqF_bad s f i _ l hlt H34.out (by rw [HST.out, if_neg hd])
                                have hfi := hft j hjs
                                clear hft HU H34 HST HF
                                have tjj : ((j : Int) == (j : Int)) = true := by simp
                                as_aux_lemma =>
                                  by_cases hds : j < s.size
                                  · have hdd : dg (bt s j) = -1 := by have := (dg_bd (bt s j)).1; have : ¬ 0 ≤ dg (bt s j) := fun h => hd ⟨hds, h⟩; omega
                                    have j1 : (j : Int) < (s.size : Int) := by omega
                                    have tj : decide (j < s.size) = true := by simpa using hds
                                    have tj6 : decide ((j : Int) < (j : Int) + 6) = true := by simp; omega
                                    have tg : decide ((s.size : Int) ≤ (j : Int)) = false := by simp; omega
                                    have hbj := bt_idx s j hds
                                    have hdg := ref_digit (bt s j) (bt_lt s j)
                                    rw [hdd] at hdg
                                    clear hd hdd
                                    go_wp2_with (first | (go_at_call 49; refine (hdg _).mono ?_; rintro r w7 ⟨rfl, rfl⟩) | (go_at_call 48; refine (hfi _).mono ?_; rintro r w8 ⟨rfl, rfl⟩))
                                    go_ret3
                                    exact ⟨rfl, hbw⟩
                                  · have tj : decide (j < s.size) = false := by simpa using hds
                                    have tg : decide ((s.size : Int) ≤ (j : Int)) = true := by simp; omega
                                    clear hd
                                    go_wp2_with (first | (go_at_call 48; refine (hfi _).mono ?_; rintro r w8 ⟨rfl, rfl⟩))
                                    go_ret3
                                    exact ⟨rfl, hbw⟩
                            · have tjF : ((j : Int) == (F : Int)) = false := beq_eq_false_iff_ne.2 (by omega)
                              have tjF2 : decide ((j : Int) = (F : Int)) = false := decide_eq_false (by omega)
                              have tjF3 : (j == F) = false := beq_eq_false_iff_ne.2 (by omega)
                              have tjF4 : decide (j = F) = false := decide_eq_false (by omega)
                              have hnb : n ≤ 16777215 := by
                                have h5 : (16 : Int) ^ c ≤ 16 ^ 6 := by
                                  have : (16 : Nat) ^ c ≤ 16 ^ 6 := Nat.pow_le_pow_right (by omega) hc6
                                  exact_mod_cast this
                                omega
                              have HN1 := Lib.hid hn1
                              by_cases hcont : c < 6 ∧ 0 < n ∧ j < s.size ∧ 0 ≤ dg (bt s j)
                              · obtain ⟨hk, hn, hds, hdd⟩ := hcont
                                as_aux_lemma =>
                                  have hst2 := scan_step s (5 - c) j n ⟨hn, hds, hdd⟩
                                  rw [show 6 - c = 5 - c + 1 by omega, hst2] at hsc
                                  have HSC := Lib.hid hsc
                                  have HFD := Lib.hid hFd
                                  have j1 : (j : Int) < (s.size : Int) := by omega
                                  have tj : decide (j < s.size) = true := by simpa using hds
                                  have tj6 : decide ((j : Int) < (F : Int) + 6) = true := by simp; omega
                                  have hbj := bt_idx s j hds
                                  have hdg := ref_digit (bt s j) (bt_lt s j)
                                  have tdg : decide (0 ≤ dg (bt s j)) = true := by simpa using hdd
                                  have tn : decide (0 < n) = true := by simpa using hn
                                  have hbd := (dg_bd (bt s j)).2
                                  clear hst2 hsc hFd hn1
                                  obtain ⟨d, hd⟩ : ∃ d, dg (bt s j) = d := ⟨_, rfl⟩
                                  rw [hd] at hdg tdg hbd hdd HSC
                                  have hpw : n * 16 + d < 16 ^ (c + 1) := by have := HN1.out; rw [Int.pow_succ]; omega
                                  have HPW := Lib.hid hpw
                                  clear hd hpw
                                  go_wp2_with (go_at_call 49; refine (hdg _).mono ?_; rintro r w7 ⟨rfl, rfl⟩)
                                  go_roundw
                                  case rel => exact ⟨rfl, c + 1, j + 1, n * 16 + d, by go_num, by go_num, by omega, by omega, by omega, by omega, ⟨by omega, HPW.out⟩, .inr ⟨by omega, hF0, HFD.out, by rw [show 6 - (c + 1) = 5 - c by omega]; exact HSC.out⟩⟩
                                  case measure => simp [intOf]; omega
                              · have he : scan s 5 (F + 1) (dg (bt s F)) = (j, n) := by
                                  rw [← hsc]
                                  by_cases hk : c < 6
                                  · exact scan_stop s _ j n (fun hh => hcont ⟨hk, hh⟩)
                                  · rw [show 6 - c = 0 by omega]; rfl
                                have hst3 : stepQ s i = numT s (j, n) := by rw [HST.out, if_pos ⟨hF0, hFd⟩, show p + 1 + 2 = F + 1 by have := HF.out; omega, he]
                                have HT4 := Lib.hid hst3
                                clear he hst3 hsc HST hn1 HN1
                                by_cases hds : j < s.size
                                · have j1 : (j : Int) < (s.size : Int) := by omega
                                  have tj : decide (j < s.size) = true := by simpa using hds
                                  have tg : decide ((s.size : Int) ≤ (j : Int)) = false := by simp; omega
                                  have hbj := bt_idx s j hds
                                  have hdg := ref_digit (bt s j) (bt_lt s j)
                                  by_cases hk : c < 6
                                  · have tj6 : decide ((j : Int) < (F : Int) + 6) = true := by simp; omega
                                    by_cases hdd : 0 ≤ dg (bt s j)
                                    · have hn00 : n = 0 := by have : ¬ 0 < n := fun h => hcont ⟨hk, h, hds, hdd⟩; omega
                                      have tdg : decide (0 ≤ dg (bt s j)) = true := by simpa using hdd
                                      subst hn00
                                      have h125 : ¬ bt s j = 125 := fun h => by rw [h] at hdd; exact absurd hdd (by decide)
                                      have hbad : stepQ s i = .bad j := by rw [HT4.out]; unfold numT; rw [if_neg (fun hh => h125 hh.2.1)]
                                      have t125 : ((bt s j : Int) != 125) = true := bne_iff_ne.2 (by omega)
                                      skip
                                      clear h125
                                      obtain rfl : T = ([], j, fe s j) := by rw [← HU.out]; exact unqF_bad s f i _ l hlt H34.out hbad
                                      have hfi := hft j hjs
                                      clear hft HU H34 HT4 hbad hF0 hFd hcont
                                      as_aux_lemma =>
                                        go_wp2_with (first | (go_at_call 49; refine (hdg _).mono ?_; rintro r w7 ⟨rfl, rfl⟩) | (go_at_call 48; refine (hfi _).mono ?_; rintro r w8 ⟨rfl, rfl⟩))
                                        go_ret3
                                        exact ⟨rfl, hbw⟩
                                    · have hd1 : dg (bt s j) = -1 := by have := (dg_bd (bt s j)).1; omega
                                      rw [hd1] at hdg
                                      clear hdd hd1
                                      by_cases h125 : bt s j = 125
                                      · rw [h125] at hbj hdg
                                        by_cases hv : Lib.validRune n = true
                                        · have hrok := valid_ok hv
                                          have hok : stepQ s i = .ok (j + 1) (Lib.encodeRune n) := by rw [HT4.out]; unfold numT; rw [if_pos ⟨hds, h125, hv⟩]
                                          have ht2 : unqF s f (j + 1) (l ++ Lib.encodeRune n) = T := by rw [← HU.out]; exact (unqF_ok s f i _ l _ hlt H34.out hok).symm
                                          have HT2 := Lib.hid ht2
                                          have hby := ref_bytes n hrok
                                          have hel := enc4 n
                                          have v1 : decide ((1114111 : Int) < n) = false := by have := hrok.2.1; simp; omega
                                          have v2 : decide ((55296 : Int) ≤ n) = false ∨ (decide ((55296 : Int) ≤ n) = true ∧ decide (n ≤ 57343) = false) := by have := hrok.2.2; simp only [decide_eq_true_eq, decide_eq_false_iff_not]; omega
                                          clear hv h125 hok ht2 hft HU H34 HT4 hF0 hFd hcont hrok
                                          generalize Lib.encodeRune n = en at *
                                          rcases v2 with v2 | ⟨v2, v3⟩
                                          all_goals
                                            as_aux_lemma =>
                                              go_wp2_with (first | (go_at_call 49; refine (hdg _).mono ?_; rintro r w7 ⟨rfl, rfl⟩) | (go_at_call 30; refine (hby _).mono ?_; rintro r w9 ⟨rfl, hb9⟩))
                                              go_roundw
                                              case rel => exact ⟨f, j + 1, l ++ en, by rw [← str_add], by go_num, by omega, by omega, by rw [List.length_append]; omega, HT2.out, hbw.trans (hb9.mono hbw.size)⟩
                                              case measure => simp [intOf]; omega
                                        · have hbad : stepQ s i = .bad j := by rw [HT4.out]; unfold numT; rw [if_neg (fun hh => hv hh.2.2)]
                                          have hvb := valid_bad hv hn0
                                          have v1 : decide ((1114111 : Int) < n) = true ∨ (decide ((1114111 : Int) < n) = false ∧ decide ((55296 : Int) ≤ n) = true ∧ decide (n ≤ 57343) = true) := by simp only [decide_eq_true_eq, decide_eq_false_iff_not]; omega
                                          clear hv h125 hvb
                                          rcases v1 with v1 | ⟨v1, v2, v3⟩
                                          all_goals
                                            obtain rfl : T = ([], j, fe s j) := by rw [← HU.out]; exact unqF_bad s f i _ l hlt H34.out hbad
                                            have hfi := hft j hjs
                                            clear hft HU H34 HT4 hbad hF0 hFd hcont
                                            as_aux_lemma =>
                                              go_wp2_with (first | (go_at_call 49; refine (hdg _).mono ?_; rintro r w7 ⟨rfl, rfl⟩) | (go_at_call 48; refine (hfi _).mono ?_; rintro r w8 ⟨rfl, rfl⟩))
                                              go_ret3
                                              exact ⟨rfl, hbw⟩
                                      · have hbad : stepQ s i = .bad j := by rw [HT4.out]; unfold numT; rw [if_neg (fun hh => h125 hh.2.1)]
                                        have t125 : ((bt s j : Int) != 125) = true := bne_iff_ne.2 (by omega)
                                        clear h125
                                        obtain rfl : T = ([], j, fe s j) := by rw [← HU.out]; exact unqF_bad s f i _ l hlt H34.out hbad
                                        have hfi := hft j hjs
                                        clear hft HU H34 HT4 hbad hF0 hFd hcont
                                        as_aux_lemma =>
                                          go_wp2_with (first | (go_at_call 49; refine (hdg _).mono ?_; rintro r w7 ⟨rfl, rfl⟩) | (go_at_call 48; refine (hfi _).mono ?_; rintro r w8 ⟨rfl, rfl⟩))
                                          go_ret3
                                          exact ⟨rfl, hbw⟩
                                  · have tj6 : decide ((j : Int) < (F : Int) + 6) = false := by simp; omega
                                    by_cases h125 : bt s j = 125
                                    · rw [h125] at hbj hdg
                                      by_cases hv : Lib.validRune n = true
                                      · have hrok := valid_ok hv
                                        have hok : stepQ s i = .ok (j + 1) (Lib.encodeRune n) := by rw [HT4.out]; unfold numT; rw [if_pos ⟨hds, h125, hv⟩]
                                        have ht2 : unqF s f (j + 1) (l ++ Lib.encodeRune n) = T := by rw [← HU.out]; exact (unqF_ok s f i _ l _ hlt H34.out hok).symm
                                        have HT2 := Lib.hid ht2
                                        have hby := ref_bytes n hrok
                                        have hel := enc4 n
                                        have v1 : decide ((1114111 : Int) < n) = false := by have := hrok.2.1; simp; omega
                                        have v2 : decide ((55296 : Int) ≤ n) = false ∨ (decide ((55296 : Int) ≤ n) = true ∧ decide (n ≤ 57343) = false) := by have := hrok.2.2; simp only [decide_eq_true_eq, decide_eq_false_iff_not]; omega
                                        clear hv h125 hok ht2 hft HU H34 HT4 hF0 hFd hcont hrok
                                        generalize Lib.encodeRune n = en at *
                                        rcases v2 with v2 | ⟨v2, v3⟩
                                        all_goals
                                          as_aux_lemma =>
                                            go_wp2_with (first | (go_at_call 30; refine (hby _).mono ?_; rintro r w9 ⟨rfl, hb9⟩))
                                            go_roundw
                                            case rel => exact ⟨f, j + 1, l ++ en, by rw [← str_add], by go_num, by omega, by omega, by rw [List.length_append]; omega, HT2.out, hbw.trans (hb9.mono hbw.size)⟩
                                            case measure => simp [intOf]; omega
                                      · have hbad : stepQ s i = .bad j := by rw [HT4.out]; unfold numT; rw [if_neg (fun hh => hv hh.2.2)]
                                        have hvb := valid_bad hv hn0
                                        have v1 : decide ((1114111 : Int) < n) = true ∨ (decide ((1114111 : Int) < n) = false ∧ decide ((55296 : Int) ≤ n) = true ∧ decide (n ≤ 57343) = true) := by simp only [decide_eq_true_eq, decide_eq_false_iff_not]; omega
                                        clear hv h125 hvb
                                        rcases v1 with v1 | ⟨v1, v2, v3⟩
                                        all_goals
                                          obtain rfl : T = ([], j, fe s j) := by rw [← HU.out]; exact unqF_bad s f i _ l hlt H34.out hbad
                                          have hfi := hft j hjs
                                          clear hft HU H34 HT4 hbad hF0 hFd hcont
                                          as_aux_lemma =>
                                            go_wp2_with (first | (go_at_call 48; refine (hfi _).mono ?_; rintro r w8 ⟨rfl, rfl⟩))
                                            go_ret3
                                            exact ⟨rfl, hbw⟩
                                    · have hbad : stepQ s i = .bad j := by rw [HT4.out]; unfold numT; rw [if_neg (fun hh => h125 hh.2.1)]
                                      have t125 : ((bt s j : Int) != 125) = true := bne_iff_ne.2 (by omega)
                                      clear h125
                                      obtain rfl : T = ([], j, fe s j) := by rw [← HU.out]; exact unqF_bad s f i _ l hlt H34.out hbad
                                      have hfi := hft j hjs
                                      clear hft HU H34 HT4 hbad hF0 hFd hcont
                                      as_aux_lemma =>
                                        go_wp2_with (first | (go_at_call 48; refine (hfi _).mono ?_; rintro r w8 ⟨rfl, rfl⟩))
                                        go_ret3
                                        exact ⟨rfl, hbw⟩
                                · have tj : decide (j < s.size) = false := by simpa using hds
                                  have tg : decide ((s.size : Int) ≤ (j : Int)) = true := by simp; omega
                                  have hbad : stepQ s i = .bad j := by rw [HT4.out]; unfold numT; rw [if_neg (fun hh => hds hh.1)]
                                  obtain rfl : T = ([], j, fe s j) := by rw [← HU.out]; exact unqF_bad s f i _ l hlt H34.out hbad
                                  have hfi := hft j hjs
                                  clear hft HU H34 HT4 hbad hF0 hFd hcont
                                  as_aux_lemma =>
                                    go_wp2_with (first | (go_at_call 48; refine (hfi _).mono ?_; rintro r w8 ⟨rfl, rfl⟩))
                                    go_ret3
                                    exact ⟨rfl, hbw⟩
                      · rw [if_neg b1] at hst
                        obtain rfl : T = ([], p + 1, fe s (p + 1)) := by rw [← HU.out]; exact unqF_bad s f i _ l hlt H34.out hst
                        have hfi := hft (p + 1) (by omega)
                        have hpc : ((p + 1 : Nat) : Int) = (p : Int) + 1 := by omega
                        rw [hpc] at hfi; have HPC := Lib.hid hpc
                        clear hft HU H34 hst hpc
                        as_aux_lemma =>
                          by_cases b1s : p + 1 < s.size
                          · have x0 : (0 : Int) ≤ (p : Int) + 1 := by omega
                            have x1 : (p : Int) + 1 < (s.size : Int) := by omega
                            have x2 : ((p : Int) + 1).toNat = p + 1 := by omega
                            have xb := bt_idx s (p + 1) b1s
                            have xt : decide ((s.size : Int) ≤ (p : Int) + 1) = false := by simp; omega
                            have xc : ((bt s (p + 1) : Int) != 123) = true := bne_iff_ne.2 (fun h => b1 ⟨b1s, by omega⟩)
                            clear b1
                            generalize bt s (p + 1) = c1 at *
                            go_wp2_with (first | (go_at_call 48; refine (hfi _).mono ?_; rintro r w8 ⟨rfl, rfl⟩))
                            go_ret3
                            exact ⟨by rw [← HPC.out]; rfl, hbw⟩
                          · have xt : decide ((s.size : Int) ≤ (p : Int) + 1) = true := by simp; omega
                            clear b1
                            go_wp2_with (first | (go_at_call 48; refine (hfi _).mono ?_; rintro r w8 ⟨rfl, rfl⟩))
                            go_ret3
                            exact ⟨by rw [← HPC.out]; rfl, hbw⟩
                    · rw [if_neg e3] at hst
                      by_cases e4 : bt s p = 120
                      · rw [if_pos e4] at hst
                        rw [e4] at hbp
                        unfold xQ at hst
                        by_cases a1 : p + 1 < s.size ∧ 0 ≤ dg (bt s (p + 1))
                        · rw [if_pos a1] at hst
                          obtain ⟨a1s, a1d⟩ := a1
                          have x0 : (0 : Int) ≤ (p : Int) + 1 := by omega
                          have x1 : (p : Int) + 1 < (s.size : Int) := by omega
                          have x2 : ((p : Int) + 1).toNat = p + 1 := by omega
                          have xb := bt_idx s (p + 1) a1s
                          have xd := ref_digit (bt s (p + 1)) (bt_lt s (p + 1))
                          have xt : decide ((s.size : Int) ≤ (p : Int) + 1) = false := by simp; omega
                          have xl : decide (dg (bt s (p + 1)) < 0) = false := by simpa using a1d
                          have xbd := (dg_bd (bt s (p + 1))).2
                          by_cases a2 : p + 1 + 1 < s.size ∧ 0 ≤ dg (bt s (p + 1 + 1))
                          · rw [if_pos a2] at hst
                            obtain ⟨a2s, a2d⟩ := a2
                            have HST := Lib.hid hst
                            have ht2 : unqF s f (p + 1 + 2) (l ++ [byteZ (dg (bt s (p + 1)) * 16 + dg (bt s (p + 1 + 1)))]) = T := by rw [← HU.out]; exact (unqF_ok s f i _ l _ hlt H34.out HST.out).symm
                            have HT2 := Lib.hid ht2
                            as_aux_lemma =>
                              have x02 : (0 : Int) ≤ (p : Int) + 2 := by omega
                              have x12 : (p : Int) + 2 < (s.size : Int) := by omega
                              have x22 : ((p : Int) + 2).toNat = p + 2 := by omega
                              have xb2 := bt_idx s (p + 2) a2s
                              have xd2 := ref_digit (bt s (p + 2)) (bt_lt s (p + 2))
                              have xt2 : decide ((s.size : Int) ≤ (p : Int) + 2) = false := by simp; omega
                              have xl2 : decide (dg (bt s (p + 2)) < 0) = false := by simpa using a2d
                              have xbd2 := (dg_bd (bt s (p + 2))).2
                              have a2d' : 0 ≤ dg (bt s (p + 2)) := a2d
                              have HT3 : Hid (unqF s f (p + 1 + 2) (l ++ [byteZ (dg (bt s (p + 1)) * 16 + dg (bt s (p + 2)))]) = T) := HT2
                              clear ht2 hst HT2 HST HU H34 e1 e2 e3 e4 a2d
                              generalize bt s (p + 1) = b1 at *
                              generalize bt s (p + 2) = b2 at *
                              generalize dg b1 = d1 at *
                              generalize dg b2 = d2 at *
                              have hcv : ∀ W : World, (convert 46 9 (.slice (some ⟨W.heap.size, 0, none⟩) 1 1)).run Tryd.prog (W.alloc (.cells #[.int .u8 (d1 * 16 + d2)] 5)) = .ok (.string ⟨[byteZ (d1 * 16 + d2)].toArray⟩) (W.alloc (.cells #[.int .u8 (d1 * 16 + d2)] 5)) := fun W => conv_new W [d1 * 16 + d2] 1 rfl
                              have hzw : IntKind.u8.wrap (d1 * 16 + d2) = d1 * 16 + d2 := IntWalk.u8_in _ (by omega)
                              go_wp2
                              try simp only [tpn]
                              obtain ⟨wo, hwo⟩ : ∃ wo : World, wo = wr := ⟨_, rfl⟩
                              subst hwo
                              go_loopw [7, 8] (fun nv kv wq => XInv wo d1 d2 nv kv wq) (fun _ kv _ => (3 - intOf kv).toNat)
                              case atStart => exact ⟨rfl, .inl ⟨rfl, rfl⟩⟩
                              case round =>
                                obtain ⟨rfl, ⟨rfl, rfl⟩ | ⟨rfl, rfl⟩ | ⟨rfl, rfl⟩⟩ := hrel
                                · go_wp2_with (go_at_call 49; refine (xd _).mono ?_; rintro r w7 ⟨rfl, rfl⟩)
                                  go_roundw
                                  case rel => exact ⟨rfl, .inr (.inl ⟨rfl, by go_num⟩)⟩
                                  case measure => decide
                                · go_wp2_with (go_at_call 49; refine (xd2 _).mono ?_; rintro r w7 ⟨rfl, rfl⟩)
                                  go_roundw
                                  case rel => exact ⟨rfl, .inr (.inr ⟨rfl, by go_num⟩)⟩
                                  case measure => decide
                                · go_wp2
                                  go_roundw
                                  case rel => exact ⟨f, p + 1 + 2, l ++ [byteZ (d1 * 16 + d2)], by rw [← str_add], by go_num, by omega, by omega, by rw [List.length_append]; simp; omega, HT3.out, hbw.alloc hbw.size _⟩
                                  case measure => simp [intOf]; omega
                          · rw [if_neg a2] at hst
                            obtain rfl : T = ([], p + 1 + 1, fe s (p + 1 + 1)) := by rw [← HU.out]; exact unqF_bad s f i _ l hlt H34.out hst
                            have hfi := hft (p + 1 + 1) (by omega)
                            have hpc : ((p + 1 + 1 : Nat) : Int) = (p : Int) + 2 := by omega
                            rw [hpc] at hfi; have HPC := Lib.hid hpc
                            as_aux_lemma =>
                              clear hft HU H34 hst e1 e2 e3 e4 hpc
                              by_cases a2s : p + 2 < s.size
                              · have a2d : dg (bt s (p + 2)) = -1 := by have := (dg_bd (bt s (p + 2))).1; have : ¬ 0 ≤ dg (bt s (p + 2)) := fun h => a2 ⟨a2s, h⟩; omega
                                have x02 : (0 : Int) ≤ (p : Int) + 2 := by omega
                                have x12 : (p : Int) + 2 < (s.size : Int) := by omega
                                have x22 : ((p : Int) + 2).toNat = p + 2 := by omega
                                have xb2 := bt_idx s (p + 2) a2s
                                have xd2 := ref_digit (bt s (p + 2)) (bt_lt s (p + 2))
                                have xt2 : decide ((s.size : Int) ≤ (p : Int) + 2) = false := by simp; omega
                                rw [a2d] at xd2
                                clear a2 a2d
                                generalize bt s (p + 1) = b1 at *
                                generalize bt s (p + 2) = b2 at *
                                generalize dg b1 = d1 at *
                                go_wp2
                                try simp only [tpn]
                                obtain ⟨wo, hwo⟩ : ∃ wo : World, wo = wr := ⟨_, rfl⟩
                                subst hwo
                                go_loopw [7, 8] (fun nv kv wq => XInv2 wo d1 nv kv wq) (fun _ kv _ => (3 - intOf kv).toNat)
                                case atStart => exact ⟨rfl, .inl ⟨rfl, rfl⟩⟩
                                case round =>
                                  obtain ⟨rfl, ⟨rfl, rfl⟩ | ⟨rfl, rfl⟩⟩ := hrel
                                  · go_wp2_with (go_at_call 49; refine (xd _).mono ?_; rintro r w7 ⟨rfl, rfl⟩)
                                    go_roundw
                                    case rel => exact ⟨rfl, .inr ⟨rfl, by go_num⟩⟩
                                    case measure => decide
                                  · go_wp2_with (first | (go_at_call 49; refine (xd2 _).mono ?_; rintro r w7 ⟨rfl, rfl⟩) | (go_at_call 48; refine (hfi _).mono ?_; rintro r w8 ⟨rfl, rfl⟩))
                                    go_ret3
                                    exact ⟨by rw [← HPC.out]; rfl, hbw⟩
                              · have xt2 : decide ((s.size : Int) ≤ (p : Int) + 2) = true := by simp; omega
                                clear a2
                                generalize bt s (p + 1) = b1 at *
                                generalize dg b1 = d1 at *
                                go_wp2
                                try simp only [tpn]
                                obtain ⟨wo, hwo⟩ : ∃ wo : World, wo = wr := ⟨_, rfl⟩
                                subst hwo
                                go_loopw [7, 8] (fun nv kv wq => XInv2 wo d1 nv kv wq) (fun _ kv _ => (3 - intOf kv).toNat)
                                case atStart => exact ⟨rfl, .inl ⟨rfl, rfl⟩⟩
                                case round =>
                                  obtain ⟨rfl, ⟨rfl, rfl⟩ | ⟨rfl, rfl⟩⟩ := hrel
                                  · go_wp2_with (go_at_call 49; refine (xd _).mono ?_; rintro r w7 ⟨rfl, rfl⟩)
                                    go_roundw
                                    case rel => exact ⟨rfl, .inr ⟨rfl, by go_num⟩⟩
                                    case measure => decide
                                  · go_wp2_with (first | (go_at_call 48; refine (hfi _).mono ?_; rintro r w8 ⟨rfl, rfl⟩))
                                    go_ret3
                                    exact ⟨by rw [← HPC.out]; rfl, hbw⟩
                        · rw [if_neg a1] at hst
                          obtain rfl : T = ([], p + 1, fe s (p + 1)) := by rw [← HU.out]; exact unqF_bad s f i _ l hlt H34.out hst
                          have hfi := hft (p + 1) (by omega)
                          have hpc : ((p + 1 : Nat) : Int) = (p : Int) + 1 := by omega
                          rw [hpc] at hfi; have HPC := Lib.hid hpc
                          as_aux_lemma =>
                            clear hft HU H34 hst e1 e2 e3 e4 hpc
                            by_cases a1s : p + 1 < s.size
                            · have a1d : dg (bt s (p + 1)) = -1 := by have := (dg_bd (bt s (p + 1))).1; have : ¬ 0 ≤ dg (bt s (p + 1)) := fun h => a1 ⟨a1s, h⟩; omega
                              have x0 : (0 : Int) ≤ (p : Int) + 1 := by omega
                              have x1 : (p : Int) + 1 < (s.size : Int) := by omega
                              have x2 : ((p : Int) + 1).toNat = p + 1 := by omega
                              have xb := bt_idx s (p + 1) a1s
                              have xd := ref_digit (bt s (p + 1)) (bt_lt s (p + 1))
                              have xt : decide ((s.size : Int) ≤ (p : Int) + 1) = false := by simp; omega
                              rw [a1d] at xd
                              clear a1 a1d
                              generalize bt s (p + 1) = b1 at *
                              go_wp2
                              try simp only [tpn]
                              obtain ⟨wo, hwo⟩ : ∃ wo : World, wo = wr := ⟨_, rfl⟩
                              subst hwo
                              go_loopw [7, 8] (fun nv kv wq => XInv1 wo nv kv wq) (fun _ kv _ => (3 - intOf kv).toNat)
                              case atStart => exact ⟨rfl, rfl, rfl⟩
                              case round =>
                                obtain ⟨rfl, rfl, rfl⟩ := hrel
                                go_wp2_with (first | (go_at_call 49; refine (xd _).mono ?_; rintro r w7 ⟨rfl, rfl⟩) | (go_at_call 48; refine (hfi _).mono ?_; rintro r w8 ⟨rfl, rfl⟩))
                                go_ret3
                                exact ⟨by rw [← HPC.out]; rfl, hbw⟩
                            · have xt : decide ((s.size : Int) ≤ (p : Int) + 1) = true := by simp; omega
                              clear a1
                              go_wp2
                              try simp only [tpn]
                              obtain ⟨wo, hwo⟩ : ∃ wo : World, wo = wr := ⟨_, rfl⟩
                              subst hwo
                              go_loopw [7, 8] (fun nv kv wq => XInv1 wo nv kv wq) (fun _ kv _ => (3 - intOf kv).toNat)
                              case atStart => exact ⟨rfl, rfl, rfl⟩
                              case round =>
                                obtain ⟨rfl, rfl, rfl⟩ := hrel
                                go_wp2_with (first | (go_at_call 48; refine (hfi _).mono ?_; rintro r w8 ⟨rfl, rfl⟩))
                                go_ret3
                                exact ⟨by rw [← HPC.out]; rfl, hbw⟩
                      · rw [if_neg e4] at hst
                        obtain rfl : T = ([], p, fe s p) := by rw [← HU.out]; exact unqF_bad s f i p l hlt H34.out hst
                        have hfi := hft p (by omega)
                        have t0 : decide ((bt s p : Int) = 34) = false := by simp; omega
                        have u0 : ((bt s p : Int) == 34) = false := by simp; omega
                        have t1 : decide ((bt s p : Int) = 92) = false := by simp; omega
                        have u1 : ((bt s p : Int) == 92) = false := by simp; omega
                        have t2 : decide ((bt s p : Int) = 110) = false := by simp; omega
                        have u2 : ((bt s p : Int) == 110) = false := by simp; omega
                        have t3 : decide ((bt s p : Int) = 117) = false := by simp; omega
                        have u3 : ((bt s p : Int) == 117) = false := by simp; omega
                        have t4 : decide ((bt s p : Int) = 120) = false := by simp; omega
                        have u4 : ((bt s p : Int) == 120) = false := by simp; omega
                        clear hft HU H34 hst e1 e2 e3 e4
                        as_aux_lemma =>
                          generalize bt s p = c at *
                          go_wp2_with (go_at_call 48; refine (hfi _).mono ?_; rintro r w1 ⟨rfl, rfl⟩)
                          go_ret3
                          exact ⟨rfl, hbw⟩
              · rw [if_neg hps] at hst
                obtain rfl : p = s.size := by omega
                obtain rfl : T = ([], s.size, fe s s.size) := by rw [← HU.out]; exact unqF_bad s f i _ l hlt H34.out hst
                have hfi := hft s.size (Nat.le_refl _)
                have tp : decide ((s.size : Int) ≤ (s.size : Int)) = true := by simp
                clear hft HU H34 hst hps
                as_aux_lemma =>
                  go_wp2_with (go_at_call 48; refine (hfi _).mono ?_; rintro r w1 ⟨rfl, rfl⟩)
                  go_ret3
                  exact ⟨rfl, hbw⟩
            · have hst : stepQ s i = .ok (i + 1) [s.get! i] := by unfold stepQ; rw [if_neg h92, if_neg hpr]
              have ht2 : unqF s f (i + 1) (l ++ [s.get! i]) = T := by rw [← HU.out]; exact (unqF_ok s f i (i + 1) l [s.get! i] hlt h34 hst).symm
              have HT2 := Lib.hid ht2
              have a92 : ((bt s i : Int) != 92) = true := by simp; omega
              have i2 : (i : Int) + 1 ≤ (s.size : Int) := by omega
              have hsl := fun W => (run_slice_string (P := Tryd.prog) (w := W) 9 s .i64 .i64 (i : Int) ((i : Int) + 1) Tryd.underlying9 (by omega) (by omega) (by omega))
              have hx : s.extract ((i : Int)).toNat (((i : Int) + 1)).toNat = ⟨[s.get! i].toArray⟩ := str_one s i hlt
              simp only [hx] at hsl
              clear hx ht2 hst HU H34 hu h34 h92 hpr
              as_aux_lemma =>
                generalize bt s i = c at *
                go_wp2
                go_roundw
                case rel => exact ⟨f, i + 1, l ++ [s.get! i], by rw [← str_add], by go_num, by omega, by omega, by rw [List.length_append]; simp; omega, HT2.out, hbw⟩
                case measure => simp [intOf]; omega
      · obtain rfl : i = s.size := by omega
        rw [unqF_end s f s.size l hlt] at hu
        subst hu
        have hfi := hft s.size (Nat.le_refl _)
        have hf2 : fe s s.size = 2 := by unfold fe; rw [if_neg hlt]
        rw [hf2] at hfi
        have tl : decide (s.size < s.size) = false := by simp
        have tg : decide ((s.size : Int) ≤ (s.size : Int)) = true := by simp
        clear hft hf2
        go_wp2_with (go_at_call 48; refine (hfi _).mono ?_; rintro r w1 ⟨rfl, rfl⟩)
        go_ret3
        exact ⟨rfl, hbw⟩
  · unfold unquoteL at hT
    rw [if_neg hc] at hT
    subst hT
    have hfi := hft 0 (Nat.zero_le _)
    clear hft
    by_cases h0 : 0 < s.size
    · have h34 : ¬ bt s 0 = 34 := fun h => hc ⟨h0, h⟩
      have t0 : decide ((s.size : Int) = 0) = false := decide_eq_false (by omega)
      have t0' : ((s.size : Int) == 0) = false := beq_eq_false_iff_ne.2 (by omega)
      have t0n : (s.size == 0) = false := beq_eq_false_iff_ne.2 (by omega)
      have hb0 := bt_idx s 0 h0
      have a34 : ((bt s 0 : Int) != 34) = true := by simp; omega
      have i0 : (0 : Int) < (s.size : Int) := by omega
      clear hc h34
      generalize bt s 0 = c at *
      go_enter Tryd.func28, Tryd.ntmps28
      go_wp2_with (go_at_call 48; refine (hfi _).mono ?_; rintro r w1 ⟨rfl, rfl⟩)
      go_ret3
      exact ⟨rfl, Below.refl _ _⟩
    · have t0 : decide ((s.size : Int) = 0) = true := decide_eq_true (by omega)
      have t0' : ((s.size : Int) == 0) = true := beq_iff_eq.2 (by omega)
      have t0n : (s.size == 0) = true := beq_iff_eq.2 (by omega)
      clear hc
      go_enter Tryd.func28, Tryd.ntmps28
      go_wp2_with (go_at_call 48; refine (hfi _).mono ?_; rintro r w1 ⟨rfl, rfl⟩)
      go_ret3
      exact ⟨rfl, Below.refl _ _⟩
end Go.Proofs.YtjldmlnohkknpaaDoor
