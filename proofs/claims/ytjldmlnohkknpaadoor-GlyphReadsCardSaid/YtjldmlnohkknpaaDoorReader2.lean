/- Package glyph's reader of quoted texts: number, walked. -/
import Derived.Test.YtjldmlnohkknpaaDoorReader
namespace Go.Proofs.YtjldmlnohkknpaaDoor
open Go.RowKit
set_option maxRecDepth 100000
set_option maxHeartbeats 4000000
theorem app_blk {w w2 : World} {b : Nat} {cs : Array Value} {t : TypeId} {v : Value} {o : Obj} (hB : Blk w b cs t) (hne : v.ownBlock ≠ some b) (hg : (w.alloc o).grownBy w2 v.ownBlock) : Blk w2 b cs t := by
  have hlt := hB.lt
  unfold Blk
  rw [hg.block b (by simp; omega) (fun e => hne e.symm), Lib.alloc_old w _ b hlt]
  exact hB
theorem app_rd {w2 : World} {b : Nat} {s : ByteArray} {p n : Nat} {e : Int} {v v' : Value} {xs : List Value} (l' : List UInt8) (hB : Blk w2 b #[.string s, .int .i64 p, v, .int .i64 e] 61) (hown : w2.ownsRowF b 5 1 v' n xs) (hn : n = l'.length) (hx : xs = Lib.byteCells l') : Rd b s p e l' (w2.setCell ⟨b, 2, none⟩ v') := by
  subst hn hx
  have hne := Lib.ownBlock_neF hown hB (by decide)
  exact ⟨v', hB.set 2 v', own_set hown hne 2 _, hne⟩
theorem app_below {w0 w w2 : World} {b n : Nat} {v : Value} {xs : List Value} {o : Obj} (hb : Below b w0 w) (hle : b ≤ w.heap.size) (hown : w.ownsRowF b 5 1 v n xs) (hg : (w.alloc o).grownBy w2 v.ownBlock) (v' : Value) : Below b w0 (w2.setCell ⟨b, 2, none⟩ v') :=
  ((hb.alloc hle _).grown hg (by simp; omega) (fun k hk => ((hown.alloc o).lt k hk).1)).setCell (p := ⟨b, 2, none⟩) (Nat.le_refl _) _
theorem own_shape {w : World} {b n : Nat} {e : TypeId} {v : Value} {xs : List Value} (h : w.ownsRowF b e 1 v n xs) : ∃ ao cap, v = .slice ao n cap := by
  rcases h.2 with ⟨hv, h0⟩ | ⟨g, cap, cur, fz, hv, _⟩
  · exact ⟨none, 0, by rw [hv, h0]⟩
  · exact ⟨_, _, hv⟩
theorem fe_ne (s : ByteArray) (p : Nat) : fe s p ≠ 0 := by unfold fe; split <;> decide
theorem or16 (n d : Int) (h0 : 0 ≤ n) (h1 : n ≤ 2000000) (hd0 : 0 ≤ d) (hd1 : d ≤ 15) : bits .or .i32 (wrap32 (n * 16)) d = n * 16 + d := by
  obtain ⟨a, rfl⟩ : ∃ a : Nat, n = a := ⟨n.toNat, by omega⟩
  obtain ⟨c, rfl⟩ : ∃ c : Nat, d = c := ⟨d.toNat, by omega⟩
  have hw : wrap32 ((a : Int) * 16) = ((2 ^ 4 * a : Nat) : Int) := by rw [IntWalk.wrap32_in _ (by omega)]; omega
  have hx1 : (BitVec.ofInt 32 ((2 ^ 4 * a : Nat) : Int)).toNat = 2 ^ 4 * a := by
    rw [BitVec.ofInt_natCast, BitVec.toNat_ofNat]; exact Nat.mod_eq_of_lt (by omega)
  have hx2 : (BitVec.ofInt 32 (c : Int)).toNat = c := by
    rw [BitVec.ofInt_natCast, BitVec.toNat_ofNat]; exact Nat.mod_eq_of_lt (by omega)
  rw [hw]
  show IntKind.i32.wrap ((BitVec.ofInt 32 ((2 ^ 4 * a : Nat) : Int) ||| BitVec.ofInt 32 (c : Int)).toNat : Int) = _
  rw [BitVec.toNat_or, hx1, hx2, ← Nat.two_pow_add_eq_or_of_lt (show c < 2 ^ 4 by omega)]
  rw [IntWalk.i32_in _ (by omega)]
  omega
/-- The digits behind the first one: where they end, the number. -/
def scan (s : ByteArray) : Nat → Nat → Int → Nat × Int
  | 0, j, n => (j, n)
  | f + 1, j, n => if 0 < n ∧ j < s.size ∧ 0 ≤ dg (bt s j) then scan s f (j + 1) (n * 16 + dg (bt s j)) else (j, n)
theorem scan_stop (s : ByteArray) (f j : Nat) (n : Int) (h : ¬ (0 < n ∧ j < s.size ∧ 0 ≤ dg (bt s j))) : scan s f j n = (j, n) := by
  cases f with
  | zero => rfl
  | succ f => simp only [scan, if_neg h]
theorem scan_step (s : ByteArray) (f j : Nat) (n : Int) (h : 0 < n ∧ j < s.size ∧ 0 ≤ dg (bt s j)) : scan s (f + 1) j n = scan s f (j + 1) (n * 16 + dg (bt s j)) := by simp only [scan, if_pos h]
/-- What a step of reading comes to: it stops at a place; or it goes on at one, with bytes read. -/
inductive Qs where
  | bad (p : Nat)
  | ok (p : Nat) (x : List UInt8)
def numT (s : ByteArray) (r : Nat × Int) : Qs := if r.1 < s.size ∧ bt s r.1 = 125 ∧ Lib.validRune r.2 = true then .ok (r.1 + 1) (Lib.encodeRune r.2) else .bad r.1
def numQ (s : ByteArray) (p : Nat) : Qs :=
  if p < s.size ∧ bt s p = 123 then
    (if p + 1 < s.size ∧ 0 ≤ dg (bt s (p + 1)) then numT s (scan s 5 (p + 2) (dg (bt s (p + 1)))) else .bad (p + 1))
  else .bad p
def RdQ (b : Nat) (s : ByteArray) (l : List UInt8) (q : Qs) (w : World) : Prop :=
  match q with
  | .bad p => p ≤ s.size ∧ ∃ l', Rd b s p (fe s p) l' w
  | .ok p x => p ≤ s.size ∧ Rd b s p 0 (l ++ x) w
theorem RdQ.bad' {b : Nat} {s : ByteArray} {l l' : List UInt8} {p : Nat} {w : World} {q : Qs} (hq : q = .bad p) (hp : p ≤ s.size) (h : Rd b s p (fe s p) l' w) : RdQ b s l q w := by subst hq; exact ⟨hp, _, h⟩
theorem RdQ.ok' {b : Nat} {s : ByteArray} {l l' x : List UInt8} {p : Nat} {w : World} {q : Qs} (hq : q = .ok p x) (hl : l' = l ++ x) (hp : p ≤ s.size) (h : Rd b s p 0 l' w) : RdQ b s l q w := by subst hq hl; exact ⟨hp, h⟩
theorem rd_number_ok (b : Nat) (s : ByteArray) (p : Nat) (l : List UInt8) (w : World) (hp : p < s.size) (h123 : bt s p = 123) (hp1 : p + 1 < s.size) (hd : 0 ≤ dg (bt s (p + 1))) (hs : s.size ≤ 1000000) (hl : l.length ≤ 100000000) (h : Rd b s p 0 l w) :
    Calls Tryd.prog 53 #[.pointer (some ⟨b, 0, none⟩)] w fun r w' => r = .returned (.tuple #[]) ∧ RdQ b s l (numT s (scan s 5 (p + 2) (dg (bt s (p + 1))))) w' ∧ Below b w w' := by
  have hw1 := rd_want b s p 123 l w hp h123 hs h
  have hw2 := fun W h => rd_hex b s (p + 1) l W hp1 hd hs h
  have hbd := (dg_bd (bt s (p + 1))).2
  obtain ⟨T, hT⟩ : ∃ T, scan s 5 (p + 2) (dg (bt s (p + 1))) = T := ⟨_, rfl⟩
  rw [hT]
  have HT := Lib.hid hT
  clear hT h123
  generalize dg (bt s (p + 1)) = d at *
  go_enter Tryd.func53, Tryd.ntmps53
  go_wp2_with (first | (go_at_call 44; refine hw1.mono ?_; rintro r w1 ⟨rfl, h1, b1⟩) | (go_at_call 54; refine (hw2 _ h1).mono ?_; rintro r w2 ⟨rfl, h2, b2⟩))
  go_loopw [3, 2] (fun kv nv wr => ∃ (k j : Nat) (n : Int), kv = .int .i64 k ∧ nv = .int .i32 n ∧ 1 ≤ k ∧ k ≤ 6 ∧ 0 ≤ n ∧ n < 16 ^ k ∧ j ≤ s.size ∧ Rd b s j 0 l wr ∧ Below b w wr ∧ scan s (6 - k) j n = T) (fun kv _ _ => (6 - intOf kv).toNat)
  case atStart => exact ⟨1, p + 2, d, rfl, rfl, by omega, by omega, hd, by omega, by omega, h2, b1.trans b2, HT.out⟩
  case round =>
    obtain ⟨k, j, n, rfl, rfl, hk1, hk6, hn0, hn1, hj, hr, hbw, hsc⟩ := hrel
    by_cases hc : k < 6 ∧ 0 < n ∧ j < s.size ∧ 0 ≤ dg (bt s j)
    · obtain ⟨hk, hn, hjs, hdj⟩ := hc
      have hst := scan_step s (5 - k) j n ⟨hn, hjs, hdj⟩
      have hk5 : 6 - k = 5 - k + 1 := by omega
      rw [hk5, hst] at hsc
      have HSC := Lib.hid hsc
      have t1 : decide ((k : Int) < 6) = true := by simp; omega
      have t2 : decide (0 < n) = true := by simpa using hn
      have hby := rd_byte b s j l wr hjs hs hr
      have hdg := gl_digit (bt s j) (bt_lt s j)
      have hhx := fun W h => rd_hex b s j l W hjs hdj hs h
      have t3 : decide (0 ≤ dg (bt s j)) = true := by simpa using hdj
      clear hst hk5 hsc
      generalize bt s j = c at *
      go_wp2_with (first | (go_at_call 45; refine hby.mono ?_; rintro r w3 ⟨rfl, h3, b3⟩) | (go_at_call 58; refine (hdg _).mono ?_; rintro r w4 ⟨rfl, rfl⟩) | (go_at_call 54; refine (hhx _ h3).mono ?_; rintro r w5 ⟨rfl, h5, b5⟩))
      have hn5 : n < 16 ^ 5 := by
        have h5 : (16 : Int) ^ k ≤ 16 ^ 5 := by
          have : (16 : Nat) ^ k ≤ 16 ^ 5 := Nat.pow_le_pow_right (by omega) (by omega)
          exact_mod_cast this
        omega
      have hdc := (dg_bd c).2
      have hor := or16 n (dg c) hn0 (by omega) hdj hdc
      have hn6 : n * 16 + dg c < 16 ^ (k + 1) := by rw [Int.pow_succ]; omega
      go_roundw
      case rel => exact ⟨k + 1, j + 1, n * 16 + dg c, by go_num, by rw [hor], by omega, by omega, by omega, hn6, by omega, h5, hbw.trans (b3.trans b5), by rw [show 6 - (k + 1) = 5 - k by omega]; exact HSC.out⟩
      case measure => simp [intOf]; omega
    · have hnb : n ≤ 16777215 := by
        have h5 : (16 : Int) ^ k ≤ 16 ^ 6 := by
          have : (16 : Nat) ^ k ≤ 16 ^ 6 := Nat.pow_le_pow_right (by omega) hk6
          exact_mod_cast this
        omega
      have he : (j, n) = T := by
        rw [← hsc]
        by_cases hk : k < 6
        · exact (scan_stop s _ j n (fun hh => hc ⟨hk, hh⟩)).symm
        · rw [show 6 - k = 0 by omega]; rfl
      have HE := Lib.hid he
      clear hsc he hn1 HT
      by_cases hk : k < 6
      · have t1 : decide ((k : Int) < 6) = true := by simp; omega
        by_cases hn : 0 < n
        · have t2 : decide (0 < n) = true := by simpa using hn
          by_cases hjs : j < s.size
          · have hd1 : dg (bt s j) = -1 := by have := (dg_bd (bt s j)).1; have : ¬ 0 ≤ dg (bt s j) := fun h => hc ⟨hk, hn, hjs, h⟩; omega
            clear hc hk hn
            have hby := fun W h => rd_byte b s j l W hjs hs h
            have hdg := gl_digit (bt s j) (bt_lt s j)
            rw [hd1] at hdg
            by_cases h125 : bt s j = 125
            · by_cases hv : Lib.validRune n = true
              · have hwt := fun W h => rd_want b s j 125 l W hjs h125 hs h
                have hvr := fun W => Tryd.utf8_ValidRune n W
                rw [hv] at hvr
                have hq : numT s T = .ok (j + 1) (Lib.encodeRune n) := by rw [← HE.out]; unfold numT; rw [if_pos ⟨hjs, h125, hv⟩]
                have HQ := Lib.hid hq
                rw [h125] at hby hdg
                clear hq h125 hv
                go_wp2_with (first | (go_at_call 45; refine (hby _ (by assumption)).mono ?_; rintro r w3 ⟨rfl, h3, b3⟩; replace hbw := hbw.trans b3) | (go_at_call 58; refine (hdg _).mono ?_; rintro r w4 ⟨rfl, rfl⟩) | (go_at_call 59; refine (hvr _).mono ?_; rintro r w4 ⟨rfl, rfl⟩) | (go_at_call 44; refine (hwt _ (by assumption)).mono ?_; rintro r w6 ⟨rfl, h6, b6⟩; replace hbw := hbw.trans b6; obtain ⟨v, hB6, hown6, hne6⟩ := h6; obtain ⟨ao, cap, rfl⟩ := own_shape hown6; have hsz6 := hB6.lt; have c2 : w6.cell? ⟨b, 2, none⟩ = some (.slice ao l.length cap) := hB6.cell 2; have c3 : w6.cell? ⟨b, 3, none⟩ = some (.int .i64 0) := hB6.cell 3) | (go_at_call 52; refine (Tryd.utf8_AppendRune_row b _ l.length (Lib.byteCells l) n (by omega) (by omega) _ hown6 (by omega) (by omega)).mono ?_; rintro r w7 ⟨v', rfl, hown7, o, hg⟩; have hB7 := app_blk hB6 hne6 hg; obtain ⟨ao', cap', rfl⟩ := own_shape hown7; have f2 := hB7.free 2; have d2 : w7.cell? ⟨b, 2, none⟩ = some (.slice ao l.length cap) := hB7.cell 2))
                go_end0
                exact ⟨rfl, RdQ.ok' HQ.out rfl (by omega) (app_rd _ hB7 hown7 (by rw [List.length_append, Lib.runeCells_length]) (by rw [Lib.byteCells_append, Lib.byteCells_encodeRune])), app_below hbw (by omega) hown6 hg _⟩
              · have hst := fun W h => rd_stop b s j l W (by omega) hs h
                rw [Bool.not_eq_true] at hv
                have hwt := fun W h => rd_want_err b s j 125 (by decide) (fe s j) (fe_ne s j) l W h
                have hvr := fun W => Tryd.utf8_ValidRune n W
                rw [hv] at hvr
                have hq : numT s T = .bad j := by rw [← HE.out]; unfold numT; rw [if_neg (by rw [hv]; simp)]
                have HQ := Lib.hid hq
                have tf : decide (fe s j = 0) = false := by simpa using fe_ne s j
                have tf2 : (fe s j == 0) = false := by simpa using fe_ne s j
                rw [h125] at hby hdg
                clear hq h125 hv
                generalize hfe : fe s j = e at *
                go_wp2_with (first | (go_at_call 45; refine (hby _ (by assumption)).mono ?_; rintro r w3 ⟨rfl, h3, b3⟩; replace hbw := hbw.trans b3) | (go_at_call 58; refine (hdg _).mono ?_; rintro r w4 ⟨rfl, rfl⟩) | (go_at_call 59; refine (hvr _).mono ?_; rintro r w4 ⟨rfl, rfl⟩) | (go_at_call 47; refine (hst _ (by assumption)).mono ?_; rintro r w5 ⟨rfl, h5, b5⟩; replace hbw := hbw.trans b5) | (go_at_call 44; refine (hwt _ (by assumption)).mono ?_; rintro r w6 ⟨rfl, h6, b6⟩; replace hbw := hbw.trans b6; obtain ⟨c0, c1, c3, f1, f3⟩ := h6.cells))
                go_end0
                exact ⟨rfl, RdQ.bad' HQ.out (by omega) (by rw [hfe]; exact h6), hbw⟩
            · have hwt := fun W h => rd_want_bad b s j 125 (by decide) l W (by omega) (fun hh => h125 hh.2) hs h
              have hq : numT s T = .bad j := by rw [← HE.out]; unfold numT; rw [if_neg (fun hh => h125 hh.2.1)]
              have HQ := Lib.hid hq
              have tf : decide (fe s j = 0) = false := by simpa using fe_ne s j
              have tf2 : (fe s j == 0) = false := by simpa using fe_ne s j
              have tb : ((bt s j : Int) == 125) = false := by simp; omega
              have tb2 : decide ((bt s j : Int) = 125) = false := by simp; omega
              clear hq h125
              generalize hfe : fe s j = e at *
              generalize bt s j = c at *
              go_wp2_with (first | (go_at_call 45; refine (hby _ (by assumption)).mono ?_; rintro r w3 ⟨rfl, h3, b3⟩; replace hbw := hbw.trans b3) | (go_at_call 58; refine (hdg _).mono ?_; rintro r w4 ⟨rfl, rfl⟩) | (go_at_call 44; refine (hwt _ (by assumption)).mono ?_; rintro r w6 ⟨rfl, h6, b6⟩; replace hbw := hbw.trans b6; obtain ⟨c0, c1, c3, f1, f3⟩ := h6.cells))
              go_end0
              exact ⟨rfl, RdQ.bad' HQ.out (by omega) (by rw [hfe]; exact h6), hbw⟩
          · obtain rfl : j = s.size := by omega
            clear hc hk hn hjs
            have hby := fun W h => rd_byte_end b s l W hs h
            have hby2 := fun W h => rd_byte_err b s s.size 2 (by decide) l W h
            have hwt := fun W h => rd_want_err b s s.size 125 (by decide) 2 (by decide) l W h
            have hq : numT s T = .bad s.size := by rw [← HE.out]; unfold numT; rw [if_neg (by simp)]
            have HQ := Lib.hid hq
            have hfe2 : fe s s.size = 2 := by unfold fe; rw [if_neg (by omega)]
            have HF2 := Lib.hid hfe2
            have hdg := gl_digit 0 (by decide)
            rw [dg_zero] at hdg
            clear hq hfe2
            go_wp2_with (first | (go_at_call 45; first | (refine (hby _ (by assumption)).mono ?_; rintro r w3 ⟨rfl, h3, b3⟩; replace hbw := hbw.trans b3) | (refine (hby2 _ (by assumption)).mono ?_; rintro r w5 ⟨rfl, h5, b5⟩; replace hbw := hbw.trans b5)) | (go_at_call 58; refine (hdg _).mono ?_; rintro r w4 ⟨rfl, rfl⟩) | (go_at_call 44; refine (hwt _ (by assumption)).mono ?_; rintro r w6 ⟨rfl, h6, b6⟩; replace hbw := hbw.trans b6; obtain ⟨c0, c1, c3, f1, f3⟩ := h6.cells))
            go_end0
            exact ⟨rfl, RdQ.bad' HQ.out (Nat.le_refl _) (by rw [HF2.out]; exact h6), hbw⟩
        · have t2 : decide (0 < n) = false := by simpa using hn
          clear hc hk hn
          by_cases hjs : j < s.size
          · skip
            have hby := fun W h => rd_byte b s j l W hjs hs h
            by_cases h125 : bt s j = 125
            · by_cases hv : Lib.validRune n = true
              · have hwt := fun W h => rd_want b s j 125 l W hjs h125 hs h
                have hvr := fun W => Tryd.utf8_ValidRune n W
                rw [hv] at hvr
                have hq : numT s T = .ok (j + 1) (Lib.encodeRune n) := by rw [← HE.out]; unfold numT; rw [if_pos ⟨hjs, h125, hv⟩]
                have HQ := Lib.hid hq
                rw [h125] at hby
                clear hq h125 hv
                go_wp2_with (first | (go_at_call 45; refine (hby _ (by assumption)).mono ?_; rintro r w3 ⟨rfl, h3, b3⟩; replace hbw := hbw.trans b3) | (go_at_call 59; refine (hvr _).mono ?_; rintro r w4 ⟨rfl, rfl⟩) | (go_at_call 44; refine (hwt _ (by assumption)).mono ?_; rintro r w6 ⟨rfl, h6, b6⟩; replace hbw := hbw.trans b6; obtain ⟨v, hB6, hown6, hne6⟩ := h6; obtain ⟨ao, cap, rfl⟩ := own_shape hown6; have hsz6 := hB6.lt; have c2 : w6.cell? ⟨b, 2, none⟩ = some (.slice ao l.length cap) := hB6.cell 2; have c3 : w6.cell? ⟨b, 3, none⟩ = some (.int .i64 0) := hB6.cell 3) | (go_at_call 52; refine (Tryd.utf8_AppendRune_row b _ l.length (Lib.byteCells l) n (by omega) (by omega) _ hown6 (by omega) (by omega)).mono ?_; rintro r w7 ⟨v', rfl, hown7, o, hg⟩; have hB7 := app_blk hB6 hne6 hg; obtain ⟨ao', cap', rfl⟩ := own_shape hown7; have f2 := hB7.free 2; have d2 : w7.cell? ⟨b, 2, none⟩ = some (.slice ao l.length cap) := hB7.cell 2))
                go_end0
                exact ⟨rfl, RdQ.ok' HQ.out rfl (by omega) (app_rd _ hB7 hown7 (by rw [List.length_append, Lib.runeCells_length]) (by rw [Lib.byteCells_append, Lib.byteCells_encodeRune])), app_below hbw (by omega) hown6 hg _⟩
              · have hst := fun W h => rd_stop b s j l W (by omega) hs h
                rw [Bool.not_eq_true] at hv
                have hwt := fun W h => rd_want_err b s j 125 (by decide) (fe s j) (fe_ne s j) l W h
                have hvr := fun W => Tryd.utf8_ValidRune n W
                rw [hv] at hvr
                have hq : numT s T = .bad j := by rw [← HE.out]; unfold numT; rw [if_neg (by rw [hv]; simp)]
                have HQ := Lib.hid hq
                have tf : decide (fe s j = 0) = false := by simpa using fe_ne s j
                have tf2 : (fe s j == 0) = false := by simpa using fe_ne s j
                rw [h125] at hby
                clear hq h125 hv
                generalize hfe : fe s j = e at *
                go_wp2_with (first | (go_at_call 45; refine (hby _ (by assumption)).mono ?_; rintro r w3 ⟨rfl, h3, b3⟩; replace hbw := hbw.trans b3) | (go_at_call 59; refine (hvr _).mono ?_; rintro r w4 ⟨rfl, rfl⟩) | (go_at_call 47; refine (hst _ (by assumption)).mono ?_; rintro r w5 ⟨rfl, h5, b5⟩; replace hbw := hbw.trans b5) | (go_at_call 44; refine (hwt _ (by assumption)).mono ?_; rintro r w6 ⟨rfl, h6, b6⟩; replace hbw := hbw.trans b6; obtain ⟨c0, c1, c3, f1, f3⟩ := h6.cells))
                go_end0
                exact ⟨rfl, RdQ.bad' HQ.out (by omega) (by rw [hfe]; exact h6), hbw⟩
            · have hwt := fun W h => rd_want_bad b s j 125 (by decide) l W (by omega) (fun hh => h125 hh.2) hs h
              have hq : numT s T = .bad j := by rw [← HE.out]; unfold numT; rw [if_neg (fun hh => h125 hh.2.1)]
              have HQ := Lib.hid hq
              have tf : decide (fe s j = 0) = false := by simpa using fe_ne s j
              have tf2 : (fe s j == 0) = false := by simpa using fe_ne s j
              have tb : ((bt s j : Int) == 125) = false := by simp; omega
              have tb2 : decide ((bt s j : Int) = 125) = false := by simp; omega
              clear hq h125
              generalize hfe : fe s j = e at *
              generalize bt s j = c at *
              go_wp2_with (first | (go_at_call 45; refine (hby _ (by assumption)).mono ?_; rintro r w3 ⟨rfl, h3, b3⟩; replace hbw := hbw.trans b3) | (go_at_call 44; refine (hwt _ (by assumption)).mono ?_; rintro r w6 ⟨rfl, h6, b6⟩; replace hbw := hbw.trans b6; obtain ⟨c0, c1, c3, f1, f3⟩ := h6.cells))
              go_end0
              exact ⟨rfl, RdQ.bad' HQ.out (by omega) (by rw [hfe]; exact h6), hbw⟩
          · obtain rfl : j = s.size := by omega
            have hby := fun W h => rd_byte_end b s l W hs h
            have hby2 := fun W h => rd_byte_err b s s.size 2 (by decide) l W h
            have hwt := fun W h => rd_want_err b s s.size 125 (by decide) 2 (by decide) l W h
            have hq : numT s T = .bad s.size := by rw [← HE.out]; unfold numT; rw [if_neg (by simp)]
            have HQ := Lib.hid hq
            have hfe2 : fe s s.size = 2 := by unfold fe; rw [if_neg (by omega)]
            have HF2 := Lib.hid hfe2
            have hdg := gl_digit 0 (by decide)
            rw [dg_zero] at hdg
            clear hq hfe2
            go_wp2_with (first | (go_at_call 45; first | (refine (hby _ (by assumption)).mono ?_; rintro r w3 ⟨rfl, h3, b3⟩; replace hbw := hbw.trans b3) | (refine (hby2 _ (by assumption)).mono ?_; rintro r w5 ⟨rfl, h5, b5⟩; replace hbw := hbw.trans b5)) | (go_at_call 58; refine (hdg _).mono ?_; rintro r w4 ⟨rfl, rfl⟩) | (go_at_call 44; refine (hwt _ (by assumption)).mono ?_; rintro r w6 ⟨rfl, h6, b6⟩; replace hbw := hbw.trans b6; obtain ⟨c0, c1, c3, f1, f3⟩ := h6.cells))
            go_end0
            exact ⟨rfl, RdQ.bad' HQ.out (Nat.le_refl _) (by rw [HF2.out]; exact h6), hbw⟩
      · have t1 : decide ((k : Int) < 6) = false := by simp; omega
        clear hc hk
        by_cases hjs : j < s.size
        · skip
          have hby := fun W h => rd_byte b s j l W hjs hs h
          by_cases h125 : bt s j = 125
          · by_cases hv : Lib.validRune n = true
            · have hwt := fun W h => rd_want b s j 125 l W hjs h125 hs h
              have hvr := fun W => Tryd.utf8_ValidRune n W
              rw [hv] at hvr
              have hq : numT s T = .ok (j + 1) (Lib.encodeRune n) := by rw [← HE.out]; unfold numT; rw [if_pos ⟨hjs, h125, hv⟩]
              have HQ := Lib.hid hq
              rw [h125] at hby
              clear hq h125 hv
              go_wp2_with (first | (go_at_call 45; refine (hby _ (by assumption)).mono ?_; rintro r w3 ⟨rfl, h3, b3⟩; replace hbw := hbw.trans b3) | (go_at_call 59; refine (hvr _).mono ?_; rintro r w4 ⟨rfl, rfl⟩) | (go_at_call 44; refine (hwt _ (by assumption)).mono ?_; rintro r w6 ⟨rfl, h6, b6⟩; replace hbw := hbw.trans b6; obtain ⟨v, hB6, hown6, hne6⟩ := h6; obtain ⟨ao, cap, rfl⟩ := own_shape hown6; have hsz6 := hB6.lt; have c2 : w6.cell? ⟨b, 2, none⟩ = some (.slice ao l.length cap) := hB6.cell 2; have c3 : w6.cell? ⟨b, 3, none⟩ = some (.int .i64 0) := hB6.cell 3) | (go_at_call 52; refine (Tryd.utf8_AppendRune_row b _ l.length (Lib.byteCells l) n (by omega) (by omega) _ hown6 (by omega) (by omega)).mono ?_; rintro r w7 ⟨v', rfl, hown7, o, hg⟩; have hB7 := app_blk hB6 hne6 hg; obtain ⟨ao', cap', rfl⟩ := own_shape hown7; have f2 := hB7.free 2; have d2 : w7.cell? ⟨b, 2, none⟩ = some (.slice ao l.length cap) := hB7.cell 2))
              go_end0
              exact ⟨rfl, RdQ.ok' HQ.out rfl (by omega) (app_rd _ hB7 hown7 (by rw [List.length_append, Lib.runeCells_length]) (by rw [Lib.byteCells_append, Lib.byteCells_encodeRune])), app_below hbw (by omega) hown6 hg _⟩
            · have hst := fun W h => rd_stop b s j l W (by omega) hs h
              rw [Bool.not_eq_true] at hv
              have hwt := fun W h => rd_want_err b s j 125 (by decide) (fe s j) (fe_ne s j) l W h
              have hvr := fun W => Tryd.utf8_ValidRune n W
              rw [hv] at hvr
              have hq : numT s T = .bad j := by rw [← HE.out]; unfold numT; rw [if_neg (by rw [hv]; simp)]
              have HQ := Lib.hid hq
              have tf : decide (fe s j = 0) = false := by simpa using fe_ne s j
              have tf2 : (fe s j == 0) = false := by simpa using fe_ne s j
              rw [h125] at hby
              clear hq h125 hv
              generalize hfe : fe s j = e at *
              go_wp2_with (first | (go_at_call 45; refine (hby _ (by assumption)).mono ?_; rintro r w3 ⟨rfl, h3, b3⟩; replace hbw := hbw.trans b3) | (go_at_call 59; refine (hvr _).mono ?_; rintro r w4 ⟨rfl, rfl⟩) | (go_at_call 47; refine (hst _ (by assumption)).mono ?_; rintro r w5 ⟨rfl, h5, b5⟩; replace hbw := hbw.trans b5) | (go_at_call 44; refine (hwt _ (by assumption)).mono ?_; rintro r w6 ⟨rfl, h6, b6⟩; replace hbw := hbw.trans b6; obtain ⟨c0, c1, c3, f1, f3⟩ := h6.cells))
              go_end0
              exact ⟨rfl, RdQ.bad' HQ.out (by omega) (by rw [hfe]; exact h6), hbw⟩
          · have hwt := fun W h => rd_want_bad b s j 125 (by decide) l W (by omega) (fun hh => h125 hh.2) hs h
            have hq : numT s T = .bad j := by rw [← HE.out]; unfold numT; rw [if_neg (fun hh => h125 hh.2.1)]
            have HQ := Lib.hid hq
            have tf : decide (fe s j = 0) = false := by simpa using fe_ne s j
            have tf2 : (fe s j == 0) = false := by simpa using fe_ne s j
            have tb : ((bt s j : Int) == 125) = false := by simp; omega
            have tb2 : decide ((bt s j : Int) = 125) = false := by simp; omega
            clear hq h125
            generalize hfe : fe s j = e at *
            generalize bt s j = c at *
            go_wp2_with (first | (go_at_call 45; refine (hby _ (by assumption)).mono ?_; rintro r w3 ⟨rfl, h3, b3⟩; replace hbw := hbw.trans b3) | (go_at_call 44; refine (hwt _ (by assumption)).mono ?_; rintro r w6 ⟨rfl, h6, b6⟩; replace hbw := hbw.trans b6; obtain ⟨c0, c1, c3, f1, f3⟩ := h6.cells))
            go_end0
            exact ⟨rfl, RdQ.bad' HQ.out (by omega) (by rw [hfe]; exact h6), hbw⟩
        · obtain rfl : j = s.size := by omega
          have hby := fun W h => rd_byte_end b s l W hs h
          have hby2 := fun W h => rd_byte_err b s s.size 2 (by decide) l W h
          have hwt := fun W h => rd_want_err b s s.size 125 (by decide) 2 (by decide) l W h
          have hq : numT s T = .bad s.size := by rw [← HE.out]; unfold numT; rw [if_neg (by simp)]
          have HQ := Lib.hid hq
          have hfe2 : fe s s.size = 2 := by unfold fe; rw [if_neg (by omega)]
          have HF2 := Lib.hid hfe2
          have hdg := gl_digit 0 (by decide)
          rw [dg_zero] at hdg
          clear hq hfe2
          go_wp2_with (first | (go_at_call 45; first | (refine (hby _ (by assumption)).mono ?_; rintro r w3 ⟨rfl, h3, b3⟩; replace hbw := hbw.trans b3) | (refine (hby2 _ (by assumption)).mono ?_; rintro r w5 ⟨rfl, h5, b5⟩; replace hbw := hbw.trans b5)) | (go_at_call 58; refine (hdg _).mono ?_; rintro r w4 ⟨rfl, rfl⟩) | (go_at_call 44; refine (hwt _ (by assumption)).mono ?_; rintro r w6 ⟨rfl, h6, b6⟩; replace hbw := hbw.trans b6; obtain ⟨c0, c1, c3, f1, f3⟩ := h6.cells))
          go_end0
          exact ⟨rfl, RdQ.bad' HQ.out (Nat.le_refl _) (by rw [HF2.out]; exact h6), hbw⟩
theorem rd_number_bad (b : Nat) (s : ByteArray) (p : Nat) (l : List UInt8) (w : World) (hp : p ≤ s.size) (h123 : ¬ (p < s.size ∧ bt s p = 123)) (hs : s.size ≤ 1000000) (h : Rd b s p 0 l w) :
    Calls Tryd.prog 53 #[.pointer (some ⟨b, 0, none⟩)] w fun r w' => r = .returned (.tuple #[]) ∧ RdQ b s l (.bad p) w' ∧ Below b w w' := by
  have hw1 := rd_want_bad b s p 123 (by decide) l w hp h123 hs h
  have hw2 := fun W h => rd_hex_err b s p (fe s p) (fe_ne s p) l W h
  have hby := fun W h => rd_byte_err b s p (fe s p) (fe_ne s p) l W h
  have hwt := fun W h => rd_want_err b s p 125 (by decide) (fe s p) (fe_ne s p) l W h
  have tf : decide (fe s p = 0) = false := by simpa using fe_ne s p
  have tf2 : (fe s p == 0) = false := by simpa using fe_ne s p
  clear h123
  generalize hfe : fe s p = e at *
  go_enter Tryd.func53, Tryd.ntmps53
  go_wp2_with (first | (go_at_call 44; refine hw1.mono ?_; rintro r w1 ⟨rfl, h1, b1⟩) | (go_at_call 54; refine (hw2 _ h1).mono ?_; rintro r w2 ⟨rfl, h2, b2⟩))
  go_loopw [3, 2] (fun kv nv wr => kv = .int .i64 1 ∧ nv = .int .i32 (-1) ∧ Rd b s p e l wr ∧ Below b w wr) (fun _ _ _ => 0)
  case atStart => exact ⟨rfl, rfl, h2, b1.trans b2⟩
  case round =>
    obtain ⟨rfl, rfl, hr, hbw⟩ := hrel
    go_wp2_with (first | (go_at_call 45; refine (hby _ (by assumption)).mono ?_; rintro r w3 ⟨rfl, h3, b3⟩; replace hbw := hbw.trans b3) | (go_at_call 44; refine (hwt _ (by assumption)).mono ?_; rintro r w6 ⟨rfl, h6, b6⟩; replace hbw := hbw.trans b6; obtain ⟨c0, c1, c3, f1, f3⟩ := h6.cells))
    go_end0
    exact ⟨rfl, ⟨hp, l, by rw [hfe]; exact h6⟩, hbw⟩
theorem rd_number_bad1 (b : Nat) (s : ByteArray) (p : Nat) (l : List UInt8) (w : World) (hp : p < s.size) (h123 : bt s p = 123) (hd : ¬ (p + 1 < s.size ∧ 0 ≤ dg (bt s (p + 1)))) (hs : s.size ≤ 1000000) (h : Rd b s p 0 l w) :
    Calls Tryd.prog 53 #[.pointer (some ⟨b, 0, none⟩)] w fun r w' => r = .returned (.tuple #[]) ∧ RdQ b s l (.bad (p + 1)) w' ∧ Below b w w' := by
  have hw1 := rd_want b s p 123 l w hp h123 hs h
  have hw2 := fun W h => rd_hex_bad b s (p + 1) l W hp hd hs h
  have hby := fun W h => rd_byte_err b s (p + 1) (fe s (p + 1)) (fe_ne s (p + 1)) l W h
  have hwt := fun W h => rd_want_err b s (p + 1) 125 (by decide) (fe s (p + 1)) (fe_ne s (p + 1)) l W h
  have tf : decide (fe s (p + 1) = 0) = false := by simpa using fe_ne s (p + 1)
  have tf2 : (fe s (p + 1) == 0) = false := by simpa using fe_ne s (p + 1)
  clear h123 hd
  generalize hfe : fe s (p + 1) = e at *
  go_enter Tryd.func53, Tryd.ntmps53
  go_wp2_with (first | (go_at_call 44; refine hw1.mono ?_; rintro r w1 ⟨rfl, h1, b1⟩) | (go_at_call 54; refine (hw2 _ h1).mono ?_; rintro r w2 ⟨rfl, h2, b2⟩))
  go_loopw [3, 2] (fun kv nv wr => kv = .int .i64 1 ∧ nv = .int .i32 (-1) ∧ Rd b s (p + 1) e l wr ∧ Below b w wr) (fun _ _ _ => 0)
  case atStart => exact ⟨rfl, rfl, h2, b1.trans b2⟩
  case round =>
    obtain ⟨rfl, rfl, hr, hbw⟩ := hrel
    go_wp2_with (first | (go_at_call 45; refine (hby _ (by assumption)).mono ?_; rintro r w3 ⟨rfl, h3, b3⟩; replace hbw := hbw.trans b3) | (go_at_call 44; refine (hwt _ (by assumption)).mono ?_; rintro r w6 ⟨rfl, h6, b6⟩; replace hbw := hbw.trans b6; obtain ⟨c0, c1, c3, f1, f3⟩ := h6.cells))
    go_end0
    exact ⟨rfl, ⟨by omega, l, by rw [hfe]; exact h6⟩, hbw⟩
/-- number, whatever stands there. -/
theorem rd_number (b : Nat) (s : ByteArray) (p : Nat) (l : List UInt8) (w : World) (hp : p ≤ s.size) (hs : s.size ≤ 1000000) (hl : l.length ≤ 100000000) (h : Rd b s p 0 l w) :
    Calls Tryd.prog 53 #[.pointer (some ⟨b, 0, none⟩)] w fun r w' => r = .returned (.tuple #[]) ∧ RdQ b s l (numQ s p) w' ∧ Below b w w' := by
  unfold numQ
  by_cases h1 : p < s.size ∧ bt s p = 123
  · rw [if_pos h1]
    by_cases h2 : p + 1 < s.size ∧ 0 ≤ dg (bt s (p + 1))
    · rw [if_pos h2]
      exact rd_number_ok b s p l w h1.1 h1.2 h2.1 h2.2 hs hl h
    · rw [if_neg h2]
      exact rd_number_bad1 b s p l w h1.1 h1.2 h2 hs h
  · rw [if_neg h1]
    exact rd_number_bad b s p l w hp h1 hs h
end Go.Proofs.YtjldmlnohkknpaaDoor
