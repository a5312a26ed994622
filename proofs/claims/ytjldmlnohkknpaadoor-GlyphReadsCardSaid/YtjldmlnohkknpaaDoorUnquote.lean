/- Package glyph: Unquote, walked. -/
import Derived.Test.YtjldmlnohkknpaaDoorReader3
import Derived.Laws.IdiomStrings
import Derived.OwnWalk
namespace Go.Proofs.YtjldmlnohkknpaaDoor
open Go.RowKit
set_option maxRecDepth 100000
set_option maxHeartbeats 4000000
theorem conv_own {w : World} {b : Nat} {v : Value} (l : List UInt8) (hown : w.ownsRowF b 5 1 v l.length (Lib.byteCells l)) : (convert 46 9 v).run Tryd.prog w = .ok (.string ⟨l.toArray⟩) w := by
  rcases hown.2 with ⟨rfl, h0⟩ | ⟨g, cap, cur, fz, rfl, _⟩
  · obtain rfl : l = [] := List.length_eq_zero_iff.1 h0
    exact run_convert_bytes_nil w 46 5 Tryd.underlying46 Tryd.underlying5 0 0 9 Tryd.underlying9
  · refine run_convert_bytes_back w 46 9 5 ⟨g, 0, none⟩ cap l Tryd.underlying46 Tryd.underlying5 Tryd.underlying9 (fun j hj => hown.cells rfl j _ ?_)
    unfold Lib.byteCells
    rw [List.getElem?_map, List.getElem?_eq_getElem hj]
    rfl
/-- One step of reading at a place that is no closing quote. -/
def stepQ (s : ByteArray) (i : Nat) : Qs := if bt s i = 92 then escQ s (i + 1) else if bt s i < 32 ∨ 126 < bt s i then .bad i else .ok (i + 1) [s.get! i]
/-- What is read from a place on. -/
def unqF (s : ByteArray) : Nat → Nat → List UInt8 → List UInt8 × Nat × Int
  | 0, _, _ => ([], s.size, 2)
  | f + 1, i, l => if i < s.size then (if bt s i = 34 then (l, i + 1, 0) else match stepQ s i with
    | .bad p => ([], p, fe s p)
    | .ok j x => unqF s f j (l ++ x)) else ([], s.size, 2)
def unquoteL (s : ByteArray) : List UInt8 × Nat × Int := if 0 < s.size ∧ bt s 0 = 34 then unqF s (s.size + 1) 1 [] else ([], 0, fe s 0)
theorem unqF_end (s : ByteArray) (f i : Nat) (l : List UInt8) (h : ¬ i < s.size) : unqF s f i l = ([], s.size, 2) := by
  cases f with
  | zero => rfl
  | succ f => simp only [unqF, if_neg h]
theorem unqF_quote (s : ByteArray) (f i : Nat) (l : List UInt8) (h : i < s.size) (hq : bt s i = 34) : unqF s (f + 1) i l = (l, i + 1, 0) := by simp only [unqF, if_pos h, if_pos hq]
theorem unqF_bad (s : ByteArray) (f i p : Nat) (l : List UInt8) (h : i < s.size) (hq : ¬ bt s i = 34) (hs : stepQ s i = .bad p) : unqF s (f + 1) i l = ([], p, fe s p) := by simp only [unqF, if_pos h, if_neg hq, hs]
theorem unqF_ok (s : ByteArray) (f i j : Nat) (l x : List UInt8) (h : i < s.size) (hq : ¬ bt s i = 34) (hs : stepQ s i = .ok j x) : unqF s (f + 1) i l = unqF s f j (l ++ x) := by simp only [unqF, if_pos h, if_neg hq, hs]
theorem scan_ge (s : ByteArray) : ∀ (f j : Nat) (n : Int), j ≤ (scan s f j n).1 := by
  intro f
  induction f with
  | zero => intro j n; exact Nat.le_refl _
  | succ f ih =>
    intro j n
    simp only [scan]
    split
    · have := ih (j + 1) (n * 16 + dg (bt s j)); omega
    · exact Nat.le_refl _
theorem enc4 (r : Int) : (Lib.encodeRune r).length ≤ 4 := by
  have := Lib.runeCells_le r
  rw [Lib.runeCells_length] at this
  omega
/-- A step goes on, by a few bytes. -/
theorem stepQ_ok {s : ByteArray} {i j : Nat} {x : List UInt8} (h : stepQ s i = .ok j x) : i < j ∧ x.length ≤ 4 := by
  unfold stepQ at h
  split at h
  · unfold escQ at h
    split at h
    · split at h
      · simp only [Qs.ok.injEq] at h; obtain ⟨rfl, rfl⟩ := h; exact ⟨by omega, by simp⟩
      · split at h
        · simp only [Qs.ok.injEq] at h; obtain ⟨rfl, rfl⟩ := h; exact ⟨by omega, by simp⟩
        · split at h
          · unfold numQ at h
            split at h
            · split at h
              · unfold numT at h
                split at h
                · have hg := scan_ge s 5 (i + 1 + 1 + 2) (dg (bt s (i + 1 + 1 + 1)))
                  simp only [Qs.ok.injEq] at h; obtain ⟨rfl, rfl⟩ := h
                  exact ⟨by omega, enc4 _⟩
                · simp at h
              · simp at h
            · simp at h
          · split at h
            · unfold xQ at h
              split at h
              · split at h
                · simp only [Qs.ok.injEq] at h; obtain ⟨rfl, rfl⟩ := h; exact ⟨by omega, by simp⟩
                · simp at h
              · simp at h
            · simp at h
    · simp at h
  · split at h
    · simp at h
    · simp only [Qs.ok.injEq] at h; obtain ⟨rfl, rfl⟩ := h; exact ⟨by omega, by simp⟩
/-- How far a reader's loop has to go yet. -/
def todo (b n : Nat) (w : World) : Nat := match w.cell? ⟨b, 3, none⟩, w.cell? ⟨b, 1, none⟩ with
  | some (.int _ e), some (.int _ p) => if e = 0 then n + 1 - p.toNat else 0
  | _, _ => 0
theorem Rd.todo {b : Nat} {s : ByteArray} {p : Nat} {e : Int} {l : List UInt8} {w : World} (h : Rd b s p e l w) (n : Nat) : todo b n w = if e = 0 then n + 1 - p else 0 := by
  obtain ⟨c0, c1, c3, f1, f3⟩ := h.cells
  unfold Go.Proofs.YtjldmlnohkknpaaDoor.todo
  rw [c1, c3]
  simp
/-- What the loop keeps. -/
def UnqInv (b : Nat) (s : ByteArray) (T : List UInt8 × Nat × Int) (w : World) : Prop :=
  (∃ (f i : Nat) (l : List UInt8), s.size < i + f ∧ i ≤ s.size ∧ l.length ≤ 4 * i ∧ Rd b s i 0 l w ∧ unqF s f i l = T) ∨ (∃ (p : Nat) (e : Int) (l : List UInt8), e ≠ 0 ∧ Rd b s p e l w ∧ T = ([], p, e))
theorem unqInv_q {b : Nat} {s : ByteArray} {T : List UInt8 × Nat × Int} {w : World} {f i : Nat} {l : List UInt8} {q : Qs} (hf : s.size < i + (f + 1)) (hl : l.length ≤ 4 * i) (hi : i < s.size) (hq : ¬ bt s i = 34) (hs : stepQ s i = q) (hT : unqF s (f + 1) i l = T) (h : RdQ b s l q w) : UnqInv b s T w ∧ todo b s.size w < s.size + 1 - i := by
  cases q with
  | bad p =>
    obtain ⟨hp, l', h⟩ := h
    refine ⟨.inr ⟨p, fe s p, l', fe_ne s p, h, ?_⟩, ?_⟩
    · rw [← hT, unqF_bad s f i p l hi hq hs]
    · rw [h.todo, if_neg (fe_ne s p)]; omega
  | ok j x =>
    obtain ⟨hp, h⟩ := h
    obtain ⟨h1, h2⟩ := stepQ_ok hs
    refine ⟨.inl ⟨f, j, l ++ x, by omega, hp, by rw [List.length_append]; omega, h, ?_⟩, ?_⟩
    · rw [← hT, unqF_ok s f i j l x hi hq hs]
    · rw [h.todo, if_pos rfl]; omega
theorem gl_unquote (s : ByteArray) (hs : s.size ≤ 1000000) (w : World) :
    Calls Tryd.prog 27 #[.string s] w fun e w' => e = .returned (.tuple #[.string ⟨(unquoteL s).1.toArray⟩, .int .i64 (unquoteL s).2.1, .int .i64 (unquoteL s).2.2]) ∧ Below w.heap.size w w' := by
  obtain ⟨T, hT⟩ : ∃ T, unquoteL s = T := ⟨_, rfl⟩
  rw [hT]
  have hinfo : (Tryd.prog.info? 5).map (fun i => (i.zero, i.size, i.bytes)) = some (some (.int .u8 0), 1, 1) := by kernel_rfl
  obtain ⟨i0, hi, hz0, hz1, hz2⟩ := info_parts hinfo
  clear hinfo
  have HT := Lib.hid hT
  clear hT
  obtain ⟨b, hb⟩ : ∃ b, b = w.heap.size := ⟨_, rfl⟩
  have HBB := Lib.hid hb
  clear hb
  go_enter Tryd.func27, Tryd.ntmps27
  have hw : ∀ W, Rd b s 0 0 [] W → Calls Tryd.prog 44 #[.pointer (some ⟨b, 0, none⟩), .int .u8 34] W fun r w' => r = .returned (.tuple #[]) ∧ UnqInv b s T w' ∧ Below b W w' := by
    intro W h
    have hT := HT.out
    unfold unquoteL at hT
    by_cases hc : 0 < s.size ∧ bt s 0 = 34
    · rw [if_pos hc] at hT
      refine (rd_want b s 0 34 [] W hc.1 hc.2 hs h).mono ?_
      rintro r w' ⟨rfl, h1, b1⟩
      exact ⟨rfl, .inl ⟨s.size + 1, 1, [], by omega, by omega, by simp, h1, hT⟩, b1⟩
    · rw [if_neg hc] at hT
      refine (rd_want_bad b s 0 34 (by decide) [] W (Nat.zero_le _) hc hs h).mono ?_
      rintro r w' ⟨rfl, h1, b1⟩
      exact ⟨rfl, .inr ⟨0, fe s 0, [], fe_ne s 0, h1, hT.symm⟩, b1⟩
  go_upto_region 2 with fail
  rw [← HBB.out]
  have hB0 := Blk.new' w #[.string s, .int .i64 0, .slice none 0 0, .int .i64 0] 61 HBB.out
  refine wp_world (fun W => Rd b s 0 0 [] W ∧ Below b w W) ⟨⟨.slice none 0 0, hB0, World.ownsRowF_nil _ _ _ _, by simp [Value.ownBlock]⟩, (Below.refl b w).alloc (by rw [HBB.out]; exact Nat.le_refl _) _⟩ ?_
  clear hB0 HT
  rintro W0 ⟨hr0, hbw0⟩
  go_wp2_with (go_at_call 44; refine (hw _ hr0).mono ?_; rintro r w1 ⟨rfl, h1, b1⟩; replace b1 := hbw0.trans b1)
  go_loopw [] (fun wr => UnqInv b s T wr ∧ Below b w wr) (fun wr => todo b s.size wr)
  case atStart => exact ⟨h1, b1⟩
  case round =>
    obtain ⟨hI, hbw⟩ := hrel
    clear hw hr0 hbw0 h1 b1
    rcases hI with ⟨f, i, l, hf, hil, hl, hr, hu⟩ | ⟨p, e, l, he, hr, rfl⟩
    · have htd := hr.todo s.size
      rw [if_pos rfl] at htd
      obtain ⟨c0, c1, c3, f1, f3⟩ := hr.cells
      by_cases hlt : i < s.size
      · obtain ⟨f, rfl⟩ : ∃ g, f = g + 1 := ⟨f - 1, by omega⟩
        have hby := rd_byte b s i l wr hlt hs hr
        by_cases h34 : bt s i = 34
        · rw [unqF_quote s f i l hlt h34] at hu
          subst hu
          rw [h34] at hby
          clear h34 htd
          go_upto_region 6 with (go_at_call 45; refine hby.mono ?_; rintro r W ⟨rfl, hr, b3⟩; replace hbw := hbw.trans b3; obtain ⟨c0, c1, c3, f1, f3⟩ := hr.cells)
          obtain ⟨v, hB, hown, hne⟩ := hr
          obtain ⟨ao, cap, rfl⟩ := own_shape hown
          have hcv := fun n => conv_own (w := W.drewN n) l hown
          have c2 : W.cell? ⟨b, 2, none⟩ = some (.slice ao l.length cap) := hB.cell 2
          go_upto_region 8 with fail
          go_quiet (fail)
          go_wp2
          go_ret3
          exact ⟨rfl, by rw [← HBB.out]; exact bel_n hbw _⟩
        · by_cases h92 : bt s i = 92
          · have hst : stepQ s i = escQ s (i + 1) := by unfold stepQ; rw [if_pos h92]
            have HST := Lib.hid hst
            have hesc := fun W h => rd_escape b s (i + 1) l W (by omega) hs (by omega) h
            rw [h92] at hby
            have HU := Lib.hid hu
            have H34 := Lib.hid h34
            have HTD := Lib.hid htd
            clear h34 h92 hst hu htd
            go_upto_region 11 with (go_at_call 45; refine hby.mono ?_; rintro r w3 ⟨rfl, h3, b3⟩; replace hbw := hbw.trans b3; obtain ⟨c0, c1, c3, f1, f3⟩ := h3.cells)
            refine wp_world (fun W => Rd b s (i + 1) 0 l W ∧ Below b w W) ⟨h3.set1 (i + 1), hbw.setCell (p := ⟨b, 1, none⟩) (Nat.le_refl _) _⟩ ?_
            clear h3 b3 hbw c0 c1 c3 f1 f3 hby
            rintro W ⟨hr3, hbw⟩
            go_wp2_with (go_at_call 46; refine (hesc _ hr3).mono ?_; rintro r w4 ⟨rfl, h4, b4⟩; replace hbw := hbw.trans b4)
            have hfin := unqInv_q hf hl hlt H34.out HST.out HU.out h4
            go_roundw
            case rel => exact ⟨hfin.1, hbw⟩
            case measure => rw [HTD.out]; exact hfin.2
          · by_cases hpr : bt s i < 32 ∨ 126 < bt s i
            · have hst : stepQ s i = .bad i := by unfold stepQ; rw [if_neg h92, if_pos hpr]
              have HST := Lib.hid hst
              have HU := Lib.hid hu
              have H34 := Lib.hid h34
              have HTD := Lib.hid htd
              have hsp := fun W h => rd_stop b s i l W hil hs h
              have q1 : ((bt s i : Int) == 34) = false := by simp; omega
              have q2 : ((bt s i : Int) == 92) = false := by simp; omega
              have q3 : decide ((bt s i : Int) = 34) = false := by simp; omega
              have q4 : decide ((bt s i : Int) = 92) = false := by simp; omega
              have q5 : decide ((32 : Int) ≤ (bt s i : Int)) = false ∨ (decide ((32 : Int) ≤ (bt s i : Int)) = true ∧ decide ((bt s i : Int) ≤ 126) = false) := by simp only [decide_eq_true_eq, decide_eq_false_iff_not]; omega
              clear h34 h92 hst hu htd hpr
              generalize hcb : bt s i = c at *
              have HCB := Lib.hid hcb
              clear hcb
              rcases q5 with q5 | ⟨q5, q6⟩
              all_goals
                go_wp2_with (first | (go_at_call 45; refine hby.mono ?_; rintro r w3 ⟨rfl, h3, b3⟩; replace hbw := hbw.trans b3; obtain ⟨c0, c1, c3, f1, f3⟩ := h3.cells) | (go_at_call 47; refine (hsp _ h3).mono ?_; rintro r w4 ⟨rfl, h4, b4⟩; replace hbw := hbw.trans b4))
                have hfin := unqInv_q hf hl hlt (by rw [HCB.out]; exact H34.out) HST.out HU.out ⟨hil, l, h4⟩
                go_roundw
                case rel => exact ⟨hfin.1, hbw⟩
                case measure => rw [HTD.out]; exact hfin.2
            · have hst : stepQ s i = .ok (i + 1) [s.get! i] := by unfold stepQ; rw [if_neg h92, if_neg hpr]
              have HST := Lib.hid hst
              have HU := Lib.hid hu
              have H34 := Lib.hid h34
              have HTD := Lib.hid htd
              have hxn : (s.get! i).toNat = bt s i := rfl
              have HX := Lib.hid hxn
              have q1 : ((bt s i : Int) == 34) = false := by simp; omega
              have q2 : ((bt s i : Int) == 92) = false := by simp; omega
              have q3 : decide ((bt s i : Int) = 34) = false := by simp; omega
              have q4 : decide ((bt s i : Int) = 92) = false := by simp; omega
              have q5 : decide ((32 : Int) ≤ (bt s i : Int)) = true := by simp; omega
              have q6 : decide ((bt s i : Int) ≤ 126) = true := by simp; omega
              clear h34 h92 hst hu htd hpr hxn
              generalize hcb : bt s i = c at *
              have HCB := Lib.hid hcb
              clear hcb
              generalize s.get! i = x at *
              go_upto_region 14 with (go_at_call 45; refine hby.mono ?_; rintro r w3 ⟨rfl, h3, b3⟩; replace hbw := hbw.trans b3; obtain ⟨c0, c1, c3, f1, f3⟩ := h3.cells)
              refine wp_world (fun W => Rd b s (i + 1) 0 l W ∧ Below b w W) ⟨h3.set1 (i + 1), hbw.setCell (p := ⟨b, 1, none⟩) (Nat.le_refl _) _⟩ ?_
              clear h3 b3 hbw c0 c1 c3 f1 f3 hby hr
              rintro W ⟨hr, hbw⟩
              obtain ⟨v, hB, hown, hne⟩ := hr
              obtain ⟨ao, cap, rfl⟩ := own_shape hown
              have c2 : W.cell? ⟨b, 2, none⟩ = some (.slice ao l.length cap) := hB.cell 2
              have hsz := hB.lt
              have hll : (Lib.byteCells l).length = l.length := Lib.byteCells_length l
              have HLL := Lib.hid hll
              clear hll
              go_wp2_with (at_builtin; refine wpList_append_ownF _ rfl _ _ 46 rfl b 5 i0 (.int .u8 0) 1 1 Tryd.underlying46 hi hz0 hz1 hz2 rfl (by decide) _ _ _ rfl (hown.alloc _) ⟨W.heap.size, 0, none⟩ 1 1 [.int .u8 c] rfl rfl ?c1 ?c2 ?c3 ?c4 ?c5 ?_)
              case c1 =>
                intro j u hj
                match j, hj with
                | 0, hj => simp at hj; subst hj; simp [Addr.add]
              case c2 => intro u hu; simp at hu; subst hu; rfl
              case c3 => unfold maxLen; omega
              case c4 => omega
              case c5 => simp; omega
              intro v' w2 hown' hgrow _
              have hB2 := app_blk hB hne hgrow
              obtain ⟨ao', cap', rfl⟩ := own_shape hown'
              have f2 := hB2.free 2
              have q2 : w2.cell? ⟨b, 2, none⟩ = some (.slice ao l.length cap) := hB2.cell 2
              go_wp2
              have h4 : Rd b s (i + 1) 0 (l ++ [x]) (w2.setCell ⟨b, 2, none⟩ (.slice ao' (l.length + 1) cap')) := app_rd (l ++ [x]) hB2 hown' (by simp) (by rw [cells_app, HX.out])
              have b4 := app_below hbw (by omega) hown hgrow (.slice ao' (l.length + 1) cap')
              have hfin := unqInv_q hf hl hlt (by rw [HCB.out]; exact H34.out) HST.out HU.out ⟨by omega, h4⟩
              go_roundw
              case rel => exact ⟨hfin.1, b4⟩
              case measure => rw [HTD.out]; exact hfin.2
      · obtain rfl : i = s.size := by omega
        have hby := rd_byte_end b s l wr hs hr
        rw [unqF_end s f s.size l hlt] at hu
        have HU := Lib.hid hu
        have HTD := Lib.hid htd
        clear hu htd
        go_wp2_with (go_at_call 45; refine hby.mono ?_; rintro r w3 ⟨rfl, h3, b3⟩; replace hbw := hbw.trans b3; obtain ⟨c0, c1, c3, f1, f3⟩ := h3.cells)
        go_roundw
        case rel => exact ⟨.inr ⟨s.size, 2, l, by decide, h3, HU.out.symm⟩, hbw⟩
        case measure => rw [HTD.out, h3.todo, if_neg (by decide)]; omega
    · obtain ⟨c0, c1, c3, f1, f3⟩ := hr.cells
      have t1 : decide (e = 0) = false := by simpa using he
      have t2 : (e == 0) = false := by simpa using he
      go_upto_region 15 with fail
      go_quiet (fail)
      go_wp2
      go_ret3
      exact ⟨rfl, by rw [← HBB.out]; exact bel_n hbw _⟩
end Go.Proofs.YtjldmlnohkknpaaDoor
