/- What is folded decodes, place by place, to the folds: the plain part of GlyphFolds. -/
import Derived.Test.YtjldmlnohkknpaaDoorFoldT
namespace Go.Proofs.YtjldmlnohkknpaaDoor
open Go.RowKit
set_option maxRecDepth 100000
set_option maxHeartbeats 4000000
/-- How many bytes a rune has. -/
def rlen (r : Int) : Nat := if r < 128 then 1 else if r < 2048 then 2 else if r < 65536 then 3 else 4
theorem rlen_pos (r : Int) : 1 ≤ rlen r ∧ rlen r ≤ 4 := by unfold rlen; repeat' split
                                                           all_goals omega
theorem encZ_rlen {r : Int} (h : RuneOk r) : (Lib.encodeRuneZ r).length = rlen r := by
  obtain ⟨h0, h1, h2⟩ := h
  unfold rlen
  by_cases c1 : r < 128
  · rw [Lib.encodeRuneZ_one h0 (by omega), if_pos c1]; rfl
  · by_cases c2 : r < 2048
    · rw [Lib.encodeRuneZ_two (by omega) (by omega), if_neg c1, if_pos c2]; rfl
    · by_cases c3 : r < 65536
      · rw [Lib.encodeRuneZ_three (by omega), if_neg c1, if_neg c2, if_pos c3]; rfl
      · rw [Lib.encodeRuneZ_four (by omega) h1, if_neg c1, if_neg c2, if_neg c3]; rfl
theorem enc_rlen {r : Int} (h : RuneOk r) : (Lib.encodeRune r).length = rlen r := by
  rw [← encZ_rlen h]; unfold Lib.encodeRune; rw [List.length_map]
theorem bt_list (f : ByteArray) (k : Nat) : bt f k = (f.data.toList[k]?.getD 0).toNat := by
  unfold bt
  congr 1
  show f.data[k]! = _
  rw [Array.getElem!_eq_getD, Array.getD_eq_getD_getElem?, ← Array.getElem?_toList]
  rfl
theorem enc_get (r : Int) (j : Nat) : (((Lib.encodeRune r)[j]?.getD 0).toNat : Int) = (Lib.encodeRuneZ r).getD j 0 := by
  unfold Lib.encodeRune
  rw [List.getElem?_map, List.getD_eq_getElem?_getD]
  cases h : (Lib.encodeRuneZ r)[j]? with
  | none => rfl
  | some x =>
    have hx := Lib.encodeRuneZ_byte r x (List.mem_of_getElem? h)
    simp only [Option.map_some, Option.getD_some]
    have : (x.toNat.toUInt8).toNat = x.toNat := by simp [UInt8.toNat_ofNat']; omega
    rw [this]; omega
/-- Where a rune's bytes stand, that rune is read. -/
theorem dec_bytes (f : ByteArray) (i : Nat) {r : Int} (h : RuneOk r) (hz : i + rlen r ≤ f.size) (hb : ∀ j, j < rlen r → (bt f (i + j) : Int) = (Lib.encodeRuneZ r).getD j 0) : Utf8.decode f i = (r.toNat, rlen r) := by
  have g1 := bt_lt f (i + 1)
  have g2 := bt_lt f (i + 2)
  have g3 := bt_lt f (i + 3)
  obtain ⟨h0, h1, h2⟩ := h
  rw [dec_at]
  unfold rlen at hz hb ⊢
  by_cases c1 : r < 128
  · rw [if_pos c1] at hz hb ⊢
    rw [Lib.encodeRuneZ_one h0 (by omega)] at hb
    have b0 := hb 0 (by omega)
    simp at b0
    rw [dec0 _ _ _ _ _ (by omega)]
    apply Prod.ext <;> simp only <;> omega
  · rw [if_neg c1] at hz hb ⊢
    by_cases c2 : r < 2048
    · rw [if_pos c2] at hz hb ⊢
      rw [Lib.encodeRuneZ_two (by omega) (by omega)] at hb
      have b0 := hb 0 (by omega)
      have b1 := hb 1 (by omega)
      simp at b0 b1
      rw [dec1 _ _ _ _ _ (by omega) g1, if_pos (by omega)]
      apply Prod.ext <;> simp only <;> omega
    · rw [if_neg c2] at hz hb ⊢
      by_cases c3 : r < 65536
      · rw [if_pos c3] at hz hb ⊢
        rw [Lib.encodeRuneZ_three (by omega)] at hb
        have b0 := hb 0 (by omega)
        have b1 := hb 1 (by omega)
        have b2 := hb 2 (by omega)
        simp at b0 b1 b2
        rw [dec2 _ _ _ _ _ (by omega) g1 g2, if_pos (by omega)]
        apply Prod.ext <;> simp only <;> omega
      · rw [if_neg c3] at hz hb ⊢
        rw [Lib.encodeRuneZ_four (by omega) h1] at hb
        have b0 := hb 0 (by omega)
        have b1 := hb 1 (by omega)
        have b2 := hb 2 (by omega)
        have b3 := hb 3 (by omega)
        simp at b0 b1 b2 b3
        rw [dec3 _ _ _ _ _ (by omega) g1 g2 g3, if_pos (by omega)]
        apply Prod.ext <;> simp only <;> omega
theorem wd_rlen (s : ByteArray) (i : Nat) (h : ¬ Utf8.decode s i = (65533, 1)) : wd s i = rlen (Utf8.decode s i).1 := by
  have g1 := bt_lt s (i + 1)
  have g2 := bt_lt s (i + 2)
  have g3 := bt_lt s (i + 3)
  have g0 := bt_lt s i
  unfold wd rlen
  rw [dec_at] at h ⊢
  by_cases c0 : bt s i < 128
  · rw [dec0 _ _ _ _ _ c0]; simp only; rw [if_pos (by omega)]
  · by_cases cX : bt s i < 194 ∨ 245 ≤ bt s i
    · rw [decX _ _ _ _ _ g0 (by omega)] at h; exact absurd rfl h
    · by_cases c1 : bt s i < 224
      · rw [dec1 _ _ _ _ _ ⟨by omega, c1⟩ g1] at h ⊢
        split
        · simp only; rw [if_neg (by omega), if_pos (by omega)]
        · rename_i hh; rw [if_neg hh] at h; exact absurd rfl h
      · by_cases c2 : bt s i < 240
        · rw [dec2 _ _ _ _ _ ⟨by omega, c2⟩ g1 g2] at h ⊢
          split
          · simp only; rw [if_neg (by omega), if_neg (by omega), if_pos (by omega)]
          · rename_i hh; rw [if_neg hh] at h; exact absurd rfl h
        · rw [dec3 _ _ _ _ _ ⟨by omega, by omega⟩ g1 g2 g3] at h ⊢
          split
          · simp only; rw [if_neg (by omega), if_neg (by omega), if_neg (by omega)]
          · rename_i hh; rw [if_neg hh] at h; exact absurd rfl h
theorem rlen_fold {r : Int} (h : RuneOk r) : rlen (foldR r) = rlen r := by
  obtain ⟨h0, h1, h2⟩ := h
  unfold foldR rlen
  repeat' split
  all_goals first | rfl | (exfalso; omega)
theorem fold_fold (r : Int) : foldR (foldR r) = foldR r := by
  unfold foldR
  repeat' split
  all_goals first | rfl | (exfalso; omega) | omega
theorem foldB_wd (s : ByteArray) (i : Nat) : (foldB s i).length = wd s i := by
  rcases dec_ok s i with h | ⟨hR, hn⟩
  · unfold foldB wd; rw [if_pos h, h]; rfl
  · have hne : ¬ Utf8.decode s i = (65533, 1) := fun h => by rw [show rn s i = -1 by unfold rn; rw [if_pos h]] at hn; omega
    unfold foldB
    rw [if_neg hne, enc_rlen (foldR_ok hR), rlen_fold hR, wd_rlen s i hne]
/-- From a place on, f holds the folds of what s holds. -/
def At (f s : ByteArray) (i : Nat) : Prop := f.data.toList.drop i = (rest s i).flatMap (foldB s)
theorem At.next {f s : ByteArray} {i : Nat} (h : At f s i) (hi : i < s.size) : At f s (i + wd s i) := by
  unfold At at *
  rw [rest_step s i hi, List.flatMap_cons] at h
  rw [← List.drop_drop, h, ← foldB_wd s i, List.drop_left]
theorem At.byte {f s : ByteArray} {i : Nat} (h : At f s i) (hi : i < s.size) (j : Nat) (hj : j < wd s i) : bt f (i + j) = ((foldB s i)[j]?.getD 0).toNat := by
  unfold At at h
  rw [rest_step s i hi, List.flatMap_cons] at h
  rw [bt_list, ← List.getElem?_drop, h, List.getElem?_append_left (by rw [foldB_wd]; exact hj)]
theorem At.size {f s : ByteArray} : ∀ (k i : Nat), s.size ≤ i + k → i ≤ s.size → At f s i → i ≤ f.size → f.size = s.size := by
  intro k
  induction k with
  | zero =>
    intro i h hi ha hf
    unfold At at ha
    rw [rest_end s i (by omega), List.flatMap_nil, List.drop_eq_nil_iff] at ha
    have : f.data.toList.length = f.size := rfl
    omega
  | succ k ih =>
    intro i h hi ha hf
    by_cases hlt : i < s.size
    · have hw := wd_pos s i hlt
      have hl := (wd_le s i hlt).2
      refine ih (i + wd s i) (by omega) hl (ha.next hlt) ?_
      unfold At at ha
      rw [rest_step s i hlt, List.flatMap_cons] at ha
      have hlen := congrArg List.length ha
      rw [List.length_drop, List.length_append, foldB_wd] at hlen
      have : f.data.toList.length = f.size := rfl
      omega
    · unfold At at ha
      rw [rest_end s i hlt, List.flatMap_nil, List.drop_eq_nil_iff] at ha
      have : f.data.toList.length = f.size := rfl
      omega
def cont (b : Nat) : Prop := 128 ≤ b ∧ b ≤ 191
/-- The bytes that go on are the same in both. -/
def sameC (f s : ByteArray) : Nat → Nat → Prop
  | 0, _ => True
  | k + 1, i => (¬ cont (bt s i) ∧ ¬ cont (bt f i)) ∨ (bt f i = bt s i ∧ sameC f s k (i + 1))
theorem bt_out (s : ByteArray) (i : Nat) (h : ¬ i < s.size) : bt s i = 0 := by
  rw [bt_list, List.getElem?_eq_none (by show s.size ≤ i; omega)]
  rfl
theorem cont_bad (s : ByteArray) (i : Nat) (h : cont (bt s i)) : Utf8.decode s i = (65533, 1) := by
  unfold cont at h
  rw [dec_at, decX _ _ _ _ _ (bt_lt s i) (by omega)]
theorem enc_head {r : Int} (h : RuneOk r) : ¬ cont ((Lib.encodeRune r)[0]?.getD 0).toNat := by
  have hg := enc_get r 0
  obtain ⟨h0, h1, h2⟩ := h
  unfold cont
  by_cases c1 : r < 128
  · rw [Lib.encodeRuneZ_one h0 (by omega)] at hg; simp only [List.getD_cons_zero] at hg; omega
  · by_cases c2 : r < 2048
    · rw [Lib.encodeRuneZ_two (by omega) (by omega)] at hg; simp only [List.getD_cons_zero] at hg; omega
    · by_cases c3 : r < 65536
      · rw [Lib.encodeRuneZ_three (by omega)] at hg; simp only [List.getD_cons_zero] at hg; omega
      · rw [Lib.encodeRuneZ_four (by omega) h1] at hg; simp only [List.getD_cons_zero] at hg; omega
theorem foldB_bad (s : ByteArray) (i : Nat) (h : Utf8.decode s i = (65533, 1)) : foldB s i = [s.get! i] ∧ wd s i = 1 := by
  unfold foldB wd; rw [if_pos h, h]; exact ⟨rfl, rfl⟩
theorem sameC_at {f s : ByteArray} (hz : f.size = s.size) : ∀ (k i : Nat), At f s i → sameC f s k i := by
  intro k
  induction k with
  | zero => intro i _; trivial
  | succ k ih =>
    intro i ha
    by_cases hi : i < s.size
    · rcases dec_ok s i with h | ⟨hR, hn⟩
      · obtain ⟨hb, hw⟩ := foldB_bad s i h
        have h0 := ha.byte hi 0 (by omega)
        rw [hb] at h0
        have hn := ha.next hi
        rw [hw] at hn
        exact .inr ⟨h0, ih (i + 1) hn⟩
      · have hne : ¬ Utf8.decode s i = (65533, 1) := fun h => by rw [show rn s i = -1 by unfold rn; rw [if_pos h]] at hn; omega
        have h0 := ha.byte hi 0 (by have := wd_pos s i hi; omega)
        unfold foldB at h0
        rw [if_neg hne] at h0
        refine .inl ⟨fun hc => hne (cont_bad s i hc), ?_⟩
        rw [Nat.add_zero] at h0
        rw [h0]
        exact enc_head (foldR_ok hR)
    · refine .inl ⟨?_, ?_⟩
      · rw [bt_out s i hi]; unfold cont; omega
      · rw [bt_out f i (by omega)]; unfold cont; omega
theorem bad_same {f s : ByteArray} (i : Nat) (h0 : bt f i = bt s i) (hc : sameC f s 3 (i + 1)) (hz : f.size = s.size) : Utf8.decode s i = (65533, 1) → Utf8.decode f i = (65533, 1) := by
  intro h
  have g0 := bt_lt s i
  have k1 := bt_lt f (i + 1)
  have k2 := bt_lt f (i + 2)
  have k3 := bt_lt f (i + 3)
  have g1 := bt_lt s (i + 1)
  have g2 := bt_lt s (i + 2)
  have g3 := bt_lt s (i + 3)
  rw [dec_at] at h ⊢
  rw [h0, hz]
  simp only [sameC, Nat.add_assoc, Nat.reduceAdd, and_true] at hc
  unfold cont at hc
  by_cases a0 : bt s i < 128
  · rw [dec0 _ _ _ _ _ a0] at h ⊢; exact h
  · by_cases aX : bt s i < 194 ∨ 245 ≤ bt s i
    · rw [decX _ _ _ _ _ g0 (by omega)]
    · by_cases a1 : bt s i < 224
      · rw [dec1 _ _ _ _ _ ⟨by omega, a1⟩ g1] at h
        rw [dec1 _ _ _ _ _ ⟨by omega, a1⟩ k1]
        split at h
        · exfalso; have := congrArg Prod.snd h; simp at this
        · rename_i q; rw [if_neg (by omega)]
      · by_cases a2 : bt s i < 240
        · rw [dec2 _ _ _ _ _ ⟨by omega, a2⟩ g1 g2] at h
          rw [dec2 _ _ _ _ _ ⟨by omega, a2⟩ k1 k2]
          split at h
          · exfalso; have := congrArg Prod.snd h; simp at this
          · rename_i q; rw [if_neg fun q2 => q (by
              rcases hc with hc | ⟨e1, hc | ⟨e2, hc⟩⟩
              · exfalso; omega
              · exfalso; omega
              · rw [← e1, ← e2]; exact q2)]
        · rw [dec3 _ _ _ _ _ ⟨by omega, by omega⟩ g1 g2 g3] at h
          rw [dec3 _ _ _ _ _ ⟨by omega, by omega⟩ k1 k2 k3]
          split at h
          · exfalso; have := congrArg Prod.snd h; simp at this
          · rename_i q; rw [if_neg fun q2 => q (by
              rcases hc with hc | ⟨e1, hc | ⟨e2, hc | e3⟩⟩
              · exfalso; omega
              · exfalso; omega
              · exfalso; omega
              · rw [← e1, ← e2, ← e3]; exact q2)]
/-- What is read there. -/
theorem At.dec {f s : ByteArray} (hz : f.size = s.size) {i : Nat} (ha : At f s i) (hi : i < s.size) : (Utf8.decode s i = (65533, 1) ∧ Utf8.decode f i = (65533, 1) ∧ f.get! i = s.get! i) ∨ (RuneOk (Utf8.decode s i).1 ∧ Utf8.decode s i ≠ (65533, 1) ∧ Utf8.decode f i ≠ (65533, 1) ∧ ((Utf8.decode f i).1 : Int) = foldR (Utf8.decode s i).1 ∧ (Utf8.decode f i).2 = (Utf8.decode s i).2) := by
  rcases dec_ok s i with h | ⟨hR, hn⟩
  · obtain ⟨hb, hw⟩ := foldB_bad s i h
    have h0 := ha.byte hi 0 (by omega)
    rw [hb] at h0
    have hn := ha.next hi
    rw [hw] at hn
    exact .inl ⟨h, bad_same i h0 (sameC_at hz 3 _ hn) hz h, UInt8.toNat_inj.1 h0⟩
  · have hne : ¬ Utf8.decode s i = (65533, 1) := fun h => by rw [show rn s i = -1 by unfold rn; rw [if_pos h]] at hn; omega
    have hfo := foldR_ok hR
    have hl := (wd_le s i hi).2
    have hrl := rlen_fold hR
    have hwr := wd_rlen s i hne
    have hd := dec_bytes f i hfo (by omega) (fun j hj => by
      have := ha.byte hi j (by omega)
      unfold foldB at this
      rw [if_neg hne] at this
      rw [this]
      exact enc_get _ j)
    have hnn : ((foldR ((Utf8.decode s i).1 : Int)).toNat : Int) = foldR ((Utf8.decode s i).1 : Int) := by have := hfo.1; omega
    refine .inr ⟨hR, hne, ?_, ?_, ?_⟩
    · rw [hd]
      intro hh
      have a1 := congrArg Prod.fst hh
      have a2 := congrArg Prod.snd hh
      simp only at a1 a2
      have a3 : foldR ((Utf8.decode s i).1 : Int) = 65533 := by omega
      rw [a3] at a2
      exact absurd a2 (by decide)
    · rw [hd]; exact hnn
    · rw [hd]; show rlen _ = wd s i; omega
theorem At.rest {f s : ByteArray} (hz : f.size = s.size) : ∀ (k i : Nat), s.size ≤ i + k → At f s i → rest f i = rest s i ∧ (rest f i).flatMap (foldB f) = (rest s i).flatMap (foldB s) := by
  intro k
  induction k with
  | zero => intro i h _; rw [rest_end f i (by omega), rest_end s i (by omega)]; exact ⟨rfl, rfl⟩
  | succ k ih =>
    intro i h ha
    by_cases hi : i < s.size
    · have hw := wd_pos s i hi
      obtain ⟨i1, i2⟩ := ih (i + wd s i) (by omega) (ha.next hi)
      have hwe : wd f i = wd s i := by
        rcases ha.dec hz hi with ⟨a, b, _⟩ | ⟨_, _, _, _, e⟩
        · unfold wd; rw [a, b]
        · exact e
      have hfb : foldB f i = foldB s i := by
        rcases ha.dec hz hi with ⟨a, b, c⟩ | ⟨_, a, b, d, e⟩
        · unfold foldB; rw [if_pos a, if_pos b, c]
        · unfold foldB; rw [if_neg a, if_neg b, d, fold_fold]
      rw [rest_step f i (by omega), rest_step s i hi, hwe, i1]
      refine ⟨rfl, ?_⟩
      rw [List.flatMap_cons, List.flatMap_cons, hfb, ← i1, i2, i1]
    · rw [rest_end f i (by omega), rest_end s i hi]; exact ⟨rfl, rfl⟩
abbrev foldS (s : ByteArray) : ByteArray := ⟨(foldL s).toArray⟩
theorem at_fold (s : ByteArray) : At (foldS s) s 0 := by
  unfold At foldS
  rw [rest_zero, List.drop_zero]
  rfl
theorem fold_size (s : ByteArray) : (foldS s).size = s.size := At.size s.size 0 (by omega) (Nat.zero_le _) (at_fold s) (Nat.zero_le _)
theorem fold_poss (s : ByteArray) : poss (foldS s) = poss s := by
  rw [← rest_zero, ← rest_zero]
  exact (At.rest (fold_size s) s.size 0 (by omega) (at_fold s)).1
theorem foldL_fold (s : ByteArray) : foldL (foldS s) = foldL s := by
  have := (At.rest (fold_size s) s.size 0 (by omega) (at_fold s)).2
  rwa [rest_zero, rest_zero] at this
theorem At.all {f s : ByteArray} : ∀ (k i : Nat), s.size ≤ i + k → At f s i → ∀ j ∈ Go.Proofs.YtjldmlnohkknpaaDoor.rest s i, At f s j ∧ j < s.size := by
  intro k
  induction k with
  | zero => intro i h _ j hj; rw [rest_end s i (by omega)] at hj; simp at hj
  | succ k ih =>
    intro i h ha j hj
    by_cases hi : i < s.size
    · have hw := wd_pos s i hi
      rw [rest_step s i hi, List.mem_cons] at hj
      rcases hj with rfl | hj
      · exact ⟨ha, hi⟩
      · exact ih (i + wd s i) (by omega) (ha.next hi) j hj
    · rw [rest_end s i hi] at hj; simp at hj
/-- The runes of what is folded are the folds. -/
theorem fold_at (s : ByteArray) (i : Nat) (hi : i ∈ poss s) : (Utf8.decode s i = (65533, 1) ∧ Utf8.decode (foldS s) i = (65533, 1)) ∨ (RuneOk (Utf8.decode s i).1 ∧ Utf8.decode s i ≠ (65533, 1) ∧ Utf8.decode (foldS s) i ≠ (65533, 1) ∧ ((Utf8.decode (foldS s) i).1 : Int) = foldR (Utf8.decode s i).1) := by
  obtain ⟨ha, hl⟩ := At.all s.size 0 (by omega) (at_fold s) i (by rw [rest_zero]; exact hi)
  rcases ha.dec (fold_size s) hl with ⟨a, b, _⟩ | ⟨a, b, c, d, _⟩
  · exact .inl ⟨a, b⟩
  · exact .inr ⟨a, b, c, d⟩
end Go.Proofs.YtjldmlnohkknpaaDoor
