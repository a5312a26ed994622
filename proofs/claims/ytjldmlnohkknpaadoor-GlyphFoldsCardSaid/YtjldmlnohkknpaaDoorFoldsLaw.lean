/- GlyphFolds: a fold's fold is itself, with as many runes. -/
import Derived.Test.YtjldmlnohkknpaaDoorAwake01
import Derived.Test.YtjldmlnohkknpaaDoorTabs01
import Derived.Test.YtjldmlnohkknpaaDoorFirst
import Derived.Test.YtjldmlnohkknpaaDoorFoldT2
import Derived.Test.YtjldmlnohkknpaaDoorFoldPlain
namespace Go.Proofs.YtjldmlnohkknpaaDoor
open Go.RowKit
set_option maxRecDepth 100000
set_option maxHeartbeats 4000000
theorem nameR_fold (r : Int) : nameR (foldR r) = nameR r := by
  unfold nameR foldR
  rw [decide_eq_decide]
  repeat' split
  all_goals omega
theorem firstBad_congr (f s : ByteArray) (p : Int → Bool) (l : List Nat) (h : ∀ i ∈ l, p (rn f i) = p (rn s i)) : firstBad f p l = firstBad s p l := by
  induction l with
  | nil => rfl
  | cons i l ih => rw [firstBad_cons, firstBad_cons, h i (List.mem_cons_self ..), ih (fun j hj => h j (List.mem_cons_of_mem _ hj))]
theorem fold_rn (s : ByteArray) (i : Nat) (hi : i ∈ poss s) : (rn s i = -1 ∧ rn (foldS s) i = -1) ∨ (0 ≤ rn s i ∧ rn (foldS s) i = foldR (rn s i)) := by
  rcases fold_at s i hi with ⟨a, b⟩ | ⟨a, b, c, d⟩
  · exact .inl ⟨(rn_bad a).1, (rn_bad b).1⟩
  · refine .inr ?_
    unfold rn
    rw [if_neg b, if_neg c]
    exact ⟨a.1, d⟩
theorem fold_name (s : ByteArray) : nameS (foldS s) = nameS s := by
  unfold nameS
  rw [fold_poss, firstBad_congr (foldS s) s nameR (poss s)]
  intro i hi
  rcases fold_rn s i hi with ⟨a, b⟩ | ⟨a, b⟩
  · rw [a, b]
  · rw [b, nameR_fold]
theorem fold_valid (s : ByteArray) : validS (foldS s) = validS s := by
  unfold validS
  rw [fold_poss, firstBad_congr (foldS s) s validP (poss s)]
  intro i hi
  rcases fold_rn s i hi with ⟨a, b⟩ | ⟨a, b⟩
  · rw [a, b]
  · rw [b]
    unfold validP foldR
    rw [decide_eq_decide]
    repeat' split
    all_goals omega
theorem glyphFolds.core (s : ByteArray) (_ws : s.size ≤ maxLen) (W : World) (hL : laidMetH Tryd.prog Rows.glyphFoldsRow.laid W) :
    Calls Tryd.prog 7 #[.string s] W fun e w' => e = .returned (.bool true) ∧ Below W.heap.size W w' := by
  have hT := tabs_of hL
  clear hL _ws
  by_cases hs : (5000 : Int) < (s.size : Int)
  · have tg : decide ((5000 : Int) < (s.size : Int)) = true := by simpa using hs
    go_enter Tryd.func7, Tryd.ntmps7
    go_wp2_with (go_at_call 11; refine (awake01 _ hT).mono ?_; rintro e w1 ⟨rfl, hb1⟩)
    go_ret
    exact ⟨rfl, hb1⟩
  · have tg : decide ((5000 : Int) < (s.size : Int)) = false := by simpa using hs
    have hz := fold_size s
    have h1 := fun w h => gl_foldT s (by omega) w h
    have h2 := fun w h => gl_foldT (foldS s) (by omega) w h
    have h3 := fun w => gl_count s (by omega) w
    have h4 := fun w => gl_count (foldS s) (by omega) w
    have h5 := fun w h => gl_name s (by omega) w h
    have h6 := fun w h => gl_name (foldS s) (by omega) w h
    have h7 := fun w h => gl_valid s (by omega) w h
    have h8 := fun w h => gl_valid (foldS s) (by omega) w h
    have h9 := fun w h => gl_same s (foldS s) (by omega) (by omega) w h
    rw [foldL_fold] at h2 h9
    simp only [decide_true] at h9
    rw [fold_poss] at h4
    rw [fold_name] at h6
    rw [fold_valid] at h8
    have hB := Below.refl W.heap.size W
    have hne : foldS s = ⟨(foldL s).toArray⟩ := rfl
    rw [← hne] at h1 h2
    clear hs hz hne
    have hse : (foldL s == foldL s) = true := by simp
    generalize foldS s = f at *
    generalize (poss s).length = q1 at *
    generalize nameS s = q2 at *
    generalize validS s = q3 at *
    have hP : ∀ (P : ByteArray → Prop), P s → P f → ∀ t, t = s ∨ t = f → P t := fun P a b t ht => by rcases ht with rfl | rfl <;> assumption
    have k1 := hP (fun t => ∀ w, Tabs w → Calls Tryd.prog 18 #[.string t] w fun e w' => e = .returned (.string f) ∧ Below w.heap.size w w') h1 h2
    have k2 := hP (fun t => ∀ w, Calls Tryd.prog 17 #[.string t] w fun e w' => e = .returned (.int .i64 q1) ∧ Below w.heap.size w w') h3 h4
    have k3 := hP (fun t => ∀ w, Tabs w → Calls Tryd.prog 21 #[.string t] w fun e w' => e = .returned (.bool q2) ∧ Below w.heap.size w w') h5 h6
    have k4 := hP (fun t => ∀ w, Tabs w → Calls Tryd.prog 22 #[.string t] w fun e w' => e = .returned (.bool q3) ∧ Below w.heap.size w w') h7 h8
    clear h1 h2 h3 h4 h5 h6 h7 h8 hP
    go_enter Tryd.func7, Tryd.ntmps7
    go_wp2_with (first | (go_at_call 11; refine (awake01 _ (tabs_below hT hB)).mono ?_; rintro e w1 ⟨rfl, hb1⟩; replace hB := hB.trans (hb1.mono hB.size)) | (go_at_call 18; refine (k1 _ (by simp) _ (tabs_below hT hB)).mono ?_; rintro e w2 ⟨rfl, hb2⟩; replace hB := hB.trans (hb2.mono hB.size)) | (go_at_call 17; refine (k2 _ (by simp) _).mono ?_; rintro e w2 ⟨rfl, hb2⟩; replace hB := hB.trans (hb2.mono hB.size)) | (go_at_call 21; refine (k3 _ (by simp) _ (tabs_below hT hB)).mono ?_; rintro e w2 ⟨rfl, hb2⟩; replace hB := hB.trans (hb2.mono hB.size)) | (go_at_call 22; refine (k4 _ (by simp) _ (tabs_below hT hB)).mono ?_; rintro e w2 ⟨rfl, hb2⟩; replace hB := hB.trans (hb2.mono hB.size)) | (go_at_call 12; refine (h9 _ (tabs_below hT hB)).mono ?_; rintro e w2 ⟨rfl, hb2⟩; replace hB := hB.trans (hb2.mono hB.size)))
    go_ret
    exact ⟨by simp, hB⟩
end Go.Proofs.YtjldmlnohkknpaaDoor
