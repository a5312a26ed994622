/- Runes of a beginning and of what follows it: the plain part of GlyphCuts. -/
import Derived.Test.YtjldmlnohkknpaaDoorGlyph2
namespace Go.Proofs.YtjldmlnohkknpaaDoor
open Go.RowKit
set_option maxRecDepth 100000
set_option maxHeartbeats 4000000
theorem decN_pre (n m b0 b1 b2 b3 c1 c2 c3 : Nat) (g0 : b0 < 256) (g1 : b1 < 256) (g2 : b2 < 256) (g3 : b3 < 256) (k1 : c1 < 256) (k2 : c2 < 256) (k3 : c3 < 256) (hm : m ≤ n) (e1 : 1 < m → c1 = b1) (e2 : 2 < m → c2 = b2) (e3 : 3 < m → c3 = b3) (hw : (Lib.decodeN n b0 b1 b2 b3).2 ≤ m) : Lib.decodeN m b0 c1 c2 c3 = Lib.decodeN n b0 b1 b2 b3 := by
  by_cases a0 : b0 < 128
  · rw [dec0 _ _ _ _ _ a0, dec0 _ _ _ _ _ a0]
  · by_cases aX : b0 < 194 ∨ 245 ≤ b0
    · rw [decX _ _ _ _ _ g0 (by omega), decX _ _ _ _ _ g0 (by omega)]
    · by_cases a1 : b0 < 224
      · rw [dec1 _ _ _ _ _ ⟨by omega, a1⟩ g1] at hw ⊢
        rw [dec1 _ _ _ _ _ ⟨by omega, a1⟩ k1]
        by_cases hh : 1 < m
        · obtain rfl := e1 hh
          have hn : 1 < n := by omega
          simp only [hh, hn]
        · rw [if_neg (by omega)]
          split at hw
          · exfalso; simp only at hw; omega
          · rename_i q; rw [if_neg q]
      · by_cases a2 : b0 < 240
        · rw [dec2 _ _ _ _ _ ⟨by omega, a2⟩ g1 g2] at hw ⊢
          rw [dec2 _ _ _ _ _ ⟨by omega, a2⟩ k1 k2]
          by_cases hh : 2 < m
          · obtain rfl := e1 (by omega)
            obtain rfl := e2 hh
            have hn : 2 < n := by omega
            simp only [hh, hn]
          · rw [if_neg (fun q => hh q.1.1)]
            split at hw
            · exfalso; simp only at hw; omega
            · rename_i q; rw [if_neg q]
        · rw [dec3 _ _ _ _ _ ⟨by omega, by omega⟩ g1 g2 g3] at hw ⊢
          rw [dec3 _ _ _ _ _ ⟨by omega, by omega⟩ k1 k2 k3]
          by_cases hh : 3 < m
          · obtain rfl := e1 (by omega)
            obtain rfl := e2 (by omega)
            obtain rfl := e3 hh
            have hn : 3 < n := by omega
            simp only [hh, hn]
          · rw [if_neg (fun q => hh q.1.1)]
            split at hw
            · exfalso; simp only at hw; omega
            · rename_i q; rw [if_neg q]
theorem bt_pre (s : ByteArray) (L j : Nat) (hL : L ≤ s.size) (hj : j < L) : bt (s.extract 0 L) j = bt s j := by
  have hz : (s.extract 0 L).size = L := by simp [ByteArray.size_extract]; omega
  rw [← bt_get _ j (by omega), ← bt_get s j (by omega)]
  congr 1
  simp [ByteArray.getElem_extract]
theorem dec_pre (s : ByteArray) (L i : Nat) (hL : L ≤ s.size) (hi : i < L) (hw : i + wd s i ≤ L) : Utf8.decode (s.extract 0 L) i = Utf8.decode s i := by
  have hz : (s.extract 0 L).size = L := by simp [ByteArray.size_extract]; omega
  unfold wd at hw
  rw [dec_at] at hw ⊢
  rw [dec_at s, hz, bt_pre s L i hL hi]
  exact decN_pre _ _ _ _ _ _ _ _ _ (bt_lt _ _) (bt_lt _ _) (bt_lt _ _) (bt_lt _ _) (bt_lt _ _) (bt_lt _ _) (bt_lt _ _) (by omega) (fun h => bt_pre s L _ hL (by omega)) (fun h => bt_pre s L _ hL (by omega)) (fun h => bt_pre s L _ hL (by omega)) (by omega)
theorem wd_tail (s : ByteArray) (L i : Nat) : wd (s.extract L s.size) i = wd s (L + i) := by
  unfold wd
  rw [Lib.tail_decode]
/-- What is left after a place has as many runes as the rest. -/
theorem rest_tail (s : ByteArray) (L : Nat) (hL : L ≤ s.size) : ∀ (f i : Nat), s.size ≤ L + i + f → (rest (s.extract L s.size) i).length = (rest s (L + i)).length := by
  have hz : (s.extract L s.size).size = s.size - L := by simp [ByteArray.size_extract]
  intro f
  induction f with
  | zero => intro i h; rw [rest_end _ i (by omega), rest_end s _ (by omega)]
  | succ f ih =>
    intro i h
    by_cases hi : L + i < s.size
    · have hw := wd_pos s (L + i) hi
      rw [rest_step _ i (by omega), rest_step s (L + i) hi, List.length_cons, List.length_cons, wd_tail, ih (i + wd s (L + i)) (by omega), Nat.add_assoc]
    · rw [rest_end _ i (by omega), rest_end s _ hi]
/-- The cut's place, from any place on: the runes ahead of it and behind it are the rest's. -/
theorem cut_count (s : ByteArray) (n : Int) : ∀ (f i : Nat), s.size ≤ i + f → i ≤ s.size → cutLen s n i ≤ s.size ∧ (rest (s.extract 0 (cutLen s n i)) i).length + (rest s (cutLen s n i)).length = (rest s i).length ∧ i ≤ cutLen s n i ∧ ((cutLen s n i : Int) ≤ n ∨ cutLen s n i = i) ∧ (cutLen s n i = s.size ∨ n - (cutLen s n i : Int) < 4) := by
  intro f
  induction f with
  | zero =>
    intro i h hi
    rw [cutLen_stop s n i (by omega)]
    have hz : (s.extract 0 i).size = i := by simp [ByteArray.size_extract]; omega
    exact ⟨hi, by rw [rest_end (s.extract 0 i) i (by omega)]; simp, Nat.le_refl _, .inr rfl, .inl (by omega)⟩
  | succ f ih =>
    intro i h hi
    by_cases hc : i < s.size ∧ ((i + wd s i : Nat) : Int) ≤ n
    · have hw := wd_pos s i hc.1
      have hl := (wd_le s i hc.1).2
      have hI := ih (i + wd s i) (by omega) hl
      rw [cutLen_step s n i hc]
      generalize cutLen s n (i + wd s i) = L at *
      obtain ⟨h1, h2, h3, h4, h5⟩ := hI
      have hz : (s.extract 0 L).size = L := by simp [ByteArray.size_extract]; omega
      have hwd : wd (s.extract 0 L) i = wd s i := by
        have := dec_pre s L i h1 (by omega) h3
        unfold wd; rw [this]
      refine ⟨h1, ?_, by omega, .inl (by omega), h5⟩
      rw [rest_step (s.extract 0 L) i (by omega), rest_step s i hc.1, hwd, List.length_cons, List.length_cons]
      omega
    · rw [cutLen_stop s n i hc]
      have hz : (s.extract 0 i).size = i := by simp [ByteArray.size_extract]; omega
      refine ⟨hi, by rw [rest_end (s.extract 0 i) i (by omega)]; simp, Nat.le_refl _, .inr rfl, ?_⟩
      by_cases he : i < s.size
      · have := (wd_le s i he).1
        exact .inr (by omega)
      · exact .inl (by omega)
end Go.Proofs.YtjldmlnohkknpaaDoor
