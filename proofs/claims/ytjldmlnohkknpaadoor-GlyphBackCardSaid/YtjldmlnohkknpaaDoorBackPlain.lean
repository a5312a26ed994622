/- What is quoted reads back: the plain part of GlyphBack. Made by gen_back.py. -/
import Derived.Test.YtjldmlnohkknpaaDoorUnquote
import Derived.Test.YtjldmlnohkknpaaDoorQuote2
import Derived.Test.YtjldmlnohkknpaaDoorFoldPlain
import Derived.Lib.MapLaws
namespace Go.Proofs.YtjldmlnohkknpaaDoor
open Go.RowKit
set_option maxRecDepth 100000
set_option maxHeartbeats 4000000
/-- From a place on, t holds these bytes. -/
def Hd (t : ByteArray) (i : Nat) (x : List UInt8) : Prop := ∃ y, t.data.toList.drop i = x ++ y
theorem Hd.byte {t : ByteArray} {i : Nat} {x : List UInt8} (h : Hd t i x) (j : Nat) (hj : j < x.length) : i + j < t.size ∧ bt t (i + j) = (x.getD j 0).toNat := by
  obtain ⟨y, h⟩ := h
  have hg : (t.data.toList.drop i)[j]? = some x[j] := by rw [h, List.getElem?_append_left hj, List.getElem?_eq_getElem hj]
  rw [List.getElem?_drop] at hg
  refine ⟨(List.getElem?_eq_some_iff.1 hg).1, ?_⟩
  rw [bt_list, hg, List.getD_eq_getElem?_getD, List.getElem?_eq_getElem hj]
theorem Hd.get {t : ByteArray} {i : Nat} {x : List UInt8} (h : Hd t i x) (j : Nat) (hj : j < x.length) : t.get! (i + j) = x.getD j 0 := UInt8.toNat_inj.1 (h.byte j hj).2
theorem Hd.split {t : ByteArray} {i : Nat} {x z : List UInt8} (h : Hd t i (x ++ z)) : Hd t i x ∧ Hd t (i + x.length) z := by
  obtain ⟨y, h⟩ := h
  exact ⟨⟨z ++ y, by rw [h, List.append_assoc]⟩, ⟨y, by rw [← List.drop_drop, h, List.append_assoc, List.drop_left]⟩⟩
theorem st_plain {t : ByteArray} {i : Nat} {c : UInt8} (h : Hd t i [c]) (h32 : 32 ≤ c.toNat) (h126 : c.toNat ≤ 126) (h92 : c.toNat ≠ 92) : stepQ t i = .ok (i + 1) [c] := by
  have hb := (h.byte 0 (by simp)).2
  have hg := h.get 0 (by simp)
  simp only [Nat.add_zero, List.getD_cons_zero] at hb hg
  unfold stepQ
  rw [hb, hg, if_neg h92, if_neg (by omega)]
theorem st_esc {t : ByteArray} {i : Nat} {c : UInt8} (h : Hd t i [92, c]) (hc : c.toNat = 34 ∨ c.toNat = 92) : stepQ t i = .ok (i + 2) [c] := by
  have hb := (h.byte 0 (by simp)).2
  have hb1 := h.byte 1 (by simp)
  have hg := h.get 1 (by simp)
  simp only [Nat.add_zero, List.getD_cons_zero, List.getD_cons_succ] at hb hb1 hg
  unfold stepQ
  rw [hb, if_pos (by decide)]
  unfold escQ
  rw [if_pos hb1.1, hb1.2, if_pos hc, hg]
theorem st_n {t : ByteArray} {i : Nat} (h : Hd t i [92, 110]) : stepQ t i = .ok (i + 2) [10] := by
  have hb := (h.byte 0 (by simp)).2
  have hb1 := h.byte 1 (by simp)
  simp only [Nat.add_zero, List.getD_cons_zero, List.getD_cons_succ] at hb hb1
  unfold stepQ
  rw [hb, if_pos (by decide)]
  unfold escQ
  rw [if_pos hb1.1, hb1.2, if_neg (by decide), if_pos (by decide)]
theorem dg_dig (a : Nat) (h : a < 16) : dg (dig a).toNat = (a : Int) := by
  have : ∀ k : Fin 16, dg (dig k.val).toNat = (k.val : Int) := by decide
  exact this ⟨a, h⟩
theorem hex2 (b : Nat) (h : b < 256) : hexL b 2 = [dig (b / 16), dig (b % 16)] := by
  unfold hexL
  rw [hexF_step 7 b [] 2 (.inr (by simp)), hexF_step 6 (b / 16) _ 2 (.inr (by simp)), hexF_stop 6 (b / 16 / 16) _ 2 (by simp; omega), Nat.mod_eq_of_lt (show b / 16 < 16 by omega)]
theorem st_x {t : ByteArray} {i b : Nat} (hb : b < 256) (h : Hd t i ([92, 120] ++ hexL b 2)) : stepQ t i = .ok (i + 4) [UInt8.ofNat b] := by
  rw [hex2 b hb] at h
  have b0 := (h.byte 0 (by simp)).2
  have b1 := h.byte 1 (by simp)
  have b2 := h.byte 2 (by simp)
  have b3 := h.byte 3 (by simp)
  simp only [List.cons_append, List.nil_append, Nat.add_zero, List.getD_cons_zero, List.getD_cons_succ] at b0 b1 b2 b3
  have d2 := dg_dig (b / 16) (by omega)
  have d3 := dg_dig (b % 16) (by omega)
  rw [← b2.2] at d2
  rw [← b3.2] at d3
  unfold stepQ
  rw [b0, if_pos (by decide)]
  unfold escQ
  rw [if_pos b1.1, b1.2, if_neg (by decide), if_neg (by decide), if_neg (by decide), if_pos (by decide)]
  unfold xQ
  rw [show i + 1 + 1 = i + 2 from rfl, show i + 2 + 1 = i + 3 from rfl, d2, d3, if_pos ⟨b2.1, by omega⟩, if_pos ⟨b3.1, by omega⟩]
  have e : byteZ (((b / 16 : Nat) : Int) * 16 + ((b % 16 : Nat) : Int)) = UInt8.ofNat b := by
    unfold byteZ
    have : (((b / 16 : Nat) : Int) * 16 + ((b % 16 : Nat) : Int)).toNat = b := by omega
    rw [this]
  rw [e]
theorem hexl1 (n : Nat) (hi : n < 16) : hexL n 1 = [dig (n % 16)] := by
  unfold hexL
  rw [hexF_step 7 n [] 1 (.inr (by simp)), hexF_stop 7 (n / 16) _ 1 (by simp; omega)]
theorem scan1 (t : ByteArray) (j n : Nat) (hi : n < 16) (h : Hd t j ([dig (n % 16)] ++ [125])) : j < t.size ∧ 0 ≤ dg (bt t j) ∧ scan t 5 (j + 1) (dg (bt t j)) = (j + 1, (n : Int)) ∧ j + 1 < t.size ∧ bt t (j + 1) = 125 := by
  have b0 := h.byte 0 (by simp)
  have b1 := h.byte 1 (by simp)
  simp only [List.cons_append, List.nil_append, Nat.add_zero, List.getD_cons_zero, List.getD_cons_succ] at b0 b1
  have d0 := dg_dig (n % 16) (by omega)
  rw [← b0.2] at d0
  have c125 : bt t (j + 1) = 125 := b1.2
  refine ⟨b0.1, by omega, ?_, b1.1, c125⟩
  rw [d0]
  rw [scan_stop t 5 (j + 1) (((n % 16 : Nat) : Int)) (fun hh => by have := hh.2.2; rw [c125] at this; exact absurd this (by decide))]
  rw [show ((n % 16 : Nat) : Int) = (n : Int) by omega]
theorem hexl2 (n : Nat) (lo : 16 ≤ n) (hi : n < 256) : hexL n 1 = [dig (n / 16 % 16), dig (n % 16)] := by
  unfold hexL
  rw [hexF_step 7 n [] 1 (.inr (by simp)), hexF_step 6 (n / 16) _ 1 (.inl (by omega)), hexF_stop 6 (n / 16 / 16) _ 1 (by simp; omega)]
theorem scan2 (t : ByteArray) (j n : Nat) (lo : 16 ≤ n) (hi : n < 256) (h : Hd t j ([dig (n / 16 % 16), dig (n % 16)] ++ [125])) : j < t.size ∧ 0 ≤ dg (bt t j) ∧ scan t 5 (j + 1) (dg (bt t j)) = (j + 2, (n : Int)) ∧ j + 2 < t.size ∧ bt t (j + 2) = 125 := by
  have b0 := h.byte 0 (by simp)
  have b1 := h.byte 1 (by simp)
  have b2 := h.byte 2 (by simp)
  simp only [List.cons_append, List.nil_append, Nat.add_zero, List.getD_cons_zero, List.getD_cons_succ] at b0 b1 b2
  have d0 := dg_dig (n / 16 % 16) (by omega)
  rw [← b0.2] at d0
  have d1 := dg_dig (n % 16) (by omega)
  rw [← b1.2] at d1
  have c125 : bt t (j + 2) = 125 := b2.2
  refine ⟨b0.1, by omega, ?_, b2.1, c125⟩
  rw [d0]
  rw [scan_step t 4 (j + 1) (((n / 16 % 16 : Nat) : Int)) ⟨by omega, b1.1, by omega⟩, d1]
  rw [scan_stop t 4 (j + 2) (((n / 16 % 16 : Nat) : Int) * 16 + ((n % 16 : Nat) : Int)) (fun hh => by have := hh.2.2; rw [c125] at this; exact absurd this (by decide))]
  rw [show ((n / 16 % 16 : Nat) : Int) * 16 + ((n % 16 : Nat) : Int) = (n : Int) by omega]
theorem hexl3 (n : Nat) (lo : 256 ≤ n) (hi : n < 4096) : hexL n 1 = [dig (n / 16 / 16 % 16), dig (n / 16 % 16), dig (n % 16)] := by
  unfold hexL
  rw [hexF_step 7 n [] 1 (.inr (by simp)), hexF_step 6 (n / 16) _ 1 (.inl (by omega)), hexF_step 5 (n / 16 / 16) _ 1 (.inl (by omega)), hexF_stop 5 (n / 16 / 16 / 16) _ 1 (by simp; omega)]
theorem scan3 (t : ByteArray) (j n : Nat) (lo : 256 ≤ n) (hi : n < 4096) (h : Hd t j ([dig (n / 16 / 16 % 16), dig (n / 16 % 16), dig (n % 16)] ++ [125])) : j < t.size ∧ 0 ≤ dg (bt t j) ∧ scan t 5 (j + 1) (dg (bt t j)) = (j + 3, (n : Int)) ∧ j + 3 < t.size ∧ bt t (j + 3) = 125 := by
  have b0 := h.byte 0 (by simp)
  have b1 := h.byte 1 (by simp)
  have b2 := h.byte 2 (by simp)
  have b3 := h.byte 3 (by simp)
  simp only [List.cons_append, List.nil_append, Nat.add_zero, List.getD_cons_zero, List.getD_cons_succ] at b0 b1 b2 b3
  have d0 := dg_dig (n / 16 / 16 % 16) (by omega)
  rw [← b0.2] at d0
  have d1 := dg_dig (n / 16 % 16) (by omega)
  rw [← b1.2] at d1
  have d2 := dg_dig (n % 16) (by omega)
  rw [← b2.2] at d2
  have c125 : bt t (j + 3) = 125 := b3.2
  refine ⟨b0.1, by omega, ?_, b3.1, c125⟩
  rw [d0]
  rw [scan_step t 4 (j + 1) (((n / 16 / 16 % 16 : Nat) : Int)) ⟨by omega, b1.1, by omega⟩, d1]
  rw [scan_step t 3 (j + 2) (((n / 16 / 16 % 16 : Nat) : Int) * 16 + ((n / 16 % 16 : Nat) : Int)) ⟨by omega, b2.1, by omega⟩, d2]
  rw [scan_stop t 3 (j + 3) ((((n / 16 / 16 % 16 : Nat) : Int) * 16 + ((n / 16 % 16 : Nat) : Int)) * 16 + ((n % 16 : Nat) : Int)) (fun hh => by have := hh.2.2; rw [c125] at this; exact absurd this (by decide))]
  rw [show (((n / 16 / 16 % 16 : Nat) : Int) * 16 + ((n / 16 % 16 : Nat) : Int)) * 16 + ((n % 16 : Nat) : Int) = (n : Int) by omega]
theorem hexl4 (n : Nat) (lo : 4096 ≤ n) (hi : n < 65536) : hexL n 1 = [dig (n / 16 / 16 / 16 % 16), dig (n / 16 / 16 % 16), dig (n / 16 % 16), dig (n % 16)] := by
  unfold hexL
  rw [hexF_step 7 n [] 1 (.inr (by simp)), hexF_step 6 (n / 16) _ 1 (.inl (by omega)), hexF_step 5 (n / 16 / 16) _ 1 (.inl (by omega)), hexF_step 4 (n / 16 / 16 / 16) _ 1 (.inl (by omega)), hexF_stop 4 (n / 16 / 16 / 16 / 16) _ 1 (by simp; omega)]
theorem scan4 (t : ByteArray) (j n : Nat) (lo : 4096 ≤ n) (hi : n < 65536) (h : Hd t j ([dig (n / 16 / 16 / 16 % 16), dig (n / 16 / 16 % 16), dig (n / 16 % 16), dig (n % 16)] ++ [125])) : j < t.size ∧ 0 ≤ dg (bt t j) ∧ scan t 5 (j + 1) (dg (bt t j)) = (j + 4, (n : Int)) ∧ j + 4 < t.size ∧ bt t (j + 4) = 125 := by
  have b0 := h.byte 0 (by simp)
  have b1 := h.byte 1 (by simp)
  have b2 := h.byte 2 (by simp)
  have b3 := h.byte 3 (by simp)
  have b4 := h.byte 4 (by simp)
  simp only [List.cons_append, List.nil_append, Nat.add_zero, List.getD_cons_zero, List.getD_cons_succ] at b0 b1 b2 b3 b4
  have d0 := dg_dig (n / 16 / 16 / 16 % 16) (by omega)
  rw [← b0.2] at d0
  have d1 := dg_dig (n / 16 / 16 % 16) (by omega)
  rw [← b1.2] at d1
  have d2 := dg_dig (n / 16 % 16) (by omega)
  rw [← b2.2] at d2
  have d3 := dg_dig (n % 16) (by omega)
  rw [← b3.2] at d3
  have c125 : bt t (j + 4) = 125 := b4.2
  refine ⟨b0.1, by omega, ?_, b4.1, c125⟩
  rw [d0]
  rw [scan_step t 4 (j + 1) (((n / 16 / 16 / 16 % 16 : Nat) : Int)) ⟨by omega, b1.1, by omega⟩, d1]
  rw [scan_step t 3 (j + 2) (((n / 16 / 16 / 16 % 16 : Nat) : Int) * 16 + ((n / 16 / 16 % 16 : Nat) : Int)) ⟨by omega, b2.1, by omega⟩, d2]
  rw [scan_step t 2 (j + 3) ((((n / 16 / 16 / 16 % 16 : Nat) : Int) * 16 + ((n / 16 / 16 % 16 : Nat) : Int)) * 16 + ((n / 16 % 16 : Nat) : Int)) ⟨by omega, b3.1, by omega⟩, d3]
  rw [scan_stop t 2 (j + 4) (((((n / 16 / 16 / 16 % 16 : Nat) : Int) * 16 + ((n / 16 / 16 % 16 : Nat) : Int)) * 16 + ((n / 16 % 16 : Nat) : Int)) * 16 + ((n % 16 : Nat) : Int)) (fun hh => by have := hh.2.2; rw [c125] at this; exact absurd this (by decide))]
  rw [show ((((n / 16 / 16 / 16 % 16 : Nat) : Int) * 16 + ((n / 16 / 16 % 16 : Nat) : Int)) * 16 + ((n / 16 % 16 : Nat) : Int)) * 16 + ((n % 16 : Nat) : Int) = (n : Int) by omega]
theorem hexl5 (n : Nat) (lo : 65536 ≤ n) (hi : n < 1048576) : hexL n 1 = [dig (n / 16 / 16 / 16 / 16 % 16), dig (n / 16 / 16 / 16 % 16), dig (n / 16 / 16 % 16), dig (n / 16 % 16), dig (n % 16)] := by
  unfold hexL
  rw [hexF_step 7 n [] 1 (.inr (by simp)), hexF_step 6 (n / 16) _ 1 (.inl (by omega)), hexF_step 5 (n / 16 / 16) _ 1 (.inl (by omega)), hexF_step 4 (n / 16 / 16 / 16) _ 1 (.inl (by omega)), hexF_step 3 (n / 16 / 16 / 16 / 16) _ 1 (.inl (by omega)), hexF_stop 3 (n / 16 / 16 / 16 / 16 / 16) _ 1 (by simp; omega)]
theorem scan5 (t : ByteArray) (j n : Nat) (lo : 65536 ≤ n) (hi : n < 1048576) (h : Hd t j ([dig (n / 16 / 16 / 16 / 16 % 16), dig (n / 16 / 16 / 16 % 16), dig (n / 16 / 16 % 16), dig (n / 16 % 16), dig (n % 16)] ++ [125])) : j < t.size ∧ 0 ≤ dg (bt t j) ∧ scan t 5 (j + 1) (dg (bt t j)) = (j + 5, (n : Int)) ∧ j + 5 < t.size ∧ bt t (j + 5) = 125 := by
  have b0 := h.byte 0 (by simp)
  have b1 := h.byte 1 (by simp)
  have b2 := h.byte 2 (by simp)
  have b3 := h.byte 3 (by simp)
  have b4 := h.byte 4 (by simp)
  have b5 := h.byte 5 (by simp)
  simp only [List.cons_append, List.nil_append, Nat.add_zero, List.getD_cons_zero, List.getD_cons_succ] at b0 b1 b2 b3 b4 b5
  have d0 := dg_dig (n / 16 / 16 / 16 / 16 % 16) (by omega)
  rw [← b0.2] at d0
  have d1 := dg_dig (n / 16 / 16 / 16 % 16) (by omega)
  rw [← b1.2] at d1
  have d2 := dg_dig (n / 16 / 16 % 16) (by omega)
  rw [← b2.2] at d2
  have d3 := dg_dig (n / 16 % 16) (by omega)
  rw [← b3.2] at d3
  have d4 := dg_dig (n % 16) (by omega)
  rw [← b4.2] at d4
  have c125 : bt t (j + 5) = 125 := b5.2
  refine ⟨b0.1, by omega, ?_, b5.1, c125⟩
  rw [d0]
  rw [scan_step t 4 (j + 1) (((n / 16 / 16 / 16 / 16 % 16 : Nat) : Int)) ⟨by omega, b1.1, by omega⟩, d1]
  rw [scan_step t 3 (j + 2) (((n / 16 / 16 / 16 / 16 % 16 : Nat) : Int) * 16 + ((n / 16 / 16 / 16 % 16 : Nat) : Int)) ⟨by omega, b2.1, by omega⟩, d2]
  rw [scan_step t 2 (j + 3) ((((n / 16 / 16 / 16 / 16 % 16 : Nat) : Int) * 16 + ((n / 16 / 16 / 16 % 16 : Nat) : Int)) * 16 + ((n / 16 / 16 % 16 : Nat) : Int)) ⟨by omega, b3.1, by omega⟩, d3]
  rw [scan_step t 1 (j + 4) (((((n / 16 / 16 / 16 / 16 % 16 : Nat) : Int) * 16 + ((n / 16 / 16 / 16 % 16 : Nat) : Int)) * 16 + ((n / 16 / 16 % 16 : Nat) : Int)) * 16 + ((n / 16 % 16 : Nat) : Int)) ⟨by omega, b4.1, by omega⟩, d4]
  rw [scan_stop t 1 (j + 5) ((((((n / 16 / 16 / 16 / 16 % 16 : Nat) : Int) * 16 + ((n / 16 / 16 / 16 % 16 : Nat) : Int)) * 16 + ((n / 16 / 16 % 16 : Nat) : Int)) * 16 + ((n / 16 % 16 : Nat) : Int)) * 16 + ((n % 16 : Nat) : Int)) (fun hh => by have := hh.2.2; rw [c125] at this; exact absurd this (by decide))]
  rw [show (((((n / 16 / 16 / 16 / 16 % 16 : Nat) : Int) * 16 + ((n / 16 / 16 / 16 % 16 : Nat) : Int)) * 16 + ((n / 16 / 16 % 16 : Nat) : Int)) * 16 + ((n / 16 % 16 : Nat) : Int)) * 16 + ((n % 16 : Nat) : Int) = (n : Int) by omega]
theorem hexl6 (n : Nat) (lo : 1048576 ≤ n) (hi : n < 16777216) : hexL n 1 = [dig (n / 16 / 16 / 16 / 16 / 16 % 16), dig (n / 16 / 16 / 16 / 16 % 16), dig (n / 16 / 16 / 16 % 16), dig (n / 16 / 16 % 16), dig (n / 16 % 16), dig (n % 16)] := by
  unfold hexL
  rw [hexF_step 7 n [] 1 (.inr (by simp)), hexF_step 6 (n / 16) _ 1 (.inl (by omega)), hexF_step 5 (n / 16 / 16) _ 1 (.inl (by omega)), hexF_step 4 (n / 16 / 16 / 16) _ 1 (.inl (by omega)), hexF_step 3 (n / 16 / 16 / 16 / 16) _ 1 (.inl (by omega)), hexF_step 2 (n / 16 / 16 / 16 / 16 / 16) _ 1 (.inl (by omega)), hexF_stop 2 (n / 16 / 16 / 16 / 16 / 16 / 16) _ 1 (by simp; omega)]
theorem scan6 (t : ByteArray) (j n : Nat) (lo : 1048576 ≤ n) (hi : n < 16777216) (h : Hd t j ([dig (n / 16 / 16 / 16 / 16 / 16 % 16), dig (n / 16 / 16 / 16 / 16 % 16), dig (n / 16 / 16 / 16 % 16), dig (n / 16 / 16 % 16), dig (n / 16 % 16), dig (n % 16)] ++ [125])) : j < t.size ∧ 0 ≤ dg (bt t j) ∧ scan t 5 (j + 1) (dg (bt t j)) = (j + 6, (n : Int)) ∧ j + 6 < t.size ∧ bt t (j + 6) = 125 := by
  have b0 := h.byte 0 (by simp)
  have b1 := h.byte 1 (by simp)
  have b2 := h.byte 2 (by simp)
  have b3 := h.byte 3 (by simp)
  have b4 := h.byte 4 (by simp)
  have b5 := h.byte 5 (by simp)
  have b6 := h.byte 6 (by simp)
  simp only [List.cons_append, List.nil_append, Nat.add_zero, List.getD_cons_zero, List.getD_cons_succ] at b0 b1 b2 b3 b4 b5 b6
  have d0 := dg_dig (n / 16 / 16 / 16 / 16 / 16 % 16) (by omega)
  rw [← b0.2] at d0
  have d1 := dg_dig (n / 16 / 16 / 16 / 16 % 16) (by omega)
  rw [← b1.2] at d1
  have d2 := dg_dig (n / 16 / 16 / 16 % 16) (by omega)
  rw [← b2.2] at d2
  have d3 := dg_dig (n / 16 / 16 % 16) (by omega)
  rw [← b3.2] at d3
  have d4 := dg_dig (n / 16 % 16) (by omega)
  rw [← b4.2] at d4
  have d5 := dg_dig (n % 16) (by omega)
  rw [← b5.2] at d5
  have c125 : bt t (j + 6) = 125 := b6.2
  refine ⟨b0.1, by omega, ?_, b6.1, c125⟩
  rw [d0]
  rw [scan_step t 4 (j + 1) (((n / 16 / 16 / 16 / 16 / 16 % 16 : Nat) : Int)) ⟨by omega, b1.1, by omega⟩, d1]
  rw [scan_step t 3 (j + 2) (((n / 16 / 16 / 16 / 16 / 16 % 16 : Nat) : Int) * 16 + ((n / 16 / 16 / 16 / 16 % 16 : Nat) : Int)) ⟨by omega, b2.1, by omega⟩, d2]
  rw [scan_step t 2 (j + 3) ((((n / 16 / 16 / 16 / 16 / 16 % 16 : Nat) : Int) * 16 + ((n / 16 / 16 / 16 / 16 % 16 : Nat) : Int)) * 16 + ((n / 16 / 16 / 16 % 16 : Nat) : Int)) ⟨by omega, b3.1, by omega⟩, d3]
  rw [scan_step t 1 (j + 4) (((((n / 16 / 16 / 16 / 16 / 16 % 16 : Nat) : Int) * 16 + ((n / 16 / 16 / 16 / 16 % 16 : Nat) : Int)) * 16 + ((n / 16 / 16 / 16 % 16 : Nat) : Int)) * 16 + ((n / 16 / 16 % 16 : Nat) : Int)) ⟨by omega, b4.1, by omega⟩, d4]
  rw [scan_step t 0 (j + 5) ((((((n / 16 / 16 / 16 / 16 / 16 % 16 : Nat) : Int) * 16 + ((n / 16 / 16 / 16 / 16 % 16 : Nat) : Int)) * 16 + ((n / 16 / 16 / 16 % 16 : Nat) : Int)) * 16 + ((n / 16 / 16 % 16 : Nat) : Int)) * 16 + ((n / 16 % 16 : Nat) : Int)) ⟨by omega, b5.1, by omega⟩, d5]
  show (j + 6, ((((((n / 16 / 16 / 16 / 16 / 16 % 16 : Nat) : Int) * 16 + ((n / 16 / 16 / 16 / 16 % 16 : Nat) : Int)) * 16 + ((n / 16 / 16 / 16 % 16 : Nat) : Int)) * 16 + ((n / 16 / 16 % 16 : Nat) : Int)) * 16 + ((n / 16 % 16 : Nat) : Int)) * 16 + ((n % 16 : Nat) : Int)) = _
  rw [show ((((((n / 16 / 16 / 16 / 16 / 16 % 16 : Nat) : Int) * 16 + ((n / 16 / 16 / 16 / 16 % 16 : Nat) : Int)) * 16 + ((n / 16 / 16 / 16 % 16 : Nat) : Int)) * 16 + ((n / 16 / 16 % 16 : Nat) : Int)) * 16 + ((n / 16 % 16 : Nat) : Int)) * 16 + ((n % 16 : Nat) : Int) = (n : Int) by omega]
theorem scan_hex (t : ByteArray) (j n : Nat) (hn : n < 16777216) (h : Hd t j (hexL n 1 ++ [125])) : j < t.size ∧ 0 ≤ dg (bt t j) ∧ scan t 5 (j + 1) (dg (bt t j)) = (j + (hexL n 1).length, (n : Int)) ∧ j + (hexL n 1).length < t.size ∧ bt t (j + (hexL n 1).length) = 125 := by
  by_cases h1 : n < 16
  · rw [hexl1 n h1] at h ⊢; exact scan1 t j n h1 h
  · skip
    by_cases h2 : n < 256
    · rw [hexl2 n (by omega) h2] at h ⊢; exact scan2 t j n (by omega) h2 h
    · skip
      by_cases h3 : n < 4096
      · rw [hexl3 n (by omega) h3] at h ⊢; exact scan3 t j n (by omega) h3 h
      · skip
        by_cases h4 : n < 65536
        · rw [hexl4 n (by omega) h4] at h ⊢; exact scan4 t j n (by omega) h4 h
        · skip
          by_cases h5 : n < 1048576
          · rw [hexl5 n (by omega) h5] at h ⊢; exact scan5 t j n (by omega) h5 h
          · skip
            rw [hexl6 n (by omega) hn] at h ⊢; exact scan6 t j n (by omega) hn h
theorem valid_of {n : Int} (h : RuneOk n) : Lib.validRune n = true := by
  obtain ⟨h0, h1, h2⟩ := h
  unfold Lib.validRune
  exact decide_eq_true (by omega)
theorem st_u {t : ByteArray} {i r : Nat} (hr : RuneOk r) (h : Hd t i ([92, 117, 123] ++ (hexL r 1 ++ [125]))) : stepQ t i = .ok (i + 4 + (hexL r 1).length) (Lib.encodeRune r) := by
  obtain ⟨h1, h2⟩ := h.split
  have b0 := (h1.byte 0 (by simp)).2
  have b1 := h1.byte 1 (by simp)
  have b2 := h1.byte 2 (by simp)
  simp only [Nat.add_zero, List.getD_cons_zero, List.getD_cons_succ] at b0 b1 b2
  obtain ⟨s1, s2, s3, s4, s5⟩ := scan_hex t (i + 3) r (by have := hr.2.1; omega) h2
  unfold stepQ
  rw [b0, if_pos (by decide)]
  unfold escQ
  rw [if_pos b1.1, b1.2, if_neg (by decide), if_neg (by decide), if_pos (by decide)]
  unfold numQ
  rw [show i + 1 + 1 = i + 2 from rfl, show i + 2 + 1 = i + 3 from rfl, show i + 2 + 2 = i + 3 + 1 from rfl, if_pos ⟨b2.1, b2.2⟩, if_pos ⟨s1, s2⟩, s3]
  unfold numT
  rw [if_pos ⟨s4, s5, valid_of hr⟩]
  simp only
  rw [show i + 3 + (hexL r 1).length + 1 = i + 4 + (hexL r 1).length by omega]
/-- What the bytes at a place are. -/
def origB (s : ByteArray) (i : Nat) : List UInt8 := if Utf8.decode s i = (65533, 1) then [s.get! i] else Lib.encodeRune (Utf8.decode s i).1
theorem ofNat_toNat (c : UInt8) : UInt8.ofNat c.toNat = c := by simp
theorem u8_small (r : Nat) (h : r < 256) : (UInt8.ofNat r).toNat = r := by simp [UInt8.toNat_ofNat']; omega
theorem enc_small (r : Nat) (h : r < 128) : Lib.encodeRune (r : Int) = [UInt8.ofNat r] := by
  unfold Lib.encodeRune
  rw [Lib.encodeRuneZ_one (by omega) (by omega)]
  simp [List.map]
/-- A rune's quoted form is one step, which reads the rune's bytes; it begins with no closing quote. -/
theorem st_R {t : ByteArray} {i r : Nat} (hr : RuneOk r) (h : Hd t i (quoteR r)) : stepQ t i = .ok (i + (quoteR r).length) (Lib.encodeRune r) ∧ i < t.size ∧ ¬ bt t i = 34 := by
  unfold quoteR at h ⊢
  by_cases h1 : r = 34 ∨ r = 92
  · rw [if_pos h1] at h ⊢
    have b0 := h.byte 0 (by simp)
    simp only [Nat.add_zero, List.getD_cons_zero] at b0
    refine ⟨?_, b0.1, by rw [b0.2]; decide⟩
    rw [st_esc h (by rw [u8_small r (by omega)]; exact h1), enc_small r (by omega)]
    rfl
  · rw [if_neg h1] at h ⊢
    by_cases h2 : r = 10
    · rw [if_pos h2] at h ⊢
      have b0 := h.byte 0 (by simp)
      simp only [Nat.add_zero, List.getD_cons_zero] at b0
      refine ⟨?_, b0.1, by rw [b0.2]; decide⟩
      rw [st_n h, h2]
      rfl
    · rw [if_neg h2] at h ⊢
      by_cases h3 : 32 ≤ r ∧ r ≤ 126
      · rw [if_pos h3] at h ⊢
        have b0 := h.byte 0 (by simp)
        simp only [Nat.add_zero, List.getD_cons_zero] at b0
        have hu := u8_small r (by omega)
        refine ⟨?_, b0.1, by rw [b0.2, hu]; omega⟩
        rw [st_plain h (by omega) (by omega) (by omega), enc_small r (by omega)]
        rfl
      · rw [if_neg h3] at h ⊢
        rw [List.append_assoc] at h
        have b0 := h.byte 0 (by simp)
        simp only [Nat.add_zero, List.cons_append, List.getD_cons_zero] at b0
        refine ⟨?_, b0.1, by rw [b0.2]; decide⟩
        rw [st_u hr h]
        simp only [List.length_append, List.length_cons, List.length_nil]
        congr 1
        omega
theorem st_B {t s : ByteArray} {i p : Nat} (h : Hd t i (quoteB s p)) : stepQ t i = .ok (i + (quoteB s p).length) (origB s p) ∧ i < t.size ∧ ¬ bt t i = 34 := by
  unfold quoteB origB at *
  rcases dec_ok s p with hd | ⟨hR, hn⟩
  · rw [if_pos hd] at h ⊢
    rw [if_pos hd]
    have b0 := h.byte 0 (by simp)
    simp only [Nat.add_zero, List.cons_append, List.getD_cons_zero] at b0
    refine ⟨?_, b0.1, by rw [b0.2]; decide⟩
    rw [st_x (bt_lt s p) h, hex2 _ (bt_lt s p)]
    show Qs.ok (i + 4) [UInt8.ofNat (s.get! p).toNat] = _
    rw [ofNat_toNat]
    rfl
  · have hne : ¬ Utf8.decode s p = (65533, 1) := fun h => by rw [show rn s p = -1 by unfold rn; rw [if_pos h]] at hn; omega
    rw [if_neg hne] at h ⊢
    rw [if_neg hne]
    exact st_R hR h
/-- All pieces, one by one. -/
theorem unq_pieces (t s : ByteArray) : ∀ (ps : List Nat) (i f : Nat) (l : List UInt8), t.size < i + f → Hd t i (ps.flatMap (quoteB s) ++ [34]) → unqF t f i l = (l ++ ps.flatMap (origB s), i + (ps.flatMap (quoteB s)).length + 1, 0) := by
  intro ps
  induction ps with
  | nil =>
    intro i f l hf h
    simp only [List.flatMap_nil, List.nil_append] at h
    have b0 := h.byte 0 (by simp)
    simp only [Nat.add_zero, List.getD_cons_zero] at b0
    obtain ⟨f, rfl⟩ : ∃ g, f = g + 1 := ⟨f - 1, by omega⟩
    rw [unqF_quote t f i l b0.1 b0.2]
    simp
  | cons p ps ih =>
    intro i f l hf h
    rw [List.flatMap_cons, List.append_assoc] at h
    obtain ⟨h1, h2⟩ := h.split
    obtain ⟨s1, s2, s3⟩ := st_B h1
    obtain ⟨f, rfl⟩ : ∃ g, f = g + 1 := ⟨f - 1, by omega⟩
    have hgt := (stepQ_ok s1).1
    rw [unqF_ok t f i _ l _ s2 s3 s1, ih _ f _ (by omega) h2, List.flatMap_cons, List.flatMap_cons, List.append_assoc, List.length_append]
    simp only [Prod.mk.injEq, true_and, and_true]
    omega
theorem drop_ext (s : ByteArray) (i : Nat) : (s.extract i s.size).data.toList = s.data.toList.drop i := by
  have hz : s.data.toList.length = s.size := rfl
  rw [ByteArray.data_extract, Array.toList_extract, List.extract_eq_take_drop]
  rw [List.take_of_length_le (by rw [List.length_drop, hz]; exact Nat.le_refl _)]
theorem orig_take (s : ByteArray) (i : Nat) (hi : i < s.size) : origB s i = (s.data.toList.drop i).take (wd s i) := by
  have hl : (s.data.toList.drop i) ≠ [] := by
    intro h
    rw [List.drop_eq_nil_iff] at h
    have : s.data.toList.length = s.size := rfl
    omega
  have hdl : Lib.decodeL (s.data.toList.drop i) = Utf8.decode s i := by
    have hx : (⟨(s.data.toList.drop i).toArray⟩ : ByteArray) = s.extract i s.size := by
      apply ByteArray.ext
      rw [← drop_ext]
    unfold Lib.decodeL
    rw [hx, Lib.tail_decode, Nat.add_zero]
  unfold origB
  by_cases hd : Utf8.decode s i = (65533, 1)
  · rw [if_pos hd]
    have hw : wd s i = 1 := (rn_bad hd).2
    have hb := bt_list s i
    rw [hw]
    have h0 : (s.data.toList.drop i)[0]? = s.data.toList[i]? := by rw [List.getElem?_drop, Nat.add_zero]
    have hlt : i < s.data.toList.length := hi
    rw [List.getElem?_eq_getElem hlt] at h0 hb
    have hg : s.get! i = s.data.toList[i] := UInt8.toNat_inj.1 hb
    rw [hg]
    cases hq : s.data.toList.drop i with
    | nil => exact absurd hq hl
    | cons a tl =>
      rw [hq] at h0
      have h1 : a = s.data.toList[i] := Option.some.inj h0
      rw [← h1]
      rfl
  · rw [if_neg hd]
    have := Lib.encode_decode (s.data.toList.drop i) hl (by rw [hdl]; exact fun hh => hd (Prod.ext hh.1 hh.2))
    rw [hdl] at this
    exact this
theorem orig_all (s : ByteArray) : ∀ (k i : Nat), s.size ≤ i + k → (rest s i).flatMap (origB s) = s.data.toList.drop i := by
  intro k
  induction k with
  | zero =>
    intro i h
    rw [rest_end s i (by omega), List.flatMap_nil, List.drop_eq_nil_of_le (by show s.size ≤ i; omega)]
  | succ k ih =>
    intro i h
    by_cases hi : i < s.size
    · have hw := wd_pos s i hi
      rw [rest_step s i hi, List.flatMap_cons, ih _ (by omega), orig_take s i hi, ← List.drop_drop, List.take_append_drop]
    · rw [rest_end s i hi, List.flatMap_nil, List.drop_eq_nil_of_le (by show s.size ≤ i; omega)]
theorem back_unquote (s b : ByteArray) : unquoteL ((⟨(quoteL s).toArray⟩ : ByteArray) ++ b) = (s.data.toList, (quoteL s).length, 0) := by
  obtain ⟨t, ht⟩ : ∃ t, (⟨(quoteL s).toArray⟩ : ByteArray) ++ b = t := ⟨_, rfl⟩
  have hl : t.data.toList = quoteL s ++ b.data.toList := by rw [← ht]; simp
  rw [ht]
  have h0 : Hd t 0 ([34] ++ ((poss s).flatMap (quoteB s) ++ [34])) := ⟨b.data.toList, by rw [List.drop_zero, hl]; unfold quoteL; simp⟩
  obtain ⟨h1, h2⟩ := h0.split
  have b0 := h1.byte 0 (by simp)
  simp only [Nat.add_zero, List.getD_cons_zero] at b0
  unfold unquoteL
  rw [if_pos ⟨b0.1, b0.2⟩, unq_pieces t s (poss s) 1 (t.size + 1) [] (by omega) h2]
  have ho := orig_all s s.size 0 (by omega)
  rw [rest_zero, List.drop_zero] at ho
  rw [ho]
  unfold quoteL
  simp
  omega
/-- Printable bytes. -/
def Pr (l : List UInt8) : Prop := ∀ c ∈ l, 32 ≤ c.toNat ∧ c.toNat ≤ 126
theorem Pr.app {a b : List UInt8} (ha : Pr a) (hb : Pr b) : Pr (a ++ b) := fun c hc => by
  rw [List.mem_append] at hc
  exact hc.elim (ha c) (hb c)
theorem pr_dig (a : Nat) (h : a < 16) : 32 ≤ (dig a).toNat ∧ (dig a).toNat ≤ 126 := by
  have : ∀ k : Fin 16, 32 ≤ (dig k.val).toNat ∧ (dig k.val).toNat ≤ 126 := by decide
  exact this ⟨a, h⟩
theorem pr_hexF : ∀ (f n : Nat) (out : List UInt8) (least : Nat), Pr out → Pr (hexF f n out least) := by
  intro f
  induction f with
  | zero => intro n out least h; exact h
  | succ f ih =>
    intro n out least h
    simp only [hexF]
    split
    · refine ih _ _ _ (fun c hc => ?_)
      rcases List.mem_cons.1 hc with rfl | hc
      · exact pr_dig _ (Nat.mod_lt _ (by decide))
      · exact h c hc
    · exact h
theorem pr_hexL (n least : Nat) : Pr (hexL n least) := pr_hexF _ _ _ _ (fun c hc => by simp at hc)
theorem pr_R (r : Nat) : Pr (quoteR r) := by
  unfold quoteR
  split
  · rename_i h
    intro c hc
    simp at hc
    rcases hc with rfl | rfl
    · decide
    · rw [u8_small r (by omega)]; omega
  · split
    · intro c hc; simp at hc; rcases hc with rfl | rfl <;> decide
    · split
      · intro c hc; simp at hc; subst hc; rw [u8_small r (by omega)]; omega
      · refine ((?_ : Pr [92, 117, 123]).app (pr_hexL r 1)).app ?_
        · intro c hc; simp at hc; rcases hc with rfl | rfl | rfl <;> decide
        · intro c hc; simp at hc; subst hc; decide
theorem pr_B (s : ByteArray) (i : Nat) : Pr (quoteB s i) := by
  unfold quoteB
  split
  · refine (?_ : Pr [92, 120]).app (pr_hexL _ 2)
    intro c hc; simp at hc; rcases hc with rfl | rfl <;> decide
  · exact pr_R _
theorem pr_quote (s : ByteArray) : Pr (quoteL s) := by
  have h34 : Pr [34] := by intro c hc; simp at hc; subst hc; decide
  unfold quoteL
  refine (h34.app ?_).app h34
  intro c hc
  obtain ⟨i, _, hi⟩ := List.mem_flatMap.1 hc
  exact pr_B s i c hi
theorem quote_len (s : ByteArray) : (quoteL s).length ≤ 12 * s.size + 2 := by
  have hp : (poss s).length ≤ s.size := by rw [← rest_zero]; exact rest_len s s.size 0 (by omega)
  have : ∀ l : List Nat, (l.flatMap (quoteB s)).length ≤ 12 * l.length := by
    intro l
    induction l with
    | nil => simp
    | cons a l ih => rw [List.flatMap_cons, List.length_append, List.length_cons]; have := quoteB_len s a; omega
  have h := this (poss s)
  unfold quoteL
  simp only [List.length_append, List.length_cons, List.length_nil]
  omega
theorem quote_bt (s : ByteArray) (i : Nat) (h : i < (quoteL s).length) : 32 ≤ bt ⟨(quoteL s).toArray⟩ i ∧ bt ⟨(quoteL s).toArray⟩ i ≤ 126 := by
  rw [bt_list]
  show 32 ≤ ((quoteL s)[i]?.getD 0).toNat ∧ ((quoteL s)[i]?.getD 0).toNat ≤ 126
  rw [List.getElem?_eq_getElem h]
  exact pr_quote s _ (List.getElem_mem h)
end Go.Proofs.YtjldmlnohkknpaaDoor
