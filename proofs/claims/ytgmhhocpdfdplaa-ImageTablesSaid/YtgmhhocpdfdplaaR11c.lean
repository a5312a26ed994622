/- The reference's Size. -/
import Derived.Test.YtgmhhocpdfdplaaCompsE
namespace Go.Proofs.Ytgmhhocpdfdplaa
open Go.RowKit
set_option maxRecDepth 100000
set_option maxHeartbeats 4000000
/-- A sum over the first places. -/
def accN (f : Nat → Nat) : Nat → Nat
  | 0 => 0
  | n + 1 => accN f n + f n
def noTag : TagArg := ⟨0, ⟨#[]⟩⟩
def blN (x : ImgArg) (k : Nat) : Nat := (x.cs.getD k noComp).bs.length
def tlN (x : ImgArg) (k : Nat) : Nat := (x.ts.getD k noTag).body.size
/-- How much room an image takes. -/
def sizeN (x : ImgArg) : Nat := 64 + 16 * x.cs.length + 128 * accN (blN x) x.cs.length + 132 * x.qs.length + 4 * x.ts.length + accN (tlN x) x.ts.length
theorem ref_size (v : Value) (x : ImgArg) (w : World) (h : IsImg w v x) (hf : FewOk x) :
    Calls Try.prog 23 #[v] w fun e w' => e = .returned (.int .i64 (sizeN x : Nat)) ∧ Below w.heap.size w w' := by
  obtain ⟨rfl, -, -, hcs, hqs, hts⟩ := h
  obtain ⟨f1, f2, f3, f4, f5⟩ := hf
  obtain ⟨R, hR⟩ : ∃ R, sizeN x = R := ⟨_, rfl⟩
  rw [hR]
  unfold sizeN at hR
  obtain ⟨bf, hbf⟩ : ∃ bf, blN x = bf := ⟨_, rfl⟩
  obtain ⟨tf, htf⟩ : ∃ tf, tlN x = tf := ⟨_, rfl⟩
  rw [hbf, htf] at hR
  have hb : ∀ k, (hk : k < x.cs.length) → bf k = (x.cs[k]'hk).bs.length := fun k hk => by rw [← hbf]; unfold blN; rw [comp_getD hk]
  have ht : ∀ k, (hk : k < x.ts.length) → tf k = (x.ts[k]'hk).body.size := fun k hk => by rw [← htf]; unfold tlN; simp [List.getD_eq_getElem?_getD, hk]
  clear hbf htf
  obtain ⟨xw, xh, cu, qu, tu, cs, qs, ts⟩ := x
  simp only [ImgArg.val] at *
  obtain ⟨cb, ccap, rfl⟩ := hcs.len
  obtain ⟨qb, qcap, rfl⟩ := hqs.len
  obtain ⟨tb, tcap, rfl⟩ := hts.len
  obtain ⟨N, hN⟩ : ∃ N, N = w.heap.size := ⟨_, rfl⟩
  have HN := Lib.hid hN
  rw [← hN]
  have HR := Lib.hid hR
  have HB := Lib.hid hb
  have HT := Lib.hid ht
  have F4 := Lib.hid f4
  have F5 := Lib.hid f5
  have hbe : Below w.heap.size w (w.alloc (.cells #[.int .i64 xw, .int .i64 xh, .slice cb cs.length ccap, .slice qb qs.length qcap, .slice tb ts.length tcap] 26)) := (Below.refl _ _).alloc (Nat.le_refl _) _
  clear hN hR hb ht f4 f5
  go_enter Try.func23, Try.ntmps23
  go_upto_region 1 with fail
  rw [← HN.out]
  refine wp_world (fun W => Blk W N #[.int .i64 xw, .int .i64 xh, .slice cb cs.length ccap, .slice qb qs.length qcap, .slice tb ts.length tcap] 26 ∧ IsComps W (.slice cb cs.length ccap) cs ∧ IsTags W (.slice tb ts.length tcap) ts ∧ Below N w W) ⟨Blk.new' _ _ _ HN.out, hcs.below hbe, hts.below hbe, by rw [HN.out]; exact hbe⟩ ?_
  clear hcs hts hqs hbe
  rintro W ⟨bN, hcs, hts, hB⟩
  have q2 := bN.cell 2
  have q3 := bN.cell 3
  have q4 := bN.cell 4
  simp only [List.getElem?_toArray, List.getElem?_cons_zero, List.getElem?_cons_succ] at q2 q3 q4
  go_wp2
  go_loop [3, 4] (fun nv iv => ∃ (m i : Nat), nv = .int .i64 m ∧ iv = .int .i64 i ∧ i ≤ cs.length ∧ m ≤ 64 + 2560016 * i ∧ Hid (m = 64 + 16 * i + 128 * accN bf i)) (fun _ iv => cs.length - (intOf iv).toNat)
  case atStart => exact ⟨64, 0, rfl, rfl, Nat.zero_le _, by omega, Lib.hid (by simp [accN])⟩
  case round =>
    obtain ⟨m, i, rfl, rfl, hi, hm, HM⟩ := hrel
    by_cases hlt : i < cs.length
    · have tl : decide (i < cs.length) = true := by simpa using hlt
      obtain ⟨a, rfl, c0, c1, c2, c3, c4, c5, c6⟩ := hcs.at hlt
      obtain ⟨ub, ucap, hu, -⟩ := (hcs.ok _ (List.getElem_mem hlt)).ar.len
      rw [hu] at c6
      have j0 : (0 : Int) ≤ (i : Int) := by omega
      have j1 : (i : Int) < (cs.length : Int) := by omega
      have hz3 := F4.out _ (List.getElem_mem hlt)
      have hbz := HB.out i hlt
      generalize (cs[i]'hlt).bs.length = z at *
      have HBZ := Lib.hid hbz
      clear hu c0 c1 c2 c3 c4 c5 hbz
      go_wp2
      go_round
      case rel => exact ⟨m + 16 + 128 * z, i + 1, by go_num, by go_num, by omega, by omega, Lib.hid (by have h1 := HM.out; have h2 := HBZ.out; simp only [accN]; omega)⟩
      case measure => simp [intOf]; omega
    · have tl : decide (i < cs.length) = false := by simpa using hlt
      obtain rfl : i = cs.length := by omega
      have hm2 : m ≤ 52000000 := by omega
      go_wp2
      go_loop [3, 5] (fun nv jv => ∃ (k j : Nat), nv = .int .i64 k ∧ jv = .int .i64 j ∧ j ≤ ts.length ∧ k ≤ 53000000 + 140004 * j ∧ Hid (k = 64 + 16 * cs.length + 128 * accN bf cs.length + 132 * qs.length + 4 * j + accN tf j)) (fun _ jv => ts.length - (intOf jv).toNat)
      case atStart => exact ⟨m + 132 * qs.length, 0, by go_num, rfl, Nat.zero_le _, by omega, Lib.hid (by have h1 := HM.out; simp only [accN]; omega)⟩
      case round =>
        obtain ⟨k, j, rfl, rfl, hj, hk, HK⟩ := hrel
        by_cases hlt2 : j < ts.length
        · have tl2 : decide (j < ts.length) = true := by simpa using hlt2
          obtain ⟨a, rfl, c0, c1⟩ := hts.at hlt2
          have j0 : (0 : Int) ≤ (j : Int) := by omega
          have j1 : (j : Int) < (ts.length : Int) := by omega
          have hz5 := F5.out _ (List.getElem_mem hlt2)
          have htz := HT.out j hlt2
          generalize (ts[j]'hlt2).body = sb at *
          have HTZ := Lib.hid htz
          clear c0 htz
          go_wp2
          go_round
          case rel => exact ⟨k + 4 + sb.size, j + 1, by go_num, by go_num, by omega, by omega, Lib.hid (by have h1 := HK.out; have h2 := HTZ.out; simp only [accN]; omega)⟩
          case measure => simp [intOf]; omega
        · have tl2 : decide (j < ts.length) = false := by simpa using hlt2
          obtain rfl : j = ts.length := by omega
          obtain rfl : k = R := by rw [← HR.out]; exact HK.out
          go_wp2
          go_ret
          exact ⟨rfl, hB⟩
end Go.Proofs.Ytgmhhocpdfdplaa
