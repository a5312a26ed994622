/- Package image: all, and what it calls. -/
import Derived.Test.YtgmhhocpdfdplaaTabs5
import Derived.Test.YtgmhhocpdfdplaaBlocksE
import Derived.Test.YtgmhhocpdfdplaaComps2
namespace Go.Proofs.Ytgmhhocpdfdplaa
open Go.RowKit
set_option maxRecDepth 100000
set_option maxHeartbeats 4000000
structure EarlyN (e : Nat → Int) (i : Nat) : Prop where
  z : ∀ j, j < i → e j = 0
/-- The closure that asks f of the image in block N, f being held in block K. -/
def askF (N K : Nat) : Value := .func (.func 56) #[] #[.pointer (some ⟨K, 0, none⟩), .pointer (some ⟨N, 0, none⟩)]
theorem img_all1 (i : Int) (N K : Nat) (e : Int) (w : World)
    (hc : ∀ W, Below w.heap.size w W → Calls Try.prog 56 #[.pointer (some ⟨K, 0, none⟩), .pointer (some ⟨N, 0, none⟩)] W fun r w' => r = .returned (.int .i64 e) ∧ Below W.heap.size W w') :
    Calls Try.prog 105 #[.int .i64 i, .func (.func 56) #[] #[.pointer (some ⟨K, 0, none⟩), .pointer (some ⟨N, 0, none⟩)]] w fun r w' => r = .returned (.int .i64 e) ∧ Below w.heap.size w w' := by
  have h1 := hc w (Below.refl _ _)
  clear hc
  go_enter Try.func105, Try.ntmps105
  go_wp2_with (go_at_call 56; refine h1.mono ?_; rintro r w1 ⟨rfl, hb1⟩)
  go_ret
  exact ⟨rfl, hb1⟩
theorem each_func (N B : Nat) (Ks : List Nat) (hl : Ks.length ≤ 100) (e : Nat → Int) (w : World) (bB : Blk w B (Ks.map (askF N)).toArray 100)
    (hc : ∀ (i : Nat) (hi : i < Ks.length) (W : World), (∀ j, j < i → e j = 0) → Below w.heap.size w W → Calls Try.prog 56 #[.pointer (some ⟨Ks[i]'hi, 0, none⟩), .pointer (some ⟨N, 0, none⟩)] W fun r w' => r = .returned (.int .i64 (e i)) ∧ Below W.heap.size W w') :
    Calls Try.prog 104 #[.slice (some ⟨B, 0, none⟩) Ks.length Ks.length, .func (.func 105) #[] #[]] w fun r w' => r = .returned (.int .i64 (firstE e Ks.length 0)) ∧ Below w.heap.size w w' := by
  obtain ⟨T, hT⟩ : ∃ T, firstE e Ks.length 0 = T := ⟨_, rfl⟩
  rw [hT]
  have HT := Lib.hid hT
  have HC := Lib.hid hc
  clear hT hc
  go_enter Try.func104, Try.ntmps104
  go_wp2
  go_loopw [10] (fun iv wr => ∃ i : Nat, iv = .int .i64 i ∧ i ≤ Ks.length ∧ firstE e (Ks.length - i) i = T ∧ EarlyN e i ∧ Below w.heap.size w wr) (fun iv _ => Ks.length - (intOf iv).toNat)
  case atStart => exact ⟨0, rfl, Nat.zero_le _, HT.out, ⟨fun j hj => absurd hj (by omega)⟩, Below.refl _ _⟩
  case round =>
    obtain ⟨i, rfl, hi, hf, hE, hB⟩ := hrel
    by_cases hlt : i < Ks.length
    · have tl : decide (i < Ks.length) = true := by simpa using hlt
      have c0 : wr.cell? ⟨B, i, none⟩ = some (.func (.func 56) #[] #[.pointer (some ⟨Ks[i]'hlt, 0, none⟩), .pointer (some ⟨N, 0, none⟩)]) := by
        rw [(bB.below hB bB.lt).cell i]
        simp [hlt, askF]
      have j0 : (0 : Int) ≤ (i : Int) := by omega
      have j1 : (i : Int) < (Ks.length : Int) := by omega
      rw [show Ks.length - i = Ks.length - (i + 1) + 1 by omega] at hf
      have HF := Lib.hid hf
      have hc := HC.out i hlt
      clear hf
      generalize (Ks[i]'hlt) = K at *
      have hca : Calls Try.prog 105 #[.int .i64 i, .func (.func 56) #[] #[.pointer (some ⟨K, 0, none⟩), .pointer (some ⟨N, 0, none⟩)]] wr fun r w' => r = .returned (.int .i64 (e i)) ∧ Below wr.heap.size wr w' := img_all1 i N K (e i) wr (fun W hb => hc W hE.z (hB.trans (hb.mono hB.size)))
      clear hc
      by_cases he0 : e i = 0
      · have hf := HF.out
        rw [firstE_go e _ i he0] at hf
        have HF2 := Lib.hid hf
        rw [he0] at hca
        have hE2 : EarlyN e (i + 1) := ⟨fun j hj => by
          by_cases hji : j = i
          · rw [hji]; exact he0
          · exact hE.z j (by omega)⟩
        clear hf he0 HF hE
        go_wp2_with (go_at_call 105; refine hca.mono ?_; rintro r w1 ⟨rfl, hb1⟩; replace hB := hB.trans (hb1.mono hB.size))
        go_roundw
        case rel => exact ⟨i + 1, by go_num, by omega, HF2.out, hE2, hB⟩
        case measure => simp [intOf]; omega
      · have hf := HF.out
        rw [firstE_stop e _ i he0] at hf
        rw [hf] at hca he0
        have tn : (T != 0) = true := by simpa using he0
        clear hf he0 HF
        go_wp2_with (go_at_call 105; refine hca.mono ?_; rintro r w1 ⟨rfl, hb1⟩; replace hB := hB.trans (hb1.mono hB.size))
        go_ret
        exact ⟨rfl, hB⟩
    · have tl : decide (i < Ks.length) = false := by simpa using hlt
      rw [show Ks.length - i = 0 by omega] at hf
      obtain rfl : T = 0 := hf.symm
      go_wp2
      go_ret
      exact ⟨rfl, hB⟩
theorem img_all (N B : Nat) (Ks : List Nat) (hl : Ks.length ≤ 100) (e : Nat → Int) (w : World) (bB : Blk w B (Ks.map (askF N)).toArray 100)
    (hc : ∀ (i : Nat) (hi : i < Ks.length) (W : World), (∀ j, j < i → e j = 0) → Below w.heap.size w W → Calls Try.prog 56 #[.pointer (some ⟨Ks[i]'hi, 0, none⟩), .pointer (some ⟨N, 0, none⟩)] W fun r w' => r = .returned (.int .i64 (e i)) ∧ Below W.heap.size W w') :
    Calls Try.prog 58 #[.slice (some ⟨B, 0, none⟩) Ks.length Ks.length] w fun r w' => r = .returned (.int .i64 (firstE e Ks.length 0)) ∧ Below w.heap.size w w' := by
  have hea := each_func N B Ks hl e w bB hc
  generalize firstE e Ks.length 0 = T at *
  clear hc
  go_enter Try.func58, Try.ntmps58
  go_wp2_with (go_at_call 104; refine hea.mono ?_; rintro r w1 ⟨rfl, hb1⟩)
  go_ret
  exact ⟨rfl, hb1⟩
theorem ask_comps (N K : Nat) (x : ImgArg) (hf : FewOk x) (w : World) (h : IsImg w x.val x) (bN : Blk w N #[.int .i64 x.w, .int .i64 x.h, x.cu, x.qu, x.tu] 26) (bK : Blk w K #[.func (.func 59) #[] #[]] 30) :
    Calls Try.prog 56 #[.pointer (some ⟨K, 0, none⟩), .pointer (some ⟨N, 0, none⟩)] w fun r w' => r = .returned (.int .i64 (compsE x.cs)) ∧ Below w.heap.size w w' := by
  have hc := img_comps x.val x w h hf
  have k0 : w.cell? ⟨K, 0, none⟩ = some (.func (.func 59) #[] #[]) := bK.cell 0
  generalize compsE x.cs = T at *
  unfold ImgArg.val at hc
  clear hf h
  go_enter Try.func56, Try.ntmps56
  go_wp2_with (first | (refine wpList_load_row rfl 26 _ rfl N rfl 26 _ _ _ bN Try.underlying26 rfl (by kernel_rfl) ?_) | (go_at_call 59; refine hc.mono ?_; rintro r w1 ⟨rfl, hb1⟩))
  go_ret
  exact ⟨rfl, hb1⟩
theorem ask_tables (N K : Nat) (x : ImgArg) (hf : FewOk x) (w : World) (h : IsImg w x.val x) (bN : Blk w N #[.int .i64 x.w, .int .i64 x.h, x.cu, x.qu, x.tu] 26) (bK : Blk w K #[.func (.func 60) #[] #[]] 30) :
    Calls Try.prog 56 #[.pointer (some ⟨K, 0, none⟩), .pointer (some ⟨N, 0, none⟩)] w fun r w' => r = .returned (.int .i64 (tablesE x)) ∧ Below w.heap.size w w' := by
  have hc := img_tables x.val x w h hf
  have k0 : w.cell? ⟨K, 0, none⟩ = some (.func (.func 60) #[] #[]) := bK.cell 0
  generalize tablesE x = T at *
  unfold ImgArg.val at hc
  clear hf h
  go_enter Try.func56, Try.ntmps56
  go_wp2_with (first | (refine wpList_load_row rfl 26 _ rfl N rfl 26 _ _ _ bN Try.underlying26 rfl (by kernel_rfl) ?_) | (go_at_call 60; refine hc.mono ?_; rintro r w1 ⟨rfl, hb1⟩))
  go_ret
  exact ⟨rfl, hb1⟩
theorem ask_blocks (N K : Nat) (x : ImgArg) (hf : FewOk x) (w : World) (h : IsImg w x.val x) (bN : Blk w N #[.int .i64 x.w, .int .i64 x.h, x.cu, x.qu, x.tu] 26) (bK : Blk w K #[.func (.func 62) #[] #[]] 30) :
    Calls Try.prog 56 #[.pointer (some ⟨K, 0, none⟩), .pointer (some ⟨N, 0, none⟩)] w fun r w' => r = .returned (.int .i64 (blocksE x.cs)) ∧ Below w.heap.size w w' := by
  have hc := img_blocks x.val x w h hf
  have k0 : w.cell? ⟨K, 0, none⟩ = some (.func (.func 62) #[] #[]) := bK.cell 0
  generalize blocksE x.cs = T at *
  unfold ImgArg.val at hc
  clear hf h
  go_enter Try.func56, Try.ntmps56
  go_wp2_with (first | (refine wpList_load_row rfl 26 _ rfl N rfl 26 _ _ _ bN Try.underlying26 rfl (by kernel_rfl) ?_) | (go_at_call 62; refine hc.mono ?_; rintro r w1 ⟨rfl, hb1⟩))
  go_ret
  exact ⟨rfl, hb1⟩
theorem ask_tags (N K : Nat) (x : ImgArg) (hf : FewOk x) (w : World) (h : IsImg w x.val x) (bN : Blk w N #[.int .i64 x.w, .int .i64 x.h, x.cu, x.qu, x.tu] 26) (bK : Blk w K #[.func (.func 63) #[] #[]] 30) :
    Calls Try.prog 56 #[.pointer (some ⟨K, 0, none⟩), .pointer (some ⟨N, 0, none⟩)] w fun r w' => r = .returned (.int .i64 (tagsE x.ts)) ∧ Below w.heap.size w w' := by
  have hc := img_tags x.val x w h hf
  have k0 : w.cell? ⟨K, 0, none⟩ = some (.func (.func 63) #[] #[]) := bK.cell 0
  generalize tagsE x.ts = T at *
  unfold ImgArg.val at hc
  clear hf h
  go_enter Try.func56, Try.ntmps56
  go_wp2_with (first | (refine wpList_load_row rfl 26 _ rfl N rfl 26 _ _ _ bN Try.underlying26 rfl (by kernel_rfl) ?_) | (go_at_call 63; refine hc.mono ?_; rintro r w1 ⟨rfl, hb1⟩))
  go_ret
  exact ⟨rfl, hb1⟩
/-- What Right makes of a question. -/
theorem right_part (N g : Nat) (w : World) : Calls Try.prog 55 #[.func (.func g) #[] #[], .pointer (some ⟨N, 0, none⟩)] w fun r w' => r = .returned (askF N w.heap.size) ∧ Blk w' w.heap.size #[.func (.func g) #[] #[]] 30 ∧ Below w.heap.size w w' ∧ w'.heap.size = w.heap.size + 1 := by
  have bK := Blk.new w #[.func (.func g) #[] #[]] 30
  have hb : Below w.heap.size w (w.alloc (.cells #[.func (.func g) #[] #[]] 30)) := (Below.refl _ _).alloc (Nat.le_refl _) _
  go_enter Try.func55, Try.ntmps55
  go_wp2
  go_ret
  exact ⟨rfl, bK, hb, by simp⟩
end Go.Proofs.Ytgmhhocpdfdplaa
