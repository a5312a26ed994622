/- The reference's Bytes, walked. -/
import Derived.Test.YtjldmlnohkknpaaDoorGlyph3
import Derived.Laws.BytesArg
namespace Go.Proofs.YtjldmlnohkknpaaDoor
open Go.RowKit
set_option maxRecDepth 100000
set_option maxHeartbeats 4000000
theorem conv_new (w : World) (xs : List Int) (n : Nat) (hn : n = xs.length) : (convert 46 9 (.slice (some ⟨w.heap.size, 0, none⟩) n n)).run Tryd.prog (w.alloc (.cells (xs.map (Value.int .u8)).toArray 5)) = .ok (.string (strOfNums xs)) (w.alloc (.cells (xs.map (Value.int .u8)).toArray 5)) := by
  subst hn
  refine run_convert_bytes_arg _ 46 5 Tryd.underlying46 Tryd.underlying5 w.heap.size 0 xs.length xs.length xs rfl (fun i hi => ?_) 9 Tryd.underlying9
  have h : (w.alloc (.cells (xs.map (Value.int .u8)).toArray 5)).heap[w.heap.size]? = some (.cells (xs.map (Value.int .u8)).toArray 5 (0, 0)) := heap_alloc_new w _
  rw [Nat.zero_add, cell_of_row _ _ _ _ _ _ h]
  simp [List.getD_eq_getElem?_getD, List.getElem?_eq_getElem hi]
theorem enc_nums (r : Int) : strOfNums (Lib.encodeRuneZ r) = ⟨(Lib.encodeRune r).toArray⟩ := rfl
/-- A rune of text. -/
def RuneOk (r : Int) : Prop := 0 ≤ r ∧ r ≤ 1114111 ∧ ¬ (55296 ≤ r ∧ r ≤ 57343)
theorem ref_bytes (r : Int) (h : RuneOk r) (w : World) : Calls Tryd.prog 30 #[.int .i64 r] w fun e w' => e = .returned (.string ⟨(Lib.encodeRune r).toArray⟩) ∧ Below w.heap.size w w' := by
  obtain ⟨h0, h1, h2⟩ := h
  by_cases c1 : r < 128
  · have t1 : decide (r < 128) = true := by simpa using c1
    have e1 : IntKind.u8.wrap r = r := IntWalk.u8_in _ (by omega)
    have hz := Lib.encodeRuneZ_one h0 (show r ≤ 127 by omega)
    have HZ := Lib.hid hz
    have hcv := fun W => conv_new W [r] 1 rfl
    simp only [List.map_cons, List.map_nil] at hcv
    clear hz h2
    go_enter Tryd.func30, Tryd.ntmps30
    go_wp2
    go_ret
    exact ⟨by rw [← enc_nums, HZ.out]; rfl, (Below.refl _ _).alloc (Nat.le_refl _) _⟩
  · have t1 : decide (r < 128) = false := by simpa using c1
    by_cases c2 : r < 2048
    · have t2 : decide (r < 2048) = true := by simpa using c2
      have e1 : IntKind.u8.wrap (192 + r / 64) = 192 + r / 64 := IntWalk.u8_in _ (by omega)
      have e2 : IntKind.u8.wrap (128 + r % 64) = 128 + r % 64 := IntWalk.u8_in _ (by omega)
      have hz := Lib.encodeRuneZ_two (show 128 ≤ r by omega) (show r ≤ 2047 by omega)
      have HZ := Lib.hid hz
      have hcv := fun W => conv_new W [192 + r / 64, 128 + r % 64] 2 rfl
      simp only [List.map_cons, List.map_nil] at hcv
      clear hz h2
      go_enter Tryd.func30, Tryd.ntmps30
      go_wp2
      go_ret
      exact ⟨by rw [← enc_nums, HZ.out]; rfl, (Below.refl _ _).alloc (Nat.le_refl _) _⟩
    · have t2 : decide (r < 2048) = false := by simpa using c2
      by_cases c3 : r < 65536
      · have t3 : decide (r < 65536) = true := by simpa using c3
        have e1 : IntKind.u8.wrap (224 + r / 4096) = 224 + r / 4096 := IntWalk.u8_in _ (by omega)
        have e2 : IntKind.u8.wrap (128 + r / 64 % 64) = 128 + r / 64 % 64 := IntWalk.u8_in _ (by omega)
        have e3 : IntKind.u8.wrap (128 + r % 64) = 128 + r % 64 := IntWalk.u8_in _ (by omega)
        have hz := Lib.encodeRuneZ_three (show (2048 ≤ r ∧ r < 55296) ∨ (57343 < r ∧ r ≤ 65535) by omega)
        have HZ := Lib.hid hz
        have hcv := fun W => conv_new W [224 + r / 4096, 128 + r / 64 % 64, 128 + r % 64] 3 rfl
        simp only [List.map_cons, List.map_nil] at hcv
        clear hz h2
        go_enter Tryd.func30, Tryd.ntmps30
        go_wp2
        go_ret
        exact ⟨by rw [← enc_nums, HZ.out]; rfl, (Below.refl _ _).alloc (Nat.le_refl _) _⟩
      · have t3 : decide (r < 65536) = false := by simpa using c3
        have e1 : IntKind.u8.wrap (240 + r / 262144) = 240 + r / 262144 := IntWalk.u8_in _ (by omega)
        have e4 : IntKind.u8.wrap (128 + r / 4096 % 64) = 128 + r / 4096 % 64 := IntWalk.u8_in _ (by omega)
        have e2 : IntKind.u8.wrap (128 + r / 64 % 64) = 128 + r / 64 % 64 := IntWalk.u8_in _ (by omega)
        have e3 : IntKind.u8.wrap (128 + r % 64) = 128 + r % 64 := IntWalk.u8_in _ (by omega)
        have hz := Lib.encodeRuneZ_four (show 65536 ≤ r by omega) h1
        have HZ := Lib.hid hz
        have hcv := fun W => conv_new W [240 + r / 262144, 128 + r / 4096 % 64, 128 + r / 64 % 64, 128 + r % 64] 4 rfl
        simp only [List.map_cons, List.map_nil] at hcv
        clear hz h2
        go_enter Tryd.func30, Tryd.ntmps30
        go_wp2
        go_ret
        exact ⟨by rw [← enc_nums, HZ.out]; rfl, (Below.refl _ _).alloc (Nat.le_refl _) _⟩
end Go.Proofs.YtjldmlnohkknpaaDoor
