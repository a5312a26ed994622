/- aquatintlaw22.PastNil, walked. -/
import Derived.Test.YtcdfamllamjpeaaPast5
import Derived.Test.YtcdfamllamjpeaaPastSize
namespace Go.Proofs.Ytcdfamllamjpeaa
open Go.RowKit Go.Shelf
attribute [local go_sem] Oper.semAt_some
set_option maxRecDepth 100000
set_option maxHeartbeats 4000000
theorem pastNil.core (a0 : Int) (_w0 : (Lit.int .i64 a0).wf = true) (w : World) : Calls Try.prog 7 #[.int .i64 a0] w fun e w' => e = .returned (.bool true) ∧ Below w.heap.size w w' := by
  obtain ⟨N, hN⟩ : ∃ N, N = w.heap.size := ⟨_, rfl⟩
  have hN0 : N ≤ w.heap.size := by omega
  rw [← hN]
  clear hN
  refine (callsIn_wide (n := 9)).1 ?_
  refine callsIn_of_wp_marks Try.func7 rfl trivial ?_ rfl
  simp only [Try.ntmps7, List.size_toArray, List.length_cons, List.length_nil, Nat.reduceAdd, Nat.reduceSub, Array.replicate_succ, Array.replicate_zero, List.push_toArray, List.append_toArray, List.nil_append, List.cons_append]
  refine wpIn_wide.2 ?_
  have hB0 : Below N w w := Below.refl _ _
  go_upto_region 4 with (go_at_call 8; refine (awake22 _).mono ?_; rintro e w1 ⟨rfl, hb⟩; have hB1 := hB0.trans (hb.mono hN0); have hN1 := Nat.le_trans hN0 hb.size; clear hb)
  clear hB0
  go_upto_region 5 with (go_at_call 10; refine (past_push_nil (0, 0, a0) _).mono ?_; rintro e w2 ⟨rfl, hb⟩; have hB2 := hB1.trans (hb.mono hN1); have hN2 := Nat.le_trans hN1 hb.size; clear hb; simp only [Pa.val])
  refine wp_world (fun W => Below N w W ∧ N ≤ W.heap.size) ⟨hB2.alloc hN2 _, by simp; omega⟩ ?_
  clear hB1 hB2 hN1 hN2
  rintro W3 ⟨hB2, hN2⟩
  go_upto_region 6 with (go_at_call 11; refine (past_pop_nil _).mono ?_; rintro e w3 ⟨rfl, hb⟩; have hB3 := hB2.trans (hb.mono hN2); have hN3 := Nat.le_trans hN2 hb.size; clear hb; simp only [Pa.val])
  refine wp_world (fun W => Below N w W ∧ N ≤ W.heap.size) ⟨hB3.alloc hN3 _, by simp; omega⟩ ?_
  clear hB2 hB3 hN2 hN3
  rintro W4 ⟨hB2, hN2⟩
  go_upto_region 7 with (go_at_call 20; refine (past_oldest_nil _).mono ?_; rintro e w3 ⟨rfl, hb⟩; have hB3 := hB2.trans (hb.mono hN2); have hN3 := Nat.le_trans hN2 hb.size; clear hb; simp only [Pa.val])
  refine wp_world (fun W => Below N w W ∧ N ≤ W.heap.size) ⟨hB3.alloc hN3 _, by simp; omega⟩ ?_
  clear hB2 hB3 hN2 hN3
  rintro W5 ⟨hB2, hN2⟩
  go_upto_region 8 with fail
  obtain ⟨M, hM⟩ : ∃ M, M = W5.heap.size := ⟨_, rfl⟩
  refine wp_world (fun W => Blk W M #[.int .i64 0] 3 ∧ Below N w W ∧ N ≤ W.heap.size) ⟨Blk.new' _ _ _ hM, hB2.alloc hN2 _, by simp; omega⟩ ?_
  rw [← hM]
  clear hM hB2 hN2
  rintro W6 ⟨bM, hB2, hN2⟩
  go_wp2_with (go_at_call 15; refine (past_all none _).mono ?_; rintro e w3 ⟨rfl, rfl⟩)
  have hBn : N ≤ (W6.alloc (.cells #[.pointer none] 24)).heap.size := by simp; omega
  refine (wpIn_wide (n := 9)).1 ?_
  refine wpIn_rangeFunc_ownH rfl (by omega) (gf := 24) (lb := #[.pointer (some ⟨W6.heap.size, 0, none⟩)]) rfl trivial (enters_of Try.func24 (by kernel_rfl) rfl)
    (past_stops_nil _ W6.heap.size _ (by simp) ((Blk.new W6 #[.pointer none] 24).cell 0)) keepC_t keepC_b (Below.refl _ _) (fun _ => rfl)
    (fun _ W => Blk W M #[.int .i64 0] 3 ∧ Below N w W ∧ N ≤ W.heap.size)
    (fun _ _ _ => False)
    (OwnFrom.and (Own.from (own_blk (fun _ => #[.int .i64 0]) M 3) _) (OwnFrom.and (ownFrom_below hN0 hBn) (ownFrom_size _ _)))
    (fun _ _ _ _ _ hs _ _ => hs)
    ⟨bM.alloc _, hB2.alloc hN2 _, hBn⟩
    (fun _ _ _ => True) (fun _ _ _ _ _ _ _ _ _ => trivial)
    ?assign ?body ?done ?stop
  case assign =>
    rintro l pre x W K hI hK
    exact wpIn_skip (hK _ _ (KeepsFrom.refl _ _) (KeepC.refl _ _) hI trivial)
  case body =>
    intro l pre x a' W _ _ _ _ hlt
    omega
  case stop =>
    rintro D c pre W _ _ h _
    exact h.elim
  case done =>
    rintro D ys W hD rfl ⟨b1, hB1, hN1⟩ hK
    have keep : ∀ {A B : World}, (Blk A M #[.int .i64 0] 3 ∧ Below N w A ∧ N ≤ A.heap.size ∧ A.heap[D]? = some (.deferred (some []))) → Below A.heap.size A B →
        (Blk B M #[.int .i64 0] 3 ∧ Below N w B ∧ N ≤ B.heap.size ∧ B.heap[D]? = some (.deferred (some []))) :=
      fun ⟨h1, h2, h3, h4⟩ hb => ⟨h1.below hb h1.lt, h2.trans (hb.mono h3), Nat.le_trans h3 hb.size, (hb.block D (Array.getElem?_eq_some_iff.1 h4).1).trans h4⟩
    have hA := And.intro b1 (And.intro hB1 (And.intro hN1 hK))
    clear b1 hB1 hN1 hK
    go_wp2_with (first
      | (go_at_call 18; refine (past_drop_nil _).mono ?_; rintro e x1 ⟨rfl, hb1⟩; have hA1 := keep hA hb1)
      | (go_at_call 12; refine (past_len_nil _).mono ?_; rintro e x2 ⟨rfl, rfl⟩)
      | (go_at_call 21; refine (past_size_nil _).mono ?_; rintro e x3 ⟨rfl, hb3⟩; have hA3 := keep hA1 hb3; have q1 := hA3.1.cell 0))
    obtain ⟨b1, hB3, hN3, hK3⟩ := hA3
    refine ⟨by simp, .inl ⟨_, _, rfl, run_takeDeferred hK3, ?_⟩⟩
    exact ⟨_, results_tmp rfl _ _ _, rfl, hB3.trans (belowK_b hBn x3 D _ _ hD hK3 rfl rfl)⟩
end Go.Proofs.Ytcdfamllamjpeaa
