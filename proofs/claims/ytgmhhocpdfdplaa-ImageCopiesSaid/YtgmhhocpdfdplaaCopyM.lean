/- A copy changed: a block's number, a component's id. -/
import Derived.Test.YtgmhhocpdfdplaaCopyL
namespace Go.Proofs.Ytgmhhocpdfdplaa
open Go.RowKit
set_option maxRecDepth 100000
/-- A cell of a block of another type changed. -/
theorem Row.otherT {w : World} {lo : Nat} {e t : TypeId} {size n g : Nat} {v : Value} {xs : List Value} {cur : Array Value} (h : Row w lo e size v n xs) (hb : Blk w g cur t) (ht : t ≠ e) (i : Nat) (u : Value) : Row (w.setCell ⟨g, i, none⟩ u) lo e size v n xs :=
  h.other _ _ (h.typed hb ht)
theorem OwnI.putB {N g cap : Nat} {x : ImgArg} {w W : World} (h : OwnI N x w W) (h0 : 0 < x.cs.length) (hu : (x.cs[0]'h0).u = .slice (some ⟨g, 0, none⟩) (x.cs[0]'h0).bs.length cap) {k j : Nat} (hk : k < (x.cs[0]'h0).bs.length) (hj : j < 64) (z : Int) (hz : (Lit.int .i16 z).wf = true) :
    OwnI N { x with cs := x.cs.set 0 (setB (x.cs[0]'h0) k j z) } w (W.setCell ⟨g, k * 64 + j, none⟩ (.int .i16 z)) := by
  have hc := h.c
  have own0 := hc.own 0 h0 h0
  rw [hu] at own0
  obtain ⟨cur, hb⟩ := own0.blk
  have hlo := own0.lt g rfl
  have hmap : (x.cs.set 0 (setB (x.cs[0]'h0) k j z)).map CompArg.cells = x.cs.map CompArg.cells := by
    refine List.ext_getElem? fun i => ?_
    rw [List.getElem?_map, List.getElem?_map, List.getElem?_set]
    split
    · rename_i e; subst e; simp [h0, CompArg.cells, setB]
    · rfl
  have gs : ∀ i (hi : i < x.cs.length) (hi' : i < (x.cs.set 0 (setB (x.cs[0]'h0) k j z)).length), i ≠ 0 → (x.cs.set 0 (setB (x.cs[0]'h0) k j z))[i]'hi' = x.cs[i]'hi := fun i hi hi' e => by rw [List.getElem_set_ne (fun h => e h.symm)]
  have g0 : ∀ (hi' : 0 < (x.cs.set 0 (setB (x.cs[0]'h0) k j z)).length), (x.cs.set 0 (setB (x.cs[0]'h0) k j z))[0]'hi' = setB (x.cs[0]'h0) k j z := fun hi' => by rw [List.getElem_set_self]
  have hx0 := hc.ok 0 h0 h0 W (hc.own 0 h0 h0).ar
  have hset := own0.set (k * 64 + j) (by omega) (.int .i16 z)
  rw [bcells_set1 hx0.h64 hk hj z] at hset
  refine ⟨⟨?_, fun i hi hik => ?_, fun i hi hik => ?_, fun i hi hik W' ha => ?_, fun i j' hi hj' hik hjk hij b hbb => ?_, hc.hN, hc.hB.setCell hlo.1 _, by simpa using hc.hW⟩, h.q.otherT hb (by decide) _ _, h.t.otherT hb (by decide) _ _, h.qok, h.tok⟩
  · show Row _ N _ 7 x.cu (x.cs.set 0 _).length _
    rw [hmap, List.length_set]
    exact hc.row.otherT hb (by decide) _ _
  · simp only [List.length_set] at hi hik; omega
  · have hi2 : i < x.cs.length := by simpa using hi
    by_cases he : i = 0
    · subst he
      simp only [g0]
      show Row _ N _ 64 (x.cs[0]'h0).u ((x.cs[0]'h0).bs.set k _).length _
      rw [List.length_set, hu]
      exact hset
    · simp only [gs i hi2 hi he]
      exact (hc.own i hi2 hi2).other _ _ fun b hbb e => by
        have e' : b = g := e
        subst e'
        exact hc.dis i 0 hi2 h0 hi2 h0 he b hbb (by rw [hu]; rfl)
  · have hi2 : i < x.cs.length := by simpa using hi
    by_cases he : i = 0
    · subst he
      simp only [g0] at ha ⊢
      have hl : ((x.cs[0]'h0).bs.getD k []).length = 64 := by
        rw [List.getD_eq_getElem?_getD, List.getElem?_eq_getElem hk]
        exact hx0.h64 _ (List.getElem_mem hk)
      refine ⟨ha, fun b hb => ?_, fun b hb y hy => ?_, hx0.wid, hx0.wh, hx0.wv, hx0.wq, hx0.wc, hx0.wr⟩
      · rcases List.mem_or_eq_of_mem_set hb with h1 | rfl
        · exact hx0.h64 b h1
        · rw [List.length_set]; exact hl
      · rcases List.mem_or_eq_of_mem_set hb with h1 | rfl
        · exact hx0.wb b h1 y hy
        · rcases List.mem_or_eq_of_mem_set hy with h2 | rfl
          · refine hx0.wb _ ?_ y h2
            rw [List.getD_eq_getElem?_getD, List.getElem?_eq_getElem hk]
            exact List.getElem_mem hk
          · exact hz
    · simp only [gs i hi2 hi he] at ha ⊢
      exact hc.ok i hi2 hi2 W' ha
  · have hi2 : i < x.cs.length := by simpa using hi
    have hj2 : j' < x.cs.length := by simpa using hj'
    have uo : ∀ m (hm : m < x.cs.length) (hm' : m < (x.cs.set 0 (setB (x.cs[0]'h0) k j z)).length), ((x.cs.set 0 (setB (x.cs[0]'h0) k j z))[m]'hm').u = (x.cs[m]'hm).u := fun m hm hm' => by
      by_cases he : m = 0
      · subst he; rw [g0]; rfl
      · rw [gs m hm hm' he]
    have hbb' : (x.cs[i]'hi2).u.ownBlock = some b := by rw [← uo i hi2 hi]; exact hbb
    have := hc.dis i j' hi2 hj2 hi2 hj2 hij b hbb'
    intro e
    exact this (by rw [← uo j' hj2 hj']; exact e)
theorem flat_id {L : List CompArg} (h0 : 0 < L.length) (z : Int) : (L.map CompArg.cells).flatten.set 0 (.int .i64 z) = ((L.set 0 (setId (L[0]'h0) z)).map CompArg.cells).flatten := by
  match L, h0 with
  | c :: l, _ => rfl
theorem OwnI.putId {N g cap : Nat} {x : ImgArg} {w W : World} (h : OwnI N x w W) (h0 : 0 < x.cs.length) (hu : x.cu = .slice (some ⟨g, 0, none⟩) x.cs.length cap) (z : Int) (hz : (Lit.int .i64 z).wf = true) :
    OwnI N { x with cs := x.cs.set 0 (setId (x.cs[0]'h0) z) } w (W.setCell ⟨g, 0, none⟩ (.int .i64 z)) := by
  have hc := h.c
  have hrow := hc.row
  rw [hu] at hrow
  obtain ⟨cur, hb⟩ := hrow.blk
  have hlo := hrow.lt g rfl
  have hset := hrow.set 0 (by omega) (.int .i64 z)
  rw [flat_id h0] at hset
  have gs : ∀ i (hi : i < x.cs.length) (hi' : i < (x.cs.set 0 (setId (x.cs[0]'h0) z)).length), i ≠ 0 → (x.cs.set 0 (setId (x.cs[0]'h0) z))[i]'hi' = x.cs[i]'hi := fun i hi hi' e => by rw [List.getElem_set_ne (fun h => e h.symm)]
  have g0 : ∀ (hi' : 0 < (x.cs.set 0 (setId (x.cs[0]'h0) z)).length), (x.cs.set 0 (setId (x.cs[0]'h0) z))[0]'hi' = setId (x.cs[0]'h0) z := fun hi' => by rw [List.getElem_set_self]
  have uo : ∀ m (hm : m < x.cs.length) (hm' : m < (x.cs.set 0 (setId (x.cs[0]'h0) z)).length), ((x.cs.set 0 (setId (x.cs[0]'h0) z))[m]'hm').u = (x.cs[m]'hm).u ∧ ((x.cs.set 0 (setId (x.cs[0]'h0) z))[m]'hm').bs = (x.cs[m]'hm).bs := fun m hm hm' => by
    by_cases he : m = 0
    · subst he; rw [g0]; exact ⟨rfl, rfl⟩
    · rw [gs m hm hm' he]; exact ⟨rfl, rfl⟩
  refine ⟨⟨?_, fun i hi hik => ?_, fun i hi hik => ?_, fun i hi hik W' ha => ?_, fun i j' hi hj' hik hjk hij b hbb => ?_, hc.hN, hc.hB.setCell hlo.1 _, by simpa using hc.hW⟩, h.q.otherT hb (by decide) _ _, h.t.otherT hb (by decide) _ _, h.qok, h.tok⟩
  · show Row _ N _ 7 x.cu (x.cs.set 0 _).length _
    rw [List.length_set, hu]
    exact hset
  · simp only [List.length_set] at hi hik; omega
  · have hi2 : i < x.cs.length := by simpa using hi
    simp only [(uo i hi2 hi).1, (uo i hi2 hi).2]
    exact (hc.own i hi2 hi2).otherT hb (by decide) _ _
  · have hi2 : i < x.cs.length := by simpa using hi
    simp only [(uo i hi2 hi).1, (uo i hi2 hi).2] at ha
    have hx := hc.ok i hi2 hi2 W' ha
    by_cases he : i = 0
    · subst he
      simp only [g0]
      exact ⟨hx.ar, hx.h64, hx.wb, hz, hx.wh, hx.wv, hx.wq, hx.wc, hx.wr⟩
    · simp only [gs i hi2 hi he]
      exact hx
  · have hi2 : i < x.cs.length := by simpa using hi
    have hj2 : j' < x.cs.length := by simpa using hj'
    have hbb' : (x.cs[i]'hi2).u.ownBlock = some b := by rw [← (uo i hi2 hi).1]; exact hbb
    have := hc.dis i j' hi2 hj2 hi2 hj2 hij b hbb'
    intro e
    exact this (by rw [← (uo j' hj2 hj').1]; exact e)
end Go.Proofs.Ytgmhhocpdfdplaa
