/- A region that draws its order and holds ONE operation (at i0) that takes the world from a condition S to a condition T, each other one yielding one value in every world that meets S, and the same in every world that meets T: it may be walked in the order of the text. Over any program. -/
import Derived.Test.YtgmhhocpdfdplaaDet
namespace Go.Proofs.Ytgmhhocpdfdplaa
open Go.RowKit
def YieldsT (P : Program) (ops : Array Oper) (i0 : Nat) (S T : World → Prop) (i : Nat) (o : Oper) (v : Value) (a : Act) : Prop :=
  (Region.wanted o (yielded ops a.tmps) = true ∧ (i = i0 → ∀ w, S w → RunYields P T v ((execOp a.eval o).run P w)) ∧
    (i ≠ i0 → (∀ w, S w → RunYields P S v ((execOp a.eval o).run P w)) ∧ ∀ w, T w → RunYields P T v ((execOp a.eval o).run P w))) ∨
  (Region.wanted o (yielded ops a.tmps) = false ∧ v = undef ∧ i ≠ i0)
/-- The condition that holds when these have run. -/
def At1 (i0 : Nat) (S T : World → Prop) (listed : Array Bool) (w : World) : Prop := if listed.getD i0 true = true then T w else S w
section
variable {P : Program} {ops : Array Oper} {md : Region.Mode} {i0 : Nat} {S T : World → Prop} {Q : Exit → Act → World → Prop} {F : Array Bool → Act → Prop}
theorem YieldsT.of_same {i : Nat} {o : Oper} {v : Value} {a a' : Act} (hy : YieldsT P ops i0 S T i o v a) (he : execOp a'.eval o = execOp a.eval o)
    (hw : Region.wanted o (yielded ops a'.tmps) = Region.wanted o (yielded ops a.tmps)) : YieldsT P ops i0 S T i o v a' := by
  unfold YieldsT at *
  rw [he, hw]
  exact hy
theorem YieldsT.wpOp {i : Nat} {o : Oper} {v : Value} {a : Act} {listed : Array Bool} (hi : ops[i]? = some o) (hun : listed.getD i true = false) (hy : YieldsT P ops i0 S T i o v a)
    {K : Act → World → Prop} {w : World} (hS : At1 i0 S T listed w) (h : ∀ w', At1 i0 S T (listed.setIfInBounds i true) w' → K (a.put o.dst v) w') : wpOp P ops Q i K a w := by
  have hlt : i < listed.size := by
    rcases Nat.lt_or_ge i listed.size with h | h
    · exact h
    · simp [Array.getElem?_eq_none h] at hun
  have key : ∀ (U V : World → Prop), U w → (∀ w, U w → RunYields P V v ((execOp a.eval o).run P w)) → (∀ w', V w' → At1 i0 S T (listed.setIfInBounds i true) w') → Region.wanted o (yielded ops a.tmps) = true → Go.wpOp P ops Q i K a w := by
    intro U V hU hv hV hw
    have h' : ∀ w', V w' → K (a.put o.dst v) w' := fun w' hw' => h w' (hV w' hw')
    unfold Go.wpOp
    simp only [hi, hw, if_true]
    refine .inl ?_
    have hr := hv w hU
    unfold Oper.wp
    generalize (execOp a.eval o).run P w = r at hr
    cases r with
    | ok n w' =>
      cases n <;> simp only [RunYields, Oper.upon] at hr ⊢
      case value u => obtain ⟨rfl, hS'⟩ := hr; exact h' _ hS'
      case skip => obtain ⟨hu, hS'⟩ := hr; rw [hu]; exact h' _ hS'
      case enter f args => exact Calls.mono hr (fun e w'' he => by obtain ⟨rfl, hS'⟩ := he; exact h' _ hS')
      case row row args => exact Rows.mono hr (fun u w'' he => by obtain ⟨rfl, hS'⟩ := he; exact h' _ hS')
    | halt x w' => simp [RunYields] at hr
  rcases hy with ⟨hw, h1, h2⟩ | ⟨hw, rfl, hne⟩
  · by_cases hii : i = i0
    · subst hii
      refine key S T ?_ (h1 rfl) (fun w' hw' => ?_) hw
      · unfold At1 at hS; rw [if_neg (by rw [hun]; simp)] at hS; exact hS
      · unfold At1; rw [if_pos (by simp [hlt])]; exact hw'
    · obtain ⟨hs, ht⟩ := h2 hii
      have hsame : (listed.setIfInBounds i true).getD i0 true = listed.getD i0 true := getD_set_ne true hii
      by_cases hl : listed.getD i0 true = true
      · refine key T T ?_ ht (fun w' hw' => ?_) hw
        · unfold At1 at hS; rw [if_pos hl] at hS; exact hS
        · unfold At1; rw [hsame, if_pos hl]; exact hw'
      · refine key S S ?_ hs (fun w' hw' => ?_) hw
        · unfold At1 at hS; rw [if_neg hl] at hS; exact hS
        · unfold At1; rw [hsame, if_neg hl]; exact hw'
  · unfold Go.wpOp
    simp only [hi, hw, Bool.false_eq_true, if_false]
    refine h _ ?_
    unfold At1 at *
    rw [getD_set_ne true hne]
    exact hS
/-- Whatever order is picked from here on, every operation yields its value in every world that meets S. -/
def detOne (P : Program) (md : Region.Mode) (ops : Array Oper) (i0 : Nat) (S T : World → Prop) (F : Array Bool → Act → Prop) : Nat → Array Bool → Act → Prop
  | 0, listed, a => Region.ready md ops listed = [] ∧ F listed a
  | n + 1, listed, a => (Region.ready md ops listed = [] → F listed a) ∧
    ∀ i ∈ Region.ready md ops listed, ∃ o v, ops[i]? = some o ∧ YieldsT P ops i0 S T i o v a ∧ detOne P md ops i0 S T F n (listed.setIfInBounds i true) (a.put o.dst v)
theorem detOne_sound : ∀ (n : Nat) (listed : Array Bool) (a : Act), detOne P md ops i0 S T (fun li a => li.getD i0 true = true ∧ ∀ w, T w → Q .normal a w) n listed a → ∀ w, At1 i0 S T listed w → wpAny P md ops Q n listed a w
  | 0, _, _, h, w, hS => ⟨h.1, h.2.2 w (by unfold At1 at hS; rw [if_pos h.2.1] at hS; exact hS)⟩
  | n + 1, _, _, h, w, hS => ⟨fun hr => (h.1 hr).2 w (by unfold At1 at hS; rw [if_pos (h.1 hr).1] at hS; exact hS), fun i hi => by
      obtain ⟨o, v, ho, hy, hd⟩ := h.2 i hi
      exact hy.wpOp ho (mem_ready.1 hi).1 hS (fun w' hS' => detOne_sound n _ _ hd w' hS')⟩
theorem detOne_first {i : Nat} {oi : Oper} {v : Value} (hi : ops[i]? = some oi) (hsel : ∀ (j : Nat) (o : Oper) cs b, ops[j]? = some o → o.op ≠ .select cs b) :
    ∀ (n : Nat) (listed : Array Bool) (a : Act),
      (∀ j oj, ops[j]? = some oj → j ≠ i → listed.getD j true = false → (∀ e ∈ oj.after, Region.binds md e = true → e.on ≠ i) → oi.apart ops oj = true) →
      i ∈ Region.ready md ops listed → YieldsT P ops i0 S T i oi v a →
      detOne P md ops i0 S T F n (listed.setIfInBounds i true) (a.put oi.dst v) → detOne P md ops i0 S T F (n + 1) listed a := by
  intro n
  induction n with
  | zero =>
    intro listed a _ hr hy H
    refine ⟨fun h => (by rw [h] at hr; cases hr), fun j hj => ?_⟩
    by_cases hji : j = i
    · subst hji; exact ⟨oi, v, hi, hy, H⟩
    · have := ready_mono hj hji
      rw [H.1] at this
      cases this
  | succ n ih =>
    intro listed a hfree hr hy H
    refine ⟨fun h => (by rw [h] at hr; cases hr), fun j hj => ?_⟩
    by_cases hji : j = i
    · subst hji; exact ⟨oi, v, hi, hy, H⟩
    · obtain ⟨oj, vj, hoj, hyj, Hj⟩ := H.2 j (ready_mono hj hji)
      obtain ⟨hjun, oj', hoj', hall⟩ := mem_ready.1 hj
      obtain rfl : oj' = oj := Option.some.inj (hoj'.symm.trans hoj)
      have hnot : ∀ e ∈ oj'.after, Region.binds md e = true → e.on ≠ i := fun e he hb heq => by
        have h1 := hall e he hb
        have h0 := (mem_ready.1 hr).1
        rw [heq] at h1
        rcases Nat.lt_or_ge i listed.size with h' | h'
        · simp [h'] at h0 h1; rw [h0] at h1; cases h1
        · simp [Array.getElem?_eq_none h'] at h1
      have hap := hfree j oj' hoj hji hjun hnot
      obtain ⟨h1, h2, h3⟩ := Oper.apart_spec hap
      have hsi : ∀ cs b, oi.op ≠ .select cs b := fun cs b => hsel i oi cs b hi
      have hsj : ∀ cs b, oj'.op ≠ .select cs b := fun cs b => hsel j oj' cs b hoj
      have hfree' : ∀ k ok, ops[k]? = some ok → k ≠ i → (listed.setIfInBounds j true).getD k true = false →
          (∀ e ∈ ok.after, Region.binds md e = true → e.on ≠ i) → oi.apart ops ok = true := fun k ok hk hki hun hno => by
        refine hfree k ok hk hki ?_ hno
        by_cases hjk : j = k
        · subst hjk; exact hjun
        · rw [getD_set_ne true hjk] at hun; exact hun
      refine ⟨oj', vj, hoj, hyj.of_same (execOp_put oj' hsj a oi.dst v h1).symm (wanted_put oj' a oi.dst v h1).symm, ?_⟩
      refine ih (listed.setIfInBounds j true) (a.put oj'.dst vj) hfree' (ready_mono hr (Ne.symm hji)) (hy.of_same (execOp_put oi hsi a oj'.dst vj h3) (wanted_put oi a oj'.dst vj h3)) ?_
      rw [Array.setIfInBounds_comm _ _ hji, ← Act.put_comm a v vj h2]
      exact Hj
def oneList (P : Program) (ops : Array Oper) (i0 : Nat) (S T : World → Prop) (F : Array Bool → Act → Prop) : List Oper → Nat → Array Bool → Act → Prop
  | [], _, listed, a => F listed a
  | o :: rest, k, listed, a => ∃ v, YieldsT P ops i0 S T k o v a ∧ oneList P ops i0 S T F rest (k + 1) (listed.setIfInBounds k true) (a.put o.dst v)
theorem detOne_list (hsel : Region.noSelect ops = true) : ∀ (l : List Oper) (k : Nat) (listed : Array Bool) (a : Act), (∀ j, l[j]? = ops[k + j]?) →
    inOrder md ops (List.range' k l.length) listed = true → oneList P ops i0 S T F l k listed a → detOne P md ops i0 S T F l.length listed a
  | [], k, listed, a, _, ho, h => by
    simp only [List.length_nil, List.range'_zero, inOrder, List.isEmpty_iff] at ho
    exact ⟨ho, h⟩
  | o :: l, k, listed, a, hl, ho, h => by
    have h0 : ops[k]? = some o := by simpa using (hl 0).symm
    simp only [List.length_cons, List.range'_succ, inOrder, Bool.and_eq_true] at ho
    obtain ⟨⟨hf, hr⟩, ho⟩ := ho
    obtain ⟨v, hy, hd⟩ := h
    exact detOne_first h0 (Region.noSelect_spec hsel) l.length listed a (Region.free_spec h0 hf) (by simpa using hr) hy
      (detOne_list hsel l (k + 1) _ _ (fun j => by have := hl (j + 1); simpa [Nat.add_assoc, Nat.add_comm 1 j] using this) ho hd)
end
theorem wp_region_one {P : Program} {id : Nat} {l : List Oper} {Q : Exit → Act → World → Prop} {a : Act} {w : World} (i0 : Nat) (S T : World → Prop) (hm : P.follows .mixedOrders = true)
    (hok : detOk l = true) (hi0 : i0 < l.length) (hS : S w.drew) (h : oneList P l.toArray i0 S T (fun li a => li.getD i0 true = true ∧ ∀ w, T w → Q .normal a w) l 0 (Array.replicate l.length false) a) : (Code.region id l.toArray true).wp P Q a w := by
  simp only [detOk, Bool.and_eq_true] at hok
  have hd := detOne_list (md := .any) (P := P) (S := S) (T := T) (i0 := i0) hok.1 l 0 (Array.replicate l.length false) a (fun j => by simp) hok.2 h
  refine wp_region_any hm ?_
  have := detOne_sound (Q := Q) _ _ _ hd w.drew (by unfold At1; rw [if_neg (by simp [hi0])]; exact hS)
  simpa using this
/-! The steps. -/
section
variable {P : Program} {ops : Array Oper} {i0 k : Nat} {S T : World → Prop} {F : Array Bool → Act → Prop} {o : Oper} {rest : List Oper} {a : Act} {li : Array Bool}
theorem one_nil (h : F li a) : oneList P ops i0 S T F [] k li a := h
theorem one_pure {v : Value} (hk : k ≠ i0) (hw : Region.wanted o (yielded ops a.tmps) = true) (h : ∀ w, S w ∨ T w → (execOp a.eval o).run P w = .ok (.value v) w)
    (n : oneList P ops i0 S T F rest (k + 1) (li.setIfInBounds k true) (a.put o.dst v)) : oneList P ops i0 S T F (o :: rest) k li a :=
  ⟨v, .inl ⟨hw, fun e => absurd e hk, fun _ => ⟨fun w hS => by rw [h w (.inl hS)]; exact ⟨rfl, hS⟩, fun w hT => by rw [h w (.inr hT)]; exact ⟨rfl, hT⟩⟩⟩, n⟩
theorem one_skip (hk : k ≠ i0) (hw : Region.wanted o (yielded ops a.tmps) = false) (n : oneList P ops i0 S T F rest (k + 1) (li.setIfInBounds k true) (a.put o.dst undef)) : oneList P ops i0 S T F (o :: rest) k li a :=
  ⟨undef, .inr ⟨hw, rfl, hk⟩, n⟩
theorem one_call {v : Value} {f : FuncId} {args : Array Value} (hk : k = i0) (hw : Region.wanted o (yielded ops a.tmps) = true) (h : ∀ w, S w → (execOp a.eval o).run P w = .ok (.enter f args) w)
    (hc : ∀ w, S w → Calls P f args w fun e w' => e = .returned v ∧ T w') (n : oneList P ops i0 S T F rest (k + 1) (li.setIfInBounds k true) (a.put o.dst v)) : oneList P ops i0 S T F (o :: rest) k li a :=
  ⟨v, .inl ⟨hw, fun _ w hS => by rw [h w hS]; exact hc w hS, fun e => absurd hk e⟩, n⟩
end
end Go.Proofs.Ytgmhhocpdfdplaa
