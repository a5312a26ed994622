/- A region that draws its order, each of whose operations yields one value in every world that meets a condition S and keeps S: it may be walked in the order of the text. Over any program. -/
import Derived.WalkKit
import Derived.OrdersHeld
import Derived.NoCompiler
namespace Go.Proofs.Ytgmhhocpdfdplaa
open Go.RowKit

/-- An operation's run yields v in every world that meets S, and S holds behind it. -/
def RunYields (P : Program) (S : World → Prop) (v : Value) : Result Next → Prop
  | .ok (.value v') w' => v' = v ∧ S w'
  | .ok .skip w' => undef = v ∧ S w'
  | .ok (.enter f args) w' => Calls P f args w' fun e w'' => e = .returned v ∧ S w''
  | .ok (.row row args) w' => Rows P row args w' fun v' w'' => v' = v ∧ S w''
  | _ => False
def YieldsS (P : Program) (ops : Array Oper) (S : World → Prop) (o : Oper) (v : Value) (a : Act) : Prop :=
  (Region.wanted o (yielded ops a.tmps) = true ∧ ∀ w, S w → RunYields P S v ((execOp a.eval o).run P w)) ∨
  (Region.wanted o (yielded ops a.tmps) = false ∧ v = undef)
section
variable {P : Program} {ops : Array Oper} {md : Region.Mode} {S : World → Prop} {Q : Exit → Act → World → Prop} {F : Act → Prop}
theorem YieldsS.of_same {o : Oper} {v : Value} {a a' : Act} (hy : YieldsS P ops S o v a) (he : execOp a'.eval o = execOp a.eval o)
    (hw : Region.wanted o (yielded ops a'.tmps) = Region.wanted o (yielded ops a.tmps)) : YieldsS P ops S o v a' := by
  unfold YieldsS at *
  rw [he, hw]
  exact hy
theorem YieldsS.wpOp {i : Nat} {o : Oper} {v : Value} {a : Act} (hi : ops[i]? = some o) (hy : YieldsS P ops S o v a)
    {K : Act → World → Prop} {w : World} (hS : S w) (h : ∀ w', S w' → K (a.put o.dst v) w') : wpOp P ops Q i K a w := by
  unfold Go.wpOp
  simp only [hi]
  rcases hy with ⟨hw, hv⟩ | ⟨hw, rfl⟩
  · simp only [hw, if_true]
    refine .inl ?_
    have hr := hv w hS
    unfold Oper.wp
    generalize (execOp a.eval o).run P w = r at hr
    cases r with
    | ok n w' =>
      cases n <;> simp only [RunYields, Oper.upon] at hr ⊢
      case value u => obtain ⟨rfl, hS'⟩ := hr; exact h _ hS'
      case skip => obtain ⟨hu, hS'⟩ := hr; rw [hu]; exact h _ hS'
      case enter f args => exact Calls.mono hr (fun e w'' he => by obtain ⟨rfl, hS'⟩ := he; exact h _ hS')
      case row row args => exact Rows.mono hr (fun u w'' he => by obtain ⟨rfl, hS'⟩ := he; exact h _ hS')
    | halt x w' => simp [RunYields] at hr
  · simp only [hw, Bool.false_eq_true, if_false]; exact h _ hS
/-- Whatever order is picked from here on, every operation yields its value in every world that meets S. -/
def detAny (P : Program) (md : Region.Mode) (ops : Array Oper) (S : World → Prop) (F : Act → Prop) : Nat → Array Bool → Act → Prop
  | 0, listed, a => Region.ready md ops listed = [] ∧ F a
  | n + 1, listed, a => (Region.ready md ops listed = [] → F a) ∧
    ∀ i ∈ Region.ready md ops listed, ∃ o v, ops[i]? = some o ∧ YieldsS P ops S o v a ∧ detAny P md ops S F n (listed.setIfInBounds i true) (a.put o.dst v)
theorem detAny_sound : ∀ (n : Nat) (listed : Array Bool) (a : Act), detAny P md ops S (fun a => ∀ w, S w → Q .normal a w) n listed a → ∀ w, S w → wpAny P md ops Q n listed a w
  | 0, _, _, h, w, hS => ⟨h.1, h.2 w hS⟩
  | n + 1, _, _, h, w, hS => ⟨fun hr => h.1 hr w hS, fun i hi => by
      obtain ⟨o, v, ho, hy, hd⟩ := h.2 i hi
      exact hy.wpOp ho hS (fun w' hS' => detAny_sound n _ _ hd w' hS')⟩
theorem detAny_first {i : Nat} {oi : Oper} {v : Value} (hi : ops[i]? = some oi) (hsel : ∀ (j : Nat) (o : Oper) cs b, ops[j]? = some o → o.op ≠ .select cs b) :
    ∀ (n : Nat) (listed : Array Bool) (a : Act),
      (∀ j oj, ops[j]? = some oj → j ≠ i → listed.getD j true = false → (∀ e ∈ oj.after, Region.binds md e = true → e.on ≠ i) → oi.apart ops oj = true) →
      i ∈ Region.ready md ops listed → YieldsS P ops S oi v a →
      detAny P md ops S F n (listed.setIfInBounds i true) (a.put oi.dst v) → detAny P md ops S F (n + 1) listed a := by
  intro n
  induction n with
  | zero =>
    intro listed a _ hr hy H
    refine ⟨fun h => (by rw [h] at hr; cases hr), fun j hj => ?_⟩
    by_cases hji : j = i
    · subst hji; exact ⟨oi, v, hi, hy, H⟩
    · have := ready_mono hj hji
      rw [H.1] at this
      cases this
  | succ n ih =>
    intro listed a hfree hr hy H
    refine ⟨fun h => (by rw [h] at hr; cases hr), fun j hj => ?_⟩
    by_cases hji : j = i
    · subst hji; exact ⟨oi, v, hi, hy, H⟩
    · obtain ⟨oj, vj, hoj, hyj, Hj⟩ := H.2 j (ready_mono hj hji)
      obtain ⟨hjun, oj', hoj', hall⟩ := mem_ready.1 hj
      obtain rfl : oj' = oj := Option.some.inj (hoj'.symm.trans hoj)
      have hnot : ∀ e ∈ oj'.after, Region.binds md e = true → e.on ≠ i := fun e he hb heq => by
        have h1 := hall e he hb
        have h0 := (mem_ready.1 hr).1
        rw [heq] at h1
        rcases Nat.lt_or_ge i listed.size with h' | h'
        · simp [h'] at h0 h1; rw [h0] at h1; cases h1
        · simp [Array.getElem?_eq_none h'] at h1
      have hap := hfree j oj' hoj hji hjun hnot
      obtain ⟨h1, h2, h3⟩ := Oper.apart_spec hap
      have hsi : ∀ cs b, oi.op ≠ .select cs b := fun cs b => hsel i oi cs b hi
      have hsj : ∀ cs b, oj'.op ≠ .select cs b := fun cs b => hsel j oj' cs b hoj
      have hfree' : ∀ k ok, ops[k]? = some ok → k ≠ i → (listed.setIfInBounds j true).getD k true = false →
          (∀ e ∈ ok.after, Region.binds md e = true → e.on ≠ i) → oi.apart ops ok = true := fun k ok hk hki hun hno => by
        refine hfree k ok hk hki ?_ hno
        by_cases hjk : j = k
        · subst hjk; exact hjun
        · rw [getD_set_ne true hjk] at hun; exact hun
      refine ⟨oj', vj, hoj, hyj.of_same (execOp_put oj' hsj a oi.dst v h1).symm (wanted_put oj' a oi.dst v h1).symm, ?_⟩
      refine ih (listed.setIfInBounds j true) (a.put oj'.dst vj) hfree' (ready_mono hr (Ne.symm hji)) (hy.of_same (execOp_put oi hsi a oj'.dst vj h3) (wanted_put oi a oj'.dst vj h3)) ?_
      rw [Array.setIfInBounds_comm _ _ hji, ← Act.put_comm a v vj h2]
      exact Hj
/-- The text's own order is one that may be picked, operation by operation. -/
def inOrder (md : Region.Mode) (ops : Array Oper) : List Nat → Array Bool → Bool
  | [], listed => (Region.ready md ops listed).isEmpty
  | i :: r, listed => Region.free md ops listed i && (Region.ready md ops listed).contains i && inOrder md ops r (listed.setIfInBounds i true)
def detList (P : Program) (ops : Array Oper) (S : World → Prop) (F : Act → Prop) : List Oper → Act → Prop
  | [], a => F a
  | o :: rest, a => ∃ v, YieldsS P ops S o v a ∧ detList P ops S F rest (a.put o.dst v)
theorem detAny_list (hsel : Region.noSelect ops = true) : ∀ (l : List Oper) (k : Nat) (listed : Array Bool) (a : Act), (∀ j, l[j]? = ops[k + j]?) →
    inOrder md ops (List.range' k l.length) listed = true → detList P ops S F l a → detAny P md ops S F l.length listed a
  | [], k, listed, a, _, ho, h => by
    simp only [List.length_nil, List.range'_zero, inOrder, List.isEmpty_iff] at ho
    exact ⟨ho, h⟩
  | o :: l, k, listed, a, hl, ho, h => by
    have h0 : ops[k]? = some o := by simpa using (hl 0).symm
    simp only [List.length_cons, List.range'_succ, inOrder, Bool.and_eq_true] at ho
    obtain ⟨⟨hf, hr⟩, ho⟩ := ho
    obtain ⟨v, hy, hd⟩ := h
    exact detAny_first h0 (Region.noSelect_spec hsel) l.length listed a (Region.free_spec h0 hf) (by simpa using hr) hy
      (detAny_list hsel l (k + 1) _ _ (fun j => by have := hl (j + 1); simpa [Nat.add_assoc, Nat.add_comm 1 j] using this) ho hd)
end
/-- All that is asked of a region's own text. -/
def detOk (l : List Oper) : Bool := Region.noSelect l.toArray && inOrder .any l.toArray (List.range' 0 l.length) (Array.replicate l.length false)
theorem wp_region_det {P : Program} {id : Nat} {l : List Oper} {Q : Exit → Act → World → Prop} {a : Act} {w : World} (S : World → Prop) (hm : P.follows .mixedOrders = true)
    (hok : detOk l = true) (hS : S w.drew) (h : detList P l.toArray S (fun a => ∀ w, S w → Q .normal a w) l a) : (Code.region id l.toArray true).wp P Q a w := by
  simp only [detOk, Bool.and_eq_true] at hok
  have hd := detAny_list (md := .any) (P := P) (S := S) hok.1 l 0 (Array.replicate l.length false) a (fun j => by simp) hok.2 h
  refine wp_region_any hm ?_
  have := detAny_sound (Q := Q) _ _ _ hd w.drew hS
  simpa using this
/-! The steps. -/
section
variable {P : Program} {ops : Array Oper} {S : World → Prop} {F : Act → Prop} {o : Oper} {rest : List Oper} {a : Act}
theorem det_nil (h : F a) : detList P ops S F [] a := h
theorem det_pure {v : Value} (hw : Region.wanted o (yielded ops a.tmps) = true) (h : ∀ w, S w → (execOp a.eval o).run P w = .ok (.value v) w)
    (k : detList P ops S F rest (a.put o.dst v)) : detList P ops S F (o :: rest) a :=
  ⟨v, .inl ⟨hw, fun w hS => by rw [h w hS]; exact ⟨rfl, hS⟩⟩, k⟩
theorem det_skip (hw : Region.wanted o (yielded ops a.tmps) = false) (k : detList P ops S F rest (a.put o.dst undef)) : detList P ops S F (o :: rest) a :=
  ⟨undef, .inr ⟨hw, rfl⟩, k⟩
theorem det_call {v : Value} {f : FuncId} {args : Array Value} (hw : Region.wanted o (yielded ops a.tmps) = true) (h : ∀ w, S w → (execOp a.eval o).run P w = .ok (.enter f args) w)
    (hc : ∀ w, S w → Calls P f args w fun e w' => e = .returned v ∧ S w') (k : detList P ops S F rest (a.put o.dst v)) : detList P ops S F (o :: rest) a :=
  ⟨v, .inl ⟨hw, fun w hS => by rw [h w hS]; exact hc w hS⟩, k⟩
theorem det_any {v : Value} (hw : Region.wanted o (yielded ops a.tmps) = true) (h : ∀ w, S w → RunYields P S v ((execOp a.eval o).run P w))
    (k : detList P ops S F rest (a.put o.dst v)) : detList P ops S F (o :: rest) a := ⟨v, .inl ⟨hw, h⟩, k⟩
end
end Go.Proofs.Ytgmhhocpdfdplaa
