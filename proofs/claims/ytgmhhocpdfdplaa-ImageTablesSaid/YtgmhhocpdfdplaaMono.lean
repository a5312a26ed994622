/- A region that draws its order, whose operations only read, or make new memory of which facts are known that last, before its stores: it may be walked in the order of the text, each new memory's place unknown. Over any program. -/
import Derived.Test.YtgmhhocpdfdplaaMem
import Derived.Test.YtgmhhocpdfdplaaDet
namespace Go.Proofs.Ytgmhhocpdfdplaa
open Go.RowKit

/-- A fact on what was made between two heap sizes. -/
abbrev Fact := Nat → Nat → World → Prop
/-- What an operation that makes memory yields, by its operands: a value, and a fact. -/
structure MSpec where
  pv : List Value → Value → Prop
  fa : List Value → Value → Fact
def Fact.Mono (f : Fact) : Prop := ∀ lo hi w w', f lo hi w → hi ≤ w.heap.size → Below w.heap.size w w' → f lo hi w'
def opArgs (a : Act) (o : Oper) : List Value := o.op.operands.toList.map a.eval
def RunM (P : Program) (G : World → Prop) (s : MSpec) (args : List Value) (w : World) : Result Next → Prop
  | .ok (.value v) w' => s.pv args v ∧ G w' ∧ Below w.heap.size w w' ∧ s.fa args v w.heap.size w'.heap.size w'
  | .ok (.enter f as) w1 => Calls P f as w1 fun e w' => ∃ v, e = .returned v ∧ s.pv args v ∧ G w' ∧ Below w.heap.size w w' ∧ s.fa args v w.heap.size w'.heap.size w'
  | _ => False
def upd (Fs : Nat → Option Fact) (i : Nat) (f : Fact) : Nat → Option Fact := fun k => if k = i then some f else Fs k
theorem upd_self (Fs : Nat → Option Fact) (i : Nat) (f : Fact) : upd Fs i f i = some f := if_pos rfl
theorem upd_comm (Fs : Nat → Option Fact) {i j : Nat} (h : i ≠ j) (f g : Fact) : upd (upd Fs i f) j g = upd (upd Fs j g) i f := by
  funext k
  unfold upd
  by_cases h1 : k = i <;> by_cases h2 : k = j <;> simp [h1, h2]
  · exact absurd (h1.symm.trans h2) h
  · intro e; exact absurd e h
  · intro e; exact absurd e.symm h
/-- The facts of these operations hold. -/
def Has (Fs : Nat → Option Fact) (D : List Nat) (w : World) : Prop := ∀ d ∈ D, ∀ f, Fs d = some f → ∃ lo hi, f lo hi w
theorem Has.iff_upd {Fs : Nat → Option Fact} {D : List Nat} {w : World} {i : Nat} (f : Fact) (hi : i ∉ D) : Has (upd Fs i f) D w ↔ Has Fs D w := by
  unfold Has upd
  constructor
  · intro h d hd g hg
    have hne : d ≠ i := fun e => hi (by rw [← e]; exact hd)
    exact h d hd g (by rw [if_neg hne]; exact hg)
  · intro h d hd g hg
    have hne : d ≠ i := fun e => hi (by rw [← e]; exact hd)
    rw [if_neg hne] at hg
    exact h d hd g hg
def StepM (P : Program) (ops : Array Oper) (G : World → Prop) (sp : Nat → Option MSpec) (dep : Nat → List Nat) (i : Nat) (o : Oper) (a : Act) (Fs : Nat → Option Fact) (K : Act → (Nat → Option Fact) → Prop) : Prop :=
  (Region.wanted o (yielded ops a.tmps) = false ∧ K (a.put o.dst undef) Fs) ∨
  (Region.wanted o (yielded ops a.tmps) = true ∧
    match sp i with
    | none => ∃ v, (∀ w, G w → (execOp a.eval o).run P w = .ok (.value v) w) ∧ K (a.put o.dst v) Fs
    | some s => (∃ v, s.pv (opArgs a o) v) ∧ (∀ w, G w → Has Fs (dep i) w → RunM P G s (opArgs a o) w ((execOp a.eval o).run P w)) ∧ ∀ v, s.pv (opArgs a o) v → K (a.put o.dst v) (upd Fs i (s.fa (opArgs a o) v)))
theorem opArgs_put {ops : Array Oper} (o : Oper) (a : Act) (dst : Option Tmp) (v : Value) (h : ∀ d, dst = some d → d ∉ o.looksAt ops) : opArgs (a.put dst v) o = opArgs a o := by
  unfold opArgs
  apply List.map_congr_left
  intro x hx
  exact Act.eval_put fun d hd hxd => h d hd (by
    subst hxd
    exact List.mem_append_left _ (List.mem_filterMap.2 ⟨.tmp d, by simpa using hx, rfl⟩))
def detM (P : Program) (md : Region.Mode) (ops : Array Oper) (G : World → Prop) (sp : Nat → Option MSpec) (dep : Nat → List Nat) (Fr : Nat → Bool) (Fin : Array Bool → Act → (Nat → Option Fact) → Prop) : Nat → Array Bool → Act → (Nat → Option Fact) → Prop
  | 0, listed, a, Fs => (∀ j ∈ Region.ready md ops listed, ¬ Fr j = true) ∧ Fin listed a Fs
  | n + 1, listed, a, Fs => (∃ i ∈ Region.ready md ops listed, Fr i = true) ∧ ∀ i ∈ Region.ready md ops listed, Fr i = true → ∃ o, ops[i]? = some o ∧ StepM P ops G sp dep i o a Fs (detM P md ops G sp dep Fr Fin n (listed.setIfInBounds i true))
section
variable {P : Program} {ops : Array Oper} {md : Region.Mode} {G : World → Prop} {sp : Nat → Option MSpec} {dep : Nat → List Nat} {Fr : Nat → Bool} {Fin : Array Bool → Act → (Nat → Option Fact) → Prop} {Q : Exit → Act → World → Prop}
theorem StepM.mono {i : Nat} {o : Oper} {a : Act} {Fs : Nat → Option Fact} {K K' : Act → (Nat → Option Fact) → Prop} (h : StepM P ops G sp dep i o a Fs K) (hk : ∀ a Fs, K a Fs → K' a Fs) : StepM P ops G sp dep i o a Fs K' := by
  rcases h with ⟨hw, h⟩ | ⟨hw, h⟩
  · exact .inl ⟨hw, hk _ _ h⟩
  · refine .inr ⟨hw, ?_⟩
    cases hs : sp i with
    | none => rw [hs] at h; obtain ⟨v, h1, h2⟩ := h; exact ⟨v, h1, hk _ _ h2⟩
    | some s => rw [hs] at h; exact ⟨h.1, h.2.1, fun v hv => hk _ _ (h.2.2 v hv)⟩
/-- Two operations that are apart: what the second does behind the first it does ahead of it, and the first behind it. -/
theorem StepM.swap (hG : ∃ w, G w) {i j : Nat} {oi oj : Oper} (hij : j ≠ i) (hdi : j ∉ dep i) (hdj : i ∉ dep j) (hap : oi.apart ops oj = true) (hsi : ∀ cs b, oi.op ≠ .select cs b) (hsj : ∀ cs b, oj.op ≠ .select cs b)
    {a : Act} {Fs : Nat → Option Fact} {K : Act → (Nat → Option Fact) → Prop} (h : StepM P ops G sp dep i oi a Fs fun a' Fs' => StepM P ops G sp dep j oj a' Fs' K) :
    StepM P ops G sp dep j oj a Fs fun a' Fs' => StepM P ops G sp dep i oi a' Fs' K := by
  obtain ⟨h1, h2, h3⟩ := Oper.apart_spec hap
  have wj : ∀ (a : Act) v, Region.wanted oj (yielded ops (a.put oi.dst v).tmps) = Region.wanted oj (yielded ops a.tmps) := fun a v => wanted_put oj a oi.dst v h1
  have wi : ∀ (a : Act) v, Region.wanted oi (yielded ops (a.put oj.dst v).tmps) = Region.wanted oi (yielded ops a.tmps) := fun a v => wanted_put oi a oj.dst v h3
  have ej : ∀ (a : Act) v, execOp (a.put oi.dst v).eval oj = execOp a.eval oj := fun a v => execOp_put oj hsj a oi.dst v h1
  have ei : ∀ (a : Act) v, execOp (a.put oj.dst v).eval oi = execOp a.eval oi := fun a v => execOp_put oi hsi a oj.dst v h3
  have aj : ∀ (a : Act) v, opArgs (a.put oi.dst v) oj = opArgs a oj := fun a v => opArgs_put oj a oi.dst v h1
  have ai : ∀ (a : Act) v, opArgs (a.put oj.dst v) oi = opArgs a oi := fun a v => opArgs_put oi a oj.dst v h3
  have pc : ∀ (a : Act) v u, (a.put oi.dst v).put oj.dst u = (a.put oj.dst u).put oi.dst v := fun a v u => Act.put_comm a v u h2
  -- the first's outcome, as a choice that hangs on its own operands alone
  rcases h with ⟨hwi, h⟩ | ⟨hwi, h⟩
  · rcases h with ⟨hwj, h⟩ | ⟨hwj, h⟩
    · exact .inl ⟨by rw [← hwj, wj], .inl ⟨by rw [wi, hwi], by rw [← pc]; exact h⟩⟩
    · refine .inr ⟨by rw [← hwj, wj], ?_⟩
      cases hs : sp j with
      | none => rw [hs] at h; obtain ⟨v, h4, h5⟩ := h; rw [ej] at h4; exact ⟨v, h4, .inl ⟨by rw [wi, hwi], by rw [← pc]; exact h5⟩⟩
      | some s => rw [hs] at h; rw [aj, ej] at h; exact ⟨h.1, h.2.1, fun v hv => .inl ⟨by rw [wi, hwi], by rw [← pc]; exact h.2.2 v hv⟩⟩
  · cases hsi' : sp i with
    | none =>
      rw [hsi'] at h
      obtain ⟨v, hv, h⟩ := h
      rcases h with ⟨hwj, h⟩ | ⟨hwj, h⟩
      · exact .inl ⟨by rw [← hwj, wj], .inr ⟨by rw [wi, hwi], by rw [hsi']; exact ⟨v, by rw [ei]; exact hv, by rw [← pc]; exact h⟩⟩⟩
      · refine .inr ⟨by rw [← hwj, wj], ?_⟩
        cases hs : sp j with
        | none =>
          rw [hs] at h; obtain ⟨u, h4, h5⟩ := h; rw [ej] at h4
          exact ⟨u, h4, .inr ⟨by rw [wi, hwi], by rw [hsi']; exact ⟨v, by rw [ei]; exact hv, by rw [← pc]; exact h5⟩⟩⟩
        | some s =>
          rw [hs] at h; rw [aj, ej] at h
          exact ⟨h.1, h.2.1, fun u hu => .inr ⟨by rw [wi, hwi], by rw [hsi']; exact ⟨v, by rw [ei]; exact hv, by rw [← pc]; exact h.2.2 u hu⟩⟩⟩
    | some si =>
      rw [hsi'] at h
      obtain ⟨⟨v0, hv0⟩, hri, h⟩ := h
      obtain ⟨w0, hw0⟩ := hG
      cases hwj : Region.wanted oj (yielded ops a.tmps) with
      | false =>
        refine .inl ⟨hwj, .inr ⟨by rw [wi, hwi], ?_⟩⟩
        rw [hsi']
        refine ⟨⟨v0, by rw [ai]; exact hv0⟩, by rw [ei, ai]; exact hri, fun v hv => ?_⟩
        rw [ai] at hv ⊢
        rcases h v hv with ⟨_, h⟩ | ⟨hwj', _⟩
        · rw [← pc]; exact h
        · rw [wj, hwj] at hwj'; cases hwj'
      | true =>
        refine .inr ⟨hwj, ?_⟩
        cases hs : sp j with
        | none =>
          have hj0 := h v0 hv0
          rcases hj0 with ⟨hwj', _⟩ | ⟨_, hj0⟩
          · rw [wj, hwj] at hwj'; cases hwj'
          · rw [hs] at hj0
            obtain ⟨u, hu, _⟩ := hj0
            rw [ej] at hu
            refine ⟨u, hu, .inr ⟨by rw [wi, hwi], ?_⟩⟩
            rw [hsi']
            refine ⟨⟨v0, by rw [ai]; exact hv0⟩, by rw [ei, ai]; exact hri, fun v hv => ?_⟩
            rw [ai] at hv ⊢
            rcases h v hv with ⟨hwj', _⟩ | ⟨_, h⟩
            · rw [wj, hwj] at hwj'; cases hwj'
            · rw [hs] at h
              obtain ⟨u', hu', h⟩ := h
              rw [ej] at hu'
              have e1 := hu w0 hw0
              rw [hu' w0 hw0] at e1
              simp only [Result.ok.injEq, Next.value.injEq, and_true] at e1
              subst e1
              rw [← pc]; exact h
        | some s =>
          have hj0 := h v0 hv0
          rcases hj0 with ⟨hwj', _⟩ | ⟨_, hj0⟩
          · rw [wj, hwj] at hwj'; cases hwj'
          · rw [hs] at hj0
            rw [ej, aj] at hj0
            refine ⟨hj0.1, fun w hw hH => hj0.2.1 w hw ((Has.iff_upd _ hdj).2 hH), fun u hu => .inr ⟨by rw [wi, hwi], ?_⟩⟩
            rw [hsi']
            refine ⟨⟨v0, by rw [ai]; exact hv0⟩, by rw [ei, ai]; exact fun w hw hH => hri w hw ((Has.iff_upd _ hdi).1 hH), fun v hv => ?_⟩
            rw [ai] at hv ⊢
            rcases h v hv with ⟨hwj', _⟩ | ⟨_, h⟩
            · rw [wj, hwj] at hwj'; cases hwj'
            · rw [hs] at h
              rw [aj] at h
              rw [← pc, upd_comm _ hij]; exact h.2.2 u hu
theorem detM_first (hG : ∃ w, G w) {i : Nat} {oi : Oper} (hi : ops[i]? = some oi) (him : Fr i = true) (hsel : ∀ (j : Nat) (o : Oper) cs b, ops[j]? = some o → o.op ≠ .select cs b) :
    ∀ (n : Nat) (listed : Array Bool) (a : Act) (Fs : Nat → Option Fact),
      (∀ j oj, ops[j]? = some oj → j ≠ i → listed.getD j true = false → (∀ e ∈ oj.after, Region.binds md e = true → e.on ≠ i) → oi.apart ops oj = true ∧ j ∉ dep i ∧ i ∉ dep j) →
      i ∈ Region.ready md ops listed → StepM P ops G sp dep i oi a Fs (detM P md ops G sp dep Fr Fin n (listed.setIfInBounds i true)) → detM P md ops G sp dep Fr Fin (n + 1) listed a Fs := by
  intro n
  induction n with
  | zero =>
    intro listed a Fs _ hr hy
    refine ⟨⟨i, hr, him⟩, fun j hj hjm => ?_⟩
    by_cases hji : j = i
    · subst hji; exact ⟨oi, hi, hy⟩
    · exfalso
      have hno : ∀ j ∈ Region.ready md ops (listed.setIfInBounds i true), ¬ Fr j = true := by
        rcases hy with ⟨_, h⟩ | ⟨_, h⟩
        · exact h.1
        · cases hs : sp i with
          | none => rw [hs] at h; obtain ⟨v, _, h⟩ := h; exact h.1
          | some s =>
            rw [hs] at h
            obtain ⟨⟨v0, hv0⟩, _, h⟩ := h
            exact (h v0 hv0).1
      exact hno j (ready_mono hj hji) hjm
  | succ n ih =>
    intro listed a Fs hfree hr hy
    refine ⟨⟨i, hr, him⟩, fun j hj hjm => ?_⟩
    by_cases hji : j = i
    · subst hji; exact ⟨oi, hi, hy⟩
    · obtain ⟨hjun, oj, hoj, hall⟩ := mem_ready.1 hj
      have hnot : ∀ e ∈ oj.after, Region.binds md e = true → e.on ≠ i := fun e he hb heq => by
        have h1 := hall e he hb
        have h0 := (mem_ready.1 hr).1
        rw [heq] at h1
        rcases Nat.lt_or_ge i listed.size with h' | h'
        · simp [h'] at h0 h1; rw [h0] at h1; cases h1
        · simp [Array.getElem?_eq_none h'] at h1
      have hap := hfree j oj hoj hji hjun hnot
      have hfree' : ∀ k ok, ops[k]? = some ok → k ≠ i → (listed.setIfInBounds j true).getD k true = false →
          (∀ e ∈ ok.after, Region.binds md e = true → e.on ≠ i) → oi.apart ops ok = true ∧ k ∉ dep i ∧ i ∉ dep k := fun k ok hk hki hun hno => by
        refine hfree k ok hk hki ?_ hno
        by_cases hjk : j = k
        · subst hjk; exact hjun
        · rw [getD_set_ne true hjk] at hun; exact hun
      refine ⟨oj, hoj, ?_⟩
      have hsw := StepM.swap hG hji hap.2.1 hap.2.2 hap.1 (fun cs b => hsel i oi cs b hi) (fun cs b => hsel j oj cs b hoj)
        (K := detM P md ops G sp dep Fr Fin n ((listed.setIfInBounds i true).setIfInBounds j true)) (hy.mono fun a' Fs' h => by
          obtain ⟨oj', hoj', h⟩ := h.2 j (ready_mono hj hji) hjm
          obtain rfl := Option.some.inj (hoj'.symm.trans hoj)
          exact h)
      refine hsw.mono fun a' Fs' h => ?_
      rw [Array.setIfInBounds_comm _ _ (fun e => hji e.symm)] at h
      exact ih (listed.setIfInBounds j true) a' Fs' hfree' (ready_mono hr (Ne.symm hji)) h
/-- The facts hold, each of an interval of its own. -/
def Inv (base : Nat) (Fs : Nat → Option Fact) (w : World) : Prop :=
  base ≤ w.heap.size ∧ ∃ I : Nat → Nat × Nat, (∀ i f, Fs i = some f → base ≤ (I i).1 ∧ (I i).1 ≤ (I i).2 ∧ (I i).2 ≤ w.heap.size ∧ f (I i).1 (I i).2 w) ∧
    (∀ i j fi fj, i ≠ j → Fs i = some fi → Fs j = some fj → (I i).2 ≤ (I j).1 ∨ (I j).2 ≤ (I i).1)
/-- What must have come ahead of an operation: its edges, and those of what they lead to, gathered downward. -/
def edgesOf (md : Region.Mode) (ops : Array Oper) (i : Nat) : List Nat := match ops[i]? with | some o => (o.after.toList.filter fun e => Region.binds md e).map (·.on) | none => []
def mark (md : Region.Mode) (ops : Array Oper) : List Nat → List Nat → List Nat
  | [], ms => ms
  | t :: r, ms => if ms.contains t then mark md ops r (edgesOf md ops t ++ ms) else mark md ops r ms
def Closed (md : Region.Mode) (ops : Array Oper) (listed : Array Bool) : Prop := ∀ k, listed.getD k false = true → ∀ x ∈ edgesOf md ops k, listed.getD x false = true
theorem mark_listed {listed : Array Bool} (hc : Closed md ops listed) : ∀ (ts ms : List Nat), (∀ x ∈ ms, listed.getD x false = true) → ∀ x ∈ mark md ops ts ms, listed.getD x false = true
  | [], ms, h, x, hx => h x hx
  | t :: r, ms, h, x, hx => by
    unfold mark at hx
    split at hx
    · rename_i ht
      exact mark_listed hc r _ (fun y hy => by
        rcases List.mem_append.1 hy with hy | hy
        · exact hc t (h t (by simpa using ht)) y hy
        · exact h y hy) x hx
    · exact mark_listed hc r ms h x hx
theorem mem_edgesOf {i x : Nat} {o : Oper} (ho : ops[i]? = some o) : x ∈ edgesOf md ops i ↔ ∃ e ∈ o.after, Region.binds md e = true ∧ e.on = x := by
  unfold edgesOf
  rw [ho]
  simp only [List.mem_map, List.mem_filter, Array.mem_toList_iff]
  constructor
  · rintro ⟨e, ⟨h1, h2⟩, h3⟩; exact ⟨e, h1, h2, h3⟩
  · rintro ⟨e, h1, h2, h3⟩; exact ⟨e, ⟨h1, h2⟩, h3⟩
theorem Closed.set {listed : Array Bool} (hc : Closed md ops listed) {i : Nat} (hi : i ∈ Region.ready md ops listed) : Closed md ops (listed.setIfInBounds i true) := by
  intro k hk x hx
  by_cases e : i = k
  · subst e
    obtain ⟨_, o, ho, hall⟩ := mem_ready.1 hi
    obtain ⟨e, he, hb, rfl⟩ := (mem_edgesOf ho).1 hx
    exact getD_set_true (hall e he hb)
  · rw [getD_set_ne false e] at hk
    exact getD_set_true (hc k hk x hx)
theorem detM_sound (ins : List Nat) (base k : Nat) (hmono : ∀ i s, sp i = some s → ∀ args v, (s.fa args v).Mono) (htail : ∀ i, i < ops.size → ¬ Fr i = true → i ∈ ins ∨ ∀ j, Fr j = true → j ∈ mark md ops (List.range i).reverse (edgesOf md ops i)) :
    ∀ (n : Nat) (listed : Array Bool) (a : Act) (Fs : Nat → Option Fact), (∀ i ∈ ins, listed.getD i false = true) → (∀ i f, Fs i = some f → Fact.Mono f) → (∀ i f, Fs i = some f → listed.getD i false = true) → Closed md ops listed →
      detM P md ops G sp dep Fr (fun listed a Fs => ∀ w, G w → Inv base Fs w → wpAny P md ops Q k listed a w) n listed a Fs → ∀ w, G w → Inv base Fs w → wpAny P md ops Q (n + k) listed a w
  | 0, listed, a, Fs, _, _, _, _, h, w, hGw, hI => by rw [Nat.zero_add]; exact h.2 w hGw hI
  | n + 1, listed, a, Fs, hins, hFm, hFl, hcl, h, w, hGw, hI => by
    obtain ⟨⟨i0, hi0, hi0m⟩, h⟩ := h
    rw [Nat.add_right_comm]
    refine ⟨fun hr => (by rw [hr] at hi0; cases hi0), fun i hi => ?_⟩
    by_cases him : Fr i = true
    · obtain ⟨o, ho, hst⟩ := h i hi him
      have hil : listed.getD i true = false := (mem_ready.1 hi).1
      have hil2 : i < listed.size := by
        rcases Nat.lt_or_ge i listed.size with h' | h'
        · exact h'
        · simp [Array.getElem?_eq_none h'] at hil
      have hFi : Fs i = none := by
        cases hf : Fs i with
        | none => rfl
        | some f =>
          have := hFl i f hf
          simp [hil2] at hil this
          rw [hil] at this; cases this
      have hFl' : ∀ k f, Fs k = some f → (listed.setIfInBounds i true).getD k false = true := fun k f hk => getD_set_true (hFl k f hk)
      unfold Go.wpOp
      simp only [ho]
      rcases hst with ⟨hw, hst⟩ | ⟨hw, hst⟩
      · simp only [hw, Bool.false_eq_true, if_false]
        exact detM_sound ins base k hmono htail n _ _ Fs (fun k hk => getD_set_true (hins k hk)) hFm hFl' (hcl.set hi) hst w hGw hI
      · simp only [hw, if_true]
        refine .inl ?_
        unfold Oper.wp
        cases hs : sp i with
        | none =>
          rw [hs] at hst
          obtain ⟨v, hv, hst⟩ := hst
          rw [hv w hGw]
          exact detM_sound ins base k hmono htail n _ _ Fs (fun k hk => getD_set_true (hins k hk)) hFm hFl' (hcl.set hi) hst w hGw hI
        | some s =>
          rw [hs] at hst
          obtain ⟨_, hrun, hst⟩ := hst
          have hr := hrun w hGw (fun d _ f hf => by obtain ⟨_, I, hI1, _⟩ := hI; exact ⟨_, _, (hI1 d f hf).2.2.2⟩)
          have next : ∀ v w', s.pv (opArgs a o) v → G w' → Below w.heap.size w w' → s.fa (opArgs a o) v w.heap.size w'.heap.size w' →
              wpAny P md ops Q (n + k) (listed.setIfInBounds i true) (a.put o.dst v) w' := by
            intro v w' hpv hG' hB hfa
            refine detM_sound ins base k hmono htail n _ _ _ (fun k hk => getD_set_true (hins k hk)) ?_ ?_ (hcl.set hi) (hst v hpv) w' hG' ?_
            · intro j f hj
              unfold upd at hj
              split at hj
              · obtain rfl := Option.some.inj hj; exact hmono i s hs _ _
              · exact hFm j f hj
            · intro j f hj
              unfold upd at hj
              split at hj
              · rename_i e; subst e; simp [hil2]
              · exact hFl' j f hj
            · obtain ⟨hbase, I, hI1, hI2⟩ := hI
              refine ⟨Nat.le_trans hbase hB.size, fun j => if j = i then (w.heap.size, w'.heap.size) else I j, ?_, ?_⟩
              · intro j f hj
                unfold upd at hj
                split at hj
                · rename_i e; subst e
                  obtain rfl := Option.some.inj hj
                  simp only [if_true]
                  exact ⟨hbase, hB.size, Nat.le_refl _, hfa⟩
                · rename_i e
                  simp only [e, if_false]
                  obtain ⟨q1, q2, q3, q4⟩ := hI1 j f hj
                  exact ⟨q1, q2, Nat.le_trans q3 hB.size, hFm j f hj _ _ _ _ q4 q3 hB⟩
              · intro x y fx fy hxy hx hy
                unfold upd at hx hy
                by_cases ex : x = i
                · by_cases ey : y = i
                  · exact absurd (ex.trans ey.symm) hxy
                  · simp only [ex, ey, if_true, if_false] at hx hy ⊢
                    exact .inr (hI1 y fy hy).2.2.1
                · by_cases ey : y = i
                  · simp only [ex, ey, if_true, if_false] at hx hy ⊢
                    exact .inl (hI1 x fx hx).2.2.1
                  · simp only [ex, ey, if_false] at hx hy ⊢
                    exact hI2 x y fx fy hxy hx hy
          generalize (execOp a.eval o).run P w = r at hr
          cases r with
          | ok nx w1 =>
            cases nx <;> simp only [RunM, Oper.upon] at hr ⊢
            case value v => exact next v w1 hr.1 hr.2.1 hr.2.2.1 hr.2.2.2
            case enter f as =>
              refine Calls.mono hr fun e w2 he => ?_
              obtain ⟨v, rfl, h1, h2, h3, h4⟩ := he
              exact next v w2 h1 h2 h3 h4
          | halt x w1 => simp [RunM] at hr
    · exfalso
      obtain ⟨_, o, ho, hall⟩ := mem_ready.1 hi
      have hil0 := (mem_ready.1 hi).1
      rcases htail i (Array.getElem?_eq_some_iff.1 ho).1 him with hin | hm
      · have := hins i hin
        rcases Nat.lt_or_ge i listed.size with h' | h'
        · simp [h'] at this hil0; rw [this] at hil0; cases hil0
        · simp [Array.getElem?_eq_none h'] at this
      have hm := hm i0 hi0m
      have h1 := mark_listed hcl _ _ (fun x hx => by
        obtain ⟨e, he, hb, rfl⟩ := (mem_edgesOf ho).1 hx
        exact hall e he hb) i0 hm
      have h0 := (mem_ready.1 hi0).1
      rcases Nat.lt_or_ge i0 listed.size with h' | h'
      · simp [h'] at h0 h1; rw [h0] at h1; cases h1
      · simp [Array.getElem?_eq_none h'] at h1
/-- The walk in a given order. -/
def monoList (P : Program) (ops : Array Oper) (G : World → Prop) (sp : Nat → Option MSpec) (dep : Nat → List Nat) (F : Act → (Nat → Option Fact) → Prop) : List Nat → Act → (Nat → Option Fact) → Prop
  | [], a, Fs => F a Fs
  | i :: rest, a, Fs => ∃ o, ops[i]? = some o ∧ StepM P ops G sp dep i o a Fs (monoList P ops G sp dep F rest)
/-- The same, with the operations written out. -/
def monoL (P : Program) (ops : Array Oper) (G : World → Prop) (sp : Nat → Option MSpec) (dep : Nat → List Nat) (F : Act → (Nat → Option Fact) → Prop) : List (Nat × Oper) → Act → (Nat → Option Fact) → Prop
  | [], a, Fs => F a Fs
  | (i, o) :: rest, a, Fs => StepM P ops G sp dep i o a Fs (monoL P ops G sp dep F rest)
theorem monoL_list {F : Act → (Nat → Option Fact) → Prop} : ∀ (l : List (Nat × Oper)), (∀ p ∈ l, ops[p.1]? = some p.2) → ∀ a Fs, monoL P ops G sp dep F l a Fs → monoList P ops G sp dep F (l.map (·.1)) a Fs
  | [], _, _, _, h => h
  | (i, o) :: rest, hl, a, Fs, h => ⟨o, hl (i, o) (by simp), StepM.mono h fun a' Fs' => monoL_list rest (fun p hp => hl p (by simp [hp])) a' Fs'⟩
/-- What is asked of the text: the first m operations may come in the text's order, and behind them the rest can come in that order alone. -/
def depFree (md : Region.Mode) (ops : Array Oper) (dep : Nat → List Nat) (listed : Array Bool) (i : Nat) : Bool :=
  (List.range ops.size).all fun j => j == i || listed.getD j true || (edgesOf md ops j).contains i || (!(dep i).contains j && !(dep j).contains i)
theorem depFree_spec {md : Region.Mode} {ops : Array Oper} {dep : Nat → List Nat} {listed : Array Bool} {i : Nat} (h : depFree md ops dep listed i = true) {j : Nat} {oj : Oper} (hj : ops[j]? = some oj) (hji : j ≠ i) (hl : listed.getD j true = false)
    (he : ∀ e ∈ oj.after, Region.binds md e = true → e.on ≠ i) : j ∉ dep i ∧ i ∉ dep j := by
  have h := List.all_eq_true.1 h j (List.mem_range.2 (Array.getElem?_eq_some_iff.1 hj).1)
  simp only [Bool.or_eq_true, beq_iff_eq, hl, List.contains_iff_mem, Bool.and_eq_true, Bool.not_eq_true'] at h
  rcases h with ((h | h) | h) | h
  · exact absurd h hji
  · cases h
  · obtain ⟨e, h1, h2, h3⟩ := (mem_edgesOf hj).1 h
    exact absurd h3 (he e h1 h2)
  · exact ⟨by simpa using h.1, by simpa using h.2⟩
def frontOk (md : Region.Mode) (ops : Array Oper) (dep : Nat → List Nat) : List Nat → Array Bool → Bool
  | [], _ => true
  | i :: r, listed => Region.free md ops listed i && depFree md ops dep listed i && (Region.ready md ops listed).contains i && frontOk md ops dep r (listed.setIfInBounds i true)
def setAll : List Nat → Array Bool → Array Bool
  | [], listed => listed
  | i :: r, listed => setAll r (listed.setIfInBounds i true)
theorem detM_list (hG : ∃ w, G w) (hsel : Region.noSelect ops = true) (F : Act → (Nat → Option Fact) → Prop) : ∀ (l : List Nat) (listed : Array Bool) (a : Act) (Fs : Nat → Option Fact), (∀ i ∈ l, Fr i = true) →
    (∀ j ∈ Region.ready md ops (setAll l listed), ¬ Fr j = true) →
    frontOk md ops dep l listed = true → monoList P ops G sp dep F l a Fs →
      detM P md ops G sp dep Fr (fun li a Fs => li = setAll l listed ∧ F a Fs) l.length listed a Fs
  | [], listed, a, Fs, _, hno, _, h => ⟨by simpa [setAll] using hno, by simp [setAll], h⟩
  | i :: l, listed, a, Fs, hl, hno, ho, h => by
    simp only [frontOk, Bool.and_eq_true] at ho
    obtain ⟨⟨⟨hf, hdf⟩, hr⟩, ho⟩ := ho
    simp only [setAll] at hno ⊢
    obtain ⟨o, h0, hst⟩ := h
    refine detM_first hG h0 (hl i (by simp)) (Region.noSelect_spec hsel) l.length listed a Fs (fun j oj hj hji hl he => ⟨Region.free_spec h0 hf j oj hj hji hl he, depFree_spec hdf hj hji hl he⟩) (by simpa using hr) ?_
    refine StepM.mono hst fun a' Fs' h' => ?_
    exact detM_list hG hsel F l _ a' Fs' (fun k hk => hl k (by simp [hk])) hno ho h'
def tailOrder (md : Region.Mode) (ops : Array Oper) : List Nat → Array Bool → Bool
  | [], listed => Region.ready md ops listed == []
  | i :: r, listed => Region.ready md ops listed == [i] && tailOrder md ops r (listed.setIfInBounds i true)
theorem wpAny_tail : ∀ (tl : List Nat) (l : List Oper) (listed : Array Bool) (a : Act) (w : World), tl.map (fun i => ops[i]?) = l.map some → tailOrder md ops tl listed = true → wpList P ops Q l a w → wpAny P md ops Q tl.length listed a w
  | [], [], listed, a, w, _, ht, h => by
    simp only [tailOrder, beq_iff_eq] at ht
    exact ⟨ht, h⟩
  | [], _ :: _, _, _, _, hl, _, _ => by simp at hl
  | _ :: _, [], _, _, _, hl, _, _ => by simp at hl
  | i :: tl, o :: l, listed, a, w, hl, ht, h => by
    simp only [List.map_cons, List.cons.injEq] at hl
    obtain ⟨h0, hl⟩ := hl
    simp only [tailOrder, Bool.and_eq_true, beq_iff_eq] at ht
    refine ⟨fun hr => (by rw [ht.1] at hr; cases hr), fun j hj => ?_⟩
    rw [ht.1] at hj
    simp only [List.mem_singleton] at hj
    subst hj
    have ih := fun a w => wpAny_tail tl l (listed.setIfInBounds j true) a w hl ht.2
    unfold Go.wpOp
    simp only [h0]
    unfold wpList at h
    split
    · rename_i hw
      rw [if_pos hw] at h
      exact h.imp (Oper.wp_mono fun a w => ih a w) id
    · rename_i hw
      rw [if_neg hw] at h
      exact ih _ _ h
end
/-- The operations of these numbers. -/
def pick (l : List Oper) : List Nat → List Oper
  | [] => []
  | i :: r => l.getD i default :: pick l r
/-- All that is asked of a region's own text: the operations ahead of its stores, in an order that may be picked; the rest, in the one order in which it can come. -/
def monoOk (dep : Nat → List Nat) (ord tl : List Nat) (l : List Oper) : Bool :=
  Region.noSelect l.toArray && decide (ord.length + tl.length = l.length) && tl.all (fun i => decide (i < l.length)) && ord.all (fun i => decide (i < l.length)) && frontOk .any l.toArray dep ord (Array.replicate l.length false) &&
  (Region.ready .any l.toArray (setAll ord (Array.replicate l.length false))).all (fun j => !ord.contains j) &&
  tailOrder .any l.toArray tl (setAll ord (Array.replicate l.length false)) &&
  (List.range l.length).all fun i => ord.contains i || ord.all fun j => (mark .any l.toArray (List.range i).reverse (edgesOf .any l.toArray i)).contains j
theorem pick_spec (l : List Oper) : ∀ tl : List Nat, (∀ i ∈ tl, i < l.length) → tl.map (fun i => l.toArray[i]?) = (pick l tl).map some
  | [], _ => rfl
  | i :: tl, h => by
    have hi := h i (by simp)
    simp only [List.map_cons, pick, pick_spec l tl (fun k hk => h k (by simp [hk])), List.cons.injEq, and_true]
    simp [List.getD_eq_getElem?_getD, List.getElem?_eq_getElem hi]
theorem zip_pick (l : List Oper) : ∀ ord : List Nat, (∀ i ∈ ord, i < l.length) → (ord.zip (pick l ord)).map (·.1) = ord ∧ ∀ p ∈ ord.zip (pick l ord), l.toArray[p.1]? = some p.2
  | [], _ => ⟨rfl, by simp⟩
  | i :: ord, h => by
    obtain ⟨h1, h2⟩ := zip_pick l ord fun k hk => h k (by simp [hk])
    have hi := h i (by simp)
    simp only [pick, List.zip_cons_cons, List.map_cons, h1, true_and]
    intro p hp
    rcases List.mem_cons.1 hp with rfl | hp
    · simp [List.getD_eq_getElem?_getD, List.getElem?_eq_getElem hi]
    · exact h2 p hp
theorem wp_region_mono {P : Program} {id : Nat} {l : List Oper} {Q : Exit → Act → World → Prop} {a : Act} {w : World} (ord tl : List Nat) (G : World → Prop) (sp : Nat → Option MSpec) (dep : Nat → List Nat) (hm : P.follows .mixedOrders = true)
    (hok : monoOk dep ord tl l = true) (hG : G w.drew) (hmono : ∀ i s, sp i = some s → ∀ args v, (s.fa args v).Mono)
    (h : monoL P l.toArray G sp dep (fun a Fs => ∀ w', G w' → Inv w.heap.size Fs w' → wpList P l.toArray Q (pick l tl) a w') (ord.zip (pick l ord)) a (fun _ => none)) : (Code.region id l.toArray true).wp P Q a w := by
  simp only [monoOk, Bool.and_eq_true, decide_eq_true_eq, List.all_eq_true, Bool.or_eq_true, List.mem_range, List.contains_iff_mem, Bool.not_eq_true'] at hok
  obtain ⟨⟨⟨⟨⟨⟨⟨hsel, hlen⟩, htl⟩, hord⟩, hfront⟩, hready⟩, htail⟩, hedge⟩ := hok
  have hzip := zip_pick l ord hord
  have h := monoL_list _ hzip.2 _ _ h
  rw [hzip.1] at h
  have hd := detM_list (md := .any) (P := P) (G := G) (sp := sp) (dep := dep) (Fr := fun j => ord.contains j) (ops := l.toArray) ⟨_, hG⟩ hsel _ ord (Array.replicate l.length false) a (fun _ => none)
    (fun i hi => by simpa using hi) (fun j hj hc => by have := hready j hj; rw [hc] at this; cases this) hfront h
  have hfin : ∀ (n : Nat) (listed : Array Bool) (a : Act) (Fs : Nat → Option Fact), detM P .any l.toArray G sp dep (fun j => ord.contains j) (fun li a Fs => li = setAll ord (Array.replicate l.length false) ∧ ∀ w', G w' → Inv w.heap.size Fs w' → wpList P l.toArray Q (pick l tl) a w') n listed a Fs →
      detM P .any l.toArray G sp dep (fun j => ord.contains j) (fun li a Fs => ∀ w', G w' → Inv w.heap.size Fs w' → wpAny P .any l.toArray Q tl.length li a w') n listed a Fs := by
    intro n
    induction n with
    | zero =>
      intro listed a Fs h
      refine ⟨h.1, fun w' hG' hI => ?_⟩
      obtain ⟨_, rfl, h2⟩ := h
      exact wpAny_tail (P := P) (md := .any) (Q := Q) (ops := l.toArray) tl (pick l tl) _ a w' (pick_spec l tl htl) htail (h2 w' hG' hI)
    | succ n ih =>
      intro listed a Fs h
      exact ⟨h.1, fun i hi him => by obtain ⟨o, ho, hs⟩ := h.2 i hi him; exact ⟨o, ho, hs.mono fun a' Fs' h' => ih _ a' Fs' h'⟩⟩
  have hs := detM_sound (P := P) (Q := Q) (md := .any) [] w.heap.size tl.length hmono (fun i hi hmi => .inr fun j hj => by
    rcases hedge i (by simpa using hi) with h1 | h1
    · exact absurd (by simpa using h1) hmi
    · exact h1 j (by simpa using hj)) ord.length (Array.replicate l.length false) a (fun _ => none) (fun _ h => by cases h) (fun _ _ h => by cases h) (fun _ _ h => by cases h)
    (fun k hk => by simp [Array.getElem?_replicate] at hk; split at hk <;> simp at hk) (hfin _ _ _ _ hd) w.drew hG
    ⟨Nat.le_refl _, fun _ => (0, 0), ⟨(fun _ _ h => by cases h), (fun _ _ _ _ _ h => by cases h)⟩⟩
  refine wp_region_any hm ?_
  have e : ord.length + tl.length = l.toArray.size := by simpa using hlen
  rw [e] at hs
  simpa using hs
/-! The steps. -/
section
variable {P : Program} {ops : Array Oper} {G : World → Prop} {sp : Nat → Option MSpec} {dep : Nat → List Nat} {F : Act → (Nat → Option Fact) → Prop} {o : Oper} {rest : List (Nat × Oper)} {a : Act} {i : Nat} {Fs : Nat → Option Fact}
theorem mono_nil (h : F a Fs) : monoL P ops G sp dep F [] a Fs := h
theorem mono_skip (hw : Region.wanted o (yielded ops a.tmps) = false) (k : monoL P ops G sp dep F rest (a.put o.dst undef) Fs) : monoL P ops G sp dep F ((i, o) :: rest) a Fs := .inl ⟨hw, k⟩
theorem mono_pure {v : Value} (hw : Region.wanted o (yielded ops a.tmps) = true) (hs : sp i = none) (h : ∀ w, G w → (execOp a.eval o).run P w = .ok (.value v) w)
    (k : monoL P ops G sp dep F rest (a.put o.dst v) Fs) : monoL P ops G sp dep F ((i, o) :: rest) a Fs := .inr ⟨hw, by rw [hs]; exact ⟨v, h, k⟩⟩
theorem mono_call {f : FuncId} {args : Array Value} (s : MSpec) (hw : Region.wanted o (yielded ops a.tmps) = true) (hs : sp i = some s) (h : ∀ w, G w → (execOp a.eval o).run P w = .ok (.enter f args) w)
    (he : ∃ v, s.pv (opArgs a o) v) (hc : ∀ w, G w → Has Fs (dep i) w → Calls P f args w fun e w' => ∃ v, e = .returned v ∧ s.pv (opArgs a o) v ∧ G w' ∧ Below w.heap.size w w' ∧ s.fa (opArgs a o) v w.heap.size w'.heap.size w')
    (k : ∀ v, s.pv (opArgs a o) v → monoL P ops G sp dep F rest (a.put o.dst v) (upd Fs i (s.fa (opArgs a o) v))) : monoL P ops G sp dep F ((i, o) :: rest) a Fs :=
  .inr ⟨hw, by rw [hs]; exact ⟨he, fun w hG hH => by rw [h w hG]; exact hc w hG hH, k⟩⟩
theorem mono_make (s : MSpec) (hw : Region.wanted o (yielded ops a.tmps) = true) (hs : sp i = some s)
    (he : ∃ v, s.pv (opArgs a o) v) (h : ∀ w, G w → Has Fs (dep i) w → ∃ v w', (execOp a.eval o).run P w = .ok (.value v) w' ∧ s.pv (opArgs a o) v ∧ G w' ∧ Below w.heap.size w w' ∧ s.fa (opArgs a o) v w.heap.size w'.heap.size w')
    (k : ∀ v, s.pv (opArgs a o) v → monoL P ops G sp dep F rest (a.put o.dst v) (upd Fs i (s.fa (opArgs a o) v))) : monoL P ops G sp dep F ((i, o) :: rest) a Fs :=
  .inr ⟨hw, by rw [hs]; exact ⟨he, fun w hG hH => by obtain ⟨v, w', hr, h1⟩ := h w hG hH; rw [hr]; exact h1, k⟩⟩
end
/-! The common kinds. -/
def fNew (cs : Array Value) (t : TypeId) (v : Value) : Fact := fun lo hi w => ∃ g, v = .pointer (some ⟨g, 0, none⟩) ∧ lo ≤ g ∧ g < hi ∧ Blk w g cs t
def fSlice (n : Nat) (cs : Array Value) (t : TypeId) (v : Value) : Fact := fun lo hi w => ∃ g, v = .slice (some ⟨g, 0, none⟩) n n ∧ lo ≤ g ∧ g < hi ∧ Blk w g cs t
def fTrue : Fact := fun _ _ _ => True
/-- A new block of these cells. -/
def sNew (cs : Array Value) (t : TypeId) : MSpec := ⟨fun _ v => ∃ g, v = .pointer (some ⟨g, 0, none⟩), fun _ v => fNew cs t v⟩
/-- One value, whatever was made for it. -/
def sFix (v0 : Value) : MSpec := ⟨fun _ v => v = v0, fun _ _ => fTrue⟩
/-- A value of a known shape, with a fact. -/
def sRel (shape : Value → Prop) (f : Value → Fact) : MSpec := ⟨fun _ v => shape v, fun _ v => f v⟩
/-- A new slice of n elements over a new block of these cells. -/
def sSlice (n : Nat) (cs : Array Value) (t : TypeId) : MSpec := ⟨fun _ v => ∃ g, v = .slice (some ⟨g, 0, none⟩) n n, fun _ v => fSlice n cs t v⟩
theorem sSlice_mono (n : Nat) (cs : Array Value) (t : TypeId) (args : List Value) (v : Value) : ((sSlice n cs t).fa args v).Mono := by
  intro lo hi w w' h hs hB
  obtain ⟨g, h1, h2, h3, h4⟩ := h
  exact ⟨g, h1, h2, h3, h4.below hB (by omega)⟩
theorem sNew_mono (cs : Array Value) (t : TypeId) (args : List Value) (v : Value) : ((sNew cs t).fa args v).Mono := by
  intro lo hi w w' h hs hB
  obtain ⟨g, h1, h2, h3, h4⟩ := h
  exact ⟨g, h1, h2, h3, h4.below hB (by omega)⟩
theorem sFix_mono (v0 : Value) (args : List Value) (v : Value) : ((sFix v0).fa args v).Mono := fun _ _ _ _ _ _ _ => trivial
section
variable {P : Program} {ops : Array Oper} {G : World → Prop} {sp : Nat → Option MSpec} {dep : Nat → List Nat} {F : Act → (Nat → Option Fact) → Prop} {o : Oper} {rest : List (Nat × Oper)} {a : Act} {i : Nat} {Fs : Nat → Option Fact}
theorem mono_alloc (cs : Array Value) (e : TypeId) (hw : Region.wanted o (yielded ops a.tmps) = true) (hs : sp i = some (sNew cs e)) (hGm : ∀ W W', G W → Below W.heap.size W W' → G W')
    (h : ∀ w, (execOp a.eval o).run P w = .ok (.value (.pointer (some ⟨w.heap.size, 0, none⟩))) (w.alloc (.cells cs e)))
    (k : ∀ g, monoL P ops G sp dep F rest (a.put o.dst (.pointer (some ⟨g, 0, none⟩))) (upd Fs i (fNew cs e (.pointer (some ⟨g, 0, none⟩))))) : monoL P ops G sp dep F ((i, o) :: rest) a Fs :=
  mono_make (sNew cs e) hw hs ⟨_, 0, rfl⟩ (fun w hG _ => ⟨_, _, h w, ⟨_, rfl⟩, hGm _ _ hG ((Below.refl _ _).alloc (Nat.le_refl _) _), (Below.refl _ _).alloc (Nat.le_refl _) _, ⟨_, rfl, Nat.le_refl _, by simp, Blk.new _ _ _⟩⟩)
    (fun v hv => by obtain ⟨g, rfl⟩ := hv; exact k g)
theorem mono_slice (n : Nat) (cs : Array Value) (e : TypeId) (hw : Region.wanted o (yielded ops a.tmps) = true) (hs : sp i = some (sSlice n cs e)) (hGm : ∀ W W', G W → Below W.heap.size W W' → G W')
    (h : ∀ w, (execOp a.eval o).run P w = .ok (.value (.slice (some ⟨w.heap.size, 0, none⟩) n n)) (w.alloc (.cells cs e)))
    (k : ∀ g, monoL P ops G sp dep F rest (a.put o.dst (.slice (some ⟨g, 0, none⟩) n n)) (upd Fs i (fSlice n cs e (.slice (some ⟨g, 0, none⟩) n n)))) : monoL P ops G sp dep F ((i, o) :: rest) a Fs :=
  mono_make (sSlice n cs e) hw hs ⟨_, 0, rfl⟩ (fun w hG _ => ⟨_, _, h w, ⟨_, rfl⟩, hGm _ _ hG ((Below.refl _ _).alloc (Nat.le_refl _) _), (Below.refl _ _).alloc (Nat.le_refl _) _, ⟨_, rfl, Nat.le_refl _, by simp, Blk.new _ _ _⟩⟩)
    (fun v hv => by obtain ⟨g, rfl⟩ := hv; exact k g)
theorem mono_fix {f : FuncId} {args : Array Value} (v0 : Value) (hw : Region.wanted o (yielded ops a.tmps) = true) (hs : sp i = some (sFix v0)) (hGm : ∀ W W', G W → Below W.heap.size W W' → G W')
    (h : ∀ w, G w → (execOp a.eval o).run P w = .ok (.enter f args) w) (hc : ∀ w, G w → Has Fs (dep i) w → Calls P f args w fun e w' => e = .returned v0 ∧ Below w.heap.size w w')
    (k : monoL P ops G sp dep F rest (a.put o.dst v0) (upd Fs i fTrue)) : monoL P ops G sp dep F ((i, o) :: rest) a Fs :=
  mono_call (sFix v0) hw hs h ⟨v0, rfl⟩ (fun w hG hH => (hc w hG hH).mono fun e w' hh => ⟨v0, hh.1, rfl, hGm _ _ hG hh.2, hh.2, trivial⟩) (fun v hv => by obtain rfl : v = v0 := hv; exact k)
theorem mono_rel {f : FuncId} {args : Array Value} (shape : Value → Prop) (fc : Value → Fact) (hw : Region.wanted o (yielded ops a.tmps) = true) (hs : sp i = some (sRel shape fc)) (hGm : ∀ W W', G W → Below W.heap.size W W' → G W')
    (h : ∀ w, G w → (execOp a.eval o).run P w = .ok (.enter f args) w) (he : ∃ v, shape v) (hc : ∀ w, G w → Has Fs (dep i) w → Calls P f args w fun e w' => ∃ v, e = .returned v ∧ shape v ∧ Below w.heap.size w w' ∧ fc v w.heap.size w'.heap.size w')
    (k : ∀ v, shape v → monoL P ops G sp dep F rest (a.put o.dst v) (upd Fs i (fc v))) : monoL P ops G sp dep F ((i, o) :: rest) a Fs :=
  mono_call (sRel shape fc) hw hs h he (fun w hG hH => (hc w hG hH).mono fun e w' hh => by obtain ⟨v, h1, h2, h3, h4⟩ := hh; exact ⟨v, h1, h2, hGm _ _ hG h3, h3, h4⟩) (fun v hv => k v hv)
end
end Go.Proofs.Ytgmhhocpdfdplaa
