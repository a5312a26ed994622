/- 'wp_region_mono' where some of the front's operations (they yield one value in every world: 'late') may come behind the tail's first ones. Over any program. -/
import Derived.Test.YtgmhhocpdfdplaaGA
namespace Go.Proofs.Ytgmhhocpdfdplaa
open Go.RowKit
/-- Yields alike in every world. -/
def Inert (P : Program) (o : Oper) : Prop := ∀ (ρ : Operand → Value) (v : Value) (w : World), (execOp ρ o).run P w = .ok (.value v) w → ∀ w', (execOp ρ o).run P w' = .ok (.value v) w'
theorem inert_extract {P : Program} {o : Oper} {x : Operand} {i : Nat} (h : o.op = .extract x i) : Inert P o := by
  intro ρ v w hv w'
  unfold execOp at hv ⊢
  simp only [h, Instr.extract] at hv ⊢
  cases hx : ρ x <;> rw [hx] at hv <;> simp_all
  split at hv <;> simp_all
def inertB (o : Oper) : Bool := match o.op with | .extract _ _ => o.guard == none | _ => false
theorem inertB_spec {P : Program} {o : Oper} (h : inertB o = true) : Inert P o ∧ o.guard = none := by
  unfold inertB at h
  split at h
  · rename_i x i ho
    exact ⟨inert_extract ho, by simpa using h⟩
  · cases h
section
variable {P : Program} {ops : Array Oper} {md : Region.Mode} {G : World → Prop} {sp : Nat → Option MSpec} {dep : Nat → List Nat} {Fr : Nat → Bool} {Q : Exit → Act → World → Prop}
/-- Whatever may come up beside j is apart from it. -/
def lateFree (md : Region.Mode) (ops : Array Oper) (j : Nat) : Bool :=
  match ops[j]? with
  | none => false
  | some o => (List.range ops.size).all fun k => k == j || (edgesOf md ops k).contains j || (mark md ops (List.range j).reverse (edgesOf md ops j)).contains k || (match ops[k]? with | some ok => o.apart ops ok | none => true)
theorem detM_soundL (late : Nat → Bool) (hsel : Region.noSelect ops = true) (base k : Nat) (hmono : ∀ i s, sp i = some s → ∀ args v, (s.fa args v).Mono)
    (hlate : ∀ j, late j = true → Fr j = true ∧ sp j = none ∧ lateFree md ops j = true ∧ ∀ o, ops[j]? = some o → Inert P o ∧ o.guard = none)
    (htail : ∀ i, i < ops.size → ¬ Fr i = true → ∀ j, Fr j = true → j ∈ mark md ops (List.range i).reverse (edgesOf md ops i) ∨ late j = true) :
    ∀ (n : Nat) (listed : Array Bool) (a : Act) (Fs : Nat → Option Fact), (∀ i f, Fs i = some f → Fact.Mono f) → (∀ i f, Fs i = some f → listed.getD i false = true) → Closed md ops listed →
      detM P md ops G sp dep Fr (fun listed a Fs => ∀ w, G w → Inv base Fs w → wpAny P md ops (onlyN Q) k listed a w) n listed a Fs → ∀ w, G w → Inv base Fs w → wpAny P md ops (onlyN Q) (n + k) listed a w
  | 0, listed, a, Fs, _, _, _, h, w, hGw, hI => by rw [Nat.zero_add]; exact h.2 w hGw hI
  | n + 1, listed, a, Fs, hFm, hFl, hcl, h, w, hGw, hI => by
    obtain ⟨⟨i0, hi0, hi0m⟩, h⟩ := h
    rw [Nat.add_right_comm]
    by_cases hex : ∃ j ∈ Region.ready md ops listed, late j = true
    · obtain ⟨j, hj, hjl⟩ := hex
      obtain ⟨hjF, hjs, hjfree, hjin⟩ := hlate j hjl
      obtain ⟨o, ho, hst⟩ := h j hj hjF
      obtain ⟨hin, hg⟩ := hjin o ho
      rcases hst with ⟨hw, _⟩ | ⟨hw, hst⟩
      · simp [Region.wanted, hg] at hw
      · rw [hjs] at hst
        obtain ⟨v, hv, hst⟩ := hst
        refine wpAny_inert hsel ho hg (n + k) listed a w (hin _ _ _ (hv w hGw)) hj ?_ ?_
        · intro i oi hoi hij hun hno
          unfold lateFree at hjfree
          simp only [ho, List.all_eq_true, List.mem_range, Bool.or_eq_true, beq_iff_eq, List.contains_iff_mem] at hjfree
          have h1 := hjfree i (Array.getElem?_eq_some_iff.1 hoi).1
          simp only [hoi] at h1
          rcases h1 with ((h1 | h1) | h1) | h1
          · exact absurd h1 hij
          · obtain ⟨e, h2, h3, h4⟩ := (mem_edgesOf hoi).1 h1
            exact absurd h4 (hno e h2 h3)
          · obtain ⟨_, oj, hoj, hall⟩ := mem_ready.1 hj
            have h2 := mark_listed hcl _ _ (fun x hx => by
              obtain ⟨e, he, hb, rfl⟩ := (mem_edgesOf hoj).1 hx
              exact hall e he hb) i h1
            rcases Nat.lt_or_ge i listed.size with h' | h'
            · simp [h'] at hun h2; rw [hun] at h2; cases h2
            · simp [Array.getElem?_eq_none h'] at h2
          · exact h1
        · exact detM_soundL late hsel base k hmono hlate htail n _ _ Fs hFm (fun k f hk => getD_set_true (hFl k f hk)) (hcl.set hj) hst w hGw hI
    · refine ⟨fun hr => (by rw [hr] at hi0; cases hi0), fun i hi => ?_⟩
      by_cases him : Fr i = true
      · obtain ⟨o, ho, hst⟩ := h i hi him
        have hil : listed.getD i true = false := (mem_ready.1 hi).1
        have hil2 : i < listed.size := by
          rcases Nat.lt_or_ge i listed.size with h' | h'
          · exact h'
          · simp [Array.getElem?_eq_none h'] at hil
        have hFi : Fs i = none := by
          cases hf : Fs i with
          | none => rfl
          | some f =>
            have := hFl i f hf
            simp [hil2] at hil this
            rw [hil] at this; cases this
        have hFl' : ∀ k f, Fs k = some f → (listed.setIfInBounds i true).getD k false = true := fun k f hk => getD_set_true (hFl k f hk)
        unfold Go.wpOp
        simp only [ho]
        rcases hst with ⟨hw, hst⟩ | ⟨hw, hst⟩
        · simp only [hw, Bool.false_eq_true, if_false]
          exact detM_soundL late hsel base k hmono hlate htail n _ _ Fs hFm hFl' (hcl.set hi) hst w hGw hI
        · simp only [hw, if_true]
          refine .inl ?_
          unfold Oper.wp
          cases hs : sp i with
          | none =>
            rw [hs] at hst
            obtain ⟨v, hv, hst⟩ := hst
            rw [hv w hGw]
            exact detM_soundL late hsel base k hmono hlate htail n _ _ Fs hFm hFl' (hcl.set hi) hst w hGw hI
          | some s =>
            rw [hs] at hst
            obtain ⟨_, hrun, hst⟩ := hst
            have hr := hrun w hGw (fun d _ f hf => by obtain ⟨_, I, hI1, _⟩ := hI; exact ⟨_, _, (hI1 d f hf).2.2.2⟩)
            have next : ∀ v w', s.pv (opArgs a o) v → G w' → Below w.heap.size w w' → s.fa (opArgs a o) v w.heap.size w'.heap.size w' →
                wpAny P md ops (onlyN Q) (n + k) (listed.setIfInBounds i true) (a.put o.dst v) w' := by
              intro v w' hpv hG' hB hfa
              refine detM_soundL late hsel base k hmono hlate htail n _ _ _ ?_ ?_ (hcl.set hi) (hst v hpv) w' hG' ?_
              · intro j f hj
                unfold upd at hj
                split at hj
                · obtain rfl := Option.some.inj hj; exact hmono i s hs _ _
                · exact hFm j f hj
              · intro j f hj
                unfold upd at hj
                split at hj
                · rename_i e; subst e; simp [hil2]
                · exact hFl' j f hj
              · obtain ⟨hbase, I, hI1, hI2⟩ := hI
                refine ⟨Nat.le_trans hbase hB.size, fun j => if j = i then (w.heap.size, w'.heap.size) else I j, ?_, ?_⟩
                · intro j f hj
                  unfold upd at hj
                  split at hj
                  · rename_i e; subst e
                    obtain rfl := Option.some.inj hj
                    simp only [if_true]
                    exact ⟨hbase, hB.size, Nat.le_refl _, hfa⟩
                  · rename_i e
                    simp only [e, if_false]
                    obtain ⟨q1, q2, q3, q4⟩ := hI1 j f hj
                    exact ⟨q1, q2, Nat.le_trans q3 hB.size, hFm j f hj _ _ _ _ q4 q3 hB⟩
                · intro x y fx fy hxy hx hy
                  unfold upd at hx hy
                  by_cases ex : x = i
                  · by_cases ey : y = i
                    · exact absurd (ex.trans ey.symm) hxy
                    · simp only [ex, ey, if_true, if_false] at hx hy ⊢
                      exact .inr (hI1 y fy hy).2.2.1
                  · by_cases ey : y = i
                    · simp only [ex, ey, if_true, if_false] at hx hy ⊢
                      exact .inl (hI1 x fx hx).2.2.1
                    · simp only [ex, ey, if_false] at hx hy ⊢
                      exact hI2 x y fx fy hxy hx hy
            generalize (execOp a.eval o).run P w = r at hr
            cases r with
            | ok nx w1 =>
              cases nx <;> simp only [RunM, Oper.upon] at hr ⊢
              case value v => exact next v w1 hr.1 hr.2.1 hr.2.2.1 hr.2.2.2
              case enter f as =>
                refine Calls.mono hr fun e w2 he => ?_
                obtain ⟨v, rfl, h1, h2, h3, h4⟩ := he
                exact next v w2 h1 h2 h3 h4
            | halt x w1 => simp [RunM] at hr
      · exfalso
        obtain ⟨_, o, ho, hall⟩ := mem_ready.1 hi
        rcases htail i (Array.getElem?_eq_some_iff.1 ho).1 him i0 hi0m with hm | hm
        · have h1 := mark_listed hcl _ _ (fun x hx => by
            obtain ⟨e, he, hb, rfl⟩ := (mem_edgesOf ho).1 hx
            exact hall e he hb) i0 hm
          have h0 := (mem_ready.1 hi0).1
          rcases Nat.lt_or_ge i0 listed.size with h' | h'
          · simp [h'] at h0 h1; rw [h0] at h1; cases h1
          · simp [Array.getElem?_eq_none h'] at h1
        · exact hex ⟨i0, hi0, hm⟩
end
def monoOkL (dep : Nat → List Nat) (late ord tl : List Nat) (l : List Oper) : Bool :=
  Region.noSelect l.toArray && decide (ord.length + tl.length = l.length) && tl.all (fun i => decide (i < l.length)) && ord.all (fun i => decide (i < l.length)) && frontOk .any l.toArray dep ord (Array.replicate l.length false) &&
  (Region.ready .any l.toArray (setAll ord (Array.replicate l.length false))).all (fun j => !ord.contains j) &&
  tailOrder .any l.toArray tl (setAll ord (Array.replicate l.length false)) &&
  (late.all fun j => ord.contains j && lateFree .any l.toArray j && inertB (l.getD j default)) &&
  (List.range l.length).all fun i => ord.contains i || ord.all fun j => (mark .any l.toArray (List.range i).reverse (edgesOf .any l.toArray i)).contains j || late.contains j
theorem wp_region_late {P : Program} {id : Nat} {l : List Oper} {Q : Exit → Act → World → Prop} {a : Act} {w : World} (late ord tl : List Nat) (G : World → Prop) (sp : Nat → Option MSpec) (dep : Nat → List Nat) (hm : P.follows .mixedOrders = true)
    (hok : monoOkL dep late ord tl l = true) (hsp : ∀ j ∈ late, sp j = none) (hG : G w.drew) (hmono : ∀ i s, sp i = some s → ∀ args v, (s.fa args v).Mono)
    (h : monoL P l.toArray G sp dep (fun a Fs => ∀ w', G w' → Inv w.heap.size Fs w' → wpList P l.toArray (onlyN Q) (pick l tl) a w') (ord.zip (pick l ord)) a (fun _ => none)) : (Code.region id l.toArray true).wp P Q a w := by
  simp only [monoOkL, Bool.and_eq_true, decide_eq_true_eq, List.all_eq_true, Bool.or_eq_true, List.mem_range, List.contains_iff_mem, Bool.not_eq_true'] at hok
  obtain ⟨⟨⟨⟨⟨⟨⟨⟨hsel, hlen⟩, htl⟩, hord⟩, hfront⟩, hready⟩, htail⟩, hlt⟩, hedge⟩ := hok
  have hzip := zip_pick l ord hord
  have h := monoL_list _ hzip.2 _ _ h
  rw [hzip.1] at h
  have hd := detM_list (md := .any) (P := P) (G := G) (sp := sp) (dep := dep) (Fr := fun j => ord.contains j) (ops := l.toArray) ⟨_, hG⟩ hsel _ ord (Array.replicate l.length false) a (fun _ => none)
    (fun i hi => by simpa using hi) (fun j hj hc => by have := hready j hj; rw [hc] at this; cases this) hfront h
  have hfin : ∀ (n : Nat) (listed : Array Bool) (a : Act) (Fs : Nat → Option Fact), detM P .any l.toArray G sp dep (fun j => ord.contains j) (fun li a Fs => li = setAll ord (Array.replicate l.length false) ∧ ∀ w', G w' → Inv w.heap.size Fs w' → wpList P l.toArray (onlyN Q) (pick l tl) a w') n listed a Fs →
      detM P .any l.toArray G sp dep (fun j => ord.contains j) (fun li a Fs => ∀ w', G w' → Inv w.heap.size Fs w' → wpAny P .any l.toArray (onlyN Q) tl.length li a w') n listed a Fs := by
    intro n
    induction n with
    | zero =>
      intro listed a Fs h
      refine ⟨h.1, fun w' hG' hI => ?_⟩
      obtain ⟨_, rfl, h2⟩ := h
      exact wpAny_tail (P := P) (md := .any) (Q := onlyN Q) (ops := l.toArray) tl (pick l tl) _ a w' (pick_spec l tl htl) htail (h2 w' hG' hI)
    | succ n ih =>
      intro listed a Fs h
      exact ⟨h.1, fun i hi him => by obtain ⟨o, ho, hs⟩ := h.2 i hi him; exact ⟨o, ho, hs.mono fun a' Fs' h' => ih _ a' Fs' h'⟩⟩
  have hs := detM_soundL (P := P) (Q := Q) (md := .any) (fun j => late.contains j) hsel w.heap.size tl.length hmono (fun j hj => by
      have hj : j ∈ late := by simpa using hj
      obtain ⟨⟨h1, h2⟩, h3⟩ := hlt j hj
      refine ⟨by simpa using h1, hsp j hj, h2, fun o ho => ?_⟩
      have e : l.getD j default = o := by
        rw [List.getElem?_toArray] at ho
        rw [List.getD_eq_getElem?_getD, ho]; rfl
      rw [e] at h3
      exact inertB_spec h3) (fun i hi hmi j hj => by
    rcases hedge i (by simpa using hi) with h1 | h1
    · exact absurd (by simpa using h1) hmi
    · rcases h1 j (by simpa using hj) with h2 | h2
      · exact .inl h2
      · exact .inr (by simpa using h2)) ord.length (Array.replicate l.length false) a (fun _ => none) (fun _ _ h => by cases h) (fun _ _ h => by cases h)
    (fun k hk => by simp [Array.getElem?_replicate] at hk; split at hk <;> simp at hk) (hfin _ _ _ _ hd) w.drew hG
    ⟨Nat.le_refl _, fun _ => (0, 0), ⟨(fun _ _ h => by cases h), (fun _ _ _ _ _ h => by cases h)⟩⟩
  refine wp_region_any hm ?_
  have e : ord.length + tl.length = l.toArray.size := by simpa using hlen
  rw [e] at hs
  simpa using wpAny_onlyN _ _ _ _ hs
end Go.Proofs.Ytgmhhocpdfdplaa
