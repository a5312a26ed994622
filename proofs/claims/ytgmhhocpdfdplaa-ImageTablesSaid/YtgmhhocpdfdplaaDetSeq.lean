/- A region of one order, each of whose operations (guarded ones too) yields one value in every world that meets S and keeps S: the words of XDet serve. Over any program. -/
import Derived.Test.YtgmhhocpdfdplaaDet
namespace Go.Proofs.Ytgmhhocpdfdplaa
open Go.RowKit
theorem wpList_det {P : Program} {ops : Array Oper} {S : World → Prop} {Q : Exit → Act → World → Prop} : ∀ (l : List Oper) (a : Act) (w : World), S w → detList P ops S (fun a => ∀ w, S w → Q .normal a w) l a → wpList P ops Q l a w
  | [], _, w, hS, h => h w hS
  | o :: rest, a, w, hS, h => by
    obtain ⟨v, hy, hd⟩ := h
    unfold wpList
    rcases hy with ⟨hw, hv⟩ | ⟨hw, rfl⟩
    · simp only [hw, if_true]
      refine .inl ?_
      have hr := hv w hS
      unfold Oper.wp
      generalize (execOp a.eval o).run P w = r at hr
      cases r with
      | ok n w' =>
        cases n <;> simp only [RunYields, Oper.upon] at hr ⊢
        case value u => obtain ⟨rfl, hS'⟩ := hr; exact wpList_det rest _ _ hS' hd
        case skip => obtain ⟨hu, hS'⟩ := hr; rw [hu]; exact wpList_det rest _ _ hS' hd
        case enter f args => exact Calls.mono hr (fun e w'' he => by obtain ⟨rfl, hS'⟩ := he; exact wpList_det rest _ _ hS' hd)
        case row row args => exact Rows.mono hr (fun u w'' he => by obtain ⟨rfl, hS'⟩ := he; exact wpList_det rest _ _ hS' hd)
      | halt x w' => simp [RunYields] at hr
    · simp only [hw, Bool.false_eq_true, if_false]
      exact wpList_det rest _ _ hS hd
theorem wp_region_seq {P : Program} {id : Nat} {l : List Oper} {Q : Exit → Act → World → Prop} {a : Act} {w : World} (S : World → Prop) (hS : S w)
    (h : detList P l.toArray S (fun a => ∀ w, S w → Q .normal a w) l a) : (Code.region id l.toArray false).wp P Q a w := by
  refine wp_region ?_
  have e : List.range l.toArray.size = List.range' 0 l.length := by simp [List.range_eq_range']
  rw [e, wpOps_eq_wpList l 0 (fun j => by simp)]
  exact wpList_det l a w hS h
end Go.Proofs.Ytgmhhocpdfdplaa
