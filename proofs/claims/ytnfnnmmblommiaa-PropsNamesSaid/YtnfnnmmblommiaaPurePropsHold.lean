/- The plain law of PropsHold: the named sets' letters, capital and small ones, digits. -/
import Derived.Test.YtnfnnmmblommiaaHPSet
import Derived.Test.YtnfnnmmblommiaaHNames
import Derived.Test.YtnfnnmmblommiaaPAx13
namespace Go.Proofs.Ytnfnnmmblommiaa.PA
open Go.RowKit Go.Proofs.YtnfnnmmblommiaaW.PrintWords Go.Proofs.YtnfnnmmblommiaaW.PrintLast Go.Proofs.YtnfnnmmblommiaaW.PrintMore
set_option linter.unusedVariables false
set_option linter.unusedSimpArgs false

theorem set_eq (s : ByteArray) (l : List Rg) (h : (if namedL s.data.toList = [] then (([] : List Rg), (50 : Int)) else (norm (namedL s.data.toList), 0)) = (l, 0)) : props_Set.f s = some (l, 0) := by
  unfold props_Set.f; rw [toList_data, h]
theorem set_none (s : ByteArray) (h : namedL s.data.toList = []) : props_Set.f s = some ([], 50) := by
  unfold props_Set.f; rw [toList_data, if_pos h]
def digitL : List Rg := [⟨48, 57⟩, ⟨1632, 1641⟩]
def letterL : List Rg := norm (norm (upperL ++ lowerL) ++ moreL)
theorem set_digit : props_Set.f ⟨#[68, 105, 103, 105, 116]⟩ = some (digitL, 0) := set_eq _ _ (by decide +kernel)
theorem set_upper : props_Set.f ⟨#[85, 112, 112, 101, 114]⟩ = some (upperL, 0) := set_eq _ _ (by decide +kernel)
theorem set_lower : props_Set.f ⟨#[76, 111, 119, 101, 114]⟩ = some (lowerL, 0) := set_eq _ _ (by decide +kernel)
theorem set_letter : props_Set.f ⟨#[76, 101, 116, 116, 101, 114]⟩ = some (letterL, 0) := set_eq _ _ (by decide +kernel)
theorem set_any : props_Set.f ⟨#[65, 110, 121]⟩ = some ([⟨0, 1114111⟩], 0) := set_eq _ _ (by decide +kernel)
theorem known_eq : hornbooklaw5_known.f = some true := by
  unfold hornbooklaw5_known.f
  rw [set_digit, set_none ⟨#[100, 105, 103, 105, 116]⟩ (by decide +kernel)]
  decide +kernel
end Go.Proofs.Ytnfnnmmblommiaa.PA
namespace Go.Proofs.Ytnfnnmmblommiaa.Pure
open Go.RowKit Go.Proofs.Ytnfnnmmblommiaa.PA Go.Proofs.YtnfnnmmblommiaaW.PrintLast Go.Proofs.YtnfnnmmblommiaaW.PrintMore
set_option linter.unusedVariables false
set_option linter.unusedSimpArgs false
theorem PropsHold : hornbooklaw5_PropsHold.Pure := by
  intro a0 w0
  refine Evt.get (r := true) ?_
  unfold hornbooklaw5_PropsHold.f
  have e1 : interS upperL lowerL = [] := by decide +kernel
  have e2 : interS letterL digitL = [] := by decide +kernel
  have e3 : norm (interS letterL upperL) = norm upperL := by decide +kernel
  have e4 : norm (interS letterL lowerL) = norm lowerL := by decide +kernel
  have e5 : isG none letterL = true := by decide +kernel
  have l1 : letterL.length < 100 := by decide +kernel
  have l2 : upperL.length = 3 := rfl
  have l3 : lowerL.length = 3 := rfl
  have l4 : digitL.length = 2 := rfl
  have e6 : uniset_Has.f [(⟨0, 1114111⟩ : Rg)] a0 = some (decide (0 ≤ a0) && decide (a0 ≤ 1114111)) := by
    show some (hasL [(⟨0, 1114111⟩ : Rg)] a0) = _
    rw [hasL_cons, hasL_nil, good_iff.2 ⟨by decide, by decide, by decide⟩]; simp
  have m1 := interS_length letterL upperL
  have m2 := interS_length letterL lowerL
  simp only [known_eq, set_upper, set_lower, set_letter, set_any, set_digit, Option.bind_some, if_true]
  generalize letterL = L at *
  generalize upperL = U at *
  generalize lowerL = V at *
  generalize digitL = D at *
  refine (Inter_ev U V (by omega)).bind ?_
  rw [e1]
  simp only [List.length_nil, Int.natCast_zero, if_true]
  refine (Inter_ev L U (by omega)).bind ?_
  refine ((Same_ev (interS L U) U (by omega) (by omega)).cast (decide_eq_true e3)).bind ?_
  simp only [if_true]
  refine (Inter_ev L V (by omega)).bind ?_
  refine ((Same_ev (interS L V) V (by omega) (by omega)).cast (decide_eq_true e4)).bind ?_
  simp only [if_true]
  refine (Inter_ev L D (by omega)).bind ?_
  rw [e2]
  simp only [List.length_nil, Int.natCast_zero, if_true, e6, Option.bind_some]
  have fin : Evt (fun k => (uniset_Is.f k L).bind fun t => some t) true := by
    refine ((Is_ev L (by omega)).cast e5).bind ?_
    exact Evt.pure _
  by_cases h : a0 ≥ 0
  · simp only [if_pos h, decide_eq_true (show 0 ≤ a0 from h), Bool.true_and, beq_self_eq_true, if_true]
    exact fin
  · simp only [if_neg h, decide_eq_false (show ¬ 0 ≤ a0 from h), Bool.false_and, Bool.false_eq_true, if_false]
    exact fin
end Go.Proofs.Ytnfnnmmblommiaa.Pure
