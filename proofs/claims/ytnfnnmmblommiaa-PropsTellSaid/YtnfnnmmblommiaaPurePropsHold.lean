/- The plain law of PropsHold: the named sets' letters, capital and small ones, digits. -/
import Derived.Test.YtnfnnmmblommiaaHPSet
import Derived.Test.YtnfnnmmblommiaaHNames
import Derived.Test.YtnfnnmmblommiaaPAx7
namespace Go.Proofs.Ytnfnnmmblommiaa.PA
open Go.RowKit Go.Proofs.YtnfnnmmblommiaaW.PrintWords Go.Proofs.YtnfnnmmblommiaaW.PrintLast Go.Proofs.YtnfnnmmblommiaaW.PrintMore
set_option linter.unusedVariables false
set_option linter.unusedSimpArgs false

theorem set_eq (s : ByteArray) (l : List Rg) (h : (if namedL s.data.toList = [] then (([] : List Rg), (50 : Int)) else (norm (namedL s.data.toList), 0)) = (l, 0)) : props_Set.f s = some (l, 0) := by
  unfold props_Set.f; rw [toList_data, h]
theorem set_none (s : ByteArray) (h : namedL s.data.toList = []) : props_Set.f s = some ([], 50) := by
  unfold props_Set.f; rw [toList_data, if_pos h]
def digitL : List Rg := [⟨48, 57⟩, ⟨1632, 1641⟩]
def letterL : List Rg := norm (norm (upperL ++ lowerL) ++ moreL)
theorem set_digit : props_Set.f ⟨#[68, 105, 103, 105, 116]⟩ = some (digitL, 0) := set_eq _ _ (by decide +kernel)
theorem set_upper : props_Set.f ⟨#[85, 112, 112, 101, 114]⟩ = some (upperL, 0) := set_eq _ _ (by decide +kernel)
theorem set_lower : props_Set.f ⟨#[76, 111, 119, 101, 114]⟩ = some (lowerL, 0) := set_eq _ _ (by decide +kernel)
theorem set_letter : props_Set.f ⟨#[76, 101, 116, 116, 101, 114]⟩ = some (letterL, 0) := set_eq _ _ (by decide +kernel)
theorem set_any : props_Set.f ⟨#[65, 110, 121]⟩ = some ([⟨0, 1114111⟩], 0) := set_eq _ _ (by decide +kernel)
theorem known_eq : hornbooklaw5_known.f = some true := by
  unfold hornbooklaw5_known.f
  rw [set_digit, set_none ⟨#[100, 105, 103, 105, 116]⟩ (by decide +kernel)]
  decide +kernel
end Go.Proofs.Ytnfnnmmblommiaa.PA
