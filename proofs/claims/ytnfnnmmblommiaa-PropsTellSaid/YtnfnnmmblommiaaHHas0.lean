/- uniset.right, in its own words. -/
import Derived.Test.YtnfnnmmblommiaaPAx2
import Derived.Test.YtnfnnmmblommiaaMath
import Derived.Test.YtnfnnmmblommiaaMem
namespace Go.Proofs.Ytnfnnmmblommiaa.PA
open Go.RowKit Go.Proofs.YtnfnnmmblommiaaW.PrintWords Go.Proofs.YtnfnnmmblommiaaW.PrintLast Go.Proofs.YtnfnnmmblommiaaW.PrintMore
set_option linter.unusedVariables false
set_option linter.unusedSimpArgs false

theorem right_good (a b : Int) : uniset_right.f a b = some (good ⟨a, b⟩) := by
  unfold uniset_right.f good
  by_cases h1 : a ≥ 0
  · by_cases h2 : a ≤ b
    · have h1' : 0 ≤ a := h1
      simp [h1', h2]
    · simp [h2]
  · have h1' : ¬ 0 ≤ a := h1
    simp [h1']
theorem right_calls (x : Rg) (w : World) : Calls Try.prog 43 #[.agg #[.int .i32 x.f0, .int .i32 x.f1]] w fun e w' => e = .returned (.bool (good x)) ∧ Below w.heap.size w w' :=
  uniset_right.calls x.f0 x.f1 (good x) w (right_good x.f0 x.f1)

end Go.Proofs.Ytnfnnmmblommiaa.PA
