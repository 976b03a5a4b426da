/- SetPoint: the walk by hand, in the form that the row asks for. -/
import Derived.Test.YteaadpgammbdgaaHPoint
namespace Go.Proofs.Yteaadpgammbdgaa.PA
open Go.RowKit Go.Proofs.YteaadpgammbdgaaW.PrintWords Go.Proofs.YteaadpgammbdgaaW.PrintLast Go.Proofs.YteaadpgammbdgaaW.PrintMore
set_option linter.unusedVariables false
set_option linter.unusedSimpArgs false

/-- What is left to say of plain lists: nothing; the walk says all. -/
def hornbooklaw3_SetPoint.Pure : Prop := True
theorem hornbooklaw3_SetPoint.walk (P : hornbooklaw3_SetPoint.Pure) (a0 : Option Addr) (len0 cap0 : Nat) (z0 : List Int) (w : World)
    (w0 : (a0 = none ∧ len0 = 0 ∧ cap0 = 0 ∧ z0 = []) ∨ ∃ x, a0 = some x ∧ len0 ≤ cap0 ∧ cap0 ≤ maxLen ∧ z0.length = cap0 ∧ (∀ i, i < z0.length → w.cell? (x.add i) = some (.int .u8 (z0.getD i 0))) ∧ ∀ n ∈ z0, (Lit.int .u8 n).wf = true) (y0 : len0 * 1 ≤ 140737488351232) :
    Calls Try.prog 4 #[.slice a0 len0 cap0] w fun e w' => e = .returned (.bool true) ∧ Below w.heap.size w w' := by
  obtain ⟨l0, rfl, hr0, hm0, hw0, hc0⟩ := ReadsInt.ofRowC w0
  have hr := Kd.C_of_reads (d := (0 : Int)) (h1 := fun _ => rfl) hr0
  have hz : ∀ z ∈ l0, 0 ≤ z ∧ z < 256 := fun z h => by
    have := hw0 z h
    simp [Lit.wf, IntKind.min, IntKind.max, IntKind.signed, IntKind.bits] at this
    omega
  by_cases hl : l0.length ≤ 150
  · exact point_calls a0 cap0 l0 w hr hc0 hz hl
  · exact point_many a0 cap0 l0.length w (by omega)
end Go.Proofs.Yteaadpgammbdgaa.PA
namespace Go.Proofs.Yteaadpgammbdgaa.Pure
theorem SetPoint : PA.hornbooklaw3_SetPoint.Pure := trivial
end Go.Proofs.Yteaadpgammbdgaa.Pure
