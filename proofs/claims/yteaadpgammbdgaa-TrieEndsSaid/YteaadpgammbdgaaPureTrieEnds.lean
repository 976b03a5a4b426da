/- TrieEnds: the walk by hand, in the form that the row asks for. -/
import Derived.Test.YteaadpgammbdgaaTrieEnds
namespace Go.Proofs.Yteaadpgammbdgaa.PA
open Go.RowKit Go.Proofs.YteaadpgammbdgaaW.PrintWords Go.Proofs.YteaadpgammbdgaaW.PrintLast Go.Proofs.YteaadpgammbdgaaW.PrintMore
set_option linter.unusedVariables false
set_option linter.unusedSimpArgs false

/-- What is left to say of plain lists: nothing; the walk says all. -/
def hornbooklaw16_TrieEnds.Pure : Prop := True
theorem hornbooklaw16_TrieEnds.walk (P : hornbooklaw16_TrieEnds.Pure) (a0 : Option Addr) (len0 cap0 : Nat) (z0 : List Int) (a1 : Int) (w : World)
    (w0 : (a0 = none ∧ len0 = 0 ∧ cap0 = 0 ∧ z0 = []) ∨ ∃ x, a0 = some x ∧ len0 ≤ cap0 ∧ cap0 ≤ maxLen ∧ z0.length = cap0 ∧ (∀ i, i < z0.length → w.cell? (x.add i) = some (.int .i32 (z0.getD i 0))) ∧ ∀ n ∈ z0, (Lit.int .i32 n).wf = true) (y0 : len0 * 4 ≤ 140737488351232) (w1 : (Lit.int .u32 a1).wf = true) :
    Calls Try.prog 3 #[.slice a0 len0 cap0, .int .u32 a1] w fun e w' => e = .returned (.bool true) ∧ Below w.heap.size w w' := by
  obtain ⟨l0, rfl, hr0, hm0, hw0, hc0⟩ := ReadsInt.ofRowC w0
  have hr := Kd.C_of_reads (d := (0 : Int)) (h1 := fun _ => rfl) hr0
  by_cases hl : 0 < l0.length ∧ l0.length ≤ 20
  · exact tends_calls a0 cap0 l0 a1 w hr hc0 hw0 w1 hl.1 hl.2
  · exact tends_other a0 cap0 l0.length a1 w (by omega)
end Go.Proofs.Yteaadpgammbdgaa.PA
namespace Go.Proofs.Yteaadpgammbdgaa.Pure
theorem TrieEnds : PA.hornbooklaw16_TrieEnds.Pure := trivial
end Go.Proofs.Yteaadpgammbdgaa.Pure
