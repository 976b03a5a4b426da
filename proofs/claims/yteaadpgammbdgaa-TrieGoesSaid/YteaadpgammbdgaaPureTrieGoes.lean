/- TrieGoes: the walk by hand, in the form that the row asks for. -/
import Derived.Test.YteaadpgammbdgaaTrieGoes
namespace Go.Proofs.Yteaadpgammbdgaa.PA
open Go.RowKit Go.Proofs.YteaadpgammbdgaaW.PrintWords Go.Proofs.YteaadpgammbdgaaW.PrintLast Go.Proofs.YteaadpgammbdgaaW.PrintMore
set_option linter.unusedVariables false
set_option linter.unusedSimpArgs false

/-- What is left to say of plain lists: nothing; the walk says all. -/
def hornbooklaw16_TrieGoes.Pure : Prop := True
abbrev RowC (w : World) (a0 : Option Addr) (len0 cap0 : Nat) (z0 : List Int) : Prop := (a0 = none ∧ len0 = 0 ∧ cap0 = 0 ∧ z0 = []) ∨ ∃ x, a0 = some x ∧ len0 ≤ cap0 ∧ cap0 ≤ maxLen ∧ z0.length = cap0 ∧ (∀ i, i < z0.length → w.cell? (x.add i) = some (.int .i32 (z0.getD i 0))) ∧ ∀ n ∈ z0, (Lit.int .i32 n).wf = true
theorem hornbooklaw16_TrieGoes.walk (P : hornbooklaw16_TrieGoes.Pure) (a0 : Option Addr) (len0 cap0 : Nat) (z0 : List Int) (a1 : Option Addr) (len1 cap1 : Nat) (z1 : List Int) (a2 : Option Addr) (len2 cap2 : Nat) (z2 : List Int) (w : World)
    (w0 : RowC w a0 len0 cap0 z0) (y0 : len0 * 4 ≤ 140737488351232) (w1 : RowC w a1 len1 cap1 z1) (y1 : len1 * 4 ≤ 140737488351232) (w2 : RowC w a2 len2 cap2 z2) (y2 : len2 * 4 ≤ 140737488351232) :
    Calls Try.prog 11 #[.slice a0 len0 cap0, .slice a1 len1 cap1, .slice a2 len2 cap2] w fun e w' => e = .returned (.bool true) ∧ Below w.heap.size w w' := by
  obtain ⟨l0, rfl, hr0, hm0, hw0, hc0⟩ := ReadsInt.ofRowC w0
  obtain ⟨l1, rfl, hr1, hm1, hw1, hc1⟩ := ReadsInt.ofRowC w1
  obtain ⟨l2, rfl, hr2, hm2, hw2, hc2⟩ := ReadsInt.ofRowC w2
  by_cases hl : 20 < l0.length ∨ 20 < l1.length ∨ 20 < l2.length ∨ l0.length = 0 ∨ l1.length = 0
  · exact goes_other a0 a1 a2 cap0 cap1 cap2 l0.length l1.length l2.length w hl
  · simp only [not_or] at hl
    exact goes_calls a0 a1 a2 cap0 cap1 cap2 l0 l1 l2 w (Kd.C_of_reads (d := (0 : Int)) (h1 := fun _ => rfl) hr0) (Kd.C_of_reads (d := (0 : Int)) (h1 := fun _ => rfl) hr1) (Kd.C_of_reads (d := (0 : Int)) (h1 := fun _ => rfl) hr2) hc0 hc2 hw0 hw1 hw2 (by omega) (by omega) (by omega) (fun e => hl.2.2.2.1 (by rw [e]; rfl)) (fun e => hl.2.2.2.2 (by rw [e]; rfl))
end Go.Proofs.Yteaadpgammbdgaa.PA
namespace Go.Proofs.Yteaadpgammbdgaa.Pure
theorem TrieGoes : PA.hornbooklaw16_TrieGoes.Pure := trivial
end Go.Proofs.Yteaadpgammbdgaa.Pure
