/- The plain law of PropsNames: each name that a code point is told to have has it, and each that has it is told. -/
import Derived.Test.YtnfnnmmblommiaaPurePropsHold
import Derived.Test.YtnfnnmmblommiaaHPOf
namespace Go.Proofs.Ytnfnnmmblommiaa.Pure
open Go.RowKit Go.Proofs.Ytnfnnmmblommiaa.PA Go.Proofs.YtnfnnmmblommiaaW.PrintWords Go.Proofs.YtnfnnmmblommiaaW.PrintLast Go.Proofs.YtnfnnmmblommiaaW.PrintMore
set_option linter.unusedVariables false
set_option linter.unusedSimpArgs false

def nm (i : Nat) : ByteArray := namesL.getD i ⟨#[]⟩
theorem nm_named : ∀ i, i < 11 → namedL (nm i).data.toList ≠ [] ∧ norm (namedL (nm i).data.toList) ≠ [] := by decide +kernel
theorem nm_less : ∀ i, i < 10 → Op.bytesLess (nm i).data.toList (nm (i + 1)).data.toList = true := by decide +kernel
theorem rd_nm (i : Nat) (h : i < 11) : rdOf ByteArray.empty namesL (i : Int) = nm i := by
  unfold rdOf nm
  rw [Int.toNat_natCast]
  have hl : i < namesL.length := h
  simp [List.getD_eq_getElem?_getD, hl]
theorem take_nm (i : Nat) (h : i < 11) : namesL = namesL.take i ++ nm i :: namesL.drop (i + 1) := by
  have hl : i < namesL.length := h
  have e : nm i = namesL[i] := by unfold nm; simp [List.getD_eq_getElem?_getD, hl]
  rw [e, ← List.drop_eq_getElem_cons hl, List.take_append_drop]
theorem take_succ_nm (i : Nat) (h : i < 11) : namesL.take (i + 1) = namesL.take i ++ [nm i] := by
  have hl : i < namesL.length := h
  have e : nm i = namesL[i] := by unfold nm; simp [List.getD_eq_getElem?_getD, hl]
  rw [e, List.take_succ_eq_append_getElem hl]
end Go.Proofs.Ytnfnnmmblommiaa.Pure
