/- hornbooklaw3.known tells true. -/
import Derived.Test.YteaadpgammbdgaaSetEv
import Derived.Test.YteaadpgammbdgaaPAx11
namespace Go.Proofs.Yteaadpgammbdgaa.PA
open Go.RowKit Go.Proofs.YteaadpgammbdgaaW.PrintWords Go.Proofs.YteaadpgammbdgaaW.PrintLast Go.Proofs.YteaadpgammbdgaaW.PrintMore
set_option linter.unusedVariables false
set_option linter.unusedSimpArgs false

theorem norm_cons_good {x : Rg} {xs : List Rg} (h : good x = true) : norm (x :: xs) = ins x (norm xs) := by
  rw [norm, h]; simp
theorem norm_cons_bad {x : Rg} {xs : List Rg} (h : good x = false) : norm (x :: xs) = norm xs := by
  rw [norm, h]; simp
theorem known_ev : Evt (fun k => hornbooklaw3_known.f k) true := by
  have e1 : uniset_Union.f [(⟨1, 3⟩ : Rg)] [(⟨4, 5⟩ : Rg)] = some [⟨1, 5⟩] := by decide
  have e2 : uniset_Norm.f [(⟨3, 2⟩ : Rg)] = some ([], 30) := by decide
  unfold hornbooklaw3_known.f
  have c1 : (([(⟨1, 5⟩ : Rg)] : List Rg).length : Int) = 1 := rfl
  have c2 : 0 < (([(⟨1, 5⟩ : Rg)] : List Rg).length : Int) := by decide
  have c3 : (((rd_T37 [(⟨1, 5⟩ : Rg)] 0).f0) == 1 && (((rd_T37 [(⟨1, 5⟩ : Rg)] 0).f1) == 5)) = true := rfl
  simp only [e1, e2, Option.bind_some, if_pos c1, if_pos c2, if_pos c3, if_true]
  refine (Not_ev [(⟨1, 5⟩ : Rg)] (by decide)).bind ?_
  refine (Count_ev (notS [(⟨1, 5⟩ : Rg)]) (by decide)).bind ?_
  rw [countS_of (notS_isC _), show sumL (notS [(⟨1, 5⟩ : Rg)]) = 1114107 by decide]
  simp only [if_true]
  have h4 : uniset_Has.f [(⟨1, 5⟩ : Rg)] 4 = some true := by decide
  have h6 : uniset_Has.f [(⟨1, 5⟩ : Rg)] 6 = some false := by decide
  simp only [h4, h6, Option.bind_some, if_true, Bool.false_eq_true, if_false]
  refine (Is_ev [(⟨1, 5⟩ : Rg)] (by decide)).bind ?_
  rw [show isG none [(⟨1, 5⟩ : Rg)] = true by decide]
  simp only [if_true]
  refine (Is_ev [(⟨1, 2⟩ : Rg), ⟨3, 4⟩] (by decide)).bind ?_
  rw [show isG none [(⟨1, 2⟩ : Rg), ⟨3, 4⟩] = false by decide]
  exact Evt.pure _
end Go.Proofs.Yteaadpgammbdgaa.PA
