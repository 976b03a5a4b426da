/- The plain law of SetPoints: what is told of one code point by the union, by what both have, by what one alone has, by the complement. -/
import Derived.Test.YteaadpgammbdgaaKnown
import Derived.Test.YteaadpgammbdgaaOpen
import Derived.Test.YteaadpgammbdgaaPAx12
namespace Go.Proofs.Yteaadpgammbdgaa.Pure
open Go.RowKit Go.Proofs.Yteaadpgammbdgaa.PA Go.Proofs.YteaadpgammbdgaaW.PrintLast Go.Proofs.YteaadpgammbdgaaW.PrintMore
set_option linter.unusedVariables false
set_option linter.unusedSimpArgs false

theorem Has_eq (l : List Rg) (r : Int) : uniset_Has.f l r = some (hasL l r) := rfl
theorem points_j1 (a b : List Rg) (r : Int) (ha : a.length ≤ 60) (hb : b.length ≤ 60) : Evt (fun k => hornbooklaw3_SetPoints.j1 k a b r (hasL a r) (hasL b r) (decide (0 ≤ r ∧ r ≤ 1114111))) true := by
  refine Evt.succ (fun k => hornbooklaw3_SetPoints.j1.eq_2 _ _ _ _ _ _ _) ?_
  refine (Evt.of fun _ => Union_eq (a := a) (b := b) (by omega)).bind ?_
  simp only [Has_eq, Option.bind_some, norm_has, hasL_append]
  have hin := @hasL_range a r
  have hI := interS_has a b r
  have hM := minusS_has a b r
  have hN := notS_has a r
  by_cases h1 : hasL a r = true
  · have hr := hin h1
    rw [h1] at hI hM hN ⊢
    simp only [Bool.true_and, Bool.not_true, Bool.and_false] at hI hM hN
    simp only [Bool.true_or, if_true]
    refine (Inter_ev a b (by omega)).bind ?_
    simp only [hI, beq_self_eq_true, if_true]
    refine (Minus_ev a b (by omega)).bind ?_
    simp only [hM, beq_self_eq_true, if_true]
    refine (Not_ev a (by omega)).bind ?_
    rw [decide_eq_true hr]
    simp only [hN, Bool.not_true, beq_self_eq_true, if_true]
    exact Evt.pure _
  · have h1' : hasL a r = false := by simpa using h1
    rw [h1'] at hI hM hN ⊢
    simp only [Bool.false_and, Bool.not_false, Bool.and_true] at hI hM hN
    simp only [Bool.false_or, Bool.false_eq_true, if_false, beq_self_eq_true, if_true]
    refine (Inter_ev a b (by omega)).bind ?_
    simp only [hI, Bool.false_eq_true, if_false]
    refine (Minus_ev a b (by omega)).bind ?_
    simp only [hM, Bool.false_eq_true, if_false]
    refine (Not_ev a (by omega)).bind ?_
    by_cases hr : 0 ≤ r ∧ r ≤ 1114111
    · have : (decide (0 ≤ r) && decide (r ≤ 1114111)) = true := by simp [hr]
      rw [decide_eq_true hr]
      simp only [hN, this, Bool.not_false, beq_self_eq_true, if_true]
      exact Evt.pure _
    · have : (decide (0 ≤ r) && decide (r ≤ 1114111)) = false := by simpa using hr
      rw [decide_eq_false hr]
      simp only [hN, this, Bool.not_false, Bool.false_eq_true, if_false]
      exact Evt.pure _
theorem SetPoints (a b : List Rg) (r : Int) (ha : ∀ x ∈ a, wfRg x) (hb : ∀ x ∈ b, wfRg x) (hr : (Lit.int .i32 r).wf = true) : ∃ k, hornbooklaw3_SetPoints.f k a b r = some true := by
  refine Evt.get (r := true) ?_
  unfold hornbooklaw3_SetPoints.f
  refine known_ev.bind ?_
  simp only [if_true]
  by_cases h1 : (a.length : Int) > 40
  · simp only [if_pos h1]
    refine Evt.succ (fun k => hornbooklaw3_SetPoints.j0.eq_2 _ _ _ _ _) ?_
    simp only [if_true]
    exact Evt.pure _
  · by_cases h2 : (b.length : Int) > 40
    · simp only [if_neg h1, decide_eq_true h2]
      refine Evt.succ (fun k => hornbooklaw3_SetPoints.j0.eq_2 _ _ _ _ _) ?_
      simp only [if_true]
      exact Evt.pure _
    · simp only [if_neg h1, decide_eq_false h2]
      refine Evt.succ (fun k => hornbooklaw3_SetPoints.j0.eq_2 _ _ _ _ _) ?_
      have key := points_j1 a b r (by omega) (by omega)
      simp only [Bool.false_eq_true, if_false, Has_eq, Option.bind_some]
      by_cases h3 : r ≥ 0
      · simp only [if_pos h3]
        rw [show decide (0 ≤ r ∧ r ≤ 1114111) = decide (r ≤ 1114111) by simp [show 0 ≤ r from h3]] at key
        exact key
      · simp only [if_neg h3]
        rw [show decide (0 ≤ r ∧ r ≤ 1114111) = false by rw [decide_eq_false_iff_not]; omega] at key
        exact key
end Go.Proofs.Yteaadpgammbdgaa.Pure
