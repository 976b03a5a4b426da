/- The plain law of SetTells: of every two lists of ranges uniset tells what the reference tells. -/
import Derived.Test.YteaadpgammbdgaaKnown
import Derived.Test.YteaadpgammbdgaaOpen
import Derived.Test.YteaadpgammbdgaaSetRef
import Derived.Test.YteaadpgammbdgaaPAx17
namespace Go.Proofs.Yteaadpgammbdgaa.Pure
open Go.RowKit Go.Proofs.Yteaadpgammbdgaa.PA Go.Proofs.YteaadpgammbdgaaW.PrintLast Go.Proofs.YteaadpgammbdgaaW.PrintMore
set_option linter.unusedVariables false
set_option linter.unusedSimpArgs false

theorem refsame_ev (a : List Rg) (h : a.length < 4611686018427387904) : Evt (fun k => hornbookref3_Same.f k a a) true := (RefSame_ev a a h).cast (decide_eq_true rfl)
theorem tells_j1 (a b : List Rg) (r : Int) (ha : a.length ≤ 60) (hb : b.length ≤ 60) : Evt (fun k => hornbooklaw3_SetTells.j1 k a b r false) true := by
  refine Evt.succ (fun k => hornbooklaw3_SetTells.j1.eq_2 _ _ _ _ _) ?_
  simp only [Bool.false_eq_true, if_false]
  have n1 := union_length a b; have n2 := interS_length a b; have n3 := minusS_length a b; have n4 := notS_length a; have n5 := norm_length a
  refine (Is_ev a (by omega)).bind ?_
  refine (RefIs_ev a (by omega)).bind ?_
  simp only [beq_self_eq_true, if_true]
  refine (Evt.of fun _ => Union_eq (a := a) (b := b) (by omega)).bind ?_
  refine (RefUnion_ev a b (by omega)).bind ?_
  refine (refsame_ev (norm (a ++ b)) (by omega)).bind ?_
  simp only [if_true]
  refine (Inter_ev a b (by omega)).bind ?_
  refine (RefInter_ev a b (by omega)).bind ?_
  refine (refsame_ev (interS a b) (by omega)).bind ?_
  simp only [if_true]
  refine (Minus_ev a b (by omega)).bind ?_
  refine (RefMinus_ev a b (by omega)).bind ?_
  refine (refsame_ev (minusS a b) (by omega)).bind ?_
  simp only [if_true]
  refine (Not_ev a (by omega)).bind ?_
  refine (RefNot_ev a (by omega)).bind ?_
  refine (refsame_ev (notS a) (by omega)).bind ?_
  simp only [if_true]
  refine (Evt.of fun _ => show uniset_Has.f a r = some (hasL a r) from rfl).bind ?_
  refine (RefHas_ev a r (by omega)).bind ?_
  simp only [beq_self_eq_true, if_true]
  refine (Count_ev a (by omega)).bind ?_
  refine (RefCount_ev a (by omega)).bind ?_
  simp only [if_true]
  refine (Same_ev a b (by omega) (by omega)).bind ?_
  refine (Of_ev a (by omega)).bind ?_
  refine (Of_ev b (by omega)).bind ?_
  refine (RefSame_ev (norm a) (norm b) (by omega)).bind ?_
  simp only [beq_self_eq_true]
  exact Evt.pure _
theorem tells_j0 (a b : List Rg) (r : Int) (ha : a.length ≤ 60) (hb : b.length ≤ 60) : Evt (fun k => hornbooklaw3_SetTells.j0 k a b r false) true := by
  have n5 := norm_length a
  have key := tells_j1 a b r ha hb
  refine Evt.succ (fun k => hornbooklaw3_SetTells.j0.eq_2 _ _ _ _ _) ?_
  simp only [Bool.false_eq_true, if_false, List.length_nil, Nat.zero_add, List.nil_append, if_pos (show a.length < 17592186044416 by omega)]
  have hall : a.all good = !(a.any fun x => !good x) := by rw [List.any_eq_not_all_not]; simp
  have hN : uniset_Norm.f a = some (if a.all good = true then (norm a, 0) else ([], 30)) := by
    unfold uniset_Norm.f
    rw [hall]
    cases a.any fun x => !good x
    · simp only [Bool.false_eq_true, if_false, Bool.not_false, if_true, if_pos (show a.length < 1099511627776 by omega), if_neg (show ¬ (norm a).length > 200 by omega)]
    · simp
  refine (Evt.of fun _ => hN).bind ?_
  refine (RefNorm_ev a (by omega)).bind ?_
  refine (Evt.of fun _ => Least_eq a (by omega)).bind ?_
  refine (Of_ev a (by omega)).bind ?_
  have fin : ∀ (e : Int) (g : Bool), Evt (fun k => if ((norm a).length : Int) > 0 then (if (leastS a).2 = true then (if 0 < ((norm a).length : Int) then (if (leastS a).1 = ((rd_T37 (norm a) 0).f0) then (hornbooklaw3_SetTells.j1 k a b r false) else (hornbooklaw3_SetTells.j1 k a b r true)) else (none)) else (hornbooklaw3_SetTells.j1 k a b r true)) else (if (leastS a).2 = true then (hornbooklaw3_SetTells.j1 k a b r true) else (hornbooklaw3_SetTells.j1 k a b r ((leastS a).1 != 0)))) true := by
    intro _ _
    cases hn : norm a with
    | nil =>
      have hl : leastS a = (0, false) := by unfold leastS; rw [hn]
      simp only [hl, List.length_nil, if_neg (show ¬ (((0 : Nat) : Int) > 0) by omega), Bool.false_eq_true, if_false, bne_self_eq_false]
      exact key
    | cons x xs =>
      have hl : leastS a = (x.f0, true) := by unfold leastS; rw [hn]
      have hp : ((x :: xs).length : Int) > 0 := by simp only [List.length_cons]; omega
      have hr : x.f0 = (rd_T37 (x :: xs) 0).f0 := rfl
      simp only [hl, if_pos hp, if_true, if_pos (show 0 < ((x :: xs).length : Int) from hp), if_pos hr]
      exact key
  by_cases hg : a.all good = true
  · simp only [if_pos hg, if_neg (show ¬ (norm a).length > 200 by omega), if_true]
    refine (refsame_ev (norm a) (by omega)).bind ?_
    simp only [if_true]
    exact fin 0 true
  · simp only [if_neg hg, Bool.false_eq_true, if_false, show ¬ ((30 : Int) = 0) by decide, if_true]
    refine (refsame_ev [] (by simp)).bind ?_
    simp only [if_true]
    exact fin 0 true
theorem SetTells (a b : List Rg) (r : Int) (ha : ∀ x ∈ a, wfRg x) (hb : ∀ x ∈ b, wfRg x) (hr : (Lit.int .i32 r).wf = true) : ∃ k, hornbooklaw3_SetTells.f k a b r = some true := by
  refine Evt.get (r := true) ?_
  have key : Evt (fun k => hornbooklaw3_SetTells.j0 k a b r true) true := by
    refine Evt.succ (fun k => hornbooklaw3_SetTells.j0.eq_2 _ _ _ _ _) ?_
    simp only [if_true]
    exact Evt.pure _
  unfold hornbooklaw3_SetTells.f
  refine known_ev.bind ?_
  simp only [if_true]
  by_cases h1 : (a.length : Int) > 60
  · simp only [if_pos h1]; exact key
  · by_cases h2 : (b.length : Int) > 60
    · simp only [if_neg h1, decide_eq_true h2]; exact key
    · simp only [if_neg h1, decide_eq_false h2]
      exact tells_j0 a b r (by omega) (by omega)
end Go.Proofs.Yteaadpgammbdgaa.Pure
