/- The plain law of SetLaws: De Morgan, distribution, the counts of what either and of what both have. -/
import Derived.Test.YteaadpgammbdgaaKnown
import Derived.Test.YteaadpgammbdgaaOpen
import Derived.Test.YteaadpgammbdgaaPAx13
namespace Go.Proofs.Yteaadpgammbdgaa.Pure
open Go.RowKit Go.Proofs.Yteaadpgammbdgaa.PA Go.Proofs.YteaadpgammbdgaaW.PrintLast Go.Proofs.YteaadpgammbdgaaW.PrintMore
set_option linter.unusedVariables false
set_option linter.unusedSimpArgs false

theorem same_ev {a b : List Rg} (h : ∀ r, hasL a r = hasL b r) (ha : a.length < 1000000000) (hb : b.length < 1000000000) : Evt (fun k => uniset_Same.f k a b) true :=
  (Same_ev a b ha hb).cast (decide_eq_true (norm_eq h))
theorem laws_j0 (a b c : List Rg) (ha : a.length ≤ 30) (hb : b.length ≤ 30) (hc : c.length ≤ 30) : Evt (fun k => hornbooklaw3_SetLaws.j0 k a b c false) true := by
  refine Evt.succ (fun k => hornbooklaw3_SetLaws.j0.eq_2 _ _ _ _ _) ?_
  simp only [Bool.false_eq_true, if_false]
  have n1 := union_length a b; have n2 := interS_length a b; have n3 := union_length a []; have n4 := notS_length a; have n5 := notS_length (notS a)
  have n6 := notS_length (norm (a ++ b)); have n7 := notS_length b; have n8 := interS_length (notS a) (notS b); have n9 := union_length b c
  have m1 := interS_length a (norm (b ++ c)); have m2 := interS_length a c; have m3 := union_length (interS a b) (interS a c); have m4 := minusS_length a b
  have m5 := interS_length a (notS b); have m6 := union_length (minusS a b) (interS a b); have m7 := union_length b a
  simp only [List.length_nil] at n3
  have hin := fun r => @hasL_range a r
  have hib := fun r => @hasL_range b r
  refine (Evt.of fun _ => Union_eq (a := a) (b := b) (by omega)).bind ?_
  refine (Inter_ev a b (by omega)).bind ?_
  refine (Evt.of fun _ => Union_eq (a := a) (b := []) (by simp only [List.length_nil]; omega)).bind ?_
  refine (Is_ev (norm (a ++ b)) (by omega)).bind ?_
  rw [(norm_isC _).isG]; simp only [if_true]
  refine (Is_ev (interS a b) (by omega)).bind ?_
  rw [(interS_isC _ _).isG]; simp only [if_true]
  refine (Not_ev a (by omega)).bind ?_
  refine (Not_ev (notS a) (by omega)).bind ?_
  refine (same_ev (fun r => ?_) (by omega) (by omega)).bind ?_
  · rw [notS_has, notS_has, norm_has, List.append_nil]
    have h0 := hin r
    cases h : hasL a r
    · cases decide (0 ≤ r) <;> cases decide (r ≤ 1114111) <;> rfl
    · have h1 := h0 h
      rw [decide_eq_true h1.1, decide_eq_true h1.2]; rfl
  simp only [if_true]
  refine (Not_ev (norm (a ++ b)) (by omega)).bind ?_
  refine (Not_ev a (by omega)).bind ?_
  refine (Not_ev b (by omega)).bind ?_
  refine (Inter_ev (notS a) (notS b) (by omega)).bind ?_
  refine (same_ev (fun r => ?_) (by omega) (by omega)).bind ?_
  · rw [notS_has, norm_has, hasL_append, interS_has, notS_has, notS_has]
    cases hasL a r <;> cases hasL b r <;> simp
  simp only [if_true]
  refine (Evt.of fun _ => Union_eq (a := b) (b := c) (by omega)).bind ?_
  refine (Inter_ev a (norm (b ++ c)) (by omega)).bind ?_
  refine (Inter_ev a c (by omega)).bind ?_
  refine (Evt.of fun _ => Union_eq (a := interS a b) (b := interS a c) (by omega)).bind ?_
  refine (same_ev (fun r => ?_) (by omega) (by omega)).bind ?_
  · rw [interS_has, norm_has, norm_has, hasL_append, hasL_append, interS_has, interS_has]
    cases hasL a r <;> cases hasL b r <;> simp
  simp only [if_true]
  refine (Count_ev (norm (a ++ b)) (by omega)).bind ?_
  refine (Count_ev (interS a b) (by omega)).bind ?_
  refine (Count_ev a (by omega)).bind ?_
  refine (Count_ev b (by omega)).bind ?_
  have hcount : wrap64 (countS (norm (a ++ b)) + countS (interS a b)) = wrap64 (countS a + countS b) := by
    have e := cntN_or 1114112 (hasL a) (hasL b)
    have e1 : ∀ i, (hasL a i || hasL b i) = hasL (norm (a ++ b)) i := fun i => by rw [norm_has, hasL_append]
    have e2 : ∀ i, (hasL a i && hasL b i) = hasL (interS a b) i := fun i => by rw [interS_has]
    rw [cntN_congr e1, cntN_congr e2] at e
    refine congrArg wrap64 ?_
    unfold countS
    generalize cntN 1114112 (hasL (norm (a ++ b))) = x1 at e ⊢
    generalize cntN 1114112 (hasL (interS a b)) = x2 at e ⊢
    generalize cntN 1114112 (hasL a) = x3 at e ⊢
    generalize cntN 1114112 (hasL b) = x4 at e ⊢
    omega
  simp only [if_pos hcount]
  refine (Minus_ev a b (by omega)).bind ?_
  refine (Not_ev b (by omega)).bind ?_
  refine (Inter_ev a (notS b) (by omega)).bind ?_
  refine (same_ev (fun r => rfl) (by omega) (by omega)).bind ?_
  simp only [if_true]
  refine (Minus_ev a b (by omega)).bind ?_
  refine (Evt.of fun _ => Union_eq (a := minusS a b) (b := interS a b) (by omega)).bind ?_
  refine (same_ev (fun r => ?_) (by omega) (by omega)).bind ?_
  · rw [norm_has, norm_has, hasL_append, minusS_has, interS_has, List.append_nil]
    cases hasL a r <;> cases hasL b r <;> rfl
  simp only [if_true]
  refine (Evt.of fun _ => Union_eq (a := b) (b := a) (by omega)).bind ?_
  refine (same_ev (fun r => ?_) (by omega) (by omega)).bind ?_
  · rw [norm_has, norm_has, hasL_append, hasL_append, Bool.or_comm]
  exact Evt.pure _
theorem SetLaws (a b c : List Rg) (ha : ∀ x ∈ a, wfRg x) (hb : ∀ x ∈ b, wfRg x) (hc : ∀ x ∈ c, wfRg x) : ∃ k, hornbooklaw3_SetLaws.f k a b c = some true := by
  refine Evt.get (r := true) ?_
  have key : Evt (fun k => hornbooklaw3_SetLaws.j0 k a b c true) true := by
    refine Evt.succ (fun k => hornbooklaw3_SetLaws.j0.eq_2 _ _ _ _ _) ?_
    simp only [if_true]
    exact Evt.pure _
  unfold hornbooklaw3_SetLaws.f
  refine known_ev.bind ?_
  simp only [if_true]
  by_cases h1 : (a.length : Int) > 30
  · simp only [if_pos h1]; exact key
  · by_cases h2 : (b.length : Int) > 30
    · simp only [if_neg h1, if_pos h2]; exact key
    · by_cases h3 : (c.length : Int) > 30
      · simp only [if_neg h1, if_neg h2, decide_eq_true h3]; exact key
      · simp only [if_neg h1, if_neg h2, decide_eq_false h3]
        exact laws_j0 a b c (by omega) (by omega) (by omega)
end Go.Proofs.Yteaadpgammbdgaa.Pure
