/- The plain law of SetBounds: one range, right or not: its set, its complement's ranges, their counts. -/
import Derived.Test.YteaadpgammbdgaaKnown
import Derived.Test.YteaadpgammbdgaaPAx11
namespace Go.Proofs.Yteaadpgammbdgaa.Pure
open Go.RowKit Go.Proofs.Yteaadpgammbdgaa.PA Go.Proofs.YteaadpgammbdgaaW.PrintWords Go.Proofs.YteaadpgammbdgaaW.PrintLast Go.Proofs.YteaadpgammbdgaaW.PrintMore
set_option linter.unusedVariables false
set_option linter.unusedSimpArgs false

theorem SetBounds : hornbooklaw3_SetBounds.Pure := by
  intro a0 a1 w0 w1
  refine Evt.get (r := true) ?_
  unfold hornbooklaw3_SetBounds.f
  refine known_ev.bind ?_
  simp only [if_true]
  by_cases hg : good ⟨a0, a1⟩ = true
  · have hb := good_iff.1 hg
    simp only at hb
    have hn : norm [(⟨a0, a1⟩ : Rg)] = [⟨a0, a1⟩] := by rw [norm_cons_good hg]; rfl
    have e1 : uniset_Norm.f [(⟨a0, a1⟩ : Rg)] = some ([⟨a0, a1⟩], 0) := by
      unfold uniset_Norm.f; rw [hn]; simp [hg]
    simp only [e1, Option.bind_some, if_pos (show a0 ≥ 0 by omega), if_pos (show a1 ≤ 1114111 by omega), decide_eq_true (show a0 ≤ a1 by omega)]
    refine Evt.succ (fun k => hornbooklaw3_SetBounds.j0.eq_2 _ _ _ _ _ _) ?_
    simp only [if_true]
    refine (Not_ev [(⟨a0, a1⟩ : Rg)] (by simp)).bind ?_
    have hs : countS [(⟨a0, a1⟩ : Rg)] = a1 - a0 + 1 := by rw [countS_of (hn ▸ norm_isC _)]; simp [sumL]
    have hc : countS (notS [(⟨a0, a1⟩ : Rg)]) = 1114112 - (a1 - a0 + 1) := by
      rw [countS_of (notS_isC _)]; unfold notS; rw [hn]; unfold compl compl
      simp only
      split <;> split <;> simp only [sumL] <;> omega
    have hl : ((notS [(⟨a0, a1⟩ : Rg)]).length : Int) = (if 0 < a0 then 1 else 0) + (if a1 + 1 ≤ 1114111 then 1 else 0) := by
      unfold notS; rw [hn]; unfold compl compl
      simp only
      split <;> split <;> rfl
    have hx : (((rd_T37 [(⟨a0, a1⟩ : Rg)] 0).f0) == a0 && (((rd_T37 [(⟨a0, a1⟩ : Rg)] 0).f1) == a1)) = true := by simp [rd_T37]
    have hq : (([(⟨a0, a1⟩ : Rg)] : List Rg).length : Int) = 1 := rfl
    have hp : 0 < (([(⟨a0, a1⟩ : Rg)] : List Rg).length : Int) := by rw [hq]; omega
    have fin : (wrap64 (1114112 - (a1 - a0 + 1) + (a1 - a0 + 1)) == 1114112) = true := by rw [w64 _ (by omega)]; simp
    have key : ∀ want : Int, ((notS [(⟨a0, a1⟩ : Rg)]).length : Int) = (if a1 = 1114111 then wrap64 (want - 1) else want) → Evt (fun k => hornbooklaw3_SetBounds.j1 k a0 a1 [(⟨a0, a1⟩ : Rg)] 0 (notS [(⟨a0, a1⟩ : Rg)]) want) true := by
      intro want hw
      refine Evt.succ (fun k => hornbooklaw3_SetBounds.j1.eq_2 _ _ _ _ _ _ _) ?_
      simp only [if_pos hq, if_pos hp, if_pos hx, if_true]
      by_cases ht : a1 = 1114111
      · rw [if_pos ht] at hw
        simp only [if_pos ht, if_pos hw]
        refine (Count_ev (notS [(⟨a0, a1⟩ : Rg)]) (by have := notS_length [(⟨a0, a1⟩ : Rg)]; simp only [List.length_cons, List.length_nil] at this; omega)).bind ?_
        refine (Count_ev [(⟨a0, a1⟩ : Rg)] (by simp)).bind ?_
        rw [hs, hc, fin]; exact Evt.pure _
      · rw [if_neg ht] at hw
        simp only [if_neg ht, if_pos hw]
        refine (Count_ev (notS [(⟨a0, a1⟩ : Rg)]) (by have := notS_length [(⟨a0, a1⟩ : Rg)]; simp only [List.length_cons, List.length_nil] at this; omega)).bind ?_
        refine (Count_ev [(⟨a0, a1⟩ : Rg)] (by simp)).bind ?_
        rw [hs, hc, fin]; exact Evt.pure _
    by_cases h0 : a0 = 0
    · simp only [if_pos h0]
      refine key _ ?_
      rw [hl, if_neg (show ¬ 0 < a0 by omega)]
      split <;> split <;> first | omega | (unfold wrap64; omega)
    · simp only [if_neg h0]
      refine key _ ?_
      rw [hl, if_pos (show 0 < a0 by omega)]
      split <;> split <;> first | omega | (unfold wrap64; omega)
  · have hg' : good ⟨a0, a1⟩ = false := by simpa using hg
    have hn : norm [(⟨a0, a1⟩ : Rg)] = [] := by rw [norm_cons_bad hg']; rfl
    have e1 : uniset_Norm.f [(⟨a0, a1⟩ : Rg)] = some ([], 30) := by
      unfold uniset_Norm.f; simp [hg']
    have e2 : uniset_Union.f [(⟨a0, a1⟩ : Rg)] [] = some [] := by rw [Union_eq (by simp), List.append_nil, hn]
    have key : Evt (fun k => hornbooklaw3_SetBounds.j0 k a0 a1 [] 30 false) true := by
      refine Evt.succ (fun k => hornbooklaw3_SetBounds.j0.eq_2 _ _ _ _ _ _) ?_
      simp only [Bool.false_eq_true, if_false, if_true, List.length_nil, Int.natCast_zero, e2, Option.bind_some]
      exact Evt.pure _
    simp only [e1, Option.bind_some]
    by_cases h1 : a0 ≥ 0
    · by_cases h2 : a1 ≤ 1114111
      · have h3 : ¬ a0 ≤ a1 := fun h => by have := good_iff (x := ⟨a0, a1⟩) |>.2 ⟨h1, h, h2⟩; rw [hg'] at this; cases this
        simp only [if_pos h1, if_pos h2, decide_eq_false h3]; exact key
      · simp only [if_pos h1, if_neg h2]; exact key
    · simp only [if_neg h1]; exact key
end Go.Proofs.Yteaadpgammbdgaa.Pure
