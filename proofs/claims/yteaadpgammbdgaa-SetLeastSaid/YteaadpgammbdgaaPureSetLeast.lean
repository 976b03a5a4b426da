/- The plain law of SetLeast: the least code point of a set is in it, none below it is; without it there is one fewer. -/
import Derived.Test.YteaadpgammbdgaaKnown
import Derived.Test.YteaadpgammbdgaaOpen
import Derived.Test.YteaadpgammbdgaaPAx12
namespace Go.Proofs.Yteaadpgammbdgaa.Pure
open Go.RowKit Go.Proofs.Yteaadpgammbdgaa.PA Go.Proofs.YteaadpgammbdgaaW.PrintLast Go.Proofs.YteaadpgammbdgaaW.PrintMore
set_option linter.unusedVariables false
set_option linter.unusedSimpArgs false

theorem least_none {l : List Rg} (h : norm l = []) (r : Int) : hasL l r = false := by rw [← norm_has, h]; rfl
theorem least_some {l : List Rg} {x : Rg} {xs : List Rg} (h : norm l = x :: xs) : 0 ≤ x.f0 ∧ x.f0 ≤ 1114111 ∧ hasL l x.f0 = true ∧ ∀ r, hasL l r = true → x.f0 ≤ r := by
  have hc := norm_isC l
  rw [h] at hc
  obtain ⟨a1, a2, a3, a4⟩ := id hc
  have e : ∀ r, hasL l r = hasL (x :: xs) r := fun r => by rw [← h, norm_has]
  refine ⟨by omega, by omega, ?_, fun r hr => ?_⟩
  · rw [e]; exact has_head (by omega) hc _ (Int.le_refl _) a2
  · rw [e] at hr
    rcases (has_head_iff (by omega) hc r).1 hr with hr | hr
    · omega
    · have := IsF.above (by omega) a4 r hr; omega
theorem single_has (m r : Int) (h0 : 0 ≤ m) (h1 : m ≤ 1114111) : hasL [(⟨m, m⟩ : Rg)] r = decide (r = m) := by
  rw [hasL_cons, hasL_nil, good_iff.2 ⟨h0, Int.le_refl _, h1⟩, Bool.eq_iff_iff]; simp; omega
theorem below_has (m r : Int) (h0 : 0 ≤ m) (h1 : m ≤ 1114111) : hasL [(⟨0, m⟩ : Rg)] r = decide (0 ≤ r ∧ r ≤ m) := by
  rw [hasL_cons, hasL_nil, good_iff.2 ⟨Int.le_refl _, h0, h1⟩, Bool.eq_iff_iff]; simp
theorem SetLeast (a : List Rg) (ha : ∀ x ∈ a, wfRg x) : ∃ k, hornbooklaw3_SetLeast.f k a = some true := by
  refine Evt.get (r := true) ?_
  unfold hornbooklaw3_SetLeast.f
  refine known_ev.bind ?_
  simp only [if_true]
  by_cases h1 : (a.length : Int) > 40
  · simp only [if_pos h1]
    exact Evt.pure _
  · simp only [if_neg h1]
    refine (Evt.of fun _ => Least_eq a (by omega)).bind ?_
    refine (Count_ev a (by omega)).bind ?_
    cases hn : norm a with
    | nil =>
      have hz := least_none hn
      have hl : leastS a = (0, false) := by unfold leastS; rw [hn]
      have hc : countS a = 0 := by unfold countS; rw [cntN_congr hz, cntN_none]; rfl
      have hu : uniset_Union.f a [] = some [] := by rw [Union_eq (by simp only [List.length_nil]; omega), List.append_nil, hn]
      simp only [hl, hc, Bool.false_eq_true, if_false, if_true, hu, Option.bind_some]
      exact Evt.pure _
    | cons x xs =>
      obtain ⟨g0, g1, g2, g3⟩ := least_some hn
      have hl : leastS a = (x.f0, true) := by unfold leastS; rw [hn]
      simp only [hl, if_true]
      generalize x.f0 = m at *
      have hI : interS a [(⟨0, m⟩ : Rg)] = [⟨m, m⟩] := IsC.unique (interS_isC _ _) ⟨by simp only []; omega, by simp only []; omega, by simp only []; omega, trivial⟩ fun r => by
        rw [interS_has, below_has m r g0 g1, single_has m r g0 g1, Bool.eq_iff_iff]
        simp only [Bool.and_eq_true, decide_eq_true_eq]
        constructor
        · rintro ⟨h, h2⟩; have := g3 r h; omega
        · rintro rfl; exact ⟨g2, by omega, by omega⟩
      have hM : ∀ r, hasL (minusS a [(⟨m, m⟩ : Rg)]) r = (hasL a r && !decide (r = m)) := fun r => by rw [minusS_has, single_has m r g0 g1]
      have hC : countS (minusS a [(⟨m, m⟩ : Rg)]) = countS a - 1 := by
        have c := cntN_or 1114112 (hasL (minusS a [(⟨m, m⟩ : Rg)])) (hasL [(⟨m, m⟩ : Rg)])
        have e1 : ∀ i, (hasL (minusS a [(⟨m, m⟩ : Rg)]) i || hasL [(⟨m, m⟩ : Rg)] i) = hasL a i := fun i => by
          rw [hM, single_has m i g0 g1]; by_cases hi : i = m
          · subst hi; simp [g2]
          · simp [hi]
        have e2 : ∀ i, (hasL (minusS a [(⟨m, m⟩ : Rg)]) i && hasL [(⟨m, m⟩ : Rg)] i) = false := fun i => by
          rw [hM, single_has m i g0 g1]; by_cases hi : i = m <;> simp [hi]
        rw [cntN_congr e1, cntN_congr e2, cntN_none] at c
        have d : countS [(⟨m, m⟩ : Rg)] = 1 := by rw [countS_of (show IsC [(⟨m, m⟩ : Rg)] from ⟨by simp only []; omega, by simp only []; omega, by simp only []; omega, trivial⟩)]; simp [sumL]
        unfold countS at d ⊢
        omega
      have hb := countS_le a
      have hml := minusS_length a [(⟨m, m⟩ : Rg)]
      simp only [List.length_cons, List.length_nil] at hml
      have hx : (((rd_T37 [(⟨m, m⟩ : Rg)] 0).f0) == m && (((rd_T37 [(⟨m, m⟩ : Rg)] 0).f1) == m)) = true := by simp [rd_T37]
      have hq : (([(⟨m, m⟩ : Rg)] : List Rg).length : Int) = 1 := rfl
      have hp : 0 < (([(⟨m, m⟩ : Rg)] : List Rg).length : Int) := by rw [hq]; omega
      have hh : uniset_Has.f a m = some true := by unfold uniset_Has.f; rw [g2]
      have hg : uniset_Has.f (minusS a [(⟨m, m⟩ : Rg)]) m = some false := by unfold uniset_Has.f; rw [hM]; simp
      refine (Minus_ev a [(⟨m, m⟩ : Rg)] (by simp only [List.length_cons, List.length_nil]; omega)).bind ?_
      refine (Inter_ev a [(⟨0, m⟩ : Rg)] (by simp only [List.length_cons, List.length_nil]; omega)).bind ?_
      rw [hI]
      simp only [hh, Option.bind_some, if_true, if_pos hq, if_pos hp, if_pos hx]
      refine (Count_ev (minusS a [(⟨m, m⟩ : Rg)]) (by omega)).bind ?_
      rw [hC]
      simp only [if_pos (show countS a - 1 = wrap64 (countS a - 1) by rw [w64 _ (by omega)])]
      refine (Is_ev (minusS a [(⟨m, m⟩ : Rg)]) (by omega)).bind ?_
      rw [(minusS_isC _ _).isG]
      simp only [if_true, hg, Option.bind_some]
      exact Evt.pure _
end Go.Proofs.Yteaadpgammbdgaa.Pure
