/- The plain law of SetMany: ranges that lie apart, and what lies between them. -/
import Derived.Test.YteaadpgammbdgaaKnown
import Derived.Test.YteaadpgammbdgaaPAx11
namespace Go.Proofs.Yteaadpgammbdgaa.Pure
open Go.RowKit Go.Proofs.Yteaadpgammbdgaa.PA Go.Proofs.YteaadpgammbdgaaW.PrintWords Go.Proofs.YteaadpgammbdgaaW.PrintLast Go.Proofs.YteaadpgammbdgaaW.PrintMore
set_option linter.unusedVariables false
set_option linter.unusedSimpArgs false

def genA : Nat → List Rg
  | 0 => []
  | n + 1 => genA n ++ [⟨3 * n, 3 * n + 1⟩]
def genB : Nat → List Rg
  | 0 => []
  | n + 1 => genB n ++ [⟨3 * n + 2, 3 * n + 2⟩]
theorem genA_length : ∀ n, (genA n).length = n
  | 0 => rfl
  | n + 1 => by simp [genA, genA_length n]
theorem genB_length : ∀ n, (genB n).length = n
  | 0 => rfl
  | n + 1 => by simp [genB, genB_length n]
theorem isF_concat : ∀ (l : List Rg) (b : Int) (y : Rg), IsF b l → b < y.f0 → (∀ x ∈ l, x.f1 + 1 < y.f0) → y.f0 ≤ y.f1 → y.f1 ≤ 1114111 → IsF b (l ++ [y])
  | [], b, y, _, h1, _, h2, h3 => ⟨h1, h2, h3, trivial⟩
  | x :: xs, b, y, h, h1, hx, h2, h3 => ⟨h.1, h.2.1, h.2.2.1, isF_concat xs _ y h.2.2.2 (hx x (List.mem_cons_self ..)) (fun z hz => hx z (List.mem_cons_of_mem _ hz)) h2 h3⟩
theorem genA_lt : ∀ n, ∀ x ∈ genA n, x.f1 + 2 ≤ 3 * n
  | 0, x, h => by cases h
  | n + 1, x, h => by
    simp only [genA, List.mem_append, List.mem_cons, List.not_mem_nil, or_false] at h
    rcases h with h | rfl
    · have := genA_lt n x h; omega
    · simp only []; omega
theorem genA_isC : ∀ n, n ≤ 230 → IsC (genA n)
  | 0, _ => trivial
  | n + 1, h => isF_concat _ _ _ (genA_isC n (by omega)) (by simp only []; omega) (fun x hx => by have := genA_lt n x hx; simp only []; omega) (by simp only []; omega) (by simp only []; omega)
theorem genA_has : ∀ n, n ≤ 230 → ∀ r, hasL (genA n) r = decide (0 ≤ r ∧ r < 3 * n ∧ r % 3 ≠ 2)
  | 0, _, r => by rw [Bool.eq_iff_iff]; simp [genA, hasL]; omega
  | n + 1, h, r => by
    rw [genA, hasL_append, genA_has n (by omega), hasL_cons, hasL_nil, good_iff.2 ⟨by simp only []; omega, by simp only []; omega, by simp only []; omega⟩, Bool.eq_iff_iff]
    simp only [Bool.or_eq_true, Bool.and_eq_true, decide_eq_true_eq, Bool.or_false, Bool.true_and]; push_cast; omega
theorem genB_has : ∀ n, n ≤ 230 → ∀ r, hasL (genB n) r = decide (0 ≤ r ∧ r < 3 * n ∧ r % 3 = 2)
  | 0, _, r => by rw [Bool.eq_iff_iff]; simp [genB, hasL]; omega
  | n + 1, h, r => by
    rw [genB, hasL_append, genB_has n (by omega), hasL_cons, hasL_nil, good_iff.2 ⟨by simp only []; omega, by simp only []; omega, by simp only []; omega⟩, Bool.eq_iff_iff]
    simp only [Bool.or_eq_true, Bool.and_eq_true, decide_eq_true_eq, Bool.or_false, Bool.true_and]; push_cast; omega
def whole (n : Nat) : List Rg := if n = 0 then [] else [⟨0, 3 * n - 1⟩]
theorem whole_isC (n : Nat) (h : n ≤ 230) : IsC (whole n) := by
  unfold whole; split
  · trivial
  · exact ⟨by simp only []; omega, by simp only []; omega, by simp only []; omega, trivial⟩
theorem whole_has (n : Nat) (h : n ≤ 230) (r : Int) : hasL (whole n) r = decide (0 ≤ r ∧ r < 3 * n) := by
  unfold whole; split
  · rw [Bool.eq_iff_iff]; simp [hasL]; omega
  · rw [hasL_cons, hasL_nil, good_iff.2 ⟨by simp only []; omega, by simp only []; omega, by simp only []; omega⟩, Bool.eq_iff_iff]
    simp only [Bool.or_eq_true, Bool.and_eq_true, decide_eq_true_eq, Bool.or_false, Bool.true_and]; omega
theorem many_l0 (n : Nat) (hn : n < 230) : ∀ (d m : Nat), m + d = n → Evt (fun k => hornbooklaw3_SetMany.l0 k (n : Int) (genA m) (genB m) (m : Int)) true
  | 0, m, hm => by
    obtain rfl : m = n := by omega
    have hA := norm_norm (genA_isC m (by omega))
    have hU : norm (genA m ++ genB m) = whole m := norm_of (whole_isC m (by omega)) fun r => by
      rw [whole_has m (by omega), hasL_append, genA_has m (by omega), genB_has m (by omega), Bool.eq_iff_iff]; simp; omega
    have hI : interS (genA m) (genB m) = [] := IsC.unique (interS_isC _ _) trivial fun r => by
      rw [interS_has, genA_has m (by omega), genB_has m (by omega), hasL_nil, Bool.eq_false_iff]; simp; omega
    have e1 : uniset_Norm.f (genA m) = if m > 200 then some ([], 30) else some (genA m, 0) := by
      unfold uniset_Norm.f
      have hb : ¬ ((genA m).any (fun x => !good x) = true) := by
        rw [List.any_eq_true]; rintro ⟨x, hx, hq⟩; rw [(genA_isC m (by omega)).goods x hx] at hq; cases hq
      rw [if_neg hb, hA, genA_length, if_pos (by omega)]
    have e2 : uniset_Union.f (genA m) (genB m) = some (whole m) := by rw [Union_eq (by rw [genA_length, genB_length]; omega), hU]
    have hwl : ((whole m).length : Int) = mn (m : Int) 1 := by unfold whole mn; split <;> split <;> simp <;> omega
    have hwc : countS (whole m) = 3 * m := by rw [countS_of (whole_isC m (by omega))]; unfold whole; split <;> simp [sumL] <;> omega
    refine Evt.succ (fun k => hornbooklaw3_SetMany.l0.eq_2 _ _ _ _ _) ?_
    simp only [Int.lt_irrefl, if_false, e1, e2, Option.bind_some]
    by_cases h2 : m > 200
    · have h3 : (m : Int) > 200 := by omega
      have h4 : (((whole m).length : Int) == 1) = true := by rw [hwl]; unfold mn; split <;> simp; omega
      simp only [if_pos h2, if_pos h3, Option.bind_some, if_true, List.length_nil, Int.natCast_zero, h4]
      exact Evt.pure _
    · have h3 : ¬ (m : Int) > 200 := by omega
      have h4 : ((genA m).length : Int) = (m : Int) := by rw [genA_length]
      simp only [if_neg h2, if_neg h3, Option.bind_some, if_true, if_pos h4, if_pos hwl]
      refine (Count_ev (whole m) (by unfold whole; split <;> simp)).bind ?_
      rw [hwc]
      simp only [if_pos (show 3 * (m : Int) = wrap64 (3 * (m : Int)) by rw [w64 _ (by omega)])]
      refine (Inter_ev (genA m) (genB m) (by rw [genA_length, genB_length]; omega)).bind ?_
      rw [hI]; exact Evt.pure _
  | d + 1, m, hm => by
    have ih := many_l0 n hn d (m + 1) (by omega)
    refine Evt.succ (fun k => hornbooklaw3_SetMany.l0.eq_2 _ _ _ _ _) ?_
    simp only [if_pos (show (m : Int) < (n : Int) by omega), genA_length, genB_length, if_pos (show m < 17592186044416 by omega),
      w64 (3 * (m : Int)) (by omega), w64 (3 * (m : Int) + 1) (by omega), w64 (3 * (m : Int) + 2) (by omega), w32 (3 * (m : Int)) (by omega), w32 (3 * (m : Int) + 1) (by omega), w32 (3 * (m : Int) + 2) (by omega), w64 ((m : Int) + 1) (by omega)]
    exact ih
theorem SetMany : hornbooklaw3_SetMany.Pure := by
  intro a0 w0
  refine Evt.get (r := true) ?_
  unfold hornbooklaw3_SetMany.f
  refine known_ev.bind ?_
  simp only [if_true]
  have hw : 0 ≤ a0 ∧ a0 ≤ 65535 := by
    simp [Lit.wf, IntKind.min, IntKind.max, IntKind.signed, IntKind.bits] at w0; omega
  obtain ⟨n, hn⟩ : ∃ n : Nat, a0 = n := ⟨a0.toNat, by omega⟩
  subst hn
  have e : wrap64 (Int.tmod (n : Int) 230) = ((n % 230 : Nat) : Int) := by
    rw [show Int.tmod (n : Int) 230 = ((n % 230 : Nat) : Int) from by rw [Int.tmod_eq_emod_of_nonneg (by omega)]; rfl]
    exact w64 _ (by omega)
  rw [e]
  exact many_l0 (n % 230) (Nat.mod_lt _ (by omega)) (n % 230) 0 (by omega)
end Go.Proofs.Yteaadpgammbdgaa.Pure
