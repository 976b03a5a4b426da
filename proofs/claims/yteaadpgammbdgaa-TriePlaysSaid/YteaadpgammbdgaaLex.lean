/- Words in their order: what slices.Compare, less and same tell of two words. -/
import Derived.Test.YteaadpgammbdgaaEv
import Derived.Test.YteaadpgammbdgaaPAx1
import Derived.Test.YteaadpgammbdgaaPAx1
import Derived.Sort.Defs
namespace Go.Proofs.Yteaadpgammbdgaa.PA
open Go.RowKit Go.Proofs.YteaadpgammbdgaaW.PrintWords Go.Proofs.YteaadpgammbdgaaW.PrintLast Go.Proofs.YteaadpgammbdgaaW.PrintMore
set_option linter.unusedVariables false
set_option linter.unusedSimpArgs false

/-- The order of words: -1, 0, 1. -/
def cmpL : List Int → List Int → Int
  | [], [] => 0
  | [], _ :: _ => -1
  | _ :: _, [] => 1
  | a :: xs, b :: ys => if a < b then -1 else if b < a then 1 else cmpL xs ys
theorem cmpL_swap : ∀ a b, cmpL b a = - cmpL a b
  | [], [] => rfl
  | [], _ :: _ => rfl
  | _ :: _, [] => rfl
  | a :: xs, b :: ys => by
    unfold cmpL
    by_cases h1 : a < b
    · rw [if_neg (by omega), if_pos h1, if_pos h1]; rfl
    · by_cases h2 : b < a
      · rw [if_pos h2, if_neg h1, if_pos h2]
      · rw [if_neg h2, if_neg h1, if_neg h1, if_neg h2]; exact cmpL_swap xs ys
theorem cmpL_zero : ∀ a b, cmpL a b = 0 ↔ a = b
  | [], [] => by simp [cmpL]
  | [], _ :: _ => by simp [cmpL]
  | _ :: _, [] => by simp [cmpL]
  | a :: xs, b :: ys => by
    unfold cmpL
    by_cases h1 : a < b
    · rw [if_pos h1]; simp; omega
    · by_cases h2 : b < a
      · rw [if_neg h1, if_pos h2]; simp; omega
      · rw [if_neg h1, if_neg h2, cmpL_zero xs ys]
        have : a = b := by omega
        simp [this]
theorem cmpL_three : ∀ a b, cmpL a b = -1 ∨ cmpL a b = 0 ∨ cmpL a b = 1
  | [], [] => by simp [cmpL]
  | [], _ :: _ => by simp [cmpL]
  | _ :: _, [] => by simp [cmpL]
  | a :: xs, b :: ys => by
    unfold cmpL
    by_cases h1 : a < b
    · simp [h1]
    · by_cases h2 : b < a
      · simp [h1, h2]
      · rw [if_neg h1, if_neg h2]; exact cmpL_three xs ys
theorem cmpL_trans : ∀ a b c, cmpL a b < 0 → cmpL b c < 0 → cmpL a c < 0
  | [], b, [] => fun h1 h2 => by
    cases b with
    | nil => simp [cmpL] at h1
    | cons _ _ => simp [cmpL] at h2
  | [], _, _ :: _ => fun _ _ => by simp [cmpL]
  | a :: xs, [], c => fun h1 h2 => by simp [cmpL] at h1
  | a :: xs, b :: ys, [] => fun h1 h2 => by simp [cmpL] at h2
  | a :: xs, b :: ys, c :: zs => fun h1 h2 => by
    unfold cmpL at h1 h2 ⊢
    by_cases e1 : a < b
    · by_cases e2 : b < c
      · rw [if_pos (by omega)]; decide
      · rw [if_neg e2] at h2
        by_cases e3 : c < b
        · rw [if_pos e3] at h2; exact absurd h2 (by decide)
        · rw [if_pos (by omega)]; decide
    · rw [if_neg e1] at h1
      by_cases e3 : b < a
      · rw [if_pos e3] at h1; exact absurd h1 (by decide)
      · rw [if_neg e3] at h1
        by_cases e2 : b < c
        · rw [if_pos (by omega)]; decide
        · rw [if_neg e2] at h2
          by_cases e4 : c < b
          · rw [if_pos e4] at h2; exact absurd h2 (by decide)
          · rw [if_neg e4] at h2
            rw [if_neg (by omega), if_neg (by omega)]
            exact cmpL_trans xs ys zs h1 h2
/-- Before another. -/
def ltL (a b : List Int) : Bool := decide (cmpL a b < 0)
theorem ltL_irrefl (a : List Int) : ltL a a = false := by
  unfold ltL; rw [(cmpL_zero a a).2 rfl]; decide
theorem ltL_trans {a b c : List Int} (h1 : ltL a b = true) (h2 : ltL b c = true) : ltL a c = true := by
  unfold ltL at *
  exact decide_eq_true (cmpL_trans a b c (of_decide_eq_true h1) (of_decide_eq_true h2))
theorem ltL_tri (a b : List Int) : ltL a b = true ∨ a = b ∨ ltL b a = true := by
  unfold ltL
  rcases cmpL_three a b with h | h | h
  · exact .inl (decide_eq_true (by omega))
  · exact .inr (.inl ((cmpL_zero a b).1 h))
  · exact .inr (.inr (decide_eq_true (by rw [cmpL_swap a b]; omega)))
theorem ltL_ntrans {a b c : List Int} (h1 : ltL a b = false) (h2 : ltL b c = false) : ltL a c = false := by
  cases h : ltL a c with
  | false => rfl
  | true =>
    rcases ltL_tri a b with e | e | e
    · rw [h1] at e; cases e
    · subst e; rw [h2] at h; cases h
    · rw [ltL_trans e h] at h2; cases h2

theorem drop_cons {l : List Int} {i : Nat} (h : i < l.length) : l.drop i = rd l (i : Int) :: l.drop (i + 1) := by
  rw [List.drop_eq_getElem_cons h]; simp [rd, List.getD_eq_getElem?_getD, h]
theorem compareI_ev (a b : Int) : cmp_Compare_int32.f a b = some (if a < b then -1 else if b < a then 1 else 0) := by
  unfold cmp_Compare_int32.f cmp_isNaN_int32.f
  by_cases h1 : a < b
  · simp [h1]
  · by_cases h2 : b < a
    · simp [h1, h2]
    · simp [h1, h2]
theorem compare_l0 (a b : List Int) (ha : a.length < 4611686018427387904) : ∀ (d i : Nat), i + d = a.length → Evt (fun k => slices_Compare_int32_int32.l0 k a b a (a.length : Int) (i : Int)) (cmpL (a.drop i) (b.drop i))
  | 0, i, h => by
    refine Evt.succ (fun k => slices_Compare_int32_int32.l0.eq_2 _ _ _ _ _ _) ?_
    simp only [if_neg (show ¬ ((i : Int) < (a.length : Int)) by omega)]
    rw [List.drop_eq_nil_of_le (by omega : a.length ≤ i)]
    by_cases hb : i < b.length
    · rw [drop_cons hb]
      simp only [if_pos (show (a.length : Int) < (b.length : Int) by omega)]
      exact Evt.pure _
    · rw [List.drop_eq_nil_of_le (by omega : b.length ≤ i)]
      simp only [if_neg (show ¬ ((a.length : Int) < (b.length : Int)) by omega)]
      exact Evt.pure _
  | d + 1, i, h => by
    have ih := compare_l0 a b ha d (i + 1) (by omega)
    refine Evt.succ (fun k => slices_Compare_int32_int32.l0.eq_2 _ _ _ _ _ _) ?_
    simp only [if_pos (show (i : Int) < (a.length : Int) by omega), if_pos (Int.natCast_nonneg i)]
    rw [drop_cons (show i < a.length by omega)]
    by_cases hb : i < b.length
    · rw [drop_cons hb]
      simp only [if_neg (show ¬ ((i : Int) ≥ (b.length : Int)) by omega), if_pos (show (i : Int) < (b.length : Int) by omega), compareI_ev, Option.bind_some]
      unfold cmpL
      by_cases e1 : rd a (i : Int) < rd b (i : Int)
      · simp only [if_pos e1]; exact Evt.pure _
      · by_cases e2 : rd b (i : Int) < rd a (i : Int)
        · simp only [if_neg e1, if_pos e2]; exact Evt.pure _
        · simp only [if_neg e1, if_neg e2, if_true]
          have hw : wrap64 ((i : Int) + 1) = ((i + 1 : Nat) : Int) := by unfold wrap64; omega
          rw [hw]; exact ih
    · rw [List.drop_eq_nil_of_le (by omega : b.length ≤ i)]
      simp only [if_pos (show (i : Int) ≥ (b.length : Int) by omega)]
      exact Evt.pure _
theorem compare_ev (a b : List Int) (ha : a.length < 4611686018427387904) : Evt (fun k => slices_Compare_int32_int32.f k a b) (cmpL a b) := by
  have := compare_l0 a b ha a.length 0 (by omega)
  simpa [slices_Compare_int32_int32.f] using this
theorem less_l0 (a b : List Int) (ha : a.length < 4611686018427387904) : ∀ (d i : Nat), i + d = a.length → i ≤ b.length → Evt (fun k => hornbooklaw16_less.l0 k a b (i : Int)) (ltL (a.drop i) (b.drop i))
  | 0, i, h, hib => by
    refine Evt.succ (fun k => hornbooklaw16_less.l0.eq_2 _ _ _ _) ?_
    simp only [if_neg (show ¬ ((i : Int) < (a.length : Int)) by omega)]
    refine Evt.succ (fun k => hornbooklaw16_less.j1.eq_2 _ _ _ _ _) ?_
    simp only [Bool.false_eq_true, if_false]
    refine (Evt.pure _).cast ?_
    rw [List.drop_eq_nil_of_le (by omega : a.length ≤ i)]
    unfold ltL
    by_cases hb : i < b.length
    · rw [drop_cons hb, decide_eq_true (show (a.length : Int) < b.length by omega)]; rfl
    · rw [List.drop_eq_nil_of_le (by omega : b.length ≤ i), decide_eq_false (show ¬ (a.length : Int) < b.length by omega)]; rfl
  | d + 1, i, h, hib => by
    refine Evt.succ (fun k => hornbooklaw16_less.l0.eq_2 _ _ _ _) ?_
    simp only [if_pos (show (i : Int) < (a.length : Int) by omega)]
    refine Evt.succ (fun k => hornbooklaw16_less.j1.eq_2 _ _ _ _ _) ?_
    rw [drop_cons (show i < a.length by omega)]
    by_cases hb : i < b.length
    · have ih := less_l0 a b ha d (i + 1) (by omega) (by omega)
      rw [drop_cons hb]
      simp only [decide_eq_true (show (i : Int) < (b.length : Int) by omega), if_true, if_pos (Int.natCast_nonneg i), if_pos (show (i : Int) < (a.length : Int) by omega), if_pos (show (i : Int) < (b.length : Int) by omega)]
      unfold ltL cmpL
      by_cases e : rd a (i : Int) = rd b (i : Int)
      · have hw : wrap64 ((i : Int) + 1) = ((i + 1 : Nat) : Int) := by unfold wrap64; omega
        simp only [if_pos e, hw]
        refine ih.cast ?_
        rw [if_neg (by omega), if_neg (by omega)]; rfl
      · simp only [if_neg e]
        refine (Evt.pure _).cast ?_
        by_cases e1 : rd a (i : Int) < rd b (i : Int)
        · rw [if_pos e1, decide_eq_true e1]; rfl
        · rw [if_neg e1, if_pos (by omega), decide_eq_false e1]; rfl
    · rw [List.drop_eq_nil_of_le (by omega : b.length ≤ i)]
      simp only [decide_eq_false (show ¬ (i : Int) < (b.length : Int) by omega), Bool.false_eq_true, if_false]
      refine (Evt.pure _).cast ?_
      rw [decide_eq_false (by omega)]; rfl
theorem less_ev (a b : List Int) (ha : a.length < 4611686018427387904) : Evt (fun k => hornbooklaw16_less.f k a b) (ltL a b) := by
  have := less_l0 a b ha a.length 0 (by omega) (by omega)
  simpa [hornbooklaw16_less.f] using this
theorem same_ev (a b : List Int) (ha : a.length < 4611686018427387904) (hb : b.length < 4611686018427387904) : Evt (fun k => hornbooklaw16_same.f k a b) (decide (a = b)) := by
  unfold hornbooklaw16_same.f
  by_cases hl : (a.length : Int) = (b.length : Int)
  · simp only [if_pos hl]
    refine (less_ev a b ha).bind ?_
    cases h1 : ltL a b with
    | true =>
      simp only [if_true]
      refine (Evt.pure _).cast ?_
      rw [decide_eq_false]
      rintro rfl; rw [ltL_irrefl] at h1; cases h1
    | false =>
      simp only [Bool.false_eq_true, if_false]
      refine (less_ev b a hb).bind ?_
      refine (Evt.pure _).cast ?_
      rcases ltL_tri a b with e | e | e
      · rw [h1] at e; cases e
      · subst e; rw [ltL_irrefl]; simp
      · rw [e, decide_eq_false]; · rfl
        rintro rfl; rw [ltL_irrefl] at e; cases e
  · simp only [if_neg hl]
    refine (Evt.pure _).cast ?_
    rw [decide_eq_false]
    rintro rfl; exact hl rfl
end Go.Proofs.Yteaadpgammbdgaa.PA
