/- The plain law of PropsNames: each name that a code point is told to have has it, and each that has it is told. -/
import Derived.Test.YtnfnnmmblommiaaPurePropsHold
import Derived.Test.YtnfnnmmblommiaaHPOf
import Derived.Test.YtnfnnmmblommiaaPAx12
namespace Go.Proofs.Ytnfnnmmblommiaa.Pure
open Go.RowKit Go.Proofs.Ytnfnnmmblommiaa.PA Go.Proofs.YtnfnnmmblommiaaW.PrintWords Go.Proofs.YtnfnnmmblommiaaW.PrintLast Go.Proofs.YtnfnnmmblommiaaW.PrintMore
set_option linter.unusedVariables false
set_option linter.unusedSimpArgs false

def nm (i : Nat) : ByteArray := namesL.getD i ⟨#[]⟩
theorem nm_named : ∀ i, i < 11 → namedL (nm i).data.toList ≠ [] ∧ norm (namedL (nm i).data.toList) ≠ [] := by decide +kernel
theorem nm_less : ∀ i, i < 10 → Op.bytesLess (nm i).data.toList (nm (i + 1)).data.toList = true := by decide +kernel
theorem rd_nm (i : Nat) (h : i < 11) : rdOf ByteArray.empty namesL (i : Int) = nm i := by
  unfold rdOf nm
  rw [Int.toNat_natCast]
  have hl : i < namesL.length := h
  simp [List.getD_eq_getElem?_getD, hl]
theorem take_nm (i : Nat) (h : i < 11) : namesL = namesL.take i ++ nm i :: namesL.drop (i + 1) := by
  have hl : i < namesL.length := h
  have e : nm i = namesL[i] := by unfold nm; simp [List.getD_eq_getElem?_getD, hl]
  rw [e, ← List.drop_eq_getElem_cons hl, List.take_append_drop]
theorem take_succ_nm (i : Nat) (h : i < 11) : namesL.take (i + 1) = namesL.take i ++ [nm i] := by
  have hl : i < namesL.length := h
  have e : nm i = namesL[i] := by unfold nm; simp [List.getD_eq_getElem?_getD, hl]
  rw [e, List.take_succ_eq_append_getElem hl]
theorem names_l0 (r : Int) : ∀ (d i : Nat), i + d = 11 → Evt (fun k => hornbooklaw5_PropsNames.l0 k r namesL (namesL.filter (hasName r)) (((namesL.take i).filter (hasName r)).length : Int) (i : Int)) true
  | 0, i, h => by
    obtain rfl : i = 11 := by omega
    refine Evt.succ (fun k => hornbooklaw5_PropsNames.l0.eq_2 _ _ _ _ _ _) ?_
    simp only [if_neg (show ¬ (((11 : Nat) : Int) < (namesL.length : Int)) by decide)]
    rw [show namesL.take 11 = namesL from rfl]
    simp only [beq_self_eq_true]
    exact Evt.pure _
  | d + 1, i, h => by
    have hi : i < 11 := by omega
    have ih := names_l0 r d (i + 1) (by omega)
    obtain ⟨n1, n2⟩ := nm_named i hi
    have hset : props_Set.f (nm i) = some (norm (namedL (nm i).data.toList), 0) := set_eq _ _ (by rw [if_neg n1])
    have hlen : ¬ ((norm (namedL (nm i).data.toList)).length : Int) = 0 := by
      intro e; exact n2 (List.length_eq_zero_iff.1 (by omega))
    have hfew : (norm (namedL (nm i).data.toList)).length < 4611686018427387904 := by
      have := namedL_few (nm i).data.toList; have := norm_length (namedL (nm i).data.toList); omega
    have hhas : uniset_Has.f (norm (namedL (nm i).data.toList)) r = some (hasName r (nm i)) := by
      show some (hasL _ r) = _
      rw [norm_has]; unfold hasName; rw [toList_data]
    have hfl : namesL.filter (hasName r) = (namesL.take i).filter (hasName r) ++ (nm i :: namesL.drop (i + 1)).filter (hasName r) := by
      conv => lhs; rw [take_nm i hi]
      rw [List.filter_append]
    have hfs : (namesL.take (i + 1)).filter (hasName r) = (namesL.take i).filter (hasName r) ++ [nm i].filter (hasName r) := by
      rw [take_succ_nm i hi, List.filter_append]
    have hn11 : ((namesL.take i).filter (hasName r)).length ≤ 11 := by
      have := List.length_filter_le (hasName r) (namesL.take i); have : (namesL.take i).length ≤ 11 := by rw [List.length_take]; exact Nat.le_trans (Nat.min_le_right _ _) (by decide)
      omega
    have key : Evt (fun k => hornbooklaw5_PropsNames.j1 k r namesL (namesL.filter (hasName r)) (((namesL.take i).filter (hasName r)).length : Int) (i : Int) (norm (namedL (nm i).data.toList)) false) true := by
      refine Evt.succ (fun k => hornbooklaw5_PropsNames.j1.eq_2 _ _ _ _ _ _ _ _) ?_
      simp only [Bool.false_eq_true, if_false, hhas, Option.bind_some, rd_nm i hi, w64 ((i : Int) + 1) (by omega)]
      by_cases hp : hasName r (nm i) = true
      · have hlt : (((namesL.take i).filter (hasName r)).length : Int) < ((namesL.filter (hasName r)).length : Int) := by
          rw [hfl, List.filter_cons, if_pos hp]; simp only [List.length_append, List.length_cons]; omega
        have hrd : rdOf ByteArray.empty (namesL.filter (hasName r)) (((namesL.take i).filter (hasName r)).length : Int) = nm i := by
          rw [hfl, List.filter_cons, if_pos hp]; unfold rdOf; simp [List.getD_eq_getElem?_getD]
        rw [hfs, List.filter_cons, if_pos hp] at ih
        simp only [if_pos hp, if_neg (show ¬ ((((namesL.take i).filter (hasName r)).length : Int) ≥ ((namesL.filter (hasName r)).length : Int)) by omega), if_pos (Int.natCast_nonneg ((namesL.take i).filter (hasName r)).length), if_pos hlt, if_pos (Int.natCast_nonneg i), if_pos (show (i : Int) < (namesL.length : Int) by show (i : Int) < 11; omega), hrd, if_true, w64 ((((namesL.take i).filter (hasName r)).length : Int) + 1) (by omega)]
        simpa using ih
      · rw [hfs, List.filter_cons, if_neg hp] at ih
        simp only [if_neg hp]
        simpa using ih
    refine Evt.succ (fun k => hornbooklaw5_PropsNames.l0.eq_2 _ _ _ _ _ _) ?_
    simp only [if_pos (show (i : Int) < (namesL.length : Int) by show (i : Int) < 11; omega), if_pos (Int.natCast_nonneg i), rd_nm i hi, hset, Option.bind_some, if_true]
    refine (Is_ev _ hfew).bind ?_
    rw [(norm_isC _).isG]
    simp only [if_true, if_neg hlen]
    by_cases h0 : (i : Int) > 0
    · obtain ⟨j, rfl⟩ : ∃ j, i = j + 1 := ⟨i - 1, by omega⟩
      have e1 : wrap64 (((j + 1 : Nat) : Int) - 1) = (j : Int) := by rw [w64 _ (by omega)]; omega
      have hl := nm_less j (by omega)
      simp only [if_pos h0, e1, if_pos (Int.natCast_nonneg j), if_pos (show (j : Int) < (namesL.length : Int) by show (j : Int) < 11; omega), rd_nm j (by omega), toList_data, hl, Bool.not_true]
      exact key
    · simp only [if_neg h0]
      exact key
theorem PropsNames : hornbooklaw5_PropsNames.Pure := by
  intro a0 w0
  refine Evt.get (r := true) ?_
  unfold hornbooklaw5_PropsNames.f
  simp only [known_eq, Option.bind_some, if_true]
  rw [show props_Names.f = some namesL from rfl, show props_Of.f a0 = some (namesL.filter (hasName a0)) from rfl]
  simp only [Option.bind_some]
  exact names_l0 a0 11 0 rfl
end Go.Proofs.Ytnfnnmmblommiaa.Pure
