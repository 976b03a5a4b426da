/- The plain law of PropsTell: every name's set, or that there is none; every code point's names. -/
import Derived.Test.YtnfnnmmblommiaaPurePropsNames
import Derived.Test.YtnfnnmmblommiaaSetRef
import Derived.Test.YtnfnnmmblommiaaPAx8
import Derived.Test.YtnfnnmmblommiaaPAx4
namespace Go.Proofs.Ytnfnnmmblommiaa.Pure
open Go.RowKit Go.Proofs.Ytnfnnmmblommiaa.PA Go.Proofs.YtnfnnmmblommiaaW.PrintWords Go.Proofs.YtnfnnmmblommiaaW.PrintLast Go.Proofs.YtnfnnmmblommiaaW.PrintMore
set_option linter.unusedVariables false
set_option linter.unusedSimpArgs false

theorem letters_eq : hornbookref3_letters.f = some (upperL ++ lowerL ++ moreL) := by decide +kernel
theorem prop_ev (a : ByteArray) : Evt (fun k => hornbookref3_Prop.f k a) (norm (namedL a.toList), decide (namedL a.toList ≠ [])) := by
  unfold hornbookref3_Prop.f namedL
  by_cases h1 : a.toList = [65, 110, 121]
  · simp only [if_pos h1]; exact Evt.of fun _ => by decide +kernel
  by_cases h2 : a.toList = [68, 105, 103, 105, 116]
  · simp only [if_neg h1, if_pos h2]; exact Evt.of fun _ => by decide +kernel
  by_cases h3 : a.toList = [85, 112, 112, 101, 114]
  · simp only [if_neg h1, if_neg h2, if_pos h3]; exact Evt.of fun _ => by decide +kernel
  by_cases h4 : a.toList = [76, 111, 119, 101, 114]
  · simp only [if_neg h1, if_neg h2, if_neg h3, if_pos h4]; exact Evt.of fun _ => by decide +kernel
  by_cases h5 : a.toList = [76, 101, 116, 116, 101, 114]
  · simp only [if_neg h1, if_neg h2, if_neg h3, if_neg h4, if_pos h5, letters_eq, Option.bind_some]
    refine (Of_ev _ (by decide)).bind ?_
    exact Evt.of fun _ => by decide +kernel
  by_cases h6 : a.toList = [83, 112, 97, 99, 101]
  · simp only [if_neg h1, if_neg h2, if_neg h3, if_neg h4, if_neg h5, if_pos h6]; exact Evt.of fun _ => by decide +kernel
  by_cases h7 : a.toList = [77, 97, 114, 107]
  · simp only [if_neg h1, if_neg h2, if_neg h3, if_neg h4, if_neg h5, if_neg h6, if_pos h7]; exact Evt.of fun _ => by decide +kernel
  by_cases h8 : a.toList = [80, 117, 110, 99, 116]
  · simp only [if_neg h1, if_neg h2, if_neg h3, if_neg h4, if_neg h5, if_neg h6, if_neg h7, if_pos h8]; exact Evt.of fun _ => by decide +kernel
  by_cases h9 : a.toList = [72, 97, 110]
  · simp only [if_neg h1, if_neg h2, if_neg h3, if_neg h4, if_neg h5, if_neg h6, if_neg h7, if_neg h8, if_pos h9]; exact Evt.of fun _ => by decide +kernel
  by_cases h10 : a.toList = [75, 97, 110, 97]
  · simp only [if_neg h1, if_neg h2, if_neg h3, if_neg h4, if_neg h5, if_neg h6, if_neg h7, if_neg h8, if_neg h9, if_pos h10]; exact Evt.of fun _ => by decide +kernel
  by_cases h11 : a.toList = [69, 109, 111, 106, 105]
  · simp only [if_neg h1, if_neg h2, if_neg h3, if_neg h4, if_neg h5, if_neg h6, if_neg h7, if_neg h8, if_neg h9, if_neg h10, if_pos h11]; exact Evt.of fun _ => by decide +kernel
  · simp only [if_neg h1, if_neg h2, if_neg h3, if_neg h4, if_neg h5, if_neg h6, if_neg h7, if_neg h8, if_neg h9, if_neg h10, if_neg h11]; exact Evt.of fun _ => by decide +kernel
theorem tell_step (a : ByteArray) (F : Nat → Option Bool) (hF : Evt F true) : Evt (fun k => (props_Set.f a).bind fun b => ((hornbookref3_Prop.f k a).bind fun c => (if c.2 = true then (if b.2 = 0 then ((hornbookref3_Same.f k b.1 c.1).bind fun t => (if t = true then F k else (none))) else (none)) else (if b.2 = 0 then (none) else (if b.2 = 50 then ((hornbookref3_Same.f k b.1 c.1).bind fun t => (if t = true then F k else (none))) else (none)))))) true := by
  have hfew : (norm (namedL a.toList)).length < 4611686018427387904 := by
    have := namedL_few a.toList; have := norm_length (namedL a.toList); omega
  unfold props_Set.f
  simp only [Option.bind_some]
  refine (prop_ev a).bind ?_
  by_cases hn : namedL a.toList = []
  · simp only [hn, if_true, ne_eq, not_true, decide_false, Bool.false_eq_true, if_false, show ¬ ((50 : Int) = 0) by decide]
    refine ((RefSame_ev [] (norm []) (by decide)).cast (decide_eq_true rfl)).bind ?_
    simp only [if_true]; exact hF
  · simp only [if_neg hn, ne_eq, hn, not_false_eq_true, decide_true, if_true]
    refine ((RefSame_ev _ _ hfew).cast (decide_eq_true rfl)).bind ?_
    simp only [if_true]; exact hF
theorem tell_l3 (L : List ByteArray) (hL : L.length ≤ 11) : ∀ (d i : Nat), i + d = L.length → Evt (fun k => hornbooklaw5_PropsTell.l3 k L L (i : Int)) true
  | 0, i, h => by
    refine Evt.succ (fun k => hornbooklaw5_PropsTell.l3.eq_2 _ _ _ _) ?_
    simp only [if_neg (show ¬ ((i : Int) < (L.length : Int)) by omega)]
    exact Evt.pure _
  | d + 1, i, h => by
    have ih := tell_l3 L hL d (i + 1) (by omega)
    refine Evt.succ (fun k => hornbooklaw5_PropsTell.l3.eq_2 _ _ _ _) ?_
    simp only [if_pos (show (i : Int) < (L.length : Int) by omega), if_pos (Int.natCast_nonneg i), if_true, w64 ((i : Int) + 1) (by omega)]
    exact ih
theorem tell_l2 (r : Int) : ∀ (d i : Nat), i + d = 11 → Evt (fun k => hornbooklaw5_PropsTell.l2 k r namesL ((namesL.take i).filter (hasName r)) (i : Int)) true
  | 0, i, h => by
    obtain rfl : i = 11 := by omega
    refine Evt.succ (fun k => hornbooklaw5_PropsTell.l2.eq_2 _ _ _ _ _) ?_
    simp only [if_neg (show ¬ (((11 : Nat) : Int) < (namesL.length : Int)) by decide)]
    rw [show namesL.take 11 = namesL from rfl, show props_Of.f r = some (namesL.filter (hasName r)) from rfl]
    simp only [Option.bind_some, if_true]
    exact tell_l3 (namesL.filter (hasName r)) (List.length_filter_le _ _) (namesL.filter (hasName r)).length 0 (Nat.zero_add _)
  | d + 1, i, h => by
    have hi : i < 11 := by omega
    have ih := tell_l2 r d (i + 1) (by omega)
    have hfew : (norm (namedL (nm i).toList)).length < 4611686018427387904 := by
      have := namedL_few (nm i).toList; have := norm_length (namedL (nm i).toList); omega
    have hfs : (namesL.take (i + 1)).filter (hasName r) = (namesL.take i).filter (hasName r) ++ [nm i].filter (hasName r) := by
      rw [take_succ_nm i hi, List.filter_append]
    have hn11 : ((namesL.take i).filter (hasName r)).length ≤ 11 := by
      have := List.length_filter_le (hasName r) (namesL.take i); have : (namesL.take i).length ≤ 11 := by rw [List.length_take]; exact Nat.le_trans (Nat.min_le_right _ _) (by decide)
      omega
    have hhas : hasL (norm (namedL (nm i).toList)) r = hasName r (nm i) := by rw [norm_has]; rfl
    refine Evt.succ (fun k => hornbooklaw5_PropsTell.l2.eq_2 _ _ _ _ _) ?_
    simp only [if_pos (show (i : Int) < (namesL.length : Int) by show (i : Int) < 11; omega), if_pos (Int.natCast_nonneg i), rd_nm i hi, w64 ((i : Int) + 1) (by omega)]
    refine (prop_ev (nm i)).bind ?_
    refine ((RefHas_ev _ r hfew).cast hhas).bind ?_
    by_cases hp : hasName r (nm i) = true
    · rw [hfs, List.filter_cons, if_pos hp] at ih
      simp only [if_pos hp, if_pos (show ((namesL.take i).filter (hasName r)).length < 8796093022208 by omega)]
      simpa using ih
    · rw [hfs, List.filter_cons, if_neg hp] at ih
      simp only [if_neg hp]
      simpa using ih
theorem tell_l1 (r : Int) (a b : ByteArray) : Evt (fun k => hornbooklaw5_PropsTell.l1 k r namesL a b 0) true := by
  have h2 : Evt (fun k => hornbooklaw5_PropsTell.l1 k r namesL a b 2) true := by
    refine Evt.succ (fun k => hornbooklaw5_PropsTell.l1.eq_2 _ _ _ _ _ _) ?_
    simp only [show ¬ ((2 : Int) < 2) by decide, if_false]
    exact tell_l2 r 11 0 rfl
  have h1 : Evt (fun k => hornbooklaw5_PropsTell.l1 k r namesL a b 1) true := by
    refine Evt.succ (fun k => hornbooklaw5_PropsTell.l1.eq_2 _ _ _ _ _ _) ?_
    simp only [show (1 : Int) < 2 by decide, show ¬ ((1 : Int) = 0) by decide, if_true, if_false, w64 (1 + 1) (by decide)]
    exact tell_step b (fun k => hornbooklaw5_PropsTell.l1 k r namesL a b 2) h2
  refine Evt.succ (fun k => hornbooklaw5_PropsTell.l1.eq_2 _ _ _ _ _ _) ?_
  simp only [show (0 : Int) < 2 by decide, if_true, w64 (0 + 1) (by decide)]
  exact tell_step a (fun k => hornbooklaw5_PropsTell.l1 k r namesL a b 1) h1
theorem tell_l0 (name : ByteArray) (which r : Int) (h0 : 0 ≤ which) (h1 : which ≤ 255) : ∀ (d i : Nat), i + d = 11 → Evt (fun k => hornbooklaw5_PropsTell.l0 k name which r namesL namesL (i : Int)) true
  | 0, i, h => by
    obtain rfl : i = 11 := by omega
    refine Evt.succ (fun k => hornbooklaw5_PropsTell.l0.eq_2 _ _ _ _ _ _ _) ?_
    have e : Int.tmod which 11 = which % 11 := Int.tmod_eq_emod_of_nonneg h0
    simp only [show ((namesL.length : Nat) : Int) = 11 from rfl, if_neg (show ¬ (((11 : Nat) : Int) < 11) by decide), w64 which (by omega), e, show ¬ ((11 : Int) = 0) by decide, if_false, if_pos (show 0 ≤ which % 11 by omega), if_pos (show which % 11 < 11 by omega)]
    exact tell_l1 r name _
  | d + 1, i, h => by
    have ih := tell_l0 name which r h0 h1 d (i + 1) (by omega)
    refine Evt.succ (fun k => hornbooklaw5_PropsTell.l0.eq_2 _ _ _ _ _ _ _) ?_
    simp only [if_pos (show (i : Int) < (namesL.length : Int) by show (i : Int) < 11; omega), if_pos (Int.natCast_nonneg i), if_true, w64 ((i : Int) + 1) (by omega)]
    exact ih
theorem PropsTell : hornbooklaw5_PropsTell.Pure := by
  intro a0 a1 a2 ws w1 w2
  refine Evt.get (r := true) ?_
  unfold hornbooklaw5_PropsTell.f
  simp only [known_eq, Option.bind_some, if_true]
  rw [show props_Names.f = some namesL from rfl, show hornbookref3_Names.f = some namesL from rfl]
  simp only [Option.bind_some, if_true]
  have hw : 0 ≤ a1 ∧ a1 ≤ 255 := by simp [Lit.wf, IntKind.min, IntKind.max, IntKind.signed, IntKind.bits] at w1; omega
  exact tell_l0 a0 a1 a2 hw.1 hw.2 11 0 rfl
end Go.Proofs.Ytnfnnmmblommiaa.Pure
