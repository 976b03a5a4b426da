/- What the reference's sets tell of plain lists: the canonical list, by sorting and joining; complement, union, what both have, membership, count. -/
import Derived.Test.YtnfnnmmblommiaaSetEv
import Derived.Test.YtnfnnmmblommiaaPAx2
import Derived.Test.YtnfnnmmblommiaaPAx3
import Derived.Test.YtnfnnmmblommiaaPAx2
namespace Go.Proofs.Ytnfnnmmblommiaa.PA
open Go.RowKit Go.Proofs.YtnfnnmmblommiaaW.PrintWords Go.Proofs.YtnfnnmmblommiaaW.PrintLast Go.Proofs.YtnfnnmmblommiaaW.PrintMore
set_option linter.unusedVariables false
set_option linter.unusedSimpArgs false

theorem refgood_eq (x : Rg) : hornbookref3_good.f x.f0 x.f1 = some (good x) := by
  unfold hornbookref3_good.f good
  by_cases h1 : x.f0 ≥ 0
  · by_cases h2 : x.f1 ≤ 1114111
    · rw [if_pos h1, if_pos h2]; simp [h2, show 0 ≤ x.f0 from h1]
    · rw [if_pos h1, if_neg h2]; simp [h2]
  · rw [if_neg h1]; simp [show ¬ (0 ≤ x.f0) from h1]

/-! ### the reference's Of -/
theorem of_l0 (r : List Rg) : ∀ (suf pre acc : List Rg), (pre ++ suf).length < 4611686018427387904 → acc.length + suf.length < 17592186044416 → Evt (fun k => hornbookref3_Of.l1 k (acc ++ suf.filter good) 1) r → Evt (fun k => hornbookref3_Of.l0 k (pre ++ suf) acc (pre.length : Int)) r
  | [], pre, acc, hl, ha, h => by
    refine Evt.succ (fun k => hornbookref3_Of.l0.eq_2 _ _ _ _) ?_
    simp only [List.append_nil, Int.lt_irrefl, if_false]
    simpa using h
  | x :: xs, pre, acc, hl, ha, h => by
    have hl' : pre.length < 4611686018427387904 := by simp only [List.length_append] at hl; omega
    simp only [List.length_cons] at ha
    refine Evt.succ (fun k => hornbookref3_Of.l0.eq_2 _ _ _ _) ?_
    simp only [if_pos (len_mid pre x xs), if_pos (Int.natCast_nonneg pre.length), rd_mid, wrap_mid pre x hl', refgood_eq, Option.bind_some]
    by_cases hg : good x = true
    · have ih := of_l0 r xs (pre ++ [x]) (acc ++ [x]) (by simpa using hl) (by simp only [List.length_append, List.length_cons, List.length_nil]; omega) (by simpa [hg] using h)
      rw [List.append_assoc, List.singleton_append] at ih
      simp only [if_pos hg, if_pos (show acc.length < 17592186044416 by omega)]
      exact ih
    · have ih := of_l0 r xs (pre ++ [x]) acc (by simpa using hl) (by omega) (by simpa [hg] using h)
      rw [List.append_assoc, List.singleton_append] at ih
      simp only [if_neg hg]
      exact ih
def gt (d : List Rg) (p : Nat) : Int := (d.getD p z41).f0
theorem rd_gt (d : List Rg) (p : Nat) : (rd_T41 d (p : Int)).f0 = gt d p := rfl
def swp (d : List Rg) (j : Nat) : List Rg := (d.set (j + 1) (d.getD j z41)).set j (d.getD (j + 1) z41)
theorem swp_perm (d : List Rg) (j : Nat) (h : j + 1 < d.length) : (swp d j).Perm d := by
  have e := @List.set_set_perm _ d (j + 1) j h (by omega)
  unfold swp
  rw [List.getD_eq_getElem?_getD, List.getD_eq_getElem?_getD, List.getElem?_eq_getElem h, List.getElem?_eq_getElem (show j < d.length by omega)]
  exact e
theorem swp_gt (d : List Rg) (j p : Nat) (h : j + 1 < d.length) : gt (swp d j) p = if p = j then gt d (j + 1) else if p = j + 1 then gt d j else gt d p := by
  unfold gt swp
  simp only [List.getD_eq_getElem?_getD, List.getElem?_set, List.length_set]
  by_cases h1 : p = j
  · subst h1; simp [show p < d.length by omega]
  · by_cases h2 : p = j + 1
    · subst h2; simp [h]
    · rw [if_neg (fun e => h1 e.symm), if_neg (fun e => h2 e.symm), if_neg h1, if_neg h2]
theorem swp_length (d : List Rg) (j : Nat) : (swp d j).length = d.length := by simp [swp]
def SortedTo (d : List Rg) (i : Nat) : Prop := ∀ p q, p < q → q < i → gt d p ≤ gt d q
theorem of_l2 (r : List Rg) (i : Nat) : ∀ (j : Nat) (d : List Rg), j ≤ i → i < d.length → d.length < 4611686018427387904 →
    (∀ p q, p < q → q ≤ i → p ≠ j → q ≠ j → gt d p ≤ gt d q) → (∀ q, j < q → q ≤ i → gt d j ≤ gt d q) →
    (∀ d' : List Rg, d'.Perm d → SortedTo d' (i + 1) → Evt (fun k => hornbookref3_Of.l1 k d' ((i + 1 : Nat) : Int)) r) → Evt (fun k => hornbookref3_Of.l2 k d (i : Int) (j : Int)) r
  | 0, d, hj, hi, hl, h1, h2, hr => by
    refine Evt.succ (fun k => hornbookref3_Of.l2.eq_2 _ _ _ _) ?_
    simp only [if_neg (show ¬ (((0 : Nat) : Int) > 0) by omega), w64 ((i : Int) + 1) (by omega)]
    refine hr d (List.Perm.refl _) fun p q hpq hq => ?_
    by_cases hp0 : p = 0
    · subst hp0; exact h2 q hpq (by omega)
    · exact h1 p q hpq (by omega) hp0 (by omega)
  | j + 1, d, hj, hi, hl, h1, h2, hr => by
    refine Evt.succ (fun k => hornbookref3_Of.l2.eq_2 _ _ _ _) ?_
    have e1 : wrap64 (((j + 1 : Nat) : Int) - 1) = (j : Int) := by rw [w64 _ (by omega)]; omega
    simp only [e1, if_pos (show (((j + 1 : Nat) : Int)) > 0 by omega), if_pos (show (0 : Int) ≤ ((j + 1 : Nat) : Int) by omega), if_pos (show ((j + 1 : Nat) : Int) < (d.length : Int) by omega), if_pos (show (0 : Int) ≤ (j : Int) by omega), if_pos (show (j : Int) < (d.length : Int) by omega), rd_gt]
    by_cases hc : gt d (j + 1) < gt d j
    · have hs := swp_gt d j
      simp only [if_pos hc]
      refine of_l2 r i j (swp d j) (by omega) (by rw [swp_length]; exact hi) (by rw [swp_length]; exact hl) ?_ ?_ ?_
      · intro p q hpq hq hp hq'
        rw [hs p (by omega), hs q (by omega), if_neg hp, if_neg hq']
        by_cases a : p = j + 1
        · rw [if_pos a, if_neg (by omega)]; exact h1 j q (by omega) hq (by omega) (by omega)
        · rw [if_neg a]
          by_cases b : q = j + 1
          · rw [if_pos b]; exact h1 p j (by omega) (by omega) a (by omega)
          · rw [if_neg b]; exact h1 p q hpq hq a b
      · intro q hq1 hq2
        rw [hs j (by omega), hs q (by omega), if_pos rfl, if_neg (by omega)]
        by_cases b : q = j + 1
        · rw [if_pos b]; omega
        · rw [if_neg b]; exact h2 q (by omega) hq2
      · intro d' hp hs'
        exact hr d' (hp.trans (swp_perm d j (by omega))) hs'
    · simp only [if_neg hc, w64 ((i : Int) + 1) (by omega)]
      refine hr d (List.Perm.refl _) fun p q hpq hq => ?_
      by_cases a : p = j + 1
      · subst a; exact h2 q hpq (by omega)
      · by_cases b : q = j + 1
        · subst b
          by_cases c : p = j
          · subst c; omega
          · exact Int.le_trans (h1 p j (by omega) (by omega) a (by omega)) (by omega)
        · exact h1 p q hpq (by omega) a b
theorem of_l1 (r : List Rg) : ∀ (n i : Nat) (d : List Rg), d.length ≤ i + n → d.length < 4611686018427387904 → SortedTo d i →
    (∀ d' : List Rg, d'.Perm d → SortedTo d' d'.length → Evt (fun k => hornbookref3_Of.l3 k d' [] 0) r) → Evt (fun k => hornbookref3_Of.l1 k d (i : Int)) r
  | 0, i, d, hn, hl, hs, hr => by
    refine Evt.succ (fun k => hornbookref3_Of.l1.eq_2 _ _ _) ?_
    simp only [if_neg (show ¬ ((i : Int) < (d.length : Int)) by omega)]
    exact hr d (List.Perm.refl _) fun p q h1 h2 => hs p q h1 (by omega)
  | n + 1, i, d, hn, hl, hs, hr => by
    refine Evt.succ (fun k => hornbookref3_Of.l1.eq_2 _ _ _) ?_
    by_cases hi : (i : Int) < (d.length : Int)
    · simp only [if_pos hi]
      refine of_l2 r i i d (Nat.le_refl _) (by omega) hl (fun p q h1 h2 h3 h4 => hs p q h1 (by omega)) (fun q h1 h2 => by omega) fun d' hp hs' => ?_
      have hl' := hp.length_eq
      exact of_l1 r n (i + 1) d' (by omega) (by omega) hs' fun d'' hp' hs'' => hr d'' (hp'.trans hp) hs''
    · simp only [if_neg hi]
      exact hr d (List.Perm.refl _) fun p q h1 h2 => hs p q h1 (by omega)
theorem isF_snoc : ∀ (o : List Rg) (b : Int) (y x : Rg), IsF b (o ++ [y]) → y.f1 + 1 < x.f0 → x.f0 ≤ x.f1 → x.f1 ≤ 1114111 → IsF b (o ++ [y] ++ [x])
  | [], b, y, x, h, h1, h2, h3 => ⟨h.1, h.2.1, h.2.2.1, h1, h2, h3, trivial⟩
  | z :: o, b, y, x, h, h1, h2, h3 => ⟨h.1, h.2.1, h.2.2.1, isF_snoc o _ y x h.2.2.2 h1 h2 h3⟩
theorem isF_wide : ∀ (o : List Rg) (b : Int) (y : Rg) (z : Int), IsF b (o ++ [y]) → y.f1 ≤ z → z ≤ 1114111 → IsF b (o ++ [⟨y.f0, z⟩])
  | [], b, y, z, h, h1, h2 => ⟨h.1, by have := h.2.1; simp only []; omega, h2, trivial⟩
  | u :: o, b, y, z, h, h1, h2 => ⟨h.1, h.2.1, h.2.2.1, isF_wide o _ y z h.2.2.2 h1 h2⟩
theorem isF_last_good : ∀ (o : List Rg) (b : Int) (y : Rg), -1 ≤ b → IsF b (o ++ [y]) → good y = true := fun o b y hb h => h.good hb y (by simp)
theorem of_l3 : ∀ (suf pre out : List Rg), (pre ++ suf).length < 17592186044416 → out.length ≤ pre.length → (∀ x ∈ suf, good x = true) → suf.Pairwise (fun x y => x.f0 ≤ y.f0) → IsC out → (∀ y, out.getLast? = some y → ∀ z ∈ suf, y.f0 ≤ z.f0) →
    Evt (fun k => hornbookref3_Of.l3 k (pre ++ suf) out (pre.length : Int)) (norm (out ++ suf))
  | [], pre, out, hl, ho, _, _, hc, _ => by
    refine Evt.succ (fun k => hornbookref3_Of.l3.eq_2 _ _ _ _) ?_
    simp only [List.append_nil, Int.lt_irrefl, if_false, norm_norm hc]
    exact Evt.pure _
  | x :: xs, pre, out, hl, ho, hg, hs, hc, hlast => by
    have hpl : pre.length < 17592186044416 := by simp only [List.length_append] at hl; omega
    have hgx := hg x (List.mem_cons_self ..)
    have hb := good_iff.1 hgx
    have hgs : ∀ z ∈ xs, good z = true := fun z hz => hg z (List.mem_cons_of_mem _ hz)
    obtain ⟨hx1, hx2⟩ := List.pairwise_cons.1 hs
    refine Evt.succ (fun k => hornbookref3_Of.l3.eq_2 _ _ _ _) ?_
    simp only [if_pos (len_mid pre x xs), if_pos (Int.natCast_nonneg pre.length), rd_mid, wrap_mid pre x (by omega)]
    rcases List.eq_nil_or_concat out with rfl | ⟨o, y, rfl⟩
    · simp only [List.length_nil, if_neg (show ¬ (((0 : Nat) : Int) > 0) by omega), if_pos (show (0 : Nat) < 17592186044416 by omega), List.nil_append]
      have ih := of_l3 xs (pre ++ [x]) [x] (by simpa using hl) (by simp) hgs hx2 ⟨by omega, hb.2.1, hb.2.2, trivial⟩ (fun y hy z hz => by simp at hy; subst hy; exact hx1 z hz)
      rw [List.append_assoc, List.singleton_append] at ih
      exact ih
    · rw [List.concat_eq_append] at *
      have hy0 := hlast y (by simp)
      have hgy := isF_last_good o (-1) y (by omega) hc
      have hby := good_iff.1 hgy
      have hol : (o ++ [y]).length = o.length + 1 := by simp
      have e0 : wrap64 (((o ++ [y]).length : Int) - 1) = (o.length : Int) := by rw [hol, w64 _ (by omega)]; omega
      have e1 : rd_T41 (o ++ [y]) (o.length : Int) = y := rd_mid o y []
      have e2 : wrap32 (y.f1 + 1) = y.f1 + 1 := w32 _ (by omega)
      simp only [if_pos (show ((o ++ [y]).length : Int) > 0 by omega), e0, if_pos (show (0 : Int) ≤ (o.length : Int) by omega), if_pos (show (o.length : Int) < ((o ++ [y]).length : Int) by omega), e1, e2]
      by_cases hj : x.f0 ≤ y.f1 + 1
      · have e3 : (o ++ [y]).set ((o.length : Int).toNat) ⟨y.f0, mx y.f1 x.f1⟩ = o ++ [⟨y.f0, mx y.f1 x.f1⟩] := by simp
        have hm : mx y.f1 x.f1 = max y.f1 x.f1 := by unfold mx; split <;> omega
        have hw : IsC (o ++ [⟨y.f0, mx y.f1 x.f1⟩]) := isF_wide o (-1) y (mx y.f1 x.f1) hc (by rw [hm]; omega) (by rw [hm]; omega)
        simp only [if_pos hj, e3]
        have ih := of_l3 xs (pre ++ [x]) (o ++ [⟨y.f0, mx y.f1 x.f1⟩]) (by simpa using hl) (by simp; simp at ho; omega) hgs hx2 hw (fun y' hy' z hz => by simp at hy'; subst hy'; exact Int.le_trans (hy0 x (List.mem_cons_self ..)) (hx1 z hz))
        rw [List.append_assoc, List.singleton_append] at ih
        refine ih.cast (norm_eq fun q => ?_)
        have hyx := hy0 x (List.mem_cons_self ..)
        have hgm : good (⟨y.f0, max y.f1 x.f1⟩ : Rg) = true := good_iff.2 ⟨hby.1, by simp only []; omega, by simp only []; omega⟩
        simp only [hasL_append, hasL_cons, hasL_nil, hgy, hgx, hgm, hm, Bool.true_and, Bool.or_false]
        cases hasL o q <;> cases hasL xs q <;> simp
        rw [Bool.eq_iff_iff]; simp
        omega
      · simp only [if_neg hj, if_pos (show (o ++ [y]).length < 17592186044416 by simp only [List.length_append] at ho ⊢; omega)]
        have ih := of_l3 xs (pre ++ [x]) (o ++ [y] ++ [x]) (by simpa using hl) (by simp; simp at ho; omega) hgs hx2 (isF_snoc o _ y x hc (by omega) hb.2.1 hb.2.2) (fun y' hy' z hz => by simp at hy'; subst hy'; exact hx1 z hz)
        rw [List.append_assoc, List.singleton_append] at ih
        exact ih.cast (by simp)
theorem sorted_pw {d : List Rg} (h : SortedTo d d.length) : d.Pairwise (fun x y => x.f0 ≤ y.f0) := by
  rw [List.pairwise_iff_getElem]
  intro i j hi hj hij
  have := h i j hij hj
  simpa [gt, List.getD_eq_getElem?_getD, hi, hj] using this
theorem hasL_filter (l : List Rg) (r : Int) : hasL (l.filter good) r = hasL l r := by
  induction l with
  | nil => rfl
  | cons x xs ih =>
    rw [List.filter_cons]
    by_cases h : good x = true
    · rw [if_pos h, hasL_cons, hasL_cons, ih]
    · rw [if_neg h, hasL_cons, ih]; simp [h]
theorem hasL_perm {a b : List Rg} (h : a.Perm b) (r : Int) : hasL a r = hasL b r := by
  rw [Bool.eq_iff_iff, hasL_iff, hasL_iff]
  exact ⟨fun ⟨x, hx, hh⟩ => ⟨x, h.mem_iff.1 hx, hh⟩, fun ⟨x, hx, hh⟩ => ⟨x, h.mem_iff.2 hx, hh⟩⟩
theorem Of_ev (l : List Rg) (h : l.length < 17592186044416) : Evt (fun k => hornbookref3_Of.f k l) (norm l) := by
  unfold hornbookref3_Of.f
  refine of_l0 (norm l) l [] [] (by simp only [List.nil_append]; omega) (by simp only [List.length_nil]; omega) ?_
  have hf : (l.filter good).length ≤ l.length := List.length_filter_le _ _
  refine of_l1 (norm l) (l.filter good).length 1 (l.filter good) (by omega) (by omega) (fun p q h1 h2 => by omega) fun d hp hs => ?_
  have hdl := hp.length_eq
  refine (of_l3 d [] [] (by simp only [List.nil_append]; omega) (Nat.le_refl _) (fun x hx => (List.mem_filter.1 (hp.mem_iff.1 hx)).2) (sorted_pw hs) trivial (fun y hy => by cases hy)).cast ?_
  exact norm_eq fun r => by rw [List.nil_append, hasL_perm hp, hasL_filter]

/-! ### the rest -/
theorem refhas_l0 (r : Int) : ∀ (suf pre : List Rg), (pre ++ suf).length < 4611686018427387904 → Evt (fun k => hornbookref3_Has.l0 k (pre ++ suf) r (pre.length : Int)) (hasL suf r)
  | [], pre, hl => by
    refine Evt.succ (fun k => hornbookref3_Has.l0.eq_2 _ _ _ _) ?_
    simp only [List.append_nil, Int.lt_irrefl, if_false]
    exact Evt.pure _
  | x :: xs, pre, hl => by
    have hl' : pre.length < 4611686018427387904 := by simp only [List.length_append] at hl; omega
    have ih := refhas_l0 r xs (pre ++ [x]) (by simpa using hl)
    rw [List.append_assoc, List.singleton_append] at ih
    refine Evt.succ (fun k => hornbookref3_Has.l0.eq_2 _ _ _ _) ?_
    simp only [if_pos (len_mid pre x xs), if_pos (Int.natCast_nonneg pre.length), rd_mid, refgood_eq, Option.bind_some, wrap_mid pre x hl']
    rw [hasL_cons]
    by_cases hg : good x = true
    · by_cases h1 : x.f0 ≤ r
      · by_cases h2 : r ≤ x.f1
        · simp only [if_pos hg, if_pos h1, if_pos h2, hg, decide_eq_true h1, decide_eq_true h2, Bool.and_self, Bool.true_or]; exact Evt.pure _
        · simp only [if_pos hg, if_pos h1, if_neg h2, decide_eq_false h2, Bool.and_false, Bool.false_or]; exact ih
      · simp only [if_pos hg, if_neg h1, decide_eq_false h1, Bool.and_false, Bool.false_and, Bool.false_or]; exact ih
    · simp only [if_neg hg, Bool.eq_false_iff.2 hg, Bool.false_and, Bool.false_or]; exact ih
theorem RefHas_ev (l : List Rg) (r : Int) (h : l.length < 4611686018427387904) : Evt (fun k => hornbookref3_Has.f k l r) (hasL l r) := by
  have := refhas_l0 r l [] (by simpa using h)
  simpa [hornbookref3_Has.f] using this
end Go.Proofs.Ytnfnnmmblommiaa.PA
