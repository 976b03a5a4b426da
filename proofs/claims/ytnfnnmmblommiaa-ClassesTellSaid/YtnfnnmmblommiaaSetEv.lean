/- What a printed function tells at last, given rounds enough; counting the code points of a canonical list; what uniset's printed functions tell of plain lists: complement, count, what both have, what one alone has, equality, the least. -/
import Derived.Test.YtnfnnmmblommiaaMath
import Derived.Test.YtnfnnmmblommiaaEv
import Derived.Test.YtnfnnmmblommiaaHSet
import Derived.Test.YtnfnnmmblommiaaHUnion
import Derived.Test.YtnfnnmmblommiaaPAx5
import Derived.Test.YtnfnnmmblommiaaPAx7
import Derived.Test.YtnfnnmmblommiaaPAx7
import Derived.Test.YtnfnnmmblommiaaPAx7
namespace Go.Proofs.Ytnfnnmmblommiaa.PA
open Go.RowKit Go.Proofs.YtnfnnmmblommiaaW.PrintWords Go.Proofs.YtnfnnmmblommiaaW.PrintLast Go.Proofs.YtnfnnmmblommiaaW.PrintMore
set_option linter.unusedVariables false
set_option linter.unusedSimpArgs false

instance : DecidableEq Rg := fun a b =>
  if h : a.f0 = b.f0 ∧ a.f1 = b.f1 then isTrue (by obtain ⟨x, y⟩ := a; obtain ⟨z, u⟩ := b; obtain ⟨h1, h2⟩ := h; simp only at h1 h2; rw [h1, h2]) else isFalse fun e => h (e ▸ ⟨rfl, rfl⟩)


theorem rd_mid (pre : List Rg) (x : Rg) (suf : List Rg) : rd_T41 (pre ++ x :: suf) (pre.length : Int) = x := by
  unfold rd_T41
  simp [List.getD]
theorem len_mid (pre : List Rg) (x : Rg) (suf : List Rg) : ((pre.length : Int)) < ((pre ++ x :: suf).length : Int) := by
  simp only [List.length_append, List.length_cons]; omega
theorem wrap_mid (pre : List Rg) (x : Rg) (h : pre.length < 4611686018427387904) : wrap64 ((pre.length : Int) + 1) = ((pre ++ [x]).length : Int) := by
  simp only [List.length_append, List.length_cons, List.length_nil]; unfold wrap64; omega
theorem w64 (n : Int) (h : -9223372036854775808 ≤ n ∧ n ≤ 9223372036854775807) : wrap64 n = n := by unfold wrap64; omega
theorem w32 (n : Int) (h : -2147483648 ≤ n ∧ n ≤ 2147483647) : wrap32 n = n := by unfold wrap32; omega

/-- The complement's ranges, from the next code point on. -/
def compl : Int → List Rg → List Rg
  | n, [] => if n ≤ 1114111 then [⟨n, 1114111⟩] else []
  | n, x :: xs => if n < x.f0 then ⟨n, x.f0 - 1⟩ :: compl (x.f1 + 1) xs else compl (x.f1 + 1) xs
theorem compl_length : ∀ (l : List Rg) (n : Int), (compl n l).length ≤ l.length + 1
  | [], n => by unfold compl; split <;> simp
  | x :: xs, n => by
    have := compl_length xs (x.f1 + 1)
    unfold compl
    split <;> simp only [List.length_cons] <;> omega
theorem compl_isF : ∀ (l : List Rg) (n b : Int), IsF b l → -1 ≤ b → b ≤ n → n ≤ b + 1 → IsF (n - 1) (compl n l)
  | [], n, b, _, _, _, _ => by
    unfold compl
    split
    · exact ⟨by simp only []; omega, by assumption, by simp, trivial⟩
    · trivial
  | x :: xs, n, b, h, hb, h1, h2 => by
    obtain ⟨a1, a2, a3, a4⟩ := h
    have ih := compl_isF xs (x.f1 + 1) (x.f1 + 1) a4 (by omega) (by omega) (by omega)
    unfold compl
    split
    · exact ⟨by simp only []; omega, by simp only []; omega, by simp only []; omega, ih.mono (by simp only []; omega)⟩
    · exact ih.mono (by omega)
theorem compl_has : ∀ (l : List Rg) (n b : Int), IsF b l → -1 ≤ b → 0 ≤ n → b ≤ n → n ≤ b + 1 → ∀ r, hasL (compl n l) r = (decide (n ≤ r) && decide (r ≤ 1114111) && !hasL l r)
  | [], n, b, _, _, _, _, _, r => by
    unfold compl
    rw [Bool.eq_iff_iff]
    split
    · simp [hasL, good]; omega
    · simp [hasL]; omega
  | x :: xs, n, b, h, hb, h0, h1, h2, r => by
    obtain ⟨a1, a2, a3, a4⟩ := h
    have ih := compl_has xs (x.f1 + 1) (x.f1 + 1) a4 (by omega) (by omega) (by omega) (by omega) r
    have hab := IsF.above (b := x.f1 + 1) (by omega) a4 r
    have hx : (good x && decide (x.f0 ≤ r) && decide (r ≤ x.f1)) = decide (x.f0 ≤ r ∧ r ≤ x.f1) := by
      rw [good_iff.2 ⟨by omega, a2, a3⟩]; simp
    rw [hasL_cons, hx]
    unfold compl
    by_cases hq : hasL xs r = true
    · have := hab hq
      split
      · rw [hasL_cons, ih, hq, Bool.eq_iff_iff]; simp [good]; omega
      · rw [ih, hq, Bool.eq_iff_iff]; simp
    · have hq' : hasL xs r = false := by simpa using hq
      split
      · rw [hasL_cons, ih, hq', Bool.eq_iff_iff]; simp [good]; omega
      · rw [ih, hq', Bool.eq_iff_iff]; simp; omega

/-- How many code points. -/
def sumL : List Rg → Int
  | [] => 0
  | x :: xs => (x.f1 - x.f0 + 1) + sumL xs
def cntN : Nat → (Int → Bool) → Nat
  | 0, _ => 0
  | N + 1, p => cntN N p + (if p (N : Int) = true then 1 else 0)
theorem cntN_succ (N : Nat) (p : Int → Bool) : cntN (N + 1) p = cntN N p + (if p N = true then 1 else 0) := rfl
theorem cntN_or (N : Nat) (p q : Int → Bool) : cntN N (fun i => p i || q i) + cntN N (fun i => p i && q i) = cntN N p + cntN N q := by
  induction N with
  | zero => rfl
  | succ N ih =>
    simp only [cntN_succ]
    cases p N <;> cases q N <;> simp <;> omega
theorem cntN_congr {N : Nat} {p q : Int → Bool} (h : ∀ i : Int, p i = q i) : cntN N p = cntN N q := by
  rw [funext h]
theorem cntN_none (N : Nat) : cntN N (fun _ => false) = 0 := by
  induction N with
  | zero => rfl
  | succ N ih => rw [cntN_succ, ih]; rfl
theorem cntN_le (N : Nat) (p : Int → Bool) : cntN N p ≤ N := by
  induction N with
  | zero => exact Nat.le_refl _
  | succ N ih => rw [cntN_succ]; split <;> omega
theorem cntN_int : ∀ (N : Nat) (a b : Int), 0 ≤ a → a ≤ b + 1 → b < N → (cntN N (fun r => decide (a ≤ r ∧ r ≤ b)) : Int) = b + 1 - a := by
  have aux : ∀ (N : Nat) (a b : Int), 0 ≤ a → a ≤ b + 1 → (cntN N (fun r => decide (a ≤ r ∧ r ≤ b)) : Int) = if (N : Int) ≤ a then 0 else if (N : Int) ≤ b then N - a else b + 1 - a := by
    intro N a b h0 h1
    induction N with
    | zero => simp [cntN]; omega
    | succ N ih =>
      rw [cntN_succ]
      push_cast
      rw [ih]
      simp only [decide_eq_true_eq]
      split <;> split <;> (try split) <;> (try split) <;> (try split) <;> omega
  intro N a b h0 h1 h2
  rw [aux N a b h0 h1]
  split
  · omega
  · split <;> omega
theorem sumL_cnt : ∀ (l : List Rg) (b : Int), -1 ≤ b → IsF b l → sumL l = cntN 1114112 (hasL l)
  | [], _, _, _ => by unfold sumL; rw [show hasL [] = fun _ => false from rfl, cntN_none]; rfl
  | x :: xs, b, hb, h => by
    have h' := h
    obtain ⟨a1, a2, a3, a4⟩ := h
    have ih := sumL_cnt xs (x.f1 + 1) (by omega) a4
    have e : ∀ i, hasL (x :: xs) i = (decide (x.f0 ≤ i ∧ i ≤ x.f1) || hasL xs i) := by
      intro i
      rw [hasL_cons, good_iff.2 ⟨by omega, a2, a3⟩, Bool.eq_iff_iff]; simp
    have z : ∀ i, (decide (x.f0 ≤ i ∧ i ≤ x.f1) && hasL xs i) = false := by
      intro i
      by_cases hq : hasL xs i = true
      · have := IsF.above (b := x.f1 + 1) (by omega) a4 i hq
        rw [hq]; simp; omega
      · simp [hq]
    have c := cntN_or 1114112 (fun i => decide (x.f0 ≤ i ∧ i ≤ x.f1)) (hasL xs)
    rw [cntN_congr z, cntN_none, ← cntN_congr e] at c
    have d := cntN_int 1114112 x.f0 x.f1 (by omega) (by omega) (by omega)
    unfold sumL
    rw [ih]
    omega
theorem IsC.count {l : List Rg} (h : IsC l) : sumL l = cntN 1114112 (hasL l) := sumL_cnt l (-1) (by omega) h

theorem right_eq (x : Rg) : uniset_right.f x.f0 x.f1 = some (good x) := by
  unfold uniset_right.f good
  by_cases h1 : x.f0 ≥ 0
  · by_cases h2 : x.f0 ≤ x.f1
    · rw [if_pos h1, if_pos h2]; simp [h1, h2]
    · rw [if_pos h1, if_neg h2]; simp [h2]
  · rw [if_neg h1]; simp [show ¬ (0 ≤ x.f0) from h1]

/-- Is a list of ranges a set? (p: the range before.) -/
def isG : Option Rg → List Rg → Bool
  | _, [] => true
  | p, x :: xs => good x && (match p with | none => true | some y => decide (y.f1 + 1 < x.f0)) && isG (some x) xs
theorem IsF.isG : ∀ {l : List Rg} {b : Int} (p : Option Rg), (∀ y, p = some y → y.f1 + 1 ≤ b) → -1 ≤ b → IsF b l → isG p l = true
  | [], _, _, _, _, _ => rfl
  | x :: xs, b, p, hp, hb, h => by
    obtain ⟨a1, a2, a3, a4⟩ := h
    have ih := IsF.isG (some x) (fun y e => by cases e; exact Int.le_refl _) (by omega) a4
    have hg := good_iff.2 ⟨by omega, a2, a3⟩
    cases p with
    | none => simp [PA.isG, ih, hg]
    | some y => have := hp y rfl; simp [PA.isG, ih, hg]; omega
theorem IsC.isG {l : List Rg} (h : IsC l) : isG none l = true := IsF.isG none (fun _ e => by cases e) (by omega) h

theorem last_mid (pre : List Rg) (y x : Rg) (suf : List Rg) : rd_T41 ((pre ++ [y]) ++ x :: suf) (((pre ++ [y]).length : Int) - 1) = y := by
  have : ((pre ++ [y]).length : Int) - 1 = pre.length := by simp only [List.length_append, List.length_cons, List.length_nil]; omega
  rw [this, List.append_assoc, List.singleton_append]
  exact rd_mid pre y _

theorem is_l0 : ∀ (suf pre : List Rg), (pre ++ suf).length < 4611686018427387904 → Evt (fun k => uniset_Is.l0 k (pre ++ suf) (pre ++ suf) ((pre ++ suf).length : Int) (pre.length : Int)) (isG pre.getLast? suf)
  | [], pre, hl => by
    refine Evt.succ (fun k => uniset_Is.l0.eq_2 _ _ _ _ _) ?_
    simp only [List.append_nil, Int.lt_irrefl, if_false]
    exact Evt.pure _
  | x :: xs, pre, hl => by
    have hl' : pre.length < 4611686018427387904 := by simp only [List.length_append] at hl; omega
    have ih := is_l0 xs (pre ++ [x]) (by simpa using hl)
    rw [List.append_assoc, List.singleton_append, List.getLast?_concat] at ih
    refine Evt.succ (fun k => uniset_Is.l0.eq_2 _ _ _ _ _) ?_
    simp only [if_pos (len_mid pre x xs), if_pos (Int.natCast_nonneg pre.length), rd_mid, right_eq, Option.bind_some, wrap_mid pre x hl']
    unfold isG
    by_cases hg : good x = true
    · have hb := good_iff.1 hg
      simp only [hg, if_true, Bool.true_and]
      rcases List.eq_nil_or_concat pre with rfl | ⟨pre', y, rfl⟩
      · simpa using ih
      · rw [List.concat_eq_append] at *
        have h0 : ((pre' ++ [y]).length : Int) > 0 := by simp only [List.length_append, List.length_cons, List.length_nil]; omega
        have hw : wrap64 (((pre' ++ [y]).length : Int) - 1) = ((pre' ++ [y]).length : Int) - 1 := w64 _ (by omega)
        have h1 : (0 : Int) ≤ ((pre' ++ [y]).length : Int) - 1 := by omega
        have h2 : ((pre' ++ [y]).length : Int) - 1 < (((pre' ++ [y]) ++ x :: xs).length : Int) := by simp only [List.length_append]; omega
        simp only [if_pos h0, hw, if_pos h1, if_pos h2, last_mid, w32 (x.f0 - 1) (by omega), List.getLast?_concat]
        by_cases hc : x.f0 - 1 ≤ y.f1
        · rw [decide_eq_false (show ¬ (y.f1 + 1 < x.f0) by omega)]
          simp only [if_pos hc, Bool.false_and]
          exact Evt.pure _
        · rw [decide_eq_true (show (y.f1 + 1 < x.f0) by omega)]
          simp only [if_neg hc, Bool.true_and]
          exact ih
    · have hg' : good x = false := by simpa using hg
      simp only [hg', Bool.false_eq_true, if_false, Bool.false_and]
      exact Evt.pure _
theorem Is_ev (l : List Rg) (h : l.length < 4611686018427387904) : Evt (fun k => uniset_Is.f k l) (isG none l) := by
  have := is_l0 l [] (by simpa using h)
  simpa [uniset_Is.f] using this
def notS (l : List Rg) : List Rg := compl 0 (norm l)
theorem notS_isC (l : List Rg) : IsC (notS l) := by
  have := compl_isF (norm l) 0 (-1) (norm_isC l) (by omega) (by omega) (by omega)
  exact this
theorem notS_has (l : List Rg) (r : Int) : hasL (notS l) r = (decide (0 ≤ r) && decide (r ≤ 1114111) && !hasL l r) := by
  unfold notS
  rw [compl_has (norm l) 0 (-1) (norm_isC l) (by omega) (by omega) (by omega) (by omega), norm_has]
theorem notS_length (l : List Rg) : (notS l).length ≤ l.length + 1 := by
  have := compl_length (norm l) 0; have := norm_length l; unfold notS; omega
theorem IsC.goods {l : List Rg} (h : IsC l) : ∀ x ∈ l, good x = true := IsF.good (by omega) h
theorem count_l0 : ∀ (suf pre : List Rg) (acc : Int), (pre ++ suf).length < 1000000000 → (∀ x ∈ suf, good x = true) → 0 ≤ acc → acc + 1114112 * suf.length < 4611686018427387904 → Evt (fun k => uniset_Count.l0 k acc (pre ++ suf) ((pre ++ suf).length : Int) (pre.length : Int)) (acc + sumL suf)
  | [], pre, acc, hl, _, _, _ => by
    refine Evt.succ (fun k => uniset_Count.l0.eq_2 _ _ _ _ _) ?_
    simp only [List.append_nil, Int.lt_irrefl, if_false, sumL, Int.add_zero]
    exact Evt.pure _
  | x :: xs, pre, acc, hl, hg, h0, ha => by
    have hl' : pre.length < 4611686018427387904 := by simp only [List.length_append] at hl; omega
    have hb := good_iff.1 (hg x (List.mem_cons_self ..))
    simp only [List.length_cons] at ha
    have e : wrap64 (acc + wrap64 (wrap64 (wrap32 (x.f1 - x.f0)) + 1)) = acc + (x.f1 - x.f0 + 1) := by
      rw [w32 (x.f1 - x.f0) (by omega), w64 (x.f1 - x.f0) (by omega), w64 (x.f1 - x.f0 + 1) (by omega), w64 _ (by omega)]
    have ih := count_l0 xs (pre ++ [x]) (acc + (x.f1 - x.f0 + 1)) (by simpa using hl) (fun y hy => hg y (List.mem_cons_of_mem _ hy)) (by omega) (by omega)
    rw [List.append_assoc, List.singleton_append] at ih
    refine Evt.succ (fun k => uniset_Count.l0.eq_2 _ _ _ _ _) ?_
    simp only [if_pos (len_mid pre x xs), if_pos (Int.natCast_nonneg pre.length), rd_mid, wrap_mid pre x hl', e]
    rw [show acc + sumL (x :: xs) = acc + (x.f1 - x.f0 + 1) + sumL xs by rw [sumL]; omega]
    exact ih
def countS (l : List Rg) : Int := cntN 1114112 (hasL l)
theorem countS_le (l : List Rg) : 0 ≤ countS l ∧ countS l ≤ 1114112 := by
  have := cntN_le 1114112 (hasL l); unfold countS; omega
theorem sum_norm (l : List Rg) : sumL (norm l) = countS l := by
  rw [(norm_isC l).count, countS, cntN_congr (norm_has l)]
theorem countS_of {l : List Rg} (h : IsC l) : countS l = sumL l := h.count.symm
theorem Count_ev (l : List Rg) (h : l.length < 1000000000) : Evt (fun k => uniset_Count.f k l) (countS l) := by
  have hn := norm_length l
  have := count_l0 (norm l) [] 0 (by simp only [List.nil_append]; omega) (norm_isC l).goods (by omega) (by omega)
  unfold uniset_Count.f uniset_set.f
  simp only [if_pos (show l.length < 1099511627776 by omega), Option.bind_some]
  simpa [sum_norm] using this

theorem same_l0 : ∀ (suf suf' pre : List Rg), (pre ++ suf).length < 4611686018427387904 → suf.length = suf'.length → Evt (fun k => api_Range_47.l0 k (pre ++ suf) (pre ++ suf') ((pre ++ suf).length : Int) (pre.length : Int)) (decide (suf = suf')) := by
  intro suf
  suffices H : ∀ (suf suf' pre pre' : List Rg), pre.length = pre'.length → (pre ++ suf).length < 4611686018427387904 → suf.length = suf'.length → Evt (fun k => api_Range_47.l0 k (pre ++ suf) (pre' ++ suf') ((pre ++ suf).length : Int) (pre.length : Int)) (decide (suf = suf')) from fun suf' pre h1 h2 => H suf suf' pre pre rfl h1 h2
  clear suf
  intro suf
  induction suf with
  | nil =>
    intro suf' pre pre' hp hl he
    obtain rfl : suf' = [] := List.length_eq_zero_iff.1 he.symm
    refine Evt.succ (fun k => api_Range_47.l0.eq_2 _ _ _ _ _) ?_
    simp only [List.append_nil, Int.lt_irrefl, if_false]
    exact Evt.pure _
  | cons x xs ih =>
    intro suf' pre pre' hp hl he
    obtain ⟨y, ys, rfl⟩ : ∃ y ys, suf' = y :: ys := by cases suf' with | nil => simp at he | cons y ys => exact ⟨y, ys, rfl⟩
    have hl' : pre.length < 4611686018427387904 := by simp only [List.length_append] at hl; omega
    have ih' := ih ys (pre ++ [x]) (pre' ++ [y]) (by simp [hp]) (by simpa using hl) (by simpa using he)
    rw [List.append_assoc, List.append_assoc, List.singleton_append, List.singleton_append] at ih'
    have hm := len_mid pre' y ys
    have r2 := rd_mid pre' y ys
    rw [← hp] at hm r2
    refine Evt.succ (fun k => api_Range_47.l0.eq_2 _ _ _ _ _) ?_
    simp only [if_pos (len_mid pre x xs), if_pos (Int.natCast_nonneg pre.length), if_pos hm, rd_mid, r2, wrap_mid pre x hl']
    obtain ⟨x0, x1⟩ := x
    obtain ⟨y0, y1⟩ := y
    by_cases hxy : x0 = y0 ∧ x1 = y1
    · obtain ⟨rfl, rfl⟩ := hxy
      simpa using ih'
    · have hb : (!(x0 == y0) || !(x1 == y1)) = true := by
        rw [Bool.or_eq_true]; by_cases q : x0 = y0
        · right; have : ¬ x1 = y1 := fun e => hxy ⟨q, e⟩; simp [this]
        · left; simp [q]
      have hd : decide ((⟨x0, x1⟩ : Rg) :: xs = ⟨y0, y1⟩ :: ys) = false := by
        rw [decide_eq_false_iff_not]; intro e; injection e with e _; injection e with e1 e2; exact hxy ⟨e1, e2⟩
      simp only [hb, if_true, hd]
      exact Evt.pure _
theorem Eq_ev (a b : List Rg) (h : a.length < 4611686018427387904) : Evt (fun k => api_Range_47.f k a b) (decide (a = b)) := by
  unfold api_Range_47.f
  by_cases he : a.length = b.length
  · simp only [if_pos (show (a.length : Int) = (b.length : Int) by omega)]
    exact same_l0 a b [] h he
  · simp only [if_neg (show ¬ (a.length : Int) = (b.length : Int) by omega)]
    rw [decide_eq_false (fun e => he (by rw [e]))]
    exact Evt.pure _
theorem Same_ev (a b : List Rg) (h : a.length < 1000000000) (k : b.length < 1000000000) : Evt (fun k => uniset_Same.f k a b) (decide (norm a = norm b)) := by
  unfold uniset_Same.f uniset_set.f
  simp only [if_pos (show a.length < 1099511627776 by omega), if_pos (show b.length < 1099511627776 by omega), Option.bind_some]
  refine (Eq_ev (norm a) (norm b) (by have := norm_length a; omega)).bind ?_
  exact Evt.pure _
theorem Union_eq {a b : List Rg} (h : a.length + b.length < 1099511627776) : uniset_Union.f a b = some (norm (a ++ b)) := by
  unfold uniset_Union.f; rw [if_pos h]
theorem union_length (a b : List Rg) : (norm (a ++ b)).length ≤ a.length + b.length := by
  have := norm_length (a ++ b); simpa using this
/-- What both have. -/
def interS (a b : List Rg) : List Rg := notS (norm (notS a ++ notS b))
theorem interS_isC (a b : List Rg) : IsC (interS a b) := notS_isC _
theorem interS_has (a b : List Rg) (r : Int) : hasL (interS a b) r = (hasL a r && hasL b r) := by
  unfold interS
  rw [notS_has, norm_has, hasL_append, notS_has, notS_has, Bool.eq_iff_iff]
  have := @hasL_range a r
  cases h1 : hasL a r <;> cases h2 : hasL b r <;> simp <;> (try (have := this h1; omega))
theorem interS_length (a b : List Rg) : (interS a b).length ≤ a.length + b.length + 3 := by
  have := notS_length (norm (notS a ++ notS b)); have := union_length (notS a) (notS b); have := notS_length a; have := notS_length b; unfold interS; omega
def minusS (a b : List Rg) : List Rg := interS a (notS b)
theorem minusS_isC (a b : List Rg) : IsC (minusS a b) := notS_isC _
theorem minusS_has (a b : List Rg) (r : Int) : hasL (minusS a b) r = (hasL a r && !hasL b r) := by
  unfold minusS
  rw [interS_has, notS_has]
  have := @hasL_range a r
  cases h1 : hasL a r <;> cases h2 : hasL b r <;> simp <;> (try (have := this h1; omega))
theorem minusS_length (a b : List Rg) : (minusS a b).length ≤ a.length + b.length + 4 := by
  have := interS_length a (notS b); have := notS_length b; unfold minusS; omega
/-- The first code point. -/
def leastS (l : List Rg) : Int × Bool := match norm l with | [] => (0, false) | x :: _ => (x.f0, true)
theorem Least_eq (l : List Rg) (h : l.length < 1000000000) : uniset_Least.f l = some (leastS l) := by
  unfold uniset_Least.f uniset_set.f leastS
  simp only [if_pos (show l.length < 1099511627776 by omega), Option.bind_some]
  cases hn : norm l with
  | nil => simp
  | cons x xs =>
    have h1 : ¬ (((x :: xs).length : Int) = 0) := by simp only [List.length_cons]; omega
    have h2 : 0 < ((x :: xs).length : Int) := by simp only [List.length_cons]; omega
    simp only [if_neg h1, if_pos h2]
    rfl
end Go.Proofs.Ytnfnnmmblommiaa.PA
