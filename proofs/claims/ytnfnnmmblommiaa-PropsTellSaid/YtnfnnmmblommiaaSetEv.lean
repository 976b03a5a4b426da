/- What a printed function tells at last, given rounds enough; counting the code points of a canonical list; what uniset's printed functions tell of plain lists: complement, count, what both have, what one alone has, equality, the least. -/
import Derived.Test.YtnfnnmmblommiaaMath
import Derived.Test.YtnfnnmmblommiaaHSet
import Derived.Test.YtnfnnmmblommiaaHUnion
namespace Go.Proofs.Ytnfnnmmblommiaa.PA
open Go.RowKit Go.Proofs.YtnfnnmmblommiaaW.PrintWords Go.Proofs.YtnfnnmmblommiaaW.PrintLast Go.Proofs.YtnfnnmmblommiaaW.PrintMore
set_option linter.unusedVariables false
set_option linter.unusedSimpArgs false

instance : DecidableEq Rg := fun a b =>
  if h : a.f0 = b.f0 ∧ a.f1 = b.f1 then isTrue (by obtain ⟨x, y⟩ := a; obtain ⟨z, u⟩ := b; obtain ⟨h1, h2⟩ := h; simp only at h1 h2; rw [h1, h2]) else isFalse fun e => h (e ▸ ⟨rfl, rfl⟩)

/-- With rounds enough it tells r. -/
def Evt {α : Type} (f : Nat → Option α) (r : α) : Prop := ∃ K, ∀ k, K ≤ k → f k = some r
theorem Evt.of {α : Type} {f : Nat → Option α} {r : α} (h : ∀ k, f k = some r) : Evt f r := ⟨0, fun k _ => h k⟩
theorem Evt.pure {α : Type} (r : α) : Evt (fun _ => some r) r := ⟨0, fun _ _ => rfl⟩
theorem Evt.bind {α β : Type} {f : Nat → Option α} {g : Nat → α → Option β} {a : α} {b : β} (h : Evt f a) (k : Evt (fun n => g n a) b) : Evt (fun n => (f n).bind (g n)) b := by
  obtain ⟨K, h⟩ := h
  obtain ⟨L, k⟩ := k
  exact ⟨max K L, fun n hn => by show (f n).bind (g n) = some b; rw [h n (by omega)]; exact k n (by omega)⟩
theorem Evt.succ {α : Type} {f g : Nat → Option α} {r : α} (e : ∀ k, f (k + 1) = g k) (h : Evt g r) : Evt f r := by
  obtain ⟨K, h⟩ := h
  refine ⟨K + 1, fun k hk => ?_⟩
  obtain ⟨j, rfl⟩ : ∃ j, k = j + 1 := ⟨k - 1, by omega⟩
  rw [e, h j (by omega)]
theorem Evt.get {α : Type} {f : Nat → Option α} {r : α} (h : Evt f r) : ∃ k, f k = some r := by
  obtain ⟨K, h⟩ := h
  exact ⟨K, h K (Nat.le_refl _)⟩
theorem Evt.congr {α : Type} {f g : Nat → Option α} {r : α} (e : ∀ k, f k = g k) (h : Evt g r) : Evt f r := by
  obtain ⟨K, h⟩ := h
  exact ⟨K, fun k hk => by rw [e, h k hk]⟩
theorem Evt.cast {α : Type} {f : Nat → Option α} {r s : α} (h : Evt f r) (e : r = s) : Evt f s := e ▸ h

theorem rd_mid (pre : List Rg) (x : Rg) (suf : List Rg) : rd_T41 (pre ++ x :: suf) (pre.length : Int) = x := by
  unfold rd_T41
  simp [List.getD]
theorem len_mid (pre : List Rg) (x : Rg) (suf : List Rg) : ((pre.length : Int)) < ((pre ++ x :: suf).length : Int) := by
  simp only [List.length_append, List.length_cons]; omega
theorem wrap_mid (pre : List Rg) (x : Rg) (h : pre.length < 4611686018427387904) : wrap64 ((pre.length : Int) + 1) = ((pre ++ [x]).length : Int) := by
  simp only [List.length_append, List.length_cons, List.length_nil]; unfold wrap64; omega
theorem w64 (n : Int) (h : -9223372036854775808 ≤ n ∧ n ≤ 9223372036854775807) : wrap64 n = n := by unfold wrap64; omega
theorem w32 (n : Int) (h : -2147483648 ≤ n ∧ n ≤ 2147483647) : wrap32 n = n := by unfold wrap32; omega

/-- The complement's ranges, from the next code point on. -/
def compl : Int → List Rg → List Rg
  | n, [] => if n ≤ 1114111 then [⟨n, 1114111⟩] else []
  | n, x :: xs => if n < x.f0 then ⟨n, x.f0 - 1⟩ :: compl (x.f1 + 1) xs else compl (x.f1 + 1) xs
theorem compl_length : ∀ (l : List Rg) (n : Int), (compl n l).length ≤ l.length + 1
  | [], n => by unfold compl; split <;> simp
  | x :: xs, n => by
    have := compl_length xs (x.f1 + 1)
    unfold compl
    split <;> simp only [List.length_cons] <;> omega
theorem compl_isF : ∀ (l : List Rg) (n b : Int), IsF b l → -1 ≤ b → b ≤ n → n ≤ b + 1 → IsF (n - 1) (compl n l)
  | [], n, b, _, _, _, _ => by
    unfold compl
    split
    · exact ⟨by simp only []; omega, by assumption, by simp, trivial⟩
    · trivial
  | x :: xs, n, b, h, hb, h1, h2 => by
    obtain ⟨a1, a2, a3, a4⟩ := h
    have ih := compl_isF xs (x.f1 + 1) (x.f1 + 1) a4 (by omega) (by omega) (by omega)
    unfold compl
    split
    · exact ⟨by simp only []; omega, by simp only []; omega, by simp only []; omega, ih.mono (by simp only []; omega)⟩
    · exact ih.mono (by omega)
theorem compl_has : ∀ (l : List Rg) (n b : Int), IsF b l → -1 ≤ b → 0 ≤ n → b ≤ n → n ≤ b + 1 → ∀ r, hasL (compl n l) r = (decide (n ≤ r) && decide (r ≤ 1114111) && !hasL l r)
  | [], n, b, _, _, _, _, _, r => by
    unfold compl
    rw [Bool.eq_iff_iff]
    split
    · simp [hasL, good]; omega
    · simp [hasL]; omega
  | x :: xs, n, b, h, hb, h0, h1, h2, r => by
    obtain ⟨a1, a2, a3, a4⟩ := h
    have ih := compl_has xs (x.f1 + 1) (x.f1 + 1) a4 (by omega) (by omega) (by omega) (by omega) r
    have hab := IsF.above (b := x.f1 + 1) (by omega) a4 r
    have hx : (good x && decide (x.f0 ≤ r) && decide (r ≤ x.f1)) = decide (x.f0 ≤ r ∧ r ≤ x.f1) := by
      rw [good_iff.2 ⟨by omega, a2, a3⟩]; simp
    rw [hasL_cons, hx]
    unfold compl
    by_cases hq : hasL xs r = true
    · have := hab hq
      split
      · rw [hasL_cons, ih, hq, Bool.eq_iff_iff]; simp [good]; omega
      · rw [ih, hq, Bool.eq_iff_iff]; simp
    · have hq' : hasL xs r = false := by simpa using hq
      split
      · rw [hasL_cons, ih, hq', Bool.eq_iff_iff]; simp [good]; omega
      · rw [ih, hq', Bool.eq_iff_iff]; simp; omega

/-- How many code points. -/
def sumL : List Rg → Int
  | [] => 0
  | x :: xs => (x.f1 - x.f0 + 1) + sumL xs
def cntN : Nat → (Int → Bool) → Nat
  | 0, _ => 0
  | N + 1, p => cntN N p + (if p (N : Int) = true then 1 else 0)
theorem cntN_succ (N : Nat) (p : Int → Bool) : cntN (N + 1) p = cntN N p + (if p N = true then 1 else 0) := rfl
theorem cntN_or (N : Nat) (p q : Int → Bool) : cntN N (fun i => p i || q i) + cntN N (fun i => p i && q i) = cntN N p + cntN N q := by
  induction N with
  | zero => rfl
  | succ N ih =>
    simp only [cntN_succ]
    cases p N <;> cases q N <;> simp <;> omega
theorem cntN_congr {N : Nat} {p q : Int → Bool} (h : ∀ i : Int, p i = q i) : cntN N p = cntN N q := by
  rw [funext h]
theorem cntN_none (N : Nat) : cntN N (fun _ => false) = 0 := by
  induction N with
  | zero => rfl
  | succ N ih => rw [cntN_succ, ih]; rfl
theorem cntN_le (N : Nat) (p : Int → Bool) : cntN N p ≤ N := by
  induction N with
  | zero => exact Nat.le_refl _
  | succ N ih => rw [cntN_succ]; split <;> omega
theorem cntN_int : ∀ (N : Nat) (a b : Int), 0 ≤ a → a ≤ b + 1 → b < N → (cntN N (fun r => decide (a ≤ r ∧ r ≤ b)) : Int) = b + 1 - a := by
  have aux : ∀ (N : Nat) (a b : Int), 0 ≤ a → a ≤ b + 1 → (cntN N (fun r => decide (a ≤ r ∧ r ≤ b)) : Int) = if (N : Int) ≤ a then 0 else if (N : Int) ≤ b then N - a else b + 1 - a := by
    intro N a b h0 h1
    induction N with
    | zero => simp [cntN]; omega
    | succ N ih =>
      rw [cntN_succ]
      push_cast
      rw [ih]
      simp only [decide_eq_true_eq]
      split <;> split <;> (try split) <;> (try split) <;> (try split) <;> omega
  intro N a b h0 h1 h2
  rw [aux N a b h0 h1]
  split
  · omega
  · split <;> omega
theorem sumL_cnt : ∀ (l : List Rg) (b : Int), -1 ≤ b → IsF b l → sumL l = cntN 1114112 (hasL l)
  | [], _, _, _ => by unfold sumL; rw [show hasL [] = fun _ => false from rfl, cntN_none]; rfl
  | x :: xs, b, hb, h => by
    have h' := h
    obtain ⟨a1, a2, a3, a4⟩ := h
    have ih := sumL_cnt xs (x.f1 + 1) (by omega) a4
    have e : ∀ i, hasL (x :: xs) i = (decide (x.f0 ≤ i ∧ i ≤ x.f1) || hasL xs i) := by
      intro i
      rw [hasL_cons, good_iff.2 ⟨by omega, a2, a3⟩, Bool.eq_iff_iff]; simp
    have z : ∀ i, (decide (x.f0 ≤ i ∧ i ≤ x.f1) && hasL xs i) = false := by
      intro i
      by_cases hq : hasL xs i = true
      · have := IsF.above (b := x.f1 + 1) (by omega) a4 i hq
        rw [hq]; simp; omega
      · simp [hq]
    have c := cntN_or 1114112 (fun i => decide (x.f0 ≤ i ∧ i ≤ x.f1)) (hasL xs)
    rw [cntN_congr z, cntN_none, ← cntN_congr e] at c
    have d := cntN_int 1114112 x.f0 x.f1 (by omega) (by omega) (by omega)
    unfold sumL
    rw [ih]
    omega
theorem IsC.count {l : List Rg} (h : IsC l) : sumL l = cntN 1114112 (hasL l) := sumL_cnt l (-1) (by omega) h

theorem right_eq (x : Rg) : uniset_right.f x.f0 x.f1 = some (good x) := by
  unfold uniset_right.f good
  by_cases h1 : x.f0 ≥ 0
  · by_cases h2 : x.f0 ≤ x.f1
    · rw [if_pos h1, if_pos h2]; simp [h1, h2]
    · rw [if_pos h1, if_neg h2]; simp [h2]
  · rw [if_neg h1]; simp [show ¬ (0 ≤ x.f0) from h1]

/-- Is a list of ranges a set? (p: the range before.) -/
def isG : Option Rg → List Rg → Bool
  | _, [] => true
  | p, x :: xs => good x && (match p with | none => true | some y => decide (y.f1 + 1 < x.f0)) && isG (some x) xs
theorem IsF.isG : ∀ {l : List Rg} {b : Int} (p : Option Rg), (∀ y, p = some y → y.f1 + 1 ≤ b) → -1 ≤ b → IsF b l → isG p l = true
  | [], _, _, _, _, _ => rfl
  | x :: xs, b, p, hp, hb, h => by
    obtain ⟨a1, a2, a3, a4⟩ := h
    have ih := IsF.isG (some x) (fun y e => by cases e; exact Int.le_refl _) (by omega) a4
    have hg := good_iff.2 ⟨by omega, a2, a3⟩
    cases p with
    | none => simp [PA.isG, ih, hg]
    | some y => have := hp y rfl; simp [PA.isG, ih, hg]; omega
theorem IsC.isG {l : List Rg} (h : IsC l) : isG none l = true := IsF.isG none (fun _ e => by cases e) (by omega) h

theorem last_mid (pre : List Rg) (y x : Rg) (suf : List Rg) : rd_T41 ((pre ++ [y]) ++ x :: suf) (((pre ++ [y]).length : Int) - 1) = y := by
  have : ((pre ++ [y]).length : Int) - 1 = pre.length := by simp only [List.length_append, List.length_cons, List.length_nil]; omega
  rw [this, List.append_assoc, List.singleton_append]
  exact rd_mid pre y _

def notS (l : List Rg) : List Rg := compl 0 (norm l)
theorem notS_isC (l : List Rg) : IsC (notS l) := by
  have := compl_isF (norm l) 0 (-1) (norm_isC l) (by omega) (by omega) (by omega)
  exact this
theorem notS_has (l : List Rg) (r : Int) : hasL (notS l) r = (decide (0 ≤ r) && decide (r ≤ 1114111) && !hasL l r) := by
  unfold notS
  rw [compl_has (norm l) 0 (-1) (norm_isC l) (by omega) (by omega) (by omega) (by omega), norm_has]
theorem notS_length (l : List Rg) : (notS l).length ≤ l.length + 1 := by
  have := compl_length (norm l) 0; have := norm_length l; unfold notS; omega
theorem IsC.goods {l : List Rg} (h : IsC l) : ∀ x ∈ l, good x = true := IsF.good (by omega) h
def countS (l : List Rg) : Int := cntN 1114112 (hasL l)
theorem countS_le (l : List Rg) : 0 ≤ countS l ∧ countS l ≤ 1114112 := by
  have := cntN_le 1114112 (hasL l); unfold countS; omega
theorem sum_norm (l : List Rg) : sumL (norm l) = countS l := by
  rw [(norm_isC l).count, countS, cntN_congr (norm_has l)]
theorem countS_of {l : List Rg} (h : IsC l) : countS l = sumL l := h.count.symm
theorem Union_eq {a b : List Rg} (h : a.length + b.length < 1099511627776) : uniset_Union.f a b = some (norm (a ++ b)) := by
  unfold uniset_Union.f; rw [if_pos h]
theorem union_length (a b : List Rg) : (norm (a ++ b)).length ≤ a.length + b.length := by
  have := norm_length (a ++ b); simpa using this
/-- What both have. -/
def interS (a b : List Rg) : List Rg := notS (norm (notS a ++ notS b))
theorem interS_isC (a b : List Rg) : IsC (interS a b) := notS_isC _
theorem interS_has (a b : List Rg) (r : Int) : hasL (interS a b) r = (hasL a r && hasL b r) := by
  unfold interS
  rw [notS_has, norm_has, hasL_append, notS_has, notS_has, Bool.eq_iff_iff]
  have := @hasL_range a r
  cases h1 : hasL a r <;> cases h2 : hasL b r <;> simp <;> (try (have := this h1; omega))
theorem interS_length (a b : List Rg) : (interS a b).length ≤ a.length + b.length + 3 := by
  have := notS_length (norm (notS a ++ notS b)); have := union_length (notS a) (notS b); have := notS_length a; have := notS_length b; unfold interS; omega
def minusS (a b : List Rg) : List Rg := interS a (notS b)
theorem minusS_isC (a b : List Rg) : IsC (minusS a b) := notS_isC _
theorem minusS_has (a b : List Rg) (r : Int) : hasL (minusS a b) r = (hasL a r && !hasL b r) := by
  unfold minusS
  rw [interS_has, notS_has]
  have := @hasL_range a r
  cases h1 : hasL a r <;> cases h2 : hasL b r <;> simp <;> (try (have := this h1; omega))
theorem minusS_length (a b : List Rg) : (minusS a b).length ≤ a.length + b.length + 4 := by
  have := interS_length a (notS b); have := notS_length b; unfold minusS; omega
/-- The first code point. -/
def leastS (l : List Rg) : Int × Bool := match norm l with | [] => (0, false) | x :: _ => (x.f0, true)
end Go.Proofs.Ytnfnnmmblommiaa.PA
