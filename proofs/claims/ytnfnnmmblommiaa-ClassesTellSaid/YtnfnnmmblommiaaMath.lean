/- Sets of code points, in plain lists: the canonical list of a list of ranges; it is told by its members. -/
import Derived.Test.YtnfnnmmblommiaaPAx0
namespace Go.Proofs.Ytnfnnmmblommiaa.PA
open Go.RowKit
set_option linter.unusedVariables false
set_option linter.unusedSimpArgs false

abbrev Rg := S41
/-- Is a range one? -/
def good (x : Rg) : Bool := decide (0 ≤ x.f0) && decide (x.f0 ≤ x.f1) && decide (x.f1 ≤ 1114111)
theorem good_iff {x : Rg} : good x = true ↔ 0 ≤ x.f0 ∧ x.f0 ≤ x.f1 ∧ x.f1 ≤ 1114111 := by
  unfold good; simp [and_assoc]
/-- Is a code point in a list of ranges? -/
def hasL (l : List Rg) (r : Int) : Bool := l.any fun x => good x && decide (x.f0 ≤ r) && decide (r ≤ x.f1)
/-- Sorted, apart, each one good; every range begins behind b. -/
def IsF : Int → List Rg → Prop
  | _, [] => True
  | b, x :: xs => b < x.f0 ∧ x.f0 ≤ x.f1 ∧ x.f1 ≤ 1114111 ∧ IsF (x.f1 + 1) xs
def IsC (l : List Rg) : Prop := IsF (-1) l
theorem IsF.mono {b c : Int} {l : List Rg} (h : IsF b l) (hc : c ≤ b) : IsF c l := by
  cases l with
  | nil => trivial
  | cons x xs => exact ⟨by have := h.1; omega, h.2⟩
theorem hasL_nil (r : Int) : hasL [] r = false := rfl
theorem hasL_cons (x : Rg) (l : List Rg) (r : Int) : hasL (x :: l) r = ((good x && decide (x.f0 ≤ r) && decide (r ≤ x.f1)) || hasL l r) := by
  simp [hasL]
theorem hasL_append (a b : List Rg) (r : Int) : hasL (a ++ b) r = (hasL a r || hasL b r) := by simp [hasL]
theorem hasL_iff {l : List Rg} {r : Int} : hasL l r = true ↔ ∃ x ∈ l, good x = true ∧ x.f0 ≤ r ∧ r ≤ x.f1 := by
  simp [hasL, and_assoc]
theorem hasL_range {l : List Rg} {r : Int} (h : hasL l r = true) : 0 ≤ r ∧ r ≤ 1114111 := by
  obtain ⟨x, _, hg, h1, h2⟩ := hasL_iff.1 h
  have := good_iff.1 hg
  omega
theorem IsF.good {b : Int} (hb : -1 ≤ b) : ∀ {l : List Rg}, IsF b l → ∀ x ∈ l, good x = true
  | [], _, _, h => by cases h
  | y :: ys, h, x, hx => by
    obtain ⟨h1, h2, h3, h4⟩ := h
    rcases List.mem_cons.1 hx with rfl | hx
    · exact good_iff.2 ⟨by omega, h2, h3⟩
    · exact IsF.good (by omega) h4 x hx
theorem IsF.above {b : Int} (hb : -1 ≤ b) : ∀ {l : List Rg}, IsF b l → ∀ r, hasL l r = true → b < r
  | [], _, r, h => by simp [hasL_nil] at h
  | y :: ys, h, r, hr => by
    obtain ⟨h1, h2, h3, h4⟩ := h
    rw [hasL_cons] at hr
    rcases Bool.or_eq_true _ _ ▸ hr with hr | hr
    · simp at hr; omega
    · have := IsF.above (by omega) h4 r hr; omega
theorem has_head {b : Int} (hb : -1 ≤ b) {x : Rg} {xs : List Rg} (h : IsF b (x :: xs)) (r : Int) (h1 : x.f0 ≤ r) (h2 : r ≤ x.f1) : hasL (x :: xs) r = true := by
  rw [hasL_cons]
  have hg : good x = true := IsF.good hb h x (List.mem_cons_self ..)
  simp [hg, h1, h2]
theorem has_head_iff {b : Int} (hb : -1 ≤ b) {x : Rg} {xs : List Rg} (h : IsF b (x :: xs)) (r : Int) : hasL (x :: xs) r = true ↔ (x.f0 ≤ r ∧ r ≤ x.f1) ∨ hasL xs r = true := by
  rw [hasL_cons]
  have hg : good x = true := IsF.good hb h x (List.mem_cons_self ..)
  simp [hg]
/-- A canonical list is told by its members. -/
theorem IsF.unique : ∀ (a b : List Rg) (c d : Int), -1 ≤ c → -1 ≤ d → IsF c a → IsF d b → (∀ r, hasL a r = hasL b r) → a = b
  | [], [], _, _, _, _, _, _, _ => rfl
  | [], y :: ys, c, d, hc, hd, ha, hb, h => by
    have := has_head hd hb y.f0 (by omega) hb.2.1
    rw [← h, hasL_nil] at this; cases this
  | x :: xs, [], c, d, hc, hd, ha, hb, h => by
    have := has_head hc ha x.f0 (by omega) ha.2.1
    rw [h, hasL_nil] at this; cases this
  | x :: xs, y :: ys, c, d, hc, hd, ha, hb, h => by
    obtain ⟨a1, a2, a3, a4⟩ := id ha
    obtain ⟨b1, b2, b3, b4⟩ := id hb
    have A := has_head_iff hc ha
    have B := has_head_iff hd hb
    have xa := IsF.above (b := x.f1 + 1) (by omega) a4
    have ya := IsF.above (b := y.f1 + 1) (by omega) b4
    have h0 : x.f0 = y.f0 := by
      have p := (A x.f0).2 (.inl ⟨by omega, a2⟩); rw [h] at p
      have q := (B y.f0).2 (.inl ⟨by omega, b2⟩); rw [← h] at q
      rcases (B _).1 p with p | p
      · rcases (A _).1 q with q | q
        · omega
        · have := xa _ q; omega
      · have p' := ya _ p
        rcases (A _).1 q with q | q
        · omega
        · have := xa _ q; omega
    have h1 : x.f1 = y.f1 := by
      rcases Int.lt_trichotomy x.f1 y.f1 with hl | hl | hl
      · exfalso
        have q := (B (x.f1 + 1)).2 (.inl ⟨by omega, by omega⟩); rw [← h] at q
        rcases (A _).1 q with q | q
        · omega
        · have := xa _ q; omega
      · exact hl
      · exfalso
        have q := (A (y.f1 + 1)).2 (.inl ⟨by omega, by omega⟩); rw [h] at q
        rcases (B _).1 q with q | q
        · omega
        · have := ya _ q; omega
    have he : x = y := by cases x; cases y; simp_all
    subst he
    congr 1
    refine IsF.unique xs ys (x.f1 + 1) (x.f1 + 1) (by omega) (by omega) a4 b4 fun r => ?_
    have := h r
    rw [hasL_cons, hasL_cons] at this
    cases hx : hasL xs r <;> cases hy : hasL ys r
    · rfl
    · have k := ya _ hy; simp [hx, hy] at this; omega
    · have k := xa _ hx; simp [hx, hy] at this; omega
    · rfl
theorem IsC.unique {a b : List Rg} (ha : IsC a) (hb : IsC b) (h : ∀ r, hasL a r = hasL b r) : a = b := IsF.unique a b (-1) (-1) (by omega) (by omega) ha hb h

/-- One range put into a canonical list. -/
def ins (x : Rg) : List Rg → List Rg
  | [] => [x]
  | y :: ys => if x.f1 + 1 < y.f0 then x :: y :: ys else if y.f1 + 1 < x.f0 then y :: ins x ys else ins ⟨min x.f0 y.f0, max x.f1 y.f1⟩ ys
theorem ins_isF : ∀ (l : List Rg) (x : Rg) (b : Int), IsF b l → b < x.f0 → x.f0 ≤ x.f1 → x.f1 ≤ 1114111 → IsF b (ins x l)
  | [], x, b, _, h1, h2, h3 => ⟨h1, h2, h3, trivial⟩
  | y :: ys, x, b, h, h1, h2, h3 => by
    obtain ⟨a1, a2, a3, a4⟩ := h
    unfold ins
    split
    · exact ⟨h1, h2, h3, by omega, a2, a3, a4⟩
    · split
      · exact ⟨a1, a2, a3, ins_isF ys x _ a4 (by omega) h2 h3⟩
      · refine ins_isF ys _ _ (a4.mono (by omega)) ?_ ?_ ?_ <;> simp <;> omega
theorem ins_has : ∀ (l : List Rg) (x : Rg) (b : Int), -1 ≤ b → IsF b l → b < x.f0 → x.f0 ≤ x.f1 → x.f1 ≤ 1114111 → ∀ r, hasL (ins x l) r = true ↔ (x.f0 ≤ r ∧ r ≤ x.f1) ∨ hasL l r = true
  | [], x, b, hb, _, h1, h2, h3, r => by
    have hg : good x = true := good_iff.2 ⟨by omega, h2, h3⟩
    simp [ins, hasL, hg]
  | y :: ys, x, b, hb, h, h1, h2, h3, r => by
    obtain ⟨a1, a2, a3, a4⟩ := id h
    have hg : good x = true := good_iff.2 ⟨by omega, h2, h3⟩
    unfold ins
    split
    · rw [hasL_cons]; simp [hg]
    · split
      · have ih := ins_has ys x (y.f1 + 1) (by omega) a4 (by omega) h2 h3 r
        rw [has_head_iff hb h, hasL_cons]
        have hgy : good y = true := good_iff.2 ⟨by omega, a2, a3⟩
        simp only [hgy, Bool.true_and, Bool.or_eq_true, Bool.and_eq_true, decide_eq_true_eq, ih]
        constructor
        · rintro (h | h | h)
          · exact .inr (.inl h)
          · exact .inl h
          · exact .inr (.inr h)
        · rintro (h | h | h)
          · exact .inr (.inl h)
          · exact .inl h
          · exact .inr (.inr h)
      · have ih := ins_has ys ⟨min x.f0 y.f0, max x.f1 y.f1⟩ b hb (a4.mono (by omega)) (by simp; omega) (by simp; omega) (by simp; omega) r
        rw [ih, has_head_iff hb h]
        constructor
        · rintro (h | h)
          · simp at h
            by_cases k : x.f0 ≤ r ∧ r ≤ x.f1
            · exact .inl k
            · exact .inr (.inl (by omega))
          · exact .inr (.inr h)
        · rintro (h | h | h)
          · exact .inl (by simp; omega)
          · exact .inl (by simp; omega)
          · exact .inr h
theorem ins_length (x : Rg) : ∀ l : List Rg, ∀ x, (ins x l).length ≤ l.length + 1
  | [], x => by simp [ins]
  | y :: ys, x => by
    unfold ins
    split
    · simp
    · split
      · have := ins_length x ys x; simp; omega
      · have := ins_length x ys ⟨min x.f0 y.f0, max x.f1 y.f1⟩; simp; omega
/-- The canonical list of those ranges that are some. -/
def norm : List Rg → List Rg
  | [] => []
  | x :: xs => if good x then ins x (norm xs) else norm xs
theorem norm_isC : ∀ l, IsC (norm l)
  | [] => trivial
  | x :: xs => by
    unfold norm
    split
    · rename_i hg
      have := good_iff.1 hg
      exact ins_isF _ x _ (norm_isC xs) (by omega) this.2.1 this.2.2
    · exact norm_isC xs
theorem norm_has : ∀ l r, hasL (norm l) r = hasL l r
  | [], r => rfl
  | x :: xs, r => by
    unfold norm
    have ih := norm_has xs r
    split
    · rename_i hg
      have hx := good_iff.1 hg
      have := ins_has _ x (-1) (by omega) (norm_isC xs) (by omega) hx.2.1 hx.2.2 r
      rw [Bool.eq_iff_iff, this, hasL_cons, ih]
      simp [hg]
    · rename_i hg
      rw [hasL_cons, ih]
      simp at hg
      simp [hg]
theorem norm_length : ∀ l, (norm l).length ≤ l.length
  | [] => by simp [norm]
  | x :: xs => by
    unfold norm
    have ih := norm_length xs
    split
    · have := ins_length x (norm xs) x; simp; omega
    · simp; omega
theorem norm_of {l c : List Rg} (hc : IsC c) (h : ∀ r, hasL c r = hasL l r) : norm l = c := IsC.unique (norm_isC l) hc fun r => by rw [norm_has, h]
theorem norm_norm {l : List Rg} (h : IsC l) : norm l = l := norm_of h fun _ => rfl
theorem norm_eq {a b : List Rg} (h : ∀ r, hasL a r = hasL b r) : norm a = norm b := IsC.unique (norm_isC a) (norm_isC b) fun r => by rw [norm_has, norm_has, h]
end Go.Proofs.Ytnfnnmmblommiaa.PA
