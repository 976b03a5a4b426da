/- Spans in the order of their beginnings, joined: the canonical list. -/
import Derived.Test.YtnfnnmmblommiaaMath
import Derived.Test.YtnfnnmmblommiaaHSorted
namespace Go.Proofs.Ytnfnnmmblommiaa.PA
open Go.RowKit
set_option linter.unusedVariables false
set_option linter.unusedSimpArgs false

/-- What is told of a span and those behind it. -/
def eat (s : Sp) : List Sp → List Sp
  | [] => [s]
  | y :: ys => if y.f0 ≤ s.f1 then eat ⟨s.f0, max s.f1 y.f1⟩ ys else s :: eat y ys
def joinL : List Sp → List Sp
  | [] => []
  | s :: r => eat s r
def toRg (x : Sp) : Rg := ⟨x.f0, x.f1 - 1⟩
theorem eat_length : ∀ (r : List Sp) (s : Sp), (eat s r).length ≤ r.length + 1
  | [], s => by simp [eat]
  | y :: ys, s => by
    unfold eat
    split
    · have := eat_length ys ⟨s.f0, max s.f1 y.f1⟩; simp; omega
    · have := eat_length ys y; simp; omega
theorem joinL_length (l : List Sp) : (joinL l).length ≤ l.length := by
  cases l with
  | nil => simp [joinL]
  | cons s r => exact eat_length r s
def okSp (x : Sp) : Prop := 0 ≤ x.f0 ∧ x.f0 < x.f1 ∧ x.f1 ≤ 1114112
theorem toRg_good {x : Sp} (h : okSp x) : good (toRg x) = true := by
  unfold okSp at h
  exact good_iff.2 ⟨h.1, by simp [toRg]; omega, by simp [toRg]; omega⟩
theorem toRg_in {s : Sp} (h : okSp s) (q : Int) : (good (toRg s) && decide ((toRg s).f0 ≤ q) && decide (q ≤ (toRg s).f1)) = decide (s.f0 ≤ q ∧ q < s.f1) := by
  rw [toRg_good h, Bool.true_and]
  show (decide (s.f0 ≤ q) && decide (q ≤ s.f1 - 1)) = decide (s.f0 ≤ q ∧ q < s.f1)
  have e : decide (q ≤ s.f1 - 1) = decide (q < s.f1) := by
    by_cases k : q < s.f1
    · rw [decide_eq_true k, decide_eq_true (show q ≤ s.f1 - 1 by omega)]
    · rw [decide_eq_false k, decide_eq_false (show ¬ q ≤ s.f1 - 1 by omega)]
  rw [e, Bool.decide_and]
theorem eat_ok : ∀ (r : List Sp) (s : Sp), okSp s → (∀ y ∈ r, s.f0 ≤ y.f0 ∧ okSp y) → r.Pairwise (fun x y => x.f0 ≤ y.f0) → ∀ x ∈ eat s r, okSp x
  | [], s, hs, _, _, x, hx => by simp [eat] at hx; exact hx ▸ hs
  | y :: ys, s, hs, hr, hp, x, hx => by
    have hy := hr y (List.mem_cons_self ..)
    unfold eat at hx
    split at hx
    · refine eat_ok ys ⟨s.f0, max s.f1 y.f1⟩ ?_ (fun z hz => ⟨(hr z (List.mem_cons_of_mem _ hz)).1, (hr z (List.mem_cons_of_mem _ hz)).2⟩) (List.Pairwise.of_cons hp) x hx
      unfold okSp at *; dsimp only; omega
    · rcases List.mem_cons.1 hx with rfl | hx
      · exact hs
      · exact eat_ok ys y hy.2 (fun z hz => ⟨List.rel_of_pairwise_cons hp hz, (hr z (List.mem_cons_of_mem _ hz)).2⟩) (List.Pairwise.of_cons hp) x hx
theorem eat_isF : ∀ (r : List Sp) (s : Sp) (b : Int), b < s.f0 → okSp s → (∀ y ∈ r, s.f0 ≤ y.f0 ∧ okSp y) → r.Pairwise (fun x y => x.f0 ≤ y.f0) → IsF b ((eat s r).map toRg)
  | [], s, b, hb, hs, _, _ => by
    unfold okSp at hs
    exact ⟨hb, by simp [toRg]; omega, by simp [toRg]; omega, trivial⟩
  | y :: ys, s, b, hb, hs, hr, hp => by
    have hy := hr y (List.mem_cons_self ..)
    unfold eat
    split
    · refine eat_isF ys ⟨s.f0, max s.f1 y.f1⟩ b hb ?_ (fun z hz => ⟨(hr z (List.mem_cons_of_mem _ hz)).1, (hr z (List.mem_cons_of_mem _ hz)).2⟩) (List.Pairwise.of_cons hp)
      unfold okSp at *; dsimp only; omega
    · rename_i hgt
      unfold okSp at hs
      refine ⟨hb, by simp [toRg]; omega, by simp [toRg]; omega, ?_⟩
      exact eat_isF ys y _ (by simp [toRg]; omega) hy.2 (fun z hz => ⟨List.rel_of_pairwise_cons hp hz, (hr z (List.mem_cons_of_mem _ hz)).2⟩) (List.Pairwise.of_cons hp)
theorem eat_has : ∀ (r : List Sp) (s : Sp), okSp s → (∀ y ∈ r, s.f0 ≤ y.f0 ∧ okSp y) → r.Pairwise (fun x y => x.f0 ≤ y.f0) → ∀ q, hasL ((eat s r).map toRg) q = true ↔ (s.f0 ≤ q ∧ q < s.f1) ∨ ∃ y ∈ r, y.f0 ≤ q ∧ q < y.f1
  | [], s, hs, _, _, q => by
    simp only [eat, List.map_cons, List.map_nil, hasL_cons, hasL_nil, Bool.or_false, toRg_in hs]
    simp
  | y :: ys, s, hs, hr, hp, q => by
    have hy := hr y (List.mem_cons_self ..)
    unfold eat
    split
    · rename_i hle
      rw [eat_has ys ⟨s.f0, max s.f1 y.f1⟩ (by unfold okSp at *; dsimp only; omega) (fun z hz => ⟨(hr z (List.mem_cons_of_mem _ hz)).1, (hr z (List.mem_cons_of_mem _ hz)).2⟩) (List.Pairwise.of_cons hp) q]
      simp only [List.mem_cons, exists_eq_or_imp]
      constructor
      · rintro (h | h)
        · by_cases k : q < s.f1
          · exact .inl ⟨h.1, k⟩
          · exact .inr (.inl ⟨by omega, by omega⟩)
        · exact .inr (.inr h)
      · rintro (h | h | h)
        · exact .inl ⟨h.1, by omega⟩
        · exact .inl ⟨by omega, by omega⟩
        · exact .inr h
    · rw [List.map_cons, hasL_cons, toRg_in hs]
      have ih := eat_has ys y hy.2 (fun z hz => ⟨List.rel_of_pairwise_cons hp hz, (hr z (List.mem_cons_of_mem _ hz)).2⟩) (List.Pairwise.of_cons hp) q
      simp only [List.mem_cons, exists_eq_or_imp, Bool.or_eq_true, ih, decide_eq_true_eq]
theorem spans_ok {l : List Rg} {x : Sp} (h : x ∈ spans l) : okSp x := by
  unfold spans at h
  obtain ⟨y, hy, rfl⟩ := List.mem_map.1 h
  have := good_iff.1 (List.mem_filter.1 hy).2
  unfold okSp
  simp; omega
theorem spans_has (l : List Rg) (q : Int) : (∃ y ∈ spans l, y.f0 ≤ q ∧ q < y.f1) ↔ hasL l q = true := by
  rw [hasL_iff]
  constructor
  · rintro ⟨y, hy, h⟩
    obtain ⟨z, hz, rfl⟩ := List.mem_map.1 hy
    simp at h
    exact ⟨z, (List.mem_filter.1 hz).1, (List.mem_filter.1 hz).2, h.1, by omega⟩
  · rintro ⟨z, hz, hg, h⟩
    exact ⟨⟨z.f0, z.f1 + 1⟩, List.mem_map.2 ⟨z, List.mem_filter.2 ⟨hz, hg⟩, rfl⟩, h.1, by simp; omega⟩
theorem join_norm (l : List Rg) (d : List Sp) (hd : d.Perm (spans l)) (hs : d.Pairwise (fun x y => x.f0 ≤ y.f0)) : (joinL d).map toRg = norm l := by
  symm
  have hok : ∀ x ∈ d, okSp x := fun x hx => spans_ok (hd.mem_iff.1 hx)
  have hm : ∀ q, (∃ y ∈ d, y.f0 ≤ q ∧ q < y.f1) ↔ hasL l q = true := fun q => by
    rw [← spans_has]
    constructor
    · rintro ⟨y, hy, h⟩; exact ⟨y, hd.mem_iff.1 hy, h⟩
    · rintro ⟨y, hy, h⟩; exact ⟨y, hd.mem_iff.2 hy, h⟩
  cases d with
  | nil =>
    refine norm_of trivial fun r => ?_
    rw [show hasL ((joinL []).map toRg) r = false from rfl]
    cases h : hasL l r
    · rfl
    · have := (hm r).2 h; simp at this
  | cons s r =>
    have h0 := hok s (List.mem_cons_self ..)
    have h1 : ∀ y ∈ r, s.f0 ≤ y.f0 ∧ okSp y := fun y hy => ⟨List.rel_of_pairwise_cons hs hy, hok y (List.mem_cons_of_mem _ hy)⟩
    have h2 := List.Pairwise.of_cons hs
    refine norm_of (eat_isF r s (-1) (by have := h0.1; omega) h0 h1 h2) fun q => ?_
    rw [Bool.eq_iff_iff, ← hm q, joinL, eat_has r s h0 h1 h2 q]
    simp
end Go.Proofs.Ytnfnnmmblommiaa.PA
