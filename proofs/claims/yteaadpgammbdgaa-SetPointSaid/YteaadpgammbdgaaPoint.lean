/- The plain law of SetPoint: a canonical list's ranges are as many as the code points at which a run begins. -/
import Derived.Test.YteaadpgammbdgaaKnown
namespace Go.Proofs.Yteaadpgammbdgaa.PA
open Go.RowKit
set_option linter.unusedVariables false
set_option linter.unusedSimpArgs false

theorem cntN_one (N : Nat) (a : Int) (h0 : 0 ≤ a) (h1 : a < N) : cntN N (fun r => decide (r = a)) = 1 := by
  have e : ∀ i : Int, decide (i = a) = decide (a ≤ i ∧ i ≤ a) := fun i => by
    rw [Bool.eq_iff_iff]; simp; omega
  have := cntN_int N a a h0 (by omega) h1
  rw [← cntN_congr e] at this
  omega
theorem len_runs (N : Nat) : ∀ (l : List Rg) (b : Int), -1 ≤ b → IsF b l → (∀ x ∈ l, x.f1 < N) → cntN N (fun i => hasL l i && !hasL l (i - 1)) = l.length
  | [], _, _, _, _ => by simpa [hasL_nil] using cntN_none N
  | x :: xs, b, hb, h, hN => by
    obtain ⟨a1, a2, a3, a4⟩ := id h
    have hx := hN x (List.mem_cons_self ..)
    have ih := len_runs N xs (x.f1 + 1) (by omega) a4 (fun y hy => hN y (List.mem_cons_of_mem _ hy))
    have hc : ∀ i, hasL (x :: xs) i = (decide (x.f0 ≤ i ∧ i ≤ x.f1) || hasL xs i) := fun i => by
      rw [hasL_cons, good_iff.2 ⟨by omega, a2, a3⟩, Bool.eq_iff_iff]; simp
    have hab : ∀ i, hasL xs i = true → x.f1 + 1 < i := fun i hi => IsF.above (b := x.f1 + 1) (by omega) a4 i hi
    have e : ∀ i, (hasL (x :: xs) i && !hasL (x :: xs) (i - 1)) = (decide (i = x.f0) || (hasL xs i && !hasL xs (i - 1))) := fun i => by
      rw [hc, hc]
      have h1 := hab i
      have h2 := hab (i - 1)
      cases q1 : hasL xs i
      · cases q2 : hasL xs (i - 1)
        · rw [Bool.eq_iff_iff]; simp; omega
        · have := h2 q2
          rw [Bool.eq_iff_iff]; simp; omega
      · have := h1 q1
        cases q2 : hasL xs (i - 1)
        · rw [Bool.eq_iff_iff]; simp; omega
        · have := h2 q2
          rw [Bool.eq_iff_iff]; simp; omega
    have z : ∀ i, (decide (i = x.f0) && (hasL xs i && !hasL xs (i - 1))) = false := fun i => by
      cases q1 : hasL xs i
      · simp
      · have := hab i q1
        have : ¬ i = x.f0 := by omega
        simp [this]
    have c := cntN_or N (fun i => decide (i = x.f0)) (fun i => hasL xs i && !hasL xs (i - 1))
    rw [cntN_congr z, cntN_none, ← cntN_congr e, cntN_one N x.f0 (by omega) (by omega), ih] at c
    simp only [List.length_cons]
    omega
theorem IsF.f1_lt {N : Int} : ∀ {l : List Rg} {b : Int}, -1 ≤ b → IsF b l → (∀ r, hasL l r = true → r < N) → ∀ x ∈ l, x.f1 < N
  | y :: ys, b, hb, h, hr, x, hx => by
    obtain ⟨a1, a2, a3, a4⟩ := id h
    rcases List.mem_cons.1 hx with rfl | hx
    · exact hr _ (has_head hb h _ a2 (Int.le_refl _))
    · exact IsF.f1_lt (b := y.f1 + 1) (by omega) a4 (fun r h' => hr r (by rw [hasL_cons, h', Bool.or_true])) x hx
theorem IsF.few {N : Int} : ∀ {l : List Rg} {b : Int}, IsF b l → (∀ x ∈ l, x.f1 < N) → l ≠ [] → b + 2 * l.length ≤ N
  | [y], b, h, hN, _ => by have := hN y (by simp); have := h.1; have := h.2.1; simp only [List.length_cons, List.length_nil]; omega
  | y :: z :: ys, b, h, hN, _ => by
    have ih := IsF.few (N := N) h.2.2.2 (fun x hx => hN x (List.mem_cons_of_mem _ hx)) (by simp)
    have := h.1; have := h.2.1
    simp only [List.length_cons] at ih ⊢
    omega

/-- Single code points, as ranges. -/
def pts (zs : List Int) : List Rg := zs.map fun z => ⟨z, z⟩
def inF (zs : List Int) (r : Int) : Bool := decide (r ∈ zs)
def runF (zs : List Int) (i : Int) : Bool := inF zs i && !inF zs (i - 1)
theorem pts_good {zs : List Int} (hz : ∀ z ∈ zs, 0 ≤ z ∧ z < 256) : ∀ x ∈ pts zs, good x = true := fun x hx => by
  obtain ⟨z, h, rfl⟩ := List.mem_map.1 hx
  have := hz z h
  exact good_iff.2 ⟨by simp only []; omega, by simp only []; omega, by simp only []; omega⟩
theorem pts_has : ∀ {zs : List Int}, (∀ z ∈ zs, 0 ≤ z ∧ z < 256) → ∀ r, hasL (pts zs) r = inF zs r
  | [], _, r => rfl
  | z :: zs, hz, r => by
    have h0 := hz z (List.mem_cons_self ..)
    have e : pts (z :: zs) = ⟨z, z⟩ :: pts zs := rfl
    rw [e, hasL_cons, pts_has (fun y hy => hz y (List.mem_cons_of_mem _ hy)) r, good_iff.2 ⟨by simp only []; omega, by simp only []; omega, by simp only []; omega⟩]
    unfold inF
    rw [Bool.eq_iff_iff]
    simp only [Bool.or_eq_true, Bool.and_eq_true, decide_eq_true_eq, Bool.true_and, List.mem_cons]
    constructor
    · rintro (⟨h1, h2⟩ | h)
      · exact .inl (by omega)
      · exact .inr h
    · rintro (h | h)
      · exact .inl ⟨by omega, by omega⟩
      · exact .inr h
theorem inF_small {zs : List Int} (hz : ∀ z ∈ zs, 0 ≤ z ∧ z < 256) {r : Int} (h : r < 0 ∨ 256 ≤ r) : inF zs r = false := by
  unfold inF
  rw [decide_eq_false_iff_not]
  intro hm
  have := hz r hm
  omega
theorem cntN_cut (N : Nat) (p : Int → Bool) (h : ∀ i : Int, N ≤ i → p i = false) : ∀ d, cntN (N + d) p = cntN N p
  | 0 => rfl
  | d + 1 => by
    rw [← Nat.add_assoc, cntN_succ, cntN_cut N p h d, h ((N + d : Nat) : Int) (by omega)]
    rfl
theorem pts_count {zs : List Int} (hz : ∀ z ∈ zs, 0 ≤ z ∧ z < 256) : countS (norm (pts zs)) = (cntN 256 (inF zs) : Int) := by
  unfold countS
  rw [cntN_congr (q := inF zs) fun i => (norm_has _ i).trans (pts_has hz i), show (1114112 : Nat) = 256 + 1113856 from rfl, cntN_cut 256 _ (fun i hi => inF_small hz (.inr hi))]
theorem pts_runs {zs : List Int} (hz : ∀ z ∈ zs, 0 ≤ z ∧ z < 256) : ((norm (pts zs)).length : Int) = (cntN 256 (runF zs) : Int) := by
  have hc := norm_isC (pts zs)
  have hh : ∀ i, hasL (norm (pts zs)) i = inF zs i := fun i => (norm_has _ i).trans (pts_has hz i)
  have hl := len_runs 256 (norm (pts zs)) (-1) (by omega) hc (IsF.f1_lt (N := 256) (by omega) hc fun r hr => by
    rw [hh] at hr
    by_cases h : 256 ≤ r
    · rw [inF_small hz (.inr h)] at hr; cases hr
    · omega)
  rw [← hl, cntN_congr (q := runF zs) fun i => by rw [hh, hh]; rfl]
end Go.Proofs.Yteaadpgammbdgaa.PA
