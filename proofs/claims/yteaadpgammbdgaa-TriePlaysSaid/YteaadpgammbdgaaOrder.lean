/- A region that draws its order: what holds of every set of operations that are done, step by step, holds at its end. -/
import Derived.Test.YteaadpgammbdgaaIterMem
namespace Go.Proofs.Yteaadpgammbdgaa.PA
set_option linter.unusedVariables false
set_option linter.unusedSimpArgs false

/-- How many of the first n are not done. -/
def openOf (s : Nat → Bool) : Nat → Nat
  | 0 => 0
  | n + 1 => openOf s n + (if s n then 0 else 1)
theorem openOf_zero {s : Nat → Bool} : ∀ {n : Nat}, openOf s n = 0 → ∀ i, i < n → s i = true
  | 0, _, i, hi => absurd hi (Nat.not_lt_zero _)
  | n + 1, h, i, hi => by
    unfold openOf at h
    by_cases e : i = n
    · subst e; cases hs : s i <;> simp [hs] at h ⊢
    · exact openOf_zero (n := n) (by omega) i (by omega)
theorem openOf_set {s s' : Nat → Bool} {i : Nat} (hs : ∀ j, j ≠ i → s' j = s j) (h0 : s i = false) (h1 : s' i = true) : ∀ n, (i < n → openOf s' n + 1 = openOf s n) ∧ (n ≤ i → openOf s' n = openOf s n) := by
  intro n
  induction n with
  | zero => exact ⟨fun h => by omega, fun _ => rfl⟩
  | succ n ih =>
    refine ⟨fun h => ?_, fun h => ?_⟩
    · by_cases e : i = n
      · subst e
        have := ih.2 (Nat.le_refl _)
        simp [openOf, this, h0, h1]
      · have := ih.1 (by omega)
        simp only [openOf, hs n (fun q => e q.symm)]; omega
    · have := ih.2 (by omega)
      simp only [openOf, hs n (by omega), this]

section
variable {F : Fence} {n : Nat} {P : Program} {ops : Array Oper} {Q : Exit → Act → World → Prop} {md : Region.Mode}

/-- Every operation leans on earlier ones alone. -/
def leansBack (ops : Array Oper) : Bool := (List.range ops.size).all fun i => ((ops[i]?).map (·.after.all fun e => decide (e.on < i))).getD true
theorem leansBack_spec (h : leansBack ops = true) {i : Nat} {o : Oper} (ho : ops[i]? = some o) : ∀ e ∈ o.after, e.on < i := by
  unfold leansBack at h
  rw [List.all_eq_true] at h
  have := h i (List.mem_range.2 (Array.getElem?_eq_some_iff.1 ho).1)
  rw [ho] at this
  simp only [Option.map_some, Option.getD_some, Array.all_eq_true_iff_forall_mem, decide_eq_true_eq] at this
  exact this

theorem wpAnyIn_inv (hl : leansBack ops = true) (J : (Nat → Bool) → Act → World → Prop)
    (hstep : ∀ (s : Nat → Bool) (i : Nat) (o : Oper) (a : Act) (w : World), ops[i]? = some o → s i = false → (∀ e ∈ o.after, Region.binds md e = true → s e.on = true) →
      (∀ j oj, ops[j]? = some oj → s j = true → ∀ e ∈ oj.after, Region.binds md e = true → s e.on = true) → J s a w → wpOpIn F n P ops Q i (J (fun j => s j || j == i)) a w)
    (hdone : ∀ (s : Nat → Bool) (a : Act) (w : World), (∀ i, i < ops.size → s i = true) → J s a w → Q .normal a w) :
    ∀ (fuel : Nat) (listed : Array Bool) (s : Nat → Bool) (a : Act) (w : World), listed.size = ops.size → (∀ i, i < ops.size → listed.getD i true = s i) → openOf s ops.size ≤ fuel →
      (∀ j oj, ops[j]? = some oj → s j = true → ∀ e ∈ oj.after, Region.binds md e = true → s e.on = true) → J s a w → wpAnyIn F n P md ops Q fuel listed a w := by
  have hnone : ∀ (listed : Array Bool) (s : Nat → Bool), listed.size = ops.size → (∀ i, i < ops.size → listed.getD i true = s i) → Region.ready md ops listed = [] → ∀ k i, i < k → i < ops.size → s i = true := by
    intro listed s hsz hs hr k
    induction k with
    | zero => intro i hi; omega
    | succ k ih =>
      intro i hi hlt
      by_cases e : i < k
      · exact ih i e hlt
      · obtain rfl : i = k := by omega
        cases hsi : s i with
        | true => rfl
        | false =>
          have hm : i ∈ Region.ready md ops listed := by
            refine mem_ready.2 ⟨by rw [hs i hlt]; exact hsi, ops[i], Array.getElem?_eq_getElem hlt, fun ed he hb => ?_⟩
            have h1 := leansBack_spec hl (Array.getElem?_eq_getElem hlt) ed he
            have h2 := ih ed.on h1 (by omega)
            have h3 := hs ed.on (by omega)
            rw [Array.getD_eq_getD_getElem?] at h3 ⊢
            rw [Array.getElem?_eq_getElem (by omega : ed.on < listed.size)] at h3 ⊢
            simp only [Option.getD_some] at h3 ⊢
            rw [h3, h2]
          rw [hr] at hm; cases hm
  intro fuel
  induction fuel with
  | zero =>
    intro listed s a w hsz hs hf hc hJ
    have hall := openOf_zero (Nat.le_zero.1 hf)
    refine ⟨?_, hdone s a w hall hJ⟩
    cases hr : Region.ready md ops listed with
    | nil => rfl
    | cons x xs =>
      have hm : x ∈ Region.ready md ops listed := by rw [hr]; exact List.mem_cons_self
      obtain ⟨h0, o, ho, _⟩ := mem_ready.1 hm
      have hlt := (Array.getElem?_eq_some_iff.1 ho).1
      rw [hs x hlt, hall x hlt] at h0; cases h0
  | succ fuel ih =>
    intro listed s a w hsz hs hf hc hJ
    refine ⟨fun hr => hdone s a w (fun i hi => hnone listed s hsz hs hr (i + 1) i (by omega) hi) hJ, fun i hi => ?_⟩
    obtain ⟨h0, o, ho, hd⟩ := mem_ready.1 hi
    have hlt := (Array.getElem?_eq_some_iff.1 ho).1
    rw [hs i hlt] at h0
    have hd' : ∀ e ∈ o.after, Region.binds md e = true → s e.on = true := fun e he hb => by
      have h1 := hd e he hb
      have h2 := leansBack_spec hl ho e he
      rw [← hs e.on (by omega)]
      rw [Array.getD_eq_getD_getElem?] at h1 ⊢
      rw [Array.getElem?_eq_getElem (by omega : e.on < listed.size)] at h1 ⊢
      exact h1
    refine wpOpIn_mono (fun a' w' hJ' => ih _ (fun j => s j || j == i) a' w' (by simpa using hsz) (fun j hj => ?_) ?_ ?_ hJ') (hstep s i o a w ho h0 hd' hc hJ)
    · by_cases e : j = i
      · subst e
        rw [Array.getD_eq_getD_getElem?, Array.getElem?_setIfInBounds_self_of_lt (by omega)]
        simp
      · rw [Array.getD_eq_getD_getElem?, Array.getElem?_setIfInBounds_ne (fun q => e q.symm), ← Array.getD_eq_getD_getElem?, hs j hj]
        simp [e]
    · have := (openOf_set (s := s) (s' := fun j => s j || j == i) (i := i) (fun j hj => by simp [hj]) h0 (by simp) ops.size).1 hlt
      omega
    · intro j oj hoj hsj e he hb
      by_cases ej : j = i
      · subst ej
        rw [ho] at hoj; cases hoj
        simp [hd' e he hb]
      · have : s j = true := by simpa [ej] using hsj
        simp [hc j oj hoj this e he hb]

/-- The region's law. -/
theorem wpIn_region_inv {id : Nat} {a : Act} {w : World} (hm : P.follows .mixedOrders = true) (hl : leansBack ops = true) (J : (Nat → Bool) → Act → World → Prop)
    (hstep : ∀ (s : Nat → Bool) (i : Nat) (o : Oper) (a : Act) (w : World), ops[i]? = some o → s i = false → (∀ e ∈ o.after, Region.binds .any e = true → s e.on = true) →
      (∀ j oj, ops[j]? = some oj → s j = true → ∀ e ∈ oj.after, Region.binds .any e = true → s e.on = true) → J s a w → wpOpIn F n P ops Q i (J (fun j => s j || j == i)) a w)
    (hdone : ∀ (s : Nat → Bool) (a : Act) (w : World), (∀ i, i < ops.size → s i = true) → J s a w → Q .normal a w) (h0 : J (fun _ => false) a w.drew) : (Code.region id ops true).wpIn F n P Q a w := by
  refine wpIn_region_any hm ?_
  refine wpAnyIn_inv hl J hstep hdone ops.size _ (fun _ => false) a _ (by simp) (fun i hi => ?_) ?_ (fun j oj _ h => by cases h) h0
  · rw [Array.getD_eq_getD_getElem?, Array.getElem?_replicate, if_pos hi]; rfl
  · have : ∀ n, openOf (fun _ => false) n = n := fun n => by induction n with
      | zero => rfl
      | succ n ih => simp [openOf, ih]
    rw [this]; exact Nat.le_refl _
/-- One operation, what follows told by a letter. -/
theorem wpOpIn_of {i : Nat} {o : Oper} {J : Act → World → Prop} {a : Act} {w : World} (ho : ops[i]? = some o) (hg : o.guard = none) (h : ∀ K : Act → World → Prop, (∀ a w, J a w → K a w) → o.wpIn F n P a w K Q) : wpOpIn F n P ops Q i J a w := by
  unfold wpOpIn
  rw [ho]
  have hw : Region.wanted o (yielded ops a.tmps) = true := by simp [Region.wanted, hg]
  simp only [hw, if_true]
  exact h J fun _ _ q => q
end
end Go.Proofs.Yteaadpgammbdgaa.PA
