/- Masks of sets, classes by masks: in plain lists; what the printed mask and slices.Index tell. -/
import Derived.Test.YtnfnnmmblommiaaPAx6
import Derived.Test.YtnfnnmmblommiaaPAx2
import Derived.Test.YtnfnnmmblommiaaEv
import Derived.Test.YtnfnnmmblommiaaMath
import Derived.Laws.Bits64b
namespace Go.Proofs.Ytnfnnmmblommiaa.PA
open Go.RowKit Go.Proofs.YtnfnnmmblommiaaW.PrintWords Go.Proofs.YtnfnnmmblommiaaW.PrintLast Go.Proofs.YtnfnnmmblommiaaW.PrintMore
set_option linter.unusedVariables false
set_option linter.unusedSimpArgs false

theorem wnext (i : Nat) (h : i < 4611686018427387904) : wrap64 ((i : Int) + 1) = ((i + 1 : Nat) : Int) := by unfold wrap64; omega
/-- Does the i-th set have r? -/
def hasAt (sets : List (List Rg)) (i : Nat) (r : Int) : Bool := hasL (rd_L2 sets (i : Int)) r
/-- The first i sets that have r, as bits. -/
def mkN (sets : List (List Rg)) (r : Int) : Nat → Nat
  | 0 => 0
  | i + 1 => mkN sets r i ||| (if hasAt sets i r then 2 ^ i else 0)
theorem mkN_lt (sets : List (List Rg)) (r : Int) : ∀ i, mkN sets r i < 2 ^ i
  | 0 => by simp [mkN]
  | i + 1 => by
    have h1 : mkN sets r i < 2 ^ (i + 1) := Nat.lt_trans (mkN_lt sets r i) (Nat.pow_lt_pow_right (by omega) (by omega))
    have h2 : (if hasAt sets i r then 2 ^ i else 0) < 2 ^ (i + 1) := by
      split
      · exact Nat.pow_lt_pow_right (by omega) (by omega)
      · exact Nat.two_pow_pos _
    exact Nat.or_lt_two_pow h1 h2
theorem mkN_bit (sets : List (List Rg)) (r : Int) : ∀ i j, (mkN sets r i).testBit j = (decide (j < i) && hasAt sets j r)
  | 0, j => by simp [mkN]
  | i + 1, j => by
    rw [mkN, Nat.testBit_or, mkN_bit sets r i j]
    by_cases hij : j = i
    · subst hij
      by_cases h : hasAt sets j r <;> simp [h]
    · have e : decide (j < i + 1) = decide (j < i) := decide_eq_decide.2 (by omega)
      rw [e]
      by_cases h : hasAt sets i r
      · rw [if_pos h, Nat.testBit_two_pow_of_ne (by omega)]; simp
      · rw [if_neg h]; simp
/-- Two code points with the same mask are in the same sets. -/
theorem mkN_eq {sets : List (List Rg)} {r s : Int} {n : Nat} : mkN sets r n = mkN sets s n ↔ ∀ j, j < n → hasAt sets j r = hasAt sets j s := by
  constructor
  · intro h j hj
    have h1 := mkN_bit sets r n j
    rw [h, mkN_bit] at h1
    simpa [hj] using h1.symm
  · intro h
    apply Nat.eq_of_testBit_eq
    intro j
    rw [mkN_bit, mkN_bit]
    by_cases hj : j < n
    · rw [h j hj]
    · simp [hj]
def maskI (sets : List (List Rg)) (r : Int) : Int := mkN sets r sets.length
theorem mask_l0 (sets : List (List Rg)) (r : Int) (hl : sets.length ≤ 64) : ∀ (d i : Nat), i + d = sets.length → Evt (fun k => classes_mask.l0 k r (mkN sets r i : Int) sets (sets.length : Int) (i : Int)) (maskI sets r)
  | 0, i, h => by
    refine Evt.succ (fun k => classes_mask.l0.eq_2 _ _ _ _ _ _) ?_
    have hi : i = sets.length := by omega
    simp only [if_neg (show ¬ ((i : Int) < (sets.length : Int)) by omega)]
    subst hi
    exact Evt.pure _
  | d + 1, i, h => by
    have ih := mask_l0 sets r hl d (i + 1) (by omega)
    refine Evt.succ (fun k => classes_mask.l0.eq_2 _ _ _ _ _ _) ?_
    have hw := wnext i (by omega)
    have hs : shl .u64 1 (i : Int) = ((2 ^ i : Nat) : Int) := by
      unfold shl
      have hlt : (2 : Nat) ^ i < 18446744073709551616 := (show (18446744073709551616 : Nat) = 2 ^ 64 by rfl) ▸ Nat.pow_lt_pow_right (by omega) (by omega)
      have hm : min ((i : Int).toNat) IntKind.u64.bits = i := by simp [IntKind.bits]; omega
      rw [hm, IntKind.wrap_u64, Int.one_mul, show ((2 : Int) ^ i) = ((2 ^ i : Nat) : Int) by simp]
      generalize (2 : Nat) ^ i = q at hlt ⊢
      omega
    have hb : mkN sets r i < 18446744073709551616 := by
      have h1 := mkN_lt sets r i
      have : (2 : Nat) ^ i ≤ 2 ^ 64 := Nat.pow_le_pow_right (by omega) (by omega)
      omega
    have hp : (2 : Nat) ^ i < 18446744073709551616 := by
      have : (2 : Nat) ^ i < 2 ^ 64 := Nat.pow_lt_pow_right (by omega) (by omega)
      omega
    simp only [if_pos (show (i : Int) < (sets.length : Int) by omega), if_pos (Int.natCast_nonneg i), hw, hs, bits_or_u64_nat _ _ hb hp]
    have hu : uniset_Has.f (rd_L2 sets (i : Int)) r = some (hasAt sets i r) := rfl
    simp only [hu, Option.bind_some]
    rw [mkN] at ih
    cases hh : hasAt sets i r with
    | true => simpa [hh] using ih
    | false => simpa [hh] using ih
theorem Mask_ev (sets : List (List Rg)) (r : Int) (hl : sets.length ≤ 64) : Evt (fun k => classes_mask.f k sets r) (maskI sets r) := by
  have := mask_l0 sets r hl sets.length 0 (by omega)
  simpa [classes_mask.f, mkN] using this
/-- Where a number stands first; its length if nowhere. -/
def idxL (ms : List Int) (m : Int) : Nat := ms.findIdx (fun x => x == m)
theorem idxL_le (ms : List Int) (m : Int) : idxL ms m ≤ ms.length := List.findIdx_le_length
theorem idxL_lt {ms : List Int} {m : Int} : idxL ms m < ms.length ↔ m ∈ ms := by
  unfold idxL
  rw [List.findIdx_lt_length]
  constructor
  · rintro ⟨x, hx, he⟩
    have : x = m := by simpa using he
    exact this ▸ hx
  · intro h; exact ⟨m, h, by simp⟩
theorem idxL_get {ms : List Int} {m : Int} (h : idxL ms m < ms.length) : ms[idxL ms m] = m := by
  unfold idxL at h ⊢
  have := List.findIdx_getElem (w := h)
  simpa using this
theorem index_l0 (ms : List Int) (m : Int) (hl : ms.length < 1000000000) : ∀ (d i : Nat), i + d = ms.length → i ≤ idxL ms m → Evt (fun k => slices_Index_uint64_uint64.l0 k ms m (ms.length : Int) (i : Int)) (if idxL ms m < ms.length then (idxL ms m : Int) else -1)
  | 0, i, h, hi => by
    refine Evt.succ (fun k => slices_Index_uint64_uint64.l0.eq_2 _ _ _ _ _) ?_
    simp only [if_neg (show ¬ ((i : Int) < (ms.length : Int)) by omega)]
    rw [if_neg (by omega)]
    exact Evt.pure _
  | d + 1, i, h, hi => by
    refine Evt.succ (fun k => slices_Index_uint64_uint64.l0.eq_2 _ _ _ _ _) ?_
    have hw := wnext i (by omega)
    have hlt : i < ms.length := by omega
    have hrd : rd ms (i : Int) = ms[i] := by simp [rd, hlt]
    simp only [if_pos (show (i : Int) < (ms.length : Int) by omega), if_pos (Int.natCast_nonneg i), hw, hrd]
    by_cases he : m = ms[i]
    · simp only [if_pos he]
      have : idxL ms m = i := by
        have h2 : idxL ms m ≤ i := by
          rcases Nat.lt_or_ge i (idxL ms m) with hx | hx
          · have := List.not_of_lt_findIdx hx
            simp [he] at this
          · exact hx
        omega
      rw [this, if_pos hlt]
      exact Evt.pure _
    · simp only [if_neg he]
      refine index_l0 ms m hl d (i + 1) (by omega) ?_
      rcases Nat.lt_or_ge i (idxL ms m) with hx | hx
      · exact hx
      · have h3 : idxL ms m = i := by omega
        have := idxL_get (ms := ms) (m := m) (by omega)
        simp only [h3] at this
        exact absurd this.symm he
theorem Index_ev (ms : List Int) (m : Int) (hl : ms.length < 1000000000) : Evt (fun k => slices_Index_uint64_uint64.f k ms m) (if idxL ms m < ms.length then (idxL ms m : Int) else -1) := by
  have := index_l0 ms m hl ms.length 0 (by omega) (Nat.zero_le _)
  simpa [slices_Index_uint64_uint64.f] using this

abbrev Pc := S83
/-- One piece more. -/
def cutStep (sets : List (List Rg)) (st : List Pc × List Int) (lo : Int) : List Pc × List Int :=
  (st.1 ++ [⟨lo, (idxL st.2 (maskI sets lo) : Int)⟩], if idxL st.2 (maskI sets lo) < st.2.length then st.2 else st.2 ++ [maskI sets lo])
def cutOf (sets : List (List Rg)) (los : List Int) : List Pc × List Int := los.foldl (cutStep sets) ([], [])
theorem cutOf_take (sets : List (List Rg)) {los : List Int} {k : Nat} (h : k < los.length) : cutOf sets (los.take (k + 1)) = cutStep sets (cutOf sets (los.take k)) (rd los (k : Int)) := by
  unfold cutOf
  rw [List.take_succ_eq_append_getElem h, List.foldl_append]
  simp [rd, h]
theorem cutOf_length (sets : List (List Rg)) (los : List Int) : (cutOf sets los).1.length = los.length ∧ (cutOf sets los).2.length ≤ los.length := by
  unfold cutOf
  suffices H : ∀ (los : List Int) (st : List Pc × List Int), (los.foldl (cutStep sets) st).1.length = st.1.length + los.length ∧ (los.foldl (cutStep sets) st).2.length ≤ st.2.length + los.length by
    have := H los ([], []); simpa using this
  intro los
  induction los with
  | nil => intro st; simp
  | cons x xs ih =>
    intro st
    have h := ih (cutStep sets st x)
    simp only [List.foldl_cons, List.length_cons]
    refine ⟨by rw [h.1]; simp [cutStep]; omega, Nat.le_trans h.2 ?_⟩
    unfold cutStep
    split
    · simp
    · simp; omega
end Go.Proofs.Ytnfnnmmblommiaa.PA
