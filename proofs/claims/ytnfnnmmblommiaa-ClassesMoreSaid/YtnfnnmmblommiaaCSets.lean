/- A class's code points, in plain lists; few. -/
import Derived.Test.YtnfnnmmblommiaaCKnown
import Derived.Test.YtnfnnmmblommiaaSetEv
import Derived.Test.YtnfnnmmblommiaaPAx2
namespace Go.Proofs.Ytnfnnmmblommiaa.PA
open Go.RowKit Go.Shelf Go.Proofs.YtnfnnmmblommiaaW.PrintWords Go.Proofs.YtnfnnmmblommiaaW.PrintLast Go.Proofs.YtnfnnmmblommiaaW.PrintMore
set_option linter.unusedVariables false
set_option linter.unusedSimpArgs false

theorem mem_rd {ps : List Pc} {q : Nat} (h : q < ps.length) : rd_T83 ps (q : Int) ∈ ps := by
  unfold rd_T83; simp [h]
theorem hi_bound {S : List (List Rg)} {ps : List Pc} {ms : List Int} (F : Facts S ps ms) {q : Nat} (hq : q < ps.length) : 0 ≤ (rd_T83 ps (q : Int)).f0 ∧ (rd_T83 ps (q : Int)).f0 ≤ hiOf ps q ∧ hiOf ps q ≤ 1114111 := by
  have h1 := F.bound _ (mem_rd hq)
  unfold hiOf
  split
  · rename_i h
    have h2 := F.bound _ (mem_rd h)
    have h3 := F.inc.lt (show q < q + 1 by omega) h
    omega
  · omega
theorem raw_has {S : List (List Rg)} {ps : List Pc} {ms : List Int} (F : Facts S ps ms) (c r : Int) : ∀ i, i ≤ ps.length → (hasL (rawSet ps c i) r = true ↔ ∃ q, q < i ∧ (rd_T83 ps (q : Int)).f1 = c ∧ (rd_T83 ps (q : Int)).f0 ≤ r ∧ r ≤ hiOf ps q)
  | 0, _ => by simp [rawSet, hasL_nil]
  | i + 1, h => by
    have ih := raw_has F c r i (by omega)
    have hb := hi_bound F (show i < ps.length by omega)
    unfold rawSet
    by_cases hc : (rd_T83 ps (i : Int)).f1 = c
    · rw [if_pos hc, hasL_append, Bool.or_eq_true, ih, hasL_cons, hasL_nil, Bool.or_false]
      have hg : good (⟨(rd_T83 ps (i : Int)).f0, hiOf ps i⟩ : Rg) = true := good_iff.2 ⟨hb.1, hb.2.1, hb.2.2⟩
      rw [hg]
      simp only [Bool.true_and, Bool.and_eq_true, decide_eq_true_eq]
      constructor
      · rintro (⟨q, h1, h2⟩ | ⟨h1, h2⟩)
        · exact ⟨q, by omega, h2⟩
        · exact ⟨i, by omega, hc, h1, h2⟩
      · rintro ⟨q, h1, h2, h3, h4⟩
        rcases Nat.lt_or_ge q i with h5 | h5
        · exact .inl ⟨q, h5, h2, h3, h4⟩
        · obtain rfl : q = i := by omega
          exact .inr ⟨h3, h4⟩
    · rw [if_neg hc, ih]
      constructor
      · rintro ⟨q, h1, h2⟩; exact ⟨q, by omega, h2⟩
      · rintro ⟨q, h1, h2, h3⟩
        rcases Nat.lt_or_ge q i with h5 | h5
        · exact ⟨q, h5, h2, h3⟩
        · obtain rfl : q = i := by omega
          exact absurd h2 hc
theorem piece_hi {S : List (List Rg)} {ps : List Pc} {ms : List Int} (F : Facts S ps ms) {q : Nat} {r : Int} (hr : r ≤ 1114111) (hq : q < ps.length) : ((rd_T83 ps (q : Int)).f0 ≤ r ∧ r ≤ hiOf ps q) ↔ PieceAt ps r q := by
  constructor
  · rintro ⟨h1, h2⟩
    refine ⟨hq, h1, fun x hx hx2 => ?_⟩
    unfold hiOf at h2
    rw [if_pos (by omega)] at h2
    rcases Nat.lt_or_ge (q + 1) x with h5 | h5
    · have := F.inc.lt h5 hx2; omega
    · obtain rfl : x = q + 1 := by omega
      omega
  · intro h
    refine ⟨h.lo, ?_⟩
    unfold hiOf
    split
    · rename_i h2
      have := h.hi (q + 1) (by omega) h2; omega
    · exact hr
/-- A class's code points: those of that class. -/
theorem set_has {S : List (List Rg)} {ps : List Pc} {ms : List Int} (F : Facts S ps ms) (c : Nat) (r : Int) : hasL (setC ps (c : Int)) r = true ↔ 0 ≤ r ∧ r ≤ 1114111 ∧ idxL ms (maskI S r) = c := by
  unfold setC
  rw [norm_nil, raw_has F _ _ _ (Nat.le_refl _)]
  constructor
  · rintro ⟨q, h1, h2, h3, h4⟩
    have hb := hi_bound F h1
    have hr0 : 0 ≤ r := by omega
    have hr1 : r ≤ 1114111 := by omega
    have hp := (piece_hi F hr1 h1).1 ⟨h3, h4⟩
    have := (F.cls r q hr0 hr1 hp).1
    exact ⟨hr0, hr1, by omega⟩
  · rintro ⟨hr0, hr1, h⟩
    obtain ⟨q, hq⟩ := F.piece r hr0 hr1
    have h2 := (F.cls r q hr0 hr1 hq).1
    have h3 := (piece_hi F hr1 hq.lt).2 hq
    exact ⟨q, hq.lt, by omega, h3⟩
theorem setC_isC (ps : List Pc) (c : Int) : IsC (setC ps c) := norm_isC _
theorem setC_length (ps : List Pc) (c : Int) : (setC ps c).length ≤ ps.length := by
  unfold setC
  have h1 := norm_length (rawSet ps c ps.length ++ [])
  have h2 := rawSet_length ps c ps.length
  have h3 : (rawSet ps c ps.length ++ []).length = (rawSet ps c ps.length).length := by simp
  omega
theorem isF_length : ∀ (l : List Rg) (b : Int), b ≤ 1114112 → IsF b l → (l.length : Int) ≤ 1114112 - b
  | [], b, hb, _ => by simp; omega
  | x :: xs, b, hb, h => by
    obtain ⟨h1, h2, h3, h4⟩ := h
    have := isF_length xs (x.f1 + 1) (by omega) h4
    simp only [List.length_cons]; omega
theorem isC_length {l : List Rg} (h : IsC l) : l.length ≤ 1114113 := by
  have := isF_length l (-1) (by omega) h; omega
/-- few. -/
def fewB (sets : List (List Rg)) : Bool := sets.all (fun l => decide (l.length ≤ 20)) && decide (sets.length ≤ 70)
theorem few_l0 (sets : List (List Rg)) (hl : sets.length ≤ 9223372036854775807) : ∀ d i, i + d = sets.length → Evt (fun k => hornbooklaw4_few.l0 k sets (i : Int)) ((sets.drop i).all (fun l => decide (l.length ≤ 20)) && decide (sets.length ≤ 70))
  | 0, i, h => by
    refine Evt.succ (fun k => hornbooklaw4_few.l0.eq_2 _ _ _) ?_
    have hd : sets.drop i = [] := List.drop_eq_nil_of_le (by omega)
    simp only [if_neg (show ¬ ((i : Int) < (sets.length : Int)) by omega), hd, List.all_nil, Bool.true_and]
    refine Evt.cast (Evt.pure _) ?_
    exact decide_eq_decide.2 (by omega)
  | d + 1, i, h => by
    have ih := few_l0 sets hl d (i + 1) (by omega)
    refine Evt.succ (fun k => hornbooklaw4_few.l0.eq_2 _ _ _) ?_
    have hlt : i < sets.length := by omega
    have hw : wrap64 ((i : Int) + 1) = ((i + 1 : Nat) : Int) := by unfold wrap64; omega
    have hrd : rd_L2 sets (i : Int) = sets[i] := by unfold rd_L2; simp [hlt]
    have hd : sets.drop i = sets[i] :: sets.drop (i + 1) := List.drop_eq_getElem_cons hlt
    simp only [if_pos (show (i : Int) < (sets.length : Int) by omega), if_pos (Int.natCast_nonneg i), hw, hrd, hd, List.all_cons]
    by_cases hb : ((sets[i].length : Int)) > 20
    · simp only [if_pos hb]
      rw [decide_eq_false (show ¬ sets[i].length ≤ 20 by omega)]
      simp only [Bool.false_and]
      exact Evt.pure _
    · simp only [if_neg hb]
      rw [decide_eq_true (show sets[i].length ≤ 20 by omega)]
      simp only [Bool.true_and]
      exact ih
theorem Few_ev (sets : List (List Rg)) (hl : sets.length ≤ 9223372036854775807) : Evt (fun k => hornbooklaw4_few.f k sets) (fewB sets) := by
  have := few_l0 sets hl sets.length 0 (by omega)
  simpa [hornbooklaw4_few.f, fewB] using this
theorem fewB_true {sets : List (List Rg)} (h : fewB sets = true) : (∀ l ∈ sets, l.length ≤ 20) ∧ sets.length ≤ 70 := by
  unfold fewB at h
  simp at h
  exact ⟨fun l hl => h.1 l hl, h.2⟩
theorem few_calls (A : Option Addr) (c : Nat) (sets : List (List Rg)) (w : World) (hr : Kd.C (Kd.slice 41 k41) w A sets.length sets) (hc : sets.length ≤ c) (hl : sets.length ≤ 9223372036854775807) :
    Calls Try.prog 28 #[.slice A sets.length c] w fun e w' => e = .returned (.bool (fewB sets)) ∧ Drawn0 w w' := by
  obtain ⟨k, hk⟩ := (Few_ev sets hl).get
  exact hornbooklaw4_few.calls k A c sets (fewB sets) w hr hc hk
theorem mask_bit {S : List (List Rg)} {r : Int} {j : Nat} (hj : j < S.length) : (maskI S r).toNat.testBit j = hasAt S j r := by
  unfold maskI
  rw [Int.toNat_natCast, mkN_bit]
  simp [hj]
theorem los_len {los : List Int} {S : List (List Rg)} (h : LosOf los S) : los.length ≤ 1114112 := by
  have hb : ∀ x ∈ los, 0 ≤ x ∧ x ≤ 1114111 := fun x hx => ends_bound ((h.mem x).1 hx)
  have hi : ∀ i, ∀ hi : i < los.length, (i : Int) ≤ los[i] := by
    intro i
    induction i with
    | zero => intro hi; exact (hb _ (List.getElem_mem _)).1
    | succ i ih =>
      intro hi
      have h1 := ih (by omega)
      have h2 := List.pairwise_iff_getElem.1 h.lt i (i + 1) (by omega) hi (by omega)
      omega
  rcases Nat.eq_zero_or_pos los.length with h0 | h0
  · omega
  · have h1 := hi (los.length - 1) (by omega)
    have h2 := (hb (los[los.length - 1]'(by omega)) (List.getElem_mem _)).2
    omega
end Go.Proofs.Ytnfnnmmblommiaa.PA
