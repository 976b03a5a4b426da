/- A class's code points, in plain lists; few. hornbookref3.add in plain lists: a number put in at its place, if it isn't there. hornbookref3.add: a number put in at its place in a row of the call's own: append, copy up, a store. hornbookref3.add: the walk by hand. -/
import Derived.Test.YtnfnnmmblommiaaCKnown
import Derived.Test.YtnfnnmmblommiaaSetEv
import Derived.Test.YtnfnnmmblommiaaPAx2
import Derived.Laws.CopyOwn
import Derived.StillTailTactics
import Derived.IntWalk
namespace Go.Proofs.Ytnfnnmmblommiaa.PA
open Go.RowKit Go.Shelf Go.Proofs.YtnfnnmmblommiaaW.PrintWords Go.Proofs.YtnfnnmmblommiaaW.PrintLast Go.Proofs.YtnfnnmmblommiaaW.PrintMore
set_option linter.unusedVariables false
set_option linter.unusedSimpArgs false

theorem mem_rd {ps : List Pc} {q : Nat} (h : q < ps.length) : rd_T83 ps (q : Int) ∈ ps := by
  unfold rd_T83; simp [h]
theorem hi_bound {S : List (List Rg)} {ps : List Pc} {ms : List Int} (F : Facts S ps ms) {q : Nat} (hq : q < ps.length) : 0 ≤ (rd_T83 ps (q : Int)).f0 ∧ (rd_T83 ps (q : Int)).f0 ≤ hiOf ps q ∧ hiOf ps q ≤ 1114111 := by
  have h1 := F.bound _ (mem_rd hq)
  unfold hiOf
  split
  · rename_i h
    have h2 := F.bound _ (mem_rd h)
    have h3 := F.inc.lt (show q < q + 1 by omega) h
    omega
  · omega
theorem raw_has {S : List (List Rg)} {ps : List Pc} {ms : List Int} (F : Facts S ps ms) (c r : Int) : ∀ i, i ≤ ps.length → (hasL (rawSet ps c i) r = true ↔ ∃ q, q < i ∧ (rd_T83 ps (q : Int)).f1 = c ∧ (rd_T83 ps (q : Int)).f0 ≤ r ∧ r ≤ hiOf ps q)
  | 0, _ => by simp [rawSet, hasL_nil]
  | i + 1, h => by
    have ih := raw_has F c r i (by omega)
    have hb := hi_bound F (show i < ps.length by omega)
    unfold rawSet
    by_cases hc : (rd_T83 ps (i : Int)).f1 = c
    · rw [if_pos hc, hasL_append, Bool.or_eq_true, ih, hasL_cons, hasL_nil, Bool.or_false]
      have hg : good (⟨(rd_T83 ps (i : Int)).f0, hiOf ps i⟩ : Rg) = true := good_iff.2 ⟨hb.1, hb.2.1, hb.2.2⟩
      rw [hg]
      simp only [Bool.true_and, Bool.and_eq_true, decide_eq_true_eq]
      constructor
      · rintro (⟨q, h1, h2⟩ | ⟨h1, h2⟩)
        · exact ⟨q, by omega, h2⟩
        · exact ⟨i, by omega, hc, h1, h2⟩
      · rintro ⟨q, h1, h2, h3, h4⟩
        rcases Nat.lt_or_ge q i with h5 | h5
        · exact .inl ⟨q, h5, h2, h3, h4⟩
        · obtain rfl : q = i := by omega
          exact .inr ⟨h3, h4⟩
    · rw [if_neg hc, ih]
      constructor
      · rintro ⟨q, h1, h2⟩; exact ⟨q, by omega, h2⟩
      · rintro ⟨q, h1, h2, h3⟩
        rcases Nat.lt_or_ge q i with h5 | h5
        · exact ⟨q, h5, h2, h3⟩
        · obtain rfl : q = i := by omega
          exact absurd h2 hc
theorem piece_hi {S : List (List Rg)} {ps : List Pc} {ms : List Int} (F : Facts S ps ms) {q : Nat} {r : Int} (hr : r ≤ 1114111) (hq : q < ps.length) : ((rd_T83 ps (q : Int)).f0 ≤ r ∧ r ≤ hiOf ps q) ↔ PieceAt ps r q := by
  constructor
  · rintro ⟨h1, h2⟩
    refine ⟨hq, h1, fun x hx hx2 => ?_⟩
    unfold hiOf at h2
    rw [if_pos (by omega)] at h2
    rcases Nat.lt_or_ge (q + 1) x with h5 | h5
    · have := F.inc.lt h5 hx2; omega
    · obtain rfl : x = q + 1 := by omega
      omega
  · intro h
    refine ⟨h.lo, ?_⟩
    unfold hiOf
    split
    · rename_i h2
      have := h.hi (q + 1) (by omega) h2; omega
    · exact hr
/-- A class's code points: those of that class. -/
theorem set_has {S : List (List Rg)} {ps : List Pc} {ms : List Int} (F : Facts S ps ms) (c : Nat) (r : Int) : hasL (setC ps (c : Int)) r = true ↔ 0 ≤ r ∧ r ≤ 1114111 ∧ idxL ms (maskI S r) = c := by
  unfold setC
  rw [norm_nil, raw_has F _ _ _ (Nat.le_refl _)]
  constructor
  · rintro ⟨q, h1, h2, h3, h4⟩
    have hb := hi_bound F h1
    have hr0 : 0 ≤ r := by omega
    have hr1 : r ≤ 1114111 := by omega
    have hp := (piece_hi F hr1 h1).1 ⟨h3, h4⟩
    have := (F.cls r q hr0 hr1 hp).1
    exact ⟨hr0, hr1, by omega⟩
  · rintro ⟨hr0, hr1, h⟩
    obtain ⟨q, hq⟩ := F.piece r hr0 hr1
    have h2 := (F.cls r q hr0 hr1 hq).1
    have h3 := (piece_hi F hr1 hq.lt).2 hq
    exact ⟨q, hq.lt, by omega, h3⟩
theorem setC_isC (ps : List Pc) (c : Int) : IsC (setC ps c) := norm_isC _
theorem setC_length (ps : List Pc) (c : Int) : (setC ps c).length ≤ ps.length := by
  unfold setC
  have h1 := norm_length (rawSet ps c ps.length ++ [])
  have h2 := rawSet_length ps c ps.length
  have h3 : (rawSet ps c ps.length ++ []).length = (rawSet ps c ps.length).length := by simp
  omega
theorem isF_length : ∀ (l : List Rg) (b : Int), b ≤ 1114112 → IsF b l → (l.length : Int) ≤ 1114112 - b
  | [], b, hb, _ => by simp; omega
  | x :: xs, b, hb, h => by
    obtain ⟨h1, h2, h3, h4⟩ := h
    have := isF_length xs (x.f1 + 1) (by omega) h4
    simp only [List.length_cons]; omega
theorem isC_length {l : List Rg} (h : IsC l) : l.length ≤ 1114113 := by
  have := isF_length l (-1) (by omega) h; omega
/-- few. -/
def fewB (sets : List (List Rg)) : Bool := sets.all (fun l => decide (l.length ≤ 20)) && decide (sets.length ≤ 70)
theorem few_l0 (sets : List (List Rg)) (hl : sets.length ≤ 9223372036854775807) : ∀ d i, i + d = sets.length → Evt (fun k => hornbooklaw4_few.l0 k sets (i : Int)) ((sets.drop i).all (fun l => decide (l.length ≤ 20)) && decide (sets.length ≤ 70))
  | 0, i, h => by
    refine Evt.succ (fun k => hornbooklaw4_few.l0.eq_2 _ _ _) ?_
    have hd : sets.drop i = [] := List.drop_eq_nil_of_le (by omega)
    simp only [if_neg (show ¬ ((i : Int) < (sets.length : Int)) by omega), hd, List.all_nil, Bool.true_and]
    refine Evt.cast (Evt.pure _) ?_
    exact decide_eq_decide.2 (by omega)
  | d + 1, i, h => by
    have ih := few_l0 sets hl d (i + 1) (by omega)
    refine Evt.succ (fun k => hornbooklaw4_few.l0.eq_2 _ _ _) ?_
    have hlt : i < sets.length := by omega
    have hw : wrap64 ((i : Int) + 1) = ((i + 1 : Nat) : Int) := by unfold wrap64; omega
    have hrd : rd_L2 sets (i : Int) = sets[i] := by unfold rd_L2; simp [hlt]
    have hd : sets.drop i = sets[i] :: sets.drop (i + 1) := List.drop_eq_getElem_cons hlt
    simp only [if_pos (show (i : Int) < (sets.length : Int) by omega), if_pos (Int.natCast_nonneg i), hw, hrd, hd, List.all_cons]
    by_cases hb : ((sets[i].length : Int)) > 20
    · simp only [if_pos hb]
      rw [decide_eq_false (show ¬ sets[i].length ≤ 20 by omega)]
      simp only [Bool.false_and]
      exact Evt.pure _
    · simp only [if_neg hb]
      rw [decide_eq_true (show sets[i].length ≤ 20 by omega)]
      simp only [Bool.true_and]
      exact ih
theorem Few_ev (sets : List (List Rg)) (hl : sets.length ≤ 9223372036854775807) : Evt (fun k => hornbooklaw4_few.f k sets) (fewB sets) := by
  have := few_l0 sets hl sets.length 0 (by omega)
  simpa [hornbooklaw4_few.f, fewB] using this
theorem fewB_true {sets : List (List Rg)} (h : fewB sets = true) : (∀ l ∈ sets, l.length ≤ 20) ∧ sets.length ≤ 70 := by
  unfold fewB at h
  simp at h
  exact ⟨fun l hl => h.1 l hl, h.2⟩
theorem few_calls (A : Option Addr) (c : Nat) (sets : List (List Rg)) (w : World) (hr : Kd.C (Kd.slice 41 k41) w A sets.length sets) (hc : sets.length ≤ c) (hl : sets.length ≤ 9223372036854775807) :
    Calls Try.prog 28 #[.slice A sets.length c] w fun e w' => e = .returned (.bool (fewB sets)) ∧ Drawn0 w w' := by
  obtain ⟨k, hk⟩ := (Few_ev sets hl).get
  exact hornbooklaw4_few.calls k A c sets (fewB sets) w hr hc hk
theorem mask_bit {S : List (List Rg)} {r : Int} {j : Nat} (hj : j < S.length) : (maskI S r).toNat.testBit j = hasAt S j r := by
  unfold maskI
  rw [Int.toNat_natCast, mkN_bit]
  simp [hj]
theorem los_len {los : List Int} {S : List (List Rg)} (h : LosOf los S) : los.length ≤ 1114112 := by
  have hb : ∀ x ∈ los, 0 ≤ x ∧ x ≤ 1114111 := fun x hx => ends_bound ((h.mem x).1 hx)
  have hi : ∀ i, ∀ hi : i < los.length, (i : Int) ≤ los[i] := by
    intro i
    induction i with
    | zero => intro hi; exact (hb _ (List.getElem_mem _)).1
    | succ i ih =>
      intro hi
      have h1 := ih (by omega)
      have h2 := List.pairwise_iff_getElem.1 h.lt i (i + 1) (by omega) hi (by omega)
      omega
  rcases Nat.eq_zero_or_pos los.length with h0 | h0
  · omega
  · have h1 := hi (los.length - 1) (by omega)
    have h2 := (hb (los[los.length - 1]'(by omega)) (List.getElem_mem _)).2
    omega
end Go.Proofs.Ytnfnnmmblommiaa.PA
namespace Go.Proofs.Ytnfnnmmblommiaa.PA
open Go.RowKit Go.Shelf Go.Proofs.YtnfnnmmblommiaaW.PrintWords Go.Proofs.YtnfnnmmblommiaaW.PrintLast Go.Proofs.YtnfnnmmblommiaaW.PrintMore
set_option linter.unusedVariables false
set_option linter.unusedSimpArgs false

/-- How many at the front are less. -/
def posI (r : Int) : List Int → Nat
  | [] => 0
  | x :: xs => if x < r then posI r xs + 1 else 0
theorem posI_le (r : Int) : ∀ l, posI r l ≤ l.length
  | [] => Nat.le_refl _
  | x :: xs => by
    have := posI_le r xs
    unfold posI
    split <;> simp <;> omega
theorem posI_lt (r : Int) : ∀ (l : List Int) (i : Nat) (x : Int), i < posI r l → l[i]? = some x → x < r
  | [], i, x, h, _ => by simp [posI] at h
  | y :: ys, i, x, h, hx => by
    unfold posI at h
    split at h
    · rename_i hy
      cases i with
      | zero => simp at hx; omega
      | succ i => exact posI_lt r ys i x (by omega) (by simpa using hx)
    · omega
theorem posI_ge (r : Int) : ∀ (l : List Int) (x : Int), l[posI r l]? = some x → r ≤ x
  | [], x, h => by simp at h
  | y :: ys, x, h => by
    unfold posI at h
    split at h
    · exact posI_ge r ys x (by simpa using h)
    · simp at h; omega
/-- The walk's place: all before are less, and it isn't (or there is none). -/
theorem posI_eq {r : Int} {l : List Int} {i : Nat} (h1 : ∀ j x, j < i → l[j]? = some x → x < r) (hi : i ≤ l.length) (h2 : ∀ x, l[i]? = some x → r ≤ x) : i = posI r l := by
  rcases Nat.lt_trichotomy i (posI r l) with h | h | h
  · have hl := posI_le r l
    have hx : l[i]? = some (l[i]'(by omega)) := List.getElem?_eq_getElem (by omega)
    have := posI_lt r l i _ h hx
    have := h2 _ hx
    omega
  · exact h
  · have hx : l[posI r l]? = some (l[posI r l]'(by omega)) := List.getElem?_eq_getElem (by omega)
    have := h1 _ _ h hx
    have := posI_ge r l _ hx
    omega
def addI (l : List Int) (r : Int) : List Int := if l[posI r l]? = some r then l else l.take (posI r l) ++ r :: l.drop (posI r l)
theorem addI_mem (l : List Int) (r x : Int) : x ∈ addI l r ↔ x ∈ l ∨ x = r := by
  unfold addI
  split
  · rename_i h
    constructor
    · exact .inl
    · rintro (h1 | rfl)
      · exact h1
      · exact List.mem_of_getElem? h
  · have e : x ∈ l ↔ x ∈ l.take (posI r l) ∨ x ∈ l.drop (posI r l) := by
      rw [← List.mem_append, List.take_append_drop]
    rw [List.mem_append, List.mem_cons, e]
    constructor
    · rintro (h1 | h1 | h1)
      · exact .inl (.inl h1)
      · exact .inr h1
      · exact .inl (.inr h1)
    · rintro ((h1 | h1) | h1)
      · exact .inl h1
      · exact .inr (.inr h1)
      · exact .inr (.inl h1)
theorem addI_length (l : List Int) (r : Int) : (addI l r).length ≤ l.length + 1 := by
  unfold addI
  split
  · omega
  · have := posI_le r l
    simp; omega
theorem addI_sorted {l : List Int} (h : l.Pairwise (fun x y => x < y)) (r : Int) : (addI l r).Pairwise (fun x y => x < y) := by
  unfold addI
  split
  · exact h
  · rename_i hne
    have hs := h
    rw [← List.take_append_drop (posI r l) l, List.pairwise_append] at hs
    obtain ⟨s1, s2, s3⟩ := hs
    have hlt : ∀ x ∈ l.take (posI r l), x < r := fun x hx => by
      obtain ⟨i, hi, rfl⟩ := List.getElem_of_mem hx
      rw [List.length_take] at hi
      refine posI_lt r l i _ (by omega) ?_
      rw [List.getElem_take]
      exact List.getElem?_eq_getElem (by omega)
    have hgt : ∀ x ∈ l.drop (posI r l), r < x := fun x hx => by
      cases hd : l.drop (posI r l) with
      | nil => rw [hd] at hx; cases hx
      | cons y ys =>
        have hy : l[posI r l]? = some y := by
          have := List.getElem?_drop (xs := l) (i := posI r l) (j := 0)
          rw [hd] at this
          simpa using this.symm
        have h1 := posI_ge r l y hy
        have h2 : r < y := by
          rcases Int.lt_or_eq_of_le h1 with h3 | h3
          · exact h3
          · exact absurd (h3 ▸ hy) hne
        rw [hd] at hx s2
        rcases List.mem_cons.1 hx with rfl | hx
        · exact h2
        · have := (List.pairwise_cons.1 s2).1 x hx; omega
    rw [List.pairwise_append]
    refine ⟨s1, List.pairwise_cons.2 ⟨hgt, s2⟩, fun a ha b hb => ?_⟩
    rcases List.mem_cons.1 hb with rfl | hb
    · exact hlt a ha
    · exact s3 a ha b hb
/-- Many, one after the other. -/
def addAll (l : List Int) : List Int → List Int
  | [] => l
  | x :: xs => addAll (addI l x) xs
theorem addAll_append : ∀ (xs l ys : List Int), addAll l (xs ++ ys) = addAll (addAll l xs) ys
  | [], l, ys => rfl
  | x :: xs, l, ys => addAll_append xs (addI l x) ys
theorem addAll_mem (x : Int) : ∀ (xs l : List Int), x ∈ addAll l xs ↔ x ∈ l ∨ x ∈ xs
  | [], l => by simp [addAll]
  | y :: ys, l => by
    show x ∈ addAll (addI l y) ys ↔ _
    rw [addAll_mem x ys, addI_mem, List.mem_cons, or_assoc]
theorem addAll_sorted : ∀ (xs : List Int) {l : List Int}, l.Pairwise (fun x y => x < y) → (addAll l xs).Pairwise (fun x y => x < y)
  | [], _, h => h
  | y :: ys, _, h => addAll_sorted ys (addI_sorted h y)
theorem addAll_length : ∀ (xs l : List Int), (addAll l xs).length ≤ l.length + xs.length
  | [], l => Nat.le_refl _
  | y :: ys, l => by
    have h1 := addAll_length ys (addI l y)
    have h2 := addI_length l y
    simp only [List.length_cons]
    show (addAll (addI l y) ys).length ≤ _
    omega
/-- The reference's places. -/
theorem ref_los (S : List (List Rg)) : LosOf (addAll [0] (S.flatMap endsOf)) S :=
  ⟨addAll_sorted _ (List.pairwise_singleton _ _), fun x => by rw [addAll_mem, endsL, List.mem_singleton, List.mem_cons]⟩
end Go.Proofs.Ytnfnnmmblommiaa.PA
namespace Go.Proofs.Ytnfnnmmblommiaa.PA
open Go.RowKit Go.Shelf Go.Proofs.YtnfnnmmblommiaaW.PrintWords Go.Proofs.YtnfnnmmblommiaaW.PrintLast Go.Proofs.YtnfnnmmblommiaaW.PrintMore
set_option linter.unusedVariables false
set_option linter.unusedSimpArgs false

theorem own_form {W : World} {base e n : Nat} {v : Value} {vs : List Value} (h : W.ownsRow base e 1 v n vs) (hn : 0 < n) : ∃ g cap cur, v = .slice (some ⟨g, 0, none⟩) n cap ∧ base ≤ g ∧ W.heap[g]? = some (.cells cur e (0, 0)) ∧ n ≤ cap ∧ cap ≤ maxLen ∧ cur.size = cap ∧ cur.toList.take n = vs := by
  rcases h.2 with ⟨_, h0⟩ | ⟨g, cap, cur, e, q1, q2, q3, q4, q5, q6⟩
  · omega
  · exact ⟨g, cap, cur, e, q1, q2, q3, q4, by omega, by simpa using q6⟩
theorem own_cell {W : World} {base e n g cap : Nat} {vs : List Value} (h : W.ownsRow base e 1 (.slice (some ⟨g, 0, none⟩) n cap) n vs) {j : Nat} {u : Value} (hu : vs[j]? = some u) : W.cell? ⟨g, j, none⟩ = some u ∧ W.frozen? ⟨g, j, none⟩ = false := by
  have hj : j < n := by have := h.1; have := (List.getElem?_eq_some_iff.1 hu).1; omega
  obtain ⟨g', cap', cur, e', _, hh, _, _, hs, ht⟩ := own_form h (by omega)
  simp only [Value.slice.injEq, Option.some.injEq, Addr.mk.injEq] at e'
  obtain ⟨⟨rfl, _⟩, _, rfl⟩ := e'
  have hc : cur[j]? = some u := by
    rw [← ht, List.getElem?_take, if_pos hj, Array.getElem?_toList] at hu; exact hu
  refine ⟨?_, by unfold World.frozen?; simp [hh]⟩
  unfold World.cell?
  simp only [hh, hc]
  rfl
/-- One element written. -/
theorem own_set {W : World} {base e n g cap p : Nat} {vs : List Value} (h : W.ownsRow base e 1 (.slice (some ⟨g, 0, none⟩) n cap) n vs) (hp : p < n) (u : Value) : (W.setCell ⟨g, p, none⟩ u).ownsRow base e 1 (.slice (some ⟨g, 0, none⟩) n cap) n (vs.set p u) ∧ W.grownBy (W.setCell ⟨g, p, none⟩ u) (some g) := by
  obtain ⟨g', cap', cur, e', hb, hh, h1, h2, h3, h4⟩ := own_form h (by omega)
  simp only [Value.slice.injEq, Option.some.injEq, Addr.mk.injEq] at e'
  obtain ⟨⟨rfl, _⟩, _, rfl⟩ := e'
  have hs := heap_set hh p u
  refine ⟨⟨by rw [List.length_set]; exact h.1, .inr ⟨g, cap, _, rfl, hb, hs, h1, h2, by simp; omega, ?_⟩⟩, ⟨rfl, rfl, rfl, by simp, fun j hj hne => Below.heap_setCell W ⟨g, p, none⟩ u j (fun e => hne (by rw [e]))⟩⟩
  rw [Nat.mul_one, Array.toList_setIfInBounds, List.take_set, h4]
/-- The row's end moved up by one from p on. -/
theorem run_copy_up {W : World} {base n g cap p dc sc : Nat} {dp : Option Addr} {vs : List Value} (h : W.ownsRow base 21 1 (.slice (some ⟨g, 0, none⟩) (n + 1) cap) (n + 1) vs) (hp : p ≤ n) (hdp : p < n → dp = some ⟨g, p + 1, none⟩) (h1 : ∀ u ∈ vs, u.oneCell' = true) :
    ∃ w1, (Builtin.copy_ #[48, 48] 3 #[.slice dp (n + 1 - (p + 1)) dc, .slice (some ⟨g, p, none⟩) (n + 1 - p) sc]).run Try.prog W = .ok (goInt ((n - p : Nat) : Int)) w1 ∧ w1.ownsRow base 21 1 (.slice (some ⟨g, 0, none⟩) (n + 1) cap) (n + 1) (vs.take (p + 1) ++ (vs.drop p).take (n - p)) ∧ W.grownBy w1 (some g) := by
  have hvl : vs.length = n + 1 := by have := h.1; omega
  have hsz : (Try.prog.info? 21).map (·.size) = some 1 := by kernel_rfl
  by_cases hpn : p < n
  · obtain ⟨g', cap', cur, e', hb, hh, c1, c2, c3, c4⟩ := own_form h (by omega)
    simp only [Value.slice.injEq, Option.some.injEq, Addr.mk.injEq] at e'
    obtain ⟨⟨rfl, _⟩, _, rfl⟩ := e'
    rw [hdp hpn]
    have hcl : ((vs.drop p).take (n - p)).length = n - p := by simp; omega
    have hr := run_copy_row (P := Try.prog) W 48 48 3 21 g (p + 1) (n + 1 - (p + 1)) dc ⟨g, p, none⟩ (n + 1 - p) sc cur 21 ((vs.drop p).take (n - p)) Try.underlying48 hsz hh (by rw [hcl]; show n - p = min (n + 1 - p) (n + 1 - (p + 1)); omega)
      (fun j u hu => by
        rw [add_none]
        rw [List.getElem?_take] at hu
        split at hu
        · rw [List.getElem?_drop] at hu; exact (own_cell h hu).1
        · cases hu) (by rw [hcl]; omega) (fun u hu => h1 u (List.mem_of_mem_drop (List.mem_of_mem_take hu)))
    rw [hcl] at hr
    refine ⟨_, hr, ⟨?_, .inr ⟨g, cap, _, rfl, hb, setRow_heap W g _ _ _ _ hh, c1, c2, ?_, ?_⟩⟩, ⟨rfl, rfl, rfl, by simp [World.setRow], fun j hj hne => setRow_other W g j _ (fun e => hne (by rw [e]))⟩⟩
    · simp only [List.length_append, List.length_take, List.length_drop, hvl]; omega
    · simp only [List.size_toArray, List.length_append, List.length_take, List.length_drop, Array.length_toList, hvl]; omega
    · rw [Nat.mul_one]
      show List.take (n + 1) (List.take (p + 1) cur.toList ++ List.take (n - p) (List.drop p vs) ++ List.drop (p + 1 + (n - p)) cur.toList) = _
      rw [List.take_append_of_le_length (by simp only [List.length_append, List.length_take, List.length_drop, Array.length_toList, hvl]; omega)]
      rw [List.take_of_length_le (by simp only [List.length_append, List.length_take, List.length_drop, Array.length_toList, hvl]; omega)]
      rw [← c4, List.take_take, Nat.min_eq_left (by omega)]
  · obtain rfl : p = n := by omega
    refine ⟨W, ?_, ?_, World.grownBy.refl W _⟩
    · have := run_copy_none (P := Try.prog) W 48 48 3 21 dp (some ⟨g, p, none⟩) (p + 1 - (p + 1)) dc (p + 1 - p) sc Try.underlying48 hsz (by show min (p + 1 - p) (p + 1 - (p + 1)) = 0; omega)
      rw [this, Nat.sub_self]; rfl
    · rw [Nat.sub_self, List.take_zero, List.append_nil, List.take_of_length_le (by omega)]
      exact h
theorem ins_values {vs : List Value} {p : Nat} (hp : p ≤ vs.length) (z u : Value) : (((vs ++ [z]).take (p + 1) ++ ((vs ++ [z]).drop p).take (vs.length - p)).set p u) = vs.take p ++ u :: vs.drop p := by
  apply List.ext_getElem?
  intro j
  have hl : ((vs ++ [z]).take (p + 1)).length = p + 1 := by simp; omega
  rcases Nat.lt_trichotomy j p with h | h | h
  · rw [List.getElem?_set_ne (by omega), List.getElem?_append_left (by omega), List.getElem?_take, if_pos (by omega), List.getElem?_append_left (by omega), List.getElem?_append_left (by simp; omega), List.getElem?_take, if_pos h]
  · subst h
    rw [List.getElem?_set_self (by simp; omega), List.getElem?_append_right (by simp; omega)]
    simp [Nat.min_eq_left hp]
  · rw [List.getElem?_set_ne (by omega), List.getElem?_append_right (by omega), hl, List.getElem?_take, List.getElem?_append_right (by simp; omega)]
    simp only [List.length_take, Nat.min_eq_left hp]
    obtain ⟨d, rfl⟩ : ∃ d, j = p + 1 + d := ⟨j - (p + 1), by omega⟩
    rw [show p + 1 + d - (p + 1) = d by omega, show p + 1 + d - p = d + 1 by omega, List.getElem?_cons_succ, List.getElem?_drop, List.getElem?_drop]
    split
    · rw [List.getElem?_append_left (by omega)]
    · rw [List.getElem?_eq_none (by omega)]
theorem row_drew {w : World} {base : Nat} {e : TypeId} {size n : Nat} {v : Value} {xs : List Value} (h : w.ownsRow base e size v n xs) : w.drew.ownsRow base e size v n xs := h
/-- A row of numbers, by its values. -/
theorem ints_own {e base : Nat} {ok : Nat → Prop} {W : World} {v : Value} {xs : List Int} (h : Kd.R (Kd.int .i32) e W base ok v xs) : W.ownsRow base e 1 v xs.length (xs.map fun x => Value.int .i32 x) := by
  obtain ⟨_, inner, ho, hl, hr⟩ := h
  have he : inner = xs.map fun x => Value.int .i32 x := by
    have hl' : inner.length = xs.length := by rw [hl]; exact Nat.mul_one _
    apply List.ext_getElem (by simpa using hl')
    intro j h1 h2
    have hj : j < xs.length := by simpa using h2
    have hm : (inner.drop (j * 1)).take 1 = [Value.int .i32 xs[j]] := hr j _ (List.getElem?_eq_getElem hj)
    rw [Nat.mul_one, List.drop_eq_getElem_cons h1] at hm
    simp only [List.take_succ_cons, List.take_zero, List.cons.injEq, and_true] at hm
    rw [hm, List.getElem_map]
  rw [← he]; exact ho
theorem ints_R {e base : Nat} {ok : Nat → Prop} {W : World} {v : Value} {xs : List Int} (h0 : ∀ k, v.ownBlock = some k → ok k) (h : W.ownsRow base e 1 v xs.length (xs.map fun x => Value.int .i32 x)) : Kd.R (Kd.int .i32) e W base ok v xs := by
  refine ⟨h0, _, h, by show _ = xs.length * 1; simp, fun j p hp => ?_⟩
  have hj := (List.getElem?_eq_some_iff.1 hp).1
  have he := (List.getElem?_eq_some_iff.1 hp).2
  show ((xs.map fun x => Value.int .i32 x).drop (j * 1)).take 1 = [Value.int .i32 p]
  rw [Nat.mul_one, List.drop_eq_getElem_cons (by simpa using hj)]
  simp [he]
/-- Behind append(l, 0): the end moved up from p on, then r stored at p. -/
theorem add_copy {W : World} {base g cap p : Nat} {ok : Nat → Prop} {xs : List Int} (h : Kd.R (Kd.int .i32) 21 W base ok (.slice (some ⟨g, 0, none⟩) (xs.length + 1) cap) (xs ++ [0])) (hp : p ≤ xs.length) (dp : Option Addr) (dc sc : Nat) (hdp : p < xs.length → dp = some ⟨g, p + 1, none⟩) :
    ∃ w2, (Builtin.copy_ #[48, 48] 3 #[.slice dp (xs.length + 1 - (p + 1)) dc, .slice (some ⟨g, p, none⟩) (xs.length + 1 - p) sc]).run Try.prog W = .ok (goInt ((xs.length - p : Nat) : Int)) w2 ∧
      (∃ x, w2.cell? ⟨g, p, none⟩ = some x) ∧ w2.frozen? ⟨g, p, none⟩ = false ∧ W.grownBy w2 (some g) ∧
      ∀ r : Int, Kd.R (Kd.int .i32) 21 (w2.setCell ⟨g, p, none⟩ (.int .i32 r)) base ok (.slice (some ⟨g, 0, none⟩) (xs.length + 1) cap) (xs.take p ++ r :: xs.drop p) ∧ W.grownBy (w2.setCell ⟨g, p, none⟩ (.int .i32 r)) (some g) := by
  have ho := ints_own h
  rw [List.length_append, List.length_singleton, List.map_append] at ho
  obtain ⟨w2, hr2, q6, q7⟩ := run_copy_up (dc := dc) (sc := sc) ho hp hdp (fun u hu => by
    rcases List.mem_append.1 hu with h | h
    · obtain ⟨x, _, rfl⟩ := List.mem_map.1 h; rfl
    · rw [List.map_singleton, List.mem_singleton] at h; rw [h]; rfl)
  have hl : (xs.map fun x => Value.int .i32 x).length = xs.length := by simp
  have hxs : p < (((xs.map fun x => Value.int .i32 x) ++ [0].map fun x => Value.int .i32 x).take (p + 1) ++ (((xs.map fun x => Value.int .i32 x) ++ [0].map fun x => Value.int .i32 x).drop p).take (xs.length - p)).length := by
    simp only [List.length_append, List.length_take, List.length_map, List.length_cons, List.length_nil]; omega
  obtain ⟨c1, c2⟩ := own_cell q6 (List.getElem?_eq_getElem hxs)
  refine ⟨w2, hr2, ⟨_, c1⟩, c2, q7, fun r => ?_⟩
  obtain ⟨q8, q9⟩ := own_set q6 (p := p) (by omega) (.int .i32 r)
  have hv := ins_values (vs := xs.map fun x => Value.int .i32 x) (p := p) (by omega) (.int .i32 0) (.int .i32 r)
  rw [hl] at hv
  rw [List.map_singleton, hv] at q8
  refine ⟨ints_R h.1 ?_, q7.trans q9⟩
  have e1 : (xs.take p ++ r :: xs.drop p).length = xs.length + 1 := by simp; omega
  have e2 : (xs.take p ++ r :: xs.drop p).map (fun x => Value.int .i32 x) = (xs.map fun x => Value.int .i32 x).take p ++ .int .i32 r :: (xs.map fun x => Value.int .i32 x).drop p := by simp [List.map_take, List.map_drop]
  rw [e1, e2]; exact q8
theorem wpList_copy_eq {P : Program} {w : World} {ops : Array Oper} {rest : List Oper} {o : Oper} {a : Act} {Q : Exit → Act → World → Prop} (hg : o.guard = none) (d s : Operand) (dT sT : TypeId) (hop : o.op = .call { callee := .builtin .copy, args := #[d, s], argTypes := #[dT, sT] }) {v1 : Value} {w1 : World}
    (hrun : (Builtin.copy_ #[dT, sT] o.type #[a.eval d, a.eval s]).run P w = .ok v1 w1) (hK : wpList P ops Q rest (a.put o.dst v1) w1) : wpList P ops Q (o :: rest) a w := by
  refine wpList_plain hg fun K hK' => ?_
  unfold Oper.wp execOp
  simp only [hop, resolve, invoke, builtin, Sem.run_bind, Sem.run_pure, Result.andThen_ok, List.map_toArray, List.map_cons, List.map_nil, hrun]
  exact hK' _ _ hK
end Go.Proofs.Ytnfnnmmblommiaa.PA
namespace Go.Proofs.Ytnfnnmmblommiaa.PA
open Go.RowKit Go.Shelf Go.Proofs.YtnfnnmmblommiaaW.PrintWords Go.Proofs.YtnfnnmmblommiaaW.PrintLast Go.Proofs.YtnfnnmmblommiaaW.PrintMore
set_option linter.unusedVariables false
set_option linter.unusedSimpArgs false

theorem add_below {base g3 : Nat} {W w3 w9 : World} (h : Below base W w3) (hg : w3.drew.grownBy w9 (some g3)) (hb : base ≤ W.heap.size) (h3 : base ≤ g3) : Below base W w9 := by
  have hd : Below base W w3.drew := ⟨h.os, h.tape, h.output, h.size, h.block⟩
  exact hd.grown hg (Nat.le_trans hb h.size) (fun k hk => by cases hk; exact h3)
theorem add_len {base g3 c3 p : Nat} {W : World} {xs : List Int} {r : Int} (hp : p ≤ xs.length) (h : Kd.R (Kd.int .i32) 21 W base (fun _ => True) (.slice (some ⟨g3, 0, none⟩) (xs.length + 1) c3) (xs.take p ++ r :: xs.drop p)) : Kd.R (Kd.int .i32) 21 W base (fun _ => True) (.slice (some ⟨g3, 0, none⟩) (xs.take p ++ r :: xs.drop p).length c3) (xs.take p ++ r :: xs.drop p) := by
  have e : (xs.take p ++ r :: xs.drop p).length = xs.length + 1 := by simp; omega
  rw [e]; exact h
theorem add_grown {g g3 n c n3 c3 : Nat} {W w3 w9 : World} (h : W.grownBy w3 (Value.slice (some ⟨g, 0, none⟩) n c).ownBlock) (hg : w3.drew.grownBy w9 (some g3)) (hat : (Value.slice (some ⟨g3, 0, none⟩) n3 c3).ownBlock = (Value.slice (some ⟨g, 0, none⟩) n c).ownBlock ∨ ∃ b, (Value.slice (some ⟨g3, 0, none⟩) n3 c3).ownBlock = some b ∧ W.heap.size ≤ b) : W.grownBy w9 (some g) := by
  have h' : W.grownBy w3.drew (some g) := ⟨h.os, h.tape, h.output, h.size, h.block⟩
  refine h'.andThen hg fun j hj => ?_
  cases hj
  rcases hat with e | ⟨b, e, hb⟩
  · exact .inr (by cases e; rfl)
  · exact .inl (by cases e; exact hb)
set_option maxRecDepth 100000 in
set_option maxHeartbeats 4000000 in
theorem add_calls (base g c : Nat) (W : World) (xs : List Int) (r : Int) (h : Kd.R (Kd.int .i32) 21 W base (fun _ => True) (.slice (some ⟨g, 0, none⟩) xs.length c) xs) (hpos : 0 < xs.length) (hbase : base ≤ W.heap.size) (hl : xs.length < 1000000) :
    Calls Try.prog 56 #[.slice (some ⟨g, 0, none⟩) xs.length c, .int .i32 r] W fun e w' => ∃ g' c', e = .returned (.slice (some ⟨g', 0, none⟩) (addI xs r).length c') ∧ Kd.R (Kd.int .i32) 21 w' base (fun _ => True) (.slice (some ⟨g', 0, none⟩) (addI xs r).length c') (addI xs r) ∧ Below base W w' ∧ W.grownBy w' (some g) := by
  have HR := Lib.hid h
  have HCELL := Lib.hid (fun (j : Nat) (x : Int) (hj : xs[j]? = some x) => (own_cell (ints_own h) (j := j) (u := .int .i32 x) (by rw [List.getElem?_map, hj]; rfl)).1)
  have hple := posI_le r xs
  have HLT := Lib.hid (posI_lt r xs)
  have HGE := Lib.hid (posI_ge r xs)
  have HADD : Hid (addI xs r = if xs[posI r xs]? = some r then xs else xs.take (posI r xs) ++ r :: xs.drop (posI r xs)) := Lib.hid rfl
  generalize posI r xs = p at hple HLT HGE HADD
  clear h
  go_enter Try.func56, Try.ntmps56
  go_wp2
  go_loopg [5] xs.length (fun gk v5 wr => ∃ i : Nat, v5 = .int .i64 i ∧ i ≤ p ∧ xs.length - i ≤ gk ∧ wr = W)
  case atStart => exact ⟨0, rfl, Nat.zero_le _, by omega, rfl⟩
  case round =>
    obtain ⟨i, rfl, hi, hg, rfl⟩ := hrel
    by_cases hlp : i < p
    · have hx := HCELL.out i _ (List.getElem?_eq_getElem (show i < xs.length by omega))
      have hd := HLT.out i _ hlp (List.getElem?_eq_getElem (show i < xs.length by omega))
      generalize xs[i] = x at hx hd
      have hd2 : decide (x < r) = true := decide_eq_true hd
      have hil : i < xs.length := by omega
      go_wp2
      go_roundg (xs.length - (i + 1))
      case measure => omega
      case rel => exact ⟨i + 1, by go_num, by omega, Nat.le_refl _, rfl⟩
    · obtain rfl : p = i := by omega
      by_cases hpl : p < xs.length
      · have hx := HCELL.out p _ (List.getElem?_eq_getElem hpl)
        have hd := HGE.out _ (List.getElem?_eq_getElem hpl)
        have HGET := Lib.hid (List.getElem?_eq_getElem hpl)
        generalize xs[p] = x at hx hd HGET
        have hd2 : decide (x < r) = false := decide_eq_false (by omega)
        by_cases hxr : x = r
        · have hd3 : (x == r) = true := beq_iff_eq.2 hxr
          have HA : Hid (addI xs r = xs) := Lib.hid (by rw [HADD.out, if_pos (by rw [HGET.out, hxr])])
          clear hxr hd
          go_wp2
          go_ret
          exact ⟨g, c, by rw [HA.out]; rfl, by rw [HA.out]; exact HR.out, Below.refl _ _, World.grownBy.refl _ _⟩
        · have hd3 : (x == r) = false := beq_eq_false_iff_ne.2 hxr
          have HA : Hid (addI xs r = xs.take p ++ r :: xs.drop p) := Lib.hid (by rw [HADD.out, if_neg (by rw [HGET.out]; intro e; exact hxr (Option.some.inj e))])
          clear hd HADD HLT HGE hg
          skip
          go_wp2_with (at_builtin; (refine Kd.R_append (Kd.int .i32) (W := wr) base rfl (.tmp 33) (.tmp 34) 48 21 (.int .i32 0) 4 rfl Try.underlying48 infoC32 rfl Nat.one_pos (by omega) (.slice (some ⟨g, 0, none⟩) xs.length c) xs 0 [.int .i32 0] (fun _ => True) (fun _ => False) rfl rfl ?aP (fun _ hk => hk.elim) (fun _ _ => trivial) HR.out (Below.refl base wr) hbase ?aL ?_); (case aP => rfl); (case aL => omega); intro v1 w3 ho hbl hgr hat; obtain ⟨g3, c3, e3, hg3, hs3, _⟩ := Kd.R_form ho (by simp); rw [List.length_append, List.length_singleton] at e3; subst e3; have HO3 := Lib.hid ho; have HB3 := Lib.hid hbl; have HG3 := Lib.hid hg3; have HGR := Lib.hid hgr; have HAT := Lib.hid hat; clear ho hbl hgr hat)
          obtain ⟨hcp1, hcp2⟩ : xs.length + 1 ≤ c3 ∧ True := ⟨(Kd.R_reads' HO3.out).2.1, trivial⟩
          obtain ⟨w7, hr7, ⟨x7, hx7⟩, hf7, hg7, hm7⟩ := add_copy (W := w3.drew) (p := p) (Kd.R_drew HO3.out) (by omega) (if c3 = p + 1 then some ⟨g3, 0, none⟩ else some ⟨g3, p + 1, none⟩) (c3 - (p + 1)) (c3 - p) (fun h => by rw [if_neg (by omega)])
          rw [show xs.length + 1 - (p + 1) = xs.length - p by omega] at hr7
          obtain ⟨q1, q2⟩ := hm7 r
          have HM7 := Lib.hid q1
          have HG7 := Lib.hid q2
          have e1 : IntKind.i64.wrap ((p : Int) + 1) = (p : Int) + 1 := IntWalk.i64_in _ (by omega)
          have e2 : (0 : Int) ≤ (p : Int) + 1 := by omega
          have e3 : ((p : Int) + 1).toNat = p + 1 := by omega
          have e4 : (p : Int) + 1 ≤ (xs.length : Int) + 1 := by omega
          have e5 : (p : Int) ≤ (xs.length : Int) + 1 := by omega
          have e6 : ¬ (c3 = p) := by omega
          have e7 : (p : Int) < (xs.length : Int) + 1 := by omega
          clear hm7 q1 q2
          go_still_tail 7, (by kernel_rfl)
          change wpList _ _ _ _ _ w3.drew
          refine wpList_copy_eq rfl (.tmp 39) (.tmp 42) 48 48 rfl hr7 ?_
          clear hr7 e1 e3
          generalize (if c3 = p + 1 then (some ⟨g3, 0, none⟩ : Option Addr) else some ⟨g3, p + 1, none⟩) = dq
          go_wp2
          go_ret
          exact ⟨g3, c3, by rw [HA.out]; simp <;> omega, by rw [HA.out]; exact add_len (by omega) HM7.out, add_below HB3.out HG7.out hbase HG3.out, add_grown HGR.out HG7.out HAT.out⟩
      · obtain rfl : p = xs.length := by omega
        have HA : Hid (addI xs r = xs.take xs.length ++ r :: xs.drop xs.length) := Lib.hid (by rw [HADD.out, if_neg (by simp)])
        clear HADD HLT HGE hg
        skip
        go_wp2_with (at_builtin; (refine Kd.R_append (Kd.int .i32) (W := wr) base rfl (.tmp 33) (.tmp 34) 48 21 (.int .i32 0) 4 rfl Try.underlying48 infoC32 rfl Nat.one_pos (by omega) (.slice (some ⟨g, 0, none⟩) xs.length c) xs 0 [.int .i32 0] (fun _ => True) (fun _ => False) rfl rfl ?aP (fun _ hk => hk.elim) (fun _ _ => trivial) HR.out (Below.refl base wr) hbase ?aL ?_); (case aP => rfl); (case aL => omega); intro v1 w3 ho hbl hgr hat; obtain ⟨g3, c3, e3, hg3, hs3, _⟩ := Kd.R_form ho (by simp); rw [List.length_append, List.length_singleton] at e3; subst e3; have HO3 := Lib.hid ho; have HB3 := Lib.hid hbl; have HG3 := Lib.hid hg3; have HGR := Lib.hid hgr; have HAT := Lib.hid hat; clear ho hbl hgr hat)
        obtain ⟨hcp1, hcp2⟩ : xs.length + 1 ≤ c3 ∧ True := ⟨(Kd.R_reads' HO3.out).2.1, trivial⟩
        obtain ⟨w7, hr7, ⟨x7, hx7⟩, hf7, hg7, hm7⟩ := add_copy (W := w3.drew) (p := xs.length) (Kd.R_drew HO3.out) (by omega) (if c3 = xs.length + 1 then some ⟨g3, 0, none⟩ else some ⟨g3, xs.length + 1, none⟩) (c3 - (xs.length + 1)) (c3 - xs.length) (fun h => by rw [if_neg (by omega)])
        rw [show xs.length + 1 - (xs.length + 1) = 0 by omega, show xs.length + 1 - xs.length = 1 by omega] at hr7
        obtain ⟨q1, q2⟩ := hm7 r
        have HM7 := Lib.hid q1
        have HG7 := Lib.hid q2
        have e1 : IntKind.i64.wrap ((xs.length : Int) + 1) = (xs.length : Int) + 1 := IntWalk.i64_in _ (by omega)
        have e2 : (0 : Int) ≤ (xs.length : Int) + 1 := by omega
        have e3 : ((xs.length : Int) + 1).toNat = xs.length + 1 := by omega
        have e4 : (xs.length : Int) + 1 ≤ (xs.length : Int) + 1 := by omega
        have e5 : (xs.length : Int) ≤ (xs.length : Int) + 1 := by omega
        have e6 : ¬ (c3 = xs.length) := by omega
        have e7 : (xs.length : Int) < (xs.length : Int) + 1 := by omega
        clear hm7 q1 q2
        go_still_tail 7, (by kernel_rfl)
        change wpList _ _ _ _ _ w3.drew
        refine wpList_copy_eq rfl (.tmp 39) (.tmp 42) 48 48 rfl hr7 ?_
        clear hr7 e1 e3
        generalize (if c3 = xs.length + 1 then (some ⟨g3, 0, none⟩ : Option Addr) else some ⟨g3, xs.length + 1, none⟩) = dq
        go_wp2
        go_ret
        exact ⟨g3, c3, by rw [HA.out]; simp <;> omega, by rw [HA.out]; exact add_len (by omega) HM7.out, add_below HB3.out HG7.out hbase HG3.out, add_grown HGR.out HG7.out HAT.out⟩
end Go.Proofs.Ytnfnnmmblommiaa.PA
