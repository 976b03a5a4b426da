/- Rows of words in their order: where a word stands, one more, one fewer; the lengths of words that end at a place. -/
import Derived.Test.YteaadpgammbdgaaHold
namespace Go.Proofs.Yteaadpgammbdgaa.PA
open Go.RowKit Go.Proofs.YteaadpgammbdgaaW.PrintWords Go.Proofs.YteaadpgammbdgaaW.PrintLast Go.Proofs.YteaadpgammbdgaaW.PrintMore
set_option linter.unusedVariables false
set_option linter.unusedSimpArgs false

abbrev SortedL (M : List (List Int)) : Prop := M.Pairwise (fun a b => ltL a b = true)
theorem getD_eq {M : List (List Int)} {k : Nat} (h : k < M.length) : M.getD k [] = M[k] := by simp [List.getD_eq_getElem?_getD, h]
theorem sorted_unique : ∀ {L M : List (List Int)}, L.Perm M → SortedL L → SortedL M → L = M
  | [], M, hp, _, _ => (List.nil_perm.1 hp).symm
  | a :: L, [], hp, _, _ => absurd (List.perm_nil.1 hp) (by simp)
  | a :: L, b :: M, hp, h1, h2 => by
    have e : a = b := by
      have ha : a ∈ b :: M := hp.mem_iff.1 List.mem_cons_self
      have hb : b ∈ a :: L := hp.mem_iff.2 List.mem_cons_self
      rcases List.mem_cons.1 ha with q | q
      · exact q
      · rcases List.mem_cons.1 hb with q' | q'
        · exact q'.symm
        · have l1 := (List.pairwise_cons.1 h2).1 a q
          have l2 := (List.pairwise_cons.1 h1).1 b q'
          have := ltL_trans l1 l2
          rw [ltL_irrefl] at this; cases this
    subst e
    rw [sorted_unique ((List.perm_cons a).1 hp) (List.pairwise_cons.1 h1).2 (List.pairwise_cons.1 h2).2]
/-- Where a word stands, or would: so many are less. -/
structure PosAt (M : List (List Int)) (u : List Int) (p : Nat) : Prop where
  le : p ≤ M.length
  less : ∀ j, j < p → ltL (M.getD j []) u = true
  stop : p < M.length → ltL (M.getD p []) u = false
theorem PosAt.there {M : List (List Int)} {u : List Int} {p : Nat} (h : PosAt M u p) (hs : SortedL M) : u ∈ M ↔ p < M.length ∧ M.getD p [] = u := by
  constructor
  · intro hu
    obtain ⟨q, hq, e⟩ := List.getElem_of_mem hu
    rcases Nat.lt_trichotomy q p with g | g | g
    · have := h.less q g
      rw [getD_eq hq, e, ltL_irrefl] at this; cases this
    · subst g; exact ⟨hq, by rw [getD_eq hq, e]⟩
    · have h1 := List.pairwise_iff_getElem.1 hs p q (by omega) hq g
      have h2 := h.stop (by omega)
      rw [getD_eq (by omega), ← e, h1] at h2; cases h2
  · rintro ⟨h1, h2⟩
    rw [getD_eq h1] at h2
    rw [← h2]; exact List.getElem_mem _
theorem PosAt.after {M : List (List Int)} {u : List Int} {p : Nat} (h : PosAt M u p) (hs : SortedL M) (hu : u ∉ M) : ∀ v ∈ M.drop p, ltL u v = true := fun v hv => by
  obtain ⟨q, hq, e⟩ := List.getElem_of_mem hv
  rw [List.getElem_drop] at e
  rw [List.length_drop] at hq
  have hp : p < M.length := by omega
  have h1 : ltL u M[p] = true := by
    have h2 := h.stop hp
    rw [getD_eq hp] at h2
    rcases ltL_tri u M[p] with g | g | g
    · exact g
    · exact absurd (g ▸ List.getElem_mem _) hu
    · rw [h2] at g; cases g
  by_cases q0 : q = 0
  · subst q0; rw [← e]; simpa using h1
  · have h3 := List.pairwise_iff_getElem.1 hs p (p + q) hp (by omega) (by omega)
    rw [← e]; exact ltL_trans h1 h3
theorem PosAt.before {M : List (List Int)} {u : List Int} {p : Nat} (h : PosAt M u p) : ∀ v ∈ M.take p, ltL v u = true := fun v hv => by
  obtain ⟨q, hq, e⟩ := List.getElem_of_mem hv
  rw [List.length_take] at hq
  rw [List.getElem_take] at e
  have := h.less q (by omega)
  rw [getD_eq (by omega), e] at this
  exact this
def insL (M : List (List Int)) (p : Nat) (u : List Int) : List (List Int) := M.take p ++ u :: M.drop p
def delL (M : List (List Int)) (p : Nat) : List (List Int) := M.take p ++ M.drop (p + 1)
theorem insL_perm (M : List (List Int)) (p : Nat) (u : List Int) : (insL M p u).Perm (u :: M) := by
  unfold insL
  refine List.perm_middle.trans ?_
  rw [List.take_append_drop]
theorem insL_sorted {M : List (List Int)} {u : List Int} {p : Nat} (h : PosAt M u p) (hs : SortedL M) (hu : u ∉ M) : SortedL (insL M p u) := by
  unfold insL
  rw [SortedL, List.pairwise_append, List.pairwise_cons]
  have hs' : SortedL (M.take p ++ M.drop p) := by rw [List.take_append_drop]; exact hs
  rw [SortedL, List.pairwise_append] at hs'
  refine ⟨hs'.1, ⟨h.after hs hu, hs'.2.1⟩, fun a ha b hb => ?_⟩
  rcases List.mem_cons.1 hb with e | e
  · subst e; exact h.before a ha
  · exact hs'.2.2 a ha b e
theorem delL_perm {M : List (List Int)} {p : Nat} (h : p < M.length) : M.Perm (M.getD p [] :: delL M p) := by
  unfold delL
  rw [getD_eq h]
  have e : M = M.take p ++ M[p] :: M.drop (p + 1) := by rw [← List.drop_eq_getElem_cons h, List.take_append_drop]
  exact (List.Perm.of_eq e).trans List.perm_middle
theorem delL_sorted {M : List (List Int)} (p : Nat) (hs : SortedL M) : SortedL (delL M p) := by
  unfold delL
  have hs' : SortedL (M.take p ++ M.drop p) := by rw [List.take_append_drop]; exact hs
  rw [SortedL, List.pairwise_append] at hs' ⊢
  have hd : ∀ v, v ∈ M.drop (p + 1) → v ∈ M.drop p := fun v hv => by
    rw [← List.drop_drop] at hv
    exact List.mem_of_mem_drop hv
  refine ⟨hs'.1, ?_, fun a ha b hb => hs'.2.2 a ha b (hd b hb)⟩
  rw [← List.drop_drop]
  exact hs'.2.1.sublist (List.drop_sublist _ _)
theorem delL_erase {M : List (List Int)} {p : Nat} (h : p < M.length) : (M.erase (M.getD p [])).Perm (delL M p) := by
  have := (delL_perm h).erase (M.getD p [])
  rwa [List.erase_cons_head] at this
theorem Held.perm {B : Nat} {w W : World} {tb nb : Nat} {M M2 : List (List Int)} (h : Held B w W tb nb M) (hp : M.Perm M2) : Held B w W tb nb M2 := by
  obtain ⟨N, g, S, h1, h2, h3, h4, h5, h6⟩ := h
  refine ⟨N, g, by rw [← hp.length_eq]; exact S, h1, by rw [← hp.length_eq]; exact h2, fun u => by rw [h3, decide_eq_decide]; exact hp.mem_iff, hp.nodup_iff.1 h4, fun e => h5 (hp.mem_iff.2 e), h6⟩
/-- The last k ahead of a place. -/
theorem ahead_rev {text : List Int} {tz k : Nat} (h1 : tz ≤ text.length) (h2 : k ≤ tz) : (ahead text tz k).reverse = (text.take tz).drop (tz - k) := by
  unfold ahead
  rw [List.take_reverse, List.reverse_reverse, List.length_take, Nat.min_eq_left h1]
theorem ahead_len {text : List Int} {tz k : Nat} (h1 : tz ≤ text.length) (h2 : k ≤ tz) : ((text.take tz).drop (tz - k)).length = k := by
  rw [List.length_drop, List.length_take, Nat.min_eq_left h1]; omega
theorem endsM_step (M : List (List Int)) {text : List Int} {tz k : Nat} (h1 : tz ≤ text.length) (hk : 1 ≤ k) (h2 : k ≤ tz) : endsM M text tz k = endsM M text tz (k - 1) ++ (if (text.take tz).drop (tz - k) ∈ M then [(k : Int)] else []) := by
  obtain ⟨j, rfl⟩ : ∃ j, k = j + 1 := ⟨k - 1, by omega⟩
  rw [endsM, ahead_rev h1 h2, Nat.add_sub_cancel]
theorem endsM_prefix (M : List (List Int)) (text : List Int) (tz k : Nat) : ∀ d, ∃ r, endsM M text tz (k + d) = endsM M text tz k ++ r
  | 0 => ⟨[], by simp⟩
  | d + 1 => by
    obtain ⟨r, h⟩ := endsM_prefix M text tz k d
    exact ⟨r ++ (if (ahead text tz (k + d + 1)).reverse ∈ M then [((k + d + 1 : Nat) : Int)] else []), by rw [← Nat.add_assoc, endsM, h, List.append_assoc]⟩
theorem endsM_stop {M : List (List Int)} (h30 : ∀ u ∈ M, u.length ≤ 30) {text : List Int} {tz : Nat} (h1 : tz ≤ text.length) : ∀ d, 30 + d ≤ tz → endsM M text tz (30 + d) = endsM M text tz 30
  | 0, _ => rfl
  | d + 1, h => by
    rw [← Nat.add_assoc, endsM, endsM_stop h30 h1 d (by omega), ahead_rev h1 (by omega), if_neg, List.append_nil]
    intro hm
    have := h30 _ hm
    rw [ahead_len h1 (by omega)] at this; omega
theorem endsM_length (M : List (List Int)) (text : List Int) (tz : Nat) : ∀ k, (endsM M text tz k).length ≤ k
  | 0 => Nat.le_refl _
  | k + 1 => by
    have := endsM_length M text tz k
    rw [endsM, List.length_append]
    split <;> simp <;> omega
theorem endsM_at {M : List (List Int)} {text : List Int} {tz k : Nat} (h1 : tz ≤ text.length) (hk : 1 ≤ k) (h2 : k ≤ tz) (hm : (text.take tz).drop (tz - k) ∈ M) : (endsM M text tz (k - 1)).length < (endsM M text tz tz).length ∧ rd (endsM M text tz tz) ((endsM M text tz (k - 1)).length : Int) = (k : Int) := by
  have hs := endsM_step M h1 hk h2
  rw [if_pos hm] at hs
  obtain ⟨r, hr⟩ := endsM_prefix M text tz k (tz - k)
  rw [show k + (tz - k) = tz by omega, hs] at hr
  rw [hr]
  exact ⟨by simp, by simp [rd]⟩
theorem take_any {M : List (List Int)} {i : Nat} (h : i < M.length) (s : List Int) : decide (s ∈ M.take (i + 1)) = (decide (s ∈ M.take i) || decide (M.getD i [] = s)) := by
  rw [List.take_succ_eq_append_getElem h, getD_eq h, Bool.eq_iff_iff]
  simp only [List.mem_append, List.mem_singleton, Bool.or_eq_true, decide_eq_true_eq]
  exact ⟨fun q => q.imp id fun e => e.symm, fun q => q.imp id fun e => e.symm⟩
end Go.Proofs.Yteaadpgammbdgaa.PA
