/- A row of words that came in, one more and one fewer: append, copy, a store; what a trie of the call's own keeps meanwhile. -/
import Derived.Test.YteaadpgammbdgaaFound
import Derived.Laws.CopyOwn
namespace Go.Proofs.Yteaadpgammbdgaa.PA
open Go.RowKit Go.Shelf Go.Proofs.YteaadpgammbdgaaW.PrintWords Go.Proofs.YteaadpgammbdgaaW.PrintLast Go.Proofs.YteaadpgammbdgaaW.PrintMore
set_option linter.unusedVariables false
set_option linter.unusedSimpArgs false

/-- A trie of the call's own, where one row is written, or a new one made. -/
theorem Held.grown {B : Nat} {w W W' : World} {tb nb : Nat} {M : List (List Int)} {row : Option Nat} (h : Held B w W tb nb M) (hg : W.grownBy W' row) (hr : ∀ g, row = some g → B ≤ g ∧ ∀ o, W.heap[g]? = some o → wordy o = true) : Held B w W' tb nb M := by
  obtain ⟨N, g, S, r⟩ := h
  have hk : ∀ (k : Nat) (o : Obj), W.heap[k]? = some o → wordy o = false → W'.heap[k]? = W.heap[k]? := fun k o ho hw =>
    hg.block k (Array.getElem?_eq_some_iff.1 ho).1 fun e => by have := (hr k e.symm).2 o ho; rw [hw] at this; cases this
  have ht : Tree W' N g := S.trie.tree.kept fun b hb => by
    obtain ⟨p, nb, mb, hh, hgp, e⟩ := hb
    rcases e with rfl | rfl
    · exact hk _ _ (S.trie.tree.node _ _ _ _ hgp) (by simp [wordy])
    · obtain ⟨es, clock, hm⟩ := (S.trie.tree.map _ _ _ _ hgp).obj
      exact hk _ _ hm rfl
  refine ⟨N, g, ⟨⟨ht, ?_⟩, S.own, S.tb_, ?_, Nat.le_trans S.le hg.size⟩, r⟩
  · obtain ⟨rb, mb, hh, hobj, h2⟩ := S.trie.obj
    exact ⟨rb, mb, hh, (hk _ _ hobj rfl).trans hobj, h2⟩
  · refine S.below.trans ⟨hg.os, hg.tape, hg.output, hg.size, fun k hlt => hg.block k (Nat.lt_of_lt_of_le hlt S.le) fun e => ?_⟩
    have := (hr k e.symm).1; omega
theorem info_words : (Try.prog.info? 22).map (fun i => (i.zero, i.size, i.bytes)) = some (some (.slice none 0 0), 1, 24) := by kernel_rfl
/-- append to a row of slices. -/
theorem run_append_ws {W : World} {base n m c : Nat} {v : Value} {vs news : List Value} {ad : Addr} (HO : W.ownsRow base 22 1 v n vs) (hl : news.length = m) (hn : ∀ j u, news[j]? = some u → W.cell? (ad.add j) = some u) (h1 : ∀ u ∈ news, u.oneCell' = true) (hb : base ≤ W.heap.size) (hlen : n + m ≤ 1000000) :
    ∃ v1 w1, (Builtin.append_ #[50, 50] 50 #[v, .slice (some ad) m c]).run Try.prog W = .ok v1 w1 ∧ w1.ownsRow base 22 1 v1 (n + m) (vs ++ news) ∧ W.grownBy w1 v.ownBlock ∧ (v1.ownBlock = v.ownBlock ∨ v1.ownBlock = some W.heap.size) := by
  obtain ⟨i0, hi, hzz⟩ := Option.map_eq_some_iff.1 info_words
  simp only [Prod.mk.injEq] at hzz
  obtain ⟨hz0, hz1, hz2⟩ := hzz
  obtain ⟨v1, w1, hr, q2, q3, _, q5⟩ := run_append_own_at (P := Try.prog) (w := W) base 50 50 22 i0 (.slice none 0 0) 1 24 Try.underlying50 hi hz0 hz1 hz2 rfl (by omega) v n vs HO ad m c news (by omega) hn h1 (by simp only [maxLen]; omega) (by omega) hb
  exact ⟨v1, w1, hr, q2, q3, q5⟩
theorem own_form {W : World} {base e n : Nat} {v : Value} {vs : List Value} (h : W.ownsRow base e 1 v n vs) (hn : 0 < n) : ∃ g cap cur, v = .slice (some ⟨g, 0, none⟩) n cap ∧ base ≤ g ∧ W.heap[g]? = some (.cells cur e (0, 0)) ∧ n ≤ cap ∧ cap ≤ maxLen ∧ cur.size = cap ∧ cur.toList.take n = vs := by
  rcases h.2 with ⟨_, h0⟩ | ⟨g, cap, cur, e, q1, q2, q3, q4, q5, q6⟩
  · omega
  · exact ⟨g, cap, cur, e, q1, q2, q3, q4, by omega, by simpa using q6⟩
theorem own_cell {W : World} {base e n g cap : Nat} {vs : List Value} (h : W.ownsRow base e 1 (.slice (some ⟨g, 0, none⟩) n cap) n vs) {j : Nat} {u : Value} (hu : vs[j]? = some u) : W.cell? ⟨g, j, none⟩ = some u ∧ W.frozen? ⟨g, j, none⟩ = false := by
  have hj : j < n := by have := h.1; have := (List.getElem?_eq_some_iff.1 hu).1; omega
  obtain ⟨g', cap', cur, e', _, hh, _, _, hs, ht⟩ := own_form h (by omega)
  simp only [Value.slice.injEq, Option.some.injEq, Addr.mk.injEq] at e'
  obtain ⟨⟨rfl, _⟩, _, rfl⟩ := e'
  have hc : cur[j]? = some u := by
    rw [← ht, List.getElem?_take, if_pos hj, Array.getElem?_toList] at hu; exact hu
  refine ⟨?_, by unfold World.frozen?; simp [hh]⟩
  unfold World.cell?
  simp only [hh, hc]
  rfl
/-- One element written. -/
theorem own_set {W : World} {base e n g cap p : Nat} {vs : List Value} (h : W.ownsRow base e 1 (.slice (some ⟨g, 0, none⟩) n cap) n vs) (hp : p < n) (u : Value) : (W.setCell ⟨g, p, none⟩ u).ownsRow base e 1 (.slice (some ⟨g, 0, none⟩) n cap) n (vs.set p u) ∧ W.grownBy (W.setCell ⟨g, p, none⟩ u) (some g) := by
  obtain ⟨g', cap', cur, e', hb, hh, h1, h2, h3, h4⟩ := own_form h (by omega)
  simp only [Value.slice.injEq, Option.some.injEq, Addr.mk.injEq] at e'
  obtain ⟨⟨rfl, _⟩, _, rfl⟩ := e'
  have hs := heap_set hh p u
  refine ⟨⟨by rw [List.length_set]; exact h.1, .inr ⟨g, cap, _, rfl, hb, hs, h1, h2, by simp; omega, ?_⟩⟩, ⟨rfl, rfl, rfl, by simp, fun j hj hne => Below.heap_setCell W ⟨g, p, none⟩ u j (fun e => hne (by rw [e]))⟩⟩
  rw [Nat.mul_one, Array.toList_setIfInBounds, List.take_set, h4]
/-- The row's end moved up by one from p on. -/
theorem run_copy_up {W : World} {base n g cap p dc sc : Nat} {dp : Option Addr} {vs : List Value} (h : W.ownsRow base 22 1 (.slice (some ⟨g, 0, none⟩) (n + 1) cap) (n + 1) vs) (hp : p ≤ n) (hdp : p < n → dp = some ⟨g, p + 1, none⟩) (h1 : ∀ u ∈ vs, u.oneCell' = true) :
    ∃ w1, (Builtin.copy_ #[50, 50] 3 #[.slice dp (n + 1 - (p + 1)) dc, .slice (some ⟨g, p, none⟩) (n + 1 - p) sc]).run Try.prog W = .ok (goInt ((n - p : Nat) : Int)) w1 ∧ w1.ownsRow base 22 1 (.slice (some ⟨g, 0, none⟩) (n + 1) cap) (n + 1) (vs.take (p + 1) ++ (vs.drop p).take (n - p)) ∧ W.grownBy w1 (some g) := by
  have hvl : vs.length = n + 1 := by have := h.1; omega
  have hsz : (Try.prog.info? 22).map (·.size) = some 1 := by kernel_rfl
  by_cases hpn : p < n
  · obtain ⟨g', cap', cur, e', hb, hh, c1, c2, c3, c4⟩ := own_form h (by omega)
    simp only [Value.slice.injEq, Option.some.injEq, Addr.mk.injEq] at e'
    obtain ⟨⟨rfl, _⟩, _, rfl⟩ := e'
    rw [hdp hpn]
    have hcl : ((vs.drop p).take (n - p)).length = n - p := by simp; omega
    have hr := run_copy_row (P := Try.prog) W 50 50 3 22 g (p + 1) (n + 1 - (p + 1)) dc ⟨g, p, none⟩ (n + 1 - p) sc cur 22 ((vs.drop p).take (n - p)) Try.underlying50 hsz hh (by rw [hcl]; show n - p = min (n + 1 - p) (n + 1 - (p + 1)); omega)
      (fun j u hu => by
        rw [add_none]
        rw [List.getElem?_take] at hu
        split at hu
        · rw [List.getElem?_drop] at hu; exact (own_cell h hu).1
        · cases hu) (by rw [hcl]; omega) (fun u hu => h1 u (List.mem_of_mem_drop (List.mem_of_mem_take hu)))
    rw [hcl] at hr
    refine ⟨_, hr, ⟨?_, .inr ⟨g, cap, _, rfl, hb, setRow_heap W g _ _ _ _ hh, c1, c2, ?_, ?_⟩⟩, ⟨rfl, rfl, rfl, by simp [World.setRow], fun j hj hne => setRow_other W g j _ (fun e => hne (by rw [e]))⟩⟩
    · simp only [List.length_append, List.length_take, List.length_drop, hvl]; omega
    · simp only [List.size_toArray, List.length_append, List.length_take, List.length_drop, Array.length_toList, hvl]; omega
    · rw [Nat.mul_one]
      show List.take (n + 1) (List.take (p + 1) cur.toList ++ List.take (n - p) (List.drop p vs) ++ List.drop (p + 1 + (n - p)) cur.toList) = _
      rw [List.take_append_of_le_length (by simp only [List.length_append, List.length_take, List.length_drop, Array.length_toList, hvl]; omega)]
      rw [List.take_of_length_le (by simp only [List.length_append, List.length_take, List.length_drop, Array.length_toList, hvl]; omega)]
      rw [← c4, List.take_take, Nat.min_eq_left (by omega)]
  · obtain rfl : p = n := by omega
    refine ⟨W, ?_, ?_, World.grownBy.refl W _⟩
    · have := run_copy_none (P := Try.prog) W 50 50 3 22 dp (some ⟨g, p, none⟩) (p + 1 - (p + 1)) dc (p + 1 - p) sc Try.underlying50 hsz (by show min (p + 1 - p) (p + 1 - (p + 1)) = 0; omega)
      rw [this, Nat.sub_self]; rfl
    · rw [Nat.sub_self, List.take_zero, List.append_nil, List.take_of_length_le (by omega)]
      exact h
theorem ins_values {vs : List Value} {p : Nat} (hp : p ≤ vs.length) (z u : Value) : (((vs ++ [z]).take (p + 1) ++ ((vs ++ [z]).drop p).take (vs.length - p)).set p u) = vs.take p ++ u :: vs.drop p := by
  apply List.ext_getElem?
  intro j
  have hl : ((vs ++ [z]).take (p + 1)).length = p + 1 := by simp; omega
  rcases Nat.lt_trichotomy j p with h | h | h
  · rw [List.getElem?_set_ne (by omega), List.getElem?_append_left (by omega), List.getElem?_take, if_pos (by omega), List.getElem?_append_left (by omega), List.getElem?_append_left (by simp; omega), List.getElem?_take, if_pos h]
  · subst h
    rw [List.getElem?_set_self (by simp; omega), List.getElem?_append_right (by simp; omega)]
    simp [Nat.min_eq_left hp]
  · rw [List.getElem?_set_ne (by omega), List.getElem?_append_right (by omega), hl, List.getElem?_take, List.getElem?_append_right (by simp; omega)]
    simp only [List.length_take, Nat.min_eq_left hp]
    obtain ⟨d, rfl⟩ : ∃ d, j = p + 1 + d := ⟨j - (p + 1), by omega⟩
    rw [show p + 1 + d - (p + 1) = d by omega, show p + 1 + d - p = d + 1 by omega, List.getElem?_cons_succ, List.getElem?_drop, List.getElem?_drop]
    split
    · rw [List.getElem?_append_left (by omega)]
    · rw [List.getElem?_eq_none (by omega)]
theorem MRow.of {w wr : World} {v : Value} {M : List (List Int)} {vs : List Value} (ho : wr.ownsRow w.heap.size 22 1 v M.length vs) (hw : ∀ (j : Nat) (u : Value) (zs : List Int), vs[j]? = some u → M[j]? = some zs → ∃ A c, u = .slice A zs.length c ∧ zs.length ≤ c ∧ WordAt w.heap.size w A zs) : MRow w wr v M := ⟨vs, ho, hw⟩
def WordsOf (w : World) (vs : List Value) (M : List (List Int)) : Prop := vs.length = M.length ∧ ∀ (j : Nat) (u : Value) (zs : List Int), vs[j]? = some u → M[j]? = some zs → ∃ A c, u = .slice A zs.length c ∧ zs.length ≤ c ∧ WordAt w.heap.size w A zs
theorem WordsOf.one {w : World} {vs : List Value} {M : List (List Int)} (h : WordsOf w vs M) : ∀ u ∈ vs, u.oneCell' = true := fun u hu => by
  obtain ⟨j, hj, e⟩ := List.getElem_of_mem hu
  obtain ⟨A, c, e', _⟩ := h.2 j u _ (by rw [List.getElem?_eq_getElem hj, e]) (List.getElem?_eq_getElem (by have := h.1; omega))
  rw [e']; rfl
theorem WordsOf.append {w : World} {vs vs' : List Value} {M M' : List (List Int)} (h : WordsOf w vs M) (k : WordsOf w vs' M') : WordsOf w (vs ++ vs') (M ++ M') := by
  refine ⟨by rw [List.length_append, List.length_append, h.1, k.1], fun j u zs hu hz => ?_⟩
  by_cases hj : j < vs.length
  · rw [List.getElem?_append_left hj] at hu
    rw [List.getElem?_append_left (by have := h.1; omega)] at hz
    exact h.2 j u zs hu hz
  · rw [List.getElem?_append_right (by omega)] at hu
    rw [List.getElem?_append_right (by have := h.1; omega), ← h.1] at hz
    exact k.2 _ u zs hu hz
theorem WordsOf.take {w : World} {vs : List Value} {M : List (List Int)} (h : WordsOf w vs M) (p : Nat) : WordsOf w (vs.take p) (M.take p) := by
  refine ⟨by rw [List.length_take, List.length_take, h.1], fun j u zs hu hz => ?_⟩
  rw [List.getElem?_take] at hu hz
  split at hu
  · rename_i hj
    rw [if_pos hj] at hz
    exact h.2 j u zs hu hz
  · cases hu
theorem WordsOf.drop {w : World} {vs : List Value} {M : List (List Int)} (h : WordsOf w vs M) (p : Nat) : WordsOf w (vs.drop p) (M.drop p) := by
  refine ⟨by rw [List.length_drop, List.length_drop, h.1], fun j u zs hu hz => ?_⟩
  rw [List.getElem?_drop] at hu hz
  exact h.2 _ u zs hu hz
theorem WordsOf.cons {w : World} {vs : List Value} {M : List (List Int)} (h : WordsOf w vs M) {A : Option Addr} {zs : List Int} {c : Nat} (hc : zs.length ≤ c) (hW : WordAt w.heap.size w A zs) : WordsOf w (.slice A zs.length c :: vs) (zs :: M) := by
  refine ⟨by simp [h.1], fun j u zs' hu hz => ?_⟩
  cases j with
  | zero =>
    simp only [List.getElem?_cons_zero, Option.some.injEq] at hu hz
    subst hu hz
    exact ⟨A, c, rfl, hc, hW⟩
  | succ j =>
    rw [List.getElem?_cons_succ] at hu hz
    exact h.2 j u zs' hu hz
theorem MRow.parts {w wr : World} {v : Value} {M : List (List Int)} (h : MRow w wr v M) : ∃ vs, wr.ownsRow w.heap.size 22 1 v M.length vs ∧ WordsOf w vs M := by
  obtain ⟨vs, h1, h2⟩ := h
  exact ⟨vs, h1, by have := h1.1; omega, h2⟩
end Go.Proofs.Yteaadpgammbdgaa.PA
