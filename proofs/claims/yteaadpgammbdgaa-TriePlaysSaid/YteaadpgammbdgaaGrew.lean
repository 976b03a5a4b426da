/- What a word's new nodes do to a tree: nothing to what was there. -/
import Derived.Test.YteaadpgammbdgaaDown
import Derived.Test.YteaadpgammbdgaaRange
namespace Go.Proofs.Yteaadpgammbdgaa.PA
open Go.RowKit Go.Proofs.YteaadpgammbdgaaW.PrintWords Go.Proofs.YteaadpgammbdgaaW.PrintLast Go.Proofs.YteaadpgammbdgaaW.PrintMore
set_option linter.unusedVariables false
set_option linter.unusedSimpArgs false

structure Grew (w W : World) (N i : Nat) (g g' : Gh) : Prop where
  tree : Tree W (N + i) g'
  old : ∀ q x, g q = some x → g' q = some x
  fresh : ∀ q nb mb h, g q = none → g' q = some (nb, mb, h) → h = false
  own : ∀ b, g'.own b → g.own b ∨ w.heap.size ≤ b
  kept : ∀ k, k < w.heap.size → ¬ g.own k → W.heap[k]? = w.heap[k]?
  os : W.os = w.os
  tape : W.tape = w.tape
  output : W.output = w.output
  size : w.heap.size ≤ W.heap.size
theorem Tree.turn {B : Nat} {W W' : World} {N : Nat} {g : Gh} (T : Tree W N g) (h : TurnFrom B W W') : Tree W' N g := by
  refine T.kept fun b hb => ?_
  obtain ⟨p, nb, mb, hh, hg, rfl | rfl⟩ := hb
  · exact (h.same _ _ (T.node _ _ _ _ hg) (.inr rfl)).trans (T.node _ _ _ _ hg).symm
  · obtain ⟨es, clock, e⟩ := (T.map _ _ _ _ hg).obj
    exact (h.same _ _ e (.inr rfl)).trans e.symm
theorem Grew.turn {B : Nat} {w W W' : World} {N i : Nat} {g g' : Gh} (h : Grew w W N i g g') (k : TurnFrom B W W') (hB : w.heap.size ≤ B) : Grew w W' N i g g' := by
  refine ⟨h.tree.turn k, h.old, h.fresh, h.own, fun j hj hn => ?_, k.os.trans h.os, k.tape.trans h.tape, k.output.trans h.output, Nat.le_trans h.size k.size⟩
  refine Eq.trans ?_ (h.kept j hj hn)
  have hlt : j < W.heap.size := Nat.lt_of_lt_of_le hj h.size
  rw [Array.getElem?_eq_getElem hlt]
  exact k.same j _ (Array.getElem?_eq_getElem hlt) (.inl (by omega))
theorem Grew.start {w W : World} {N : Nat} {g : Gh} (T : Tree w N g) (h : Below w.heap.size w W) : Grew w W N 0 g g :=
  ⟨T.below h, fun _ _ e => e, (fun q nb mb hh e1 e2 => by rw [e1] at e2; cases e2), fun b hb => .inl hb, fun k hk _ => h.block k hk, h.os, h.tape, h.output, h.size⟩
theorem Grew.up {w W : World} {N i : Nat} {g g' : Gh} (h : Grew w W N i g g') : Grew w W N (i + 1) g g' :=
  ⟨h.tree.mono (by omega), h.old, h.fresh, h.own, h.kept, h.os, h.tape, h.output, h.size⟩
/-- A variable of the call's own is set. -/
theorem Grew.set {w W : World} {N i : Nat} {g g' : Gh} (h : Grew w W N i g g') {b : Nat} (hb : w.heap.size ≤ b) {t : TypeId} {u : Value} (ho : W.heap[b]? = some (.cells #[u] t (0, 0))) (v : Value) : Grew w (W.setCell ⟨b, 0, none⟩ v) N i g g' := by
  have hne : ∀ k, g'.own k → k ≠ b := fun k ⟨p, nb, mb, hh, hg, e⟩ e2 => by
    subst e2
    rcases e with rfl | rfl
    · rw [h.tree.node _ _ _ _ hg] at ho; cases ho
    · obtain ⟨es, clock, e⟩ := (h.tree.map _ _ _ _ hg).obj
      rw [e] at ho; cases ho
  refine ⟨h.tree.kept fun k hk => Below.heap_setCell W ⟨b, 0, none⟩ v k (hne k hk), h.old, h.fresh, h.own, fun k hk hn => (Below.heap_setCell W ⟨b, 0, none⟩ v k (show k ≠ b by omega)).trans (h.kept k hk hn), h.os, h.tape, h.output, ?_⟩
  exact Nat.le_trans h.size (KeepsOthers.setCell W ⟨b, 0, none⟩ v).size
theorem Grew.step {w W W' : World} {N i : Nat} {g g' : Gh} (h : Grew w W N i g g') {p : List Int} {c : Int} {nb mb : Nat} {hh : Bool} (hp : g' p = some (nb, mb, hh)) (hn : g' (p ++ [c]) = none)
    (T : Tree W' (N + i + 1) (g'.grow p c (W.heap.size + 1) W.heap.size)) (hg : W.grownBy W' (some mb)) : Grew w W' N (i + 1) g (g'.grow p c (W.heap.size + 1) W.heap.size) := by
  have hw := h.size
  refine ⟨T, fun q x e => ?_, fun q nb' mb' h' e1 e2 => ?_, fun b hb => ?_, fun k hk hnk => ?_, hg.os.trans h.os, hg.tape.trans h.tape, hg.output.trans h.output, Nat.le_trans hw hg.size⟩
  · have := h.old q x e
    unfold Gh.grow
    rw [if_neg fun e2 => by rw [e2, hn] at this; cases this]
    exact this
  · unfold Gh.grow at e2
    split at e2
    · simp only [Option.some.injEq, Prod.mk.injEq] at e2; exact e2.2.2.symm
    · exact h.fresh q nb' mb' h' e1 e2
  · obtain ⟨q, nb', mb', h', e, e2⟩ := hb
    unfold Gh.grow at e
    split at e
    · simp only [Option.some.injEq, Prod.mk.injEq] at e
      refine .inr ?_
      rcases e2 with rfl | rfl
      · rw [← e.1]; omega
      · rw [← e.2.1]; omega
    · exact h.own b ⟨q, nb', mb', h', e, e2⟩
  · refine (hg.block k (by omega) fun e => ?_).trans (h.kept k hk hnk)
    cases e
    rcases h.own mb ⟨p, nb, mb, hh, hp, .inr rfl⟩ with h1 | h1
    · exact hnk h1
    · omega
/-- The new map is no variable. -/
theorem grown_box {W W' : World} {mb b : Nat} {es : Array MapEntry} {clock : Nat} {v : Value} {t : TypeId} (hm : W.heap[mb]? = some (.map es clock)) (hg : W.grownBy W' (some mb)) (h : W.heap[b]? = some (.cells #[v] t (0, 0))) : W'.heap[b]? = some (.cells #[v] t (0, 0)) :=
  (hg.block b (Array.getElem?_eq_some_iff.1 h).1 (fun e => by cases e; rw [h] at hm; cases hm)).trans h
theorem kp_grown {B : Nat} {W W' : World} {mb : Nat} {es : Array MapEntry} {clock : Nat} (hm : W.heap[mb]? = some (.map es clock)) (hB : B ≤ mb) (hg : W.grownBy W' (some mb)) : KpT B W W' := by
  refine ⟨hg.size, fun k o hk ho => ?_⟩
  by_cases e : k = mb
  · subst e
    rw [hm] at hk; cases hk
    rcases ho with ho | ho
    · omega
    · cases ho
  · exact (hg.block k (Array.getElem?_eq_some_iff.1 hk).1 (fun e2 => e (by cases e2; rfl))).trans hk
end Go.Proofs.Yteaadpgammbdgaa.PA
