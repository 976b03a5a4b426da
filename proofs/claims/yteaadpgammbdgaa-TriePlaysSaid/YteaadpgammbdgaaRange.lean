/- A loop over an iterator whose rounds write maps that earlier rounds have made: what may turn is told by the objects' kinds. -/
import Derived.Test.YteaadpgammbdgaaIterMem
namespace Go.Proofs.Yteaadpgammbdgaa.PA
open Go.RowKit Go.Shelf Go.Proofs.YteaadpgammbdgaaW.PrintWords Go.Proofs.YteaadpgammbdgaaW.PrintLast Go.Proofs.YteaadpgammbdgaaW.PrintMore
set_option linter.unusedVariables false
set_option linter.unusedSimpArgs false

def loopish : Obj → Bool
  | .loop _ => true
  | .deferred _ => true
  | .mapIter .. => true
  | _ => false
/-- Loops' own records, from B on, may turn; whatever else was there lies as it lay. -/
structure TurnFrom (B : Nat) (W W' : World) : Prop where
  os : W'.os = W.os
  tape : W'.tape = W.tape
  output : W'.output = W.output
  size : W.heap.size ≤ W'.heap.size
  same : ∀ (k : Nat) (o : Obj), W.heap[k]? = some o → (k < B ∨ loopish o = false) → W'.heap[k]? = some o
theorem TurnFrom.refl (B : Nat) (W : World) : TurnFrom B W W := ⟨rfl, rfl, rfl, Nat.le_refl _, fun _ _ h _ => h⟩
theorem TurnFrom.trans {B : Nat} {X Y Z : World} (h : TurnFrom B X Y) (k : TurnFrom B Y Z) : TurnFrom B X Z :=
  ⟨k.os.trans h.os, k.tape.trans h.tape, k.output.trans h.output, Nat.le_trans h.size k.size, fun i o hi ho => k.same i o (h.same i o hi ho) ho⟩
theorem TurnFrom.alloc (B : Nat) (W : World) (o : Obj) : TurnFrom B W (W.alloc o) :=
  ⟨rfl, rfl, rfl, by simp, fun k o' hk _ => (Below.heap_alloc W o k (Array.getElem?_eq_some_iff.1 hk).1).trans hk⟩
theorem TurnFrom.putObj {B : Nat} {W : World} {l : Nat} {o : Obj} (o' : Obj) (hB : B ≤ l) (hl : W.heap[l]? = some o) (ho : loopish o = true) : TurnFrom B W (W.putObj l o') :=
  ⟨rfl, rfl, rfl, by simp, fun k o2 hk h => (World.putObj_heap_other (fun e => by
    subst e; rw [hk] at hl; cases hl
    rcases h with h | h
    · omega
    · rw [ho] at h; cases h)).trans hk⟩
theorem TurnFrom.lower {B B' : Nat} {W W' : World} (h : TurnFrom B' W W') (hB : B ≤ B') : TurnFrom B W W' :=
  ⟨h.os, h.tape, h.output, h.size, fun k o hk ho => h.same k o hk (ho.elim (fun q => .inl (by omega)) .inr)⟩
theorem TurnFrom.of_below {B : Nat} {W W' : World} (h : Below W.heap.size W W') : TurnFrom B W W' :=
  ⟨h.os, h.tape, h.output, h.size, fun k o hk _ => (h.block k (Array.getElem?_eq_some_iff.1 hk).1).trans hk⟩
theorem TurnFrom.cell {B : Nat} {W W' : World} (h : TurnFrom B W W') {a : Addr} {v : Value} (hc : W.cell? a = some v) : W'.cell? a = some v := by
  obtain ⟨o, ho, hcl⟩ := cells_of_cell hc
  refine (World.cell?_of_block ((h.same _ _ ho (.inr ?_)).trans ho.symm)).trans hc
  cases o <;> first | rfl | (simp [Obj.isCells] at hcl)
theorem TurnFrom.below {B : Nat} {w W W' : World} (h : TurnFrom B W W') (hb : Below w.heap.size w W) (hB : w.heap.size ≤ B) : Below w.heap.size w W' := by
  refine hb.trans ⟨h.os, h.tape, h.output, h.size, fun k hk => ?_⟩
  have hlt : k < W.heap.size := Nat.lt_of_lt_of_le hk hb.size
  rw [Array.getElem?_eq_getElem hlt]
  exact h.same k _ (Array.getElem?_eq_getElem hlt) (.inl (by omega))

/-- The objects that a tree is made of: maps, nodes, variables that hold a node. -/
def treeish : Obj → Bool
  | .map .. => true
  | .cells _ t _ => t == 70 || t == 67
  | _ => false
/-- Whatever lies below B, and whatever is no part of a tree, lies as it lay. -/
structure KpT (B : Nat) (W W' : World) : Prop where
  size : W.heap.size ≤ W'.heap.size
  same : ∀ (k : Nat) (o : Obj), W.heap[k]? = some o → (k < B ∨ treeish o = false) → W'.heap[k]? = some o
theorem KpT.refl (B : Nat) (W : World) : KpT B W W := ⟨Nat.le_refl _, fun _ _ h _ => h⟩
theorem KpT.trans {B : Nat} {X Y Z : World} (h : KpT B X Y) (k : KpT B Y Z) : KpT B X Z := ⟨Nat.le_trans h.size k.size, fun i o hi ho => k.same i o (h.same i o hi ho) ho⟩
theorem KpT.of_below {B : Nat} {W W' : World} (h : Below W.heap.size W W') : KpT B W W' := ⟨h.size, fun k o hk _ => (h.block k (Array.getElem?_eq_some_iff.1 hk).1).trans hk⟩
/-- One round: the record turned, the body, the record turned back. -/
theorem KpT.round {B : Nat} {W W3 : World} {l : Nat} {o o' : Obj} (hl : W.heap[l]? = some o) (h : KpT B (W.putObj l o') W3) : KpT B W (W3.putObj l o) := by
  have hlt : l < W.heap.size := (Array.getElem?_eq_some_iff.1 hl).1
  refine ⟨by have := h.size; simp at this ⊢; omega, fun k o2 hk ho2 => ?_⟩
  by_cases e : k = l
  · subst e
    rw [hk] at hl; cases hl
    exact World.putObj_heap_same (by have := h.size; simp at this; omega)
  · exact (World.putObj_heap_other e).trans (h.same k o2 ((World.putObj_heap_other e).trans hk) ho2)
/-- As KpT, but what lies below s may have turned. -/
structure KpE (s B : Nat) (W W' : World) : Prop where
  size : W.heap.size ≤ W'.heap.size
  same : ∀ (k : Nat) (o : Obj), W.heap[k]? = some o → (k < B ∨ treeish o = false) → s ≤ k → W'.heap[k]? = some o
theorem KpT.e {B : Nat} {W W' : World} (h : KpT B W W') (s : Nat) : KpE s B W W' := ⟨h.size, fun k o hk ho _ => h.same k o hk ho⟩
theorem KpE.up {s s' B : Nat} {W W' : World} (h : KpE s B W W') (hs : s ≤ s') : KpE s' B W W' := ⟨h.size, fun k o hk ho hl => h.same k o hk ho (by omega)⟩
/-- A block that KpT keeps. -/
def Calm (B : Nat) (W : World) (b : Nat) : Prop := ∃ o : Obj, W.heap[b]? = some o ∧ (b < B ∨ treeish o = false)
theorem KpT.block {B : Nat} {W W' : World} (h : KpT B W W') {b : Nat} (hc : Calm B W b) : W'.heap[b]? = W.heap[b]? := by
  obtain ⟨o, ho, hb⟩ := hc
  rw [ho]; exact h.same b o ho hb
theorem Calm.kept {B : Nat} {W W' : World} {b : Nat} (h : Calm B W b) (e : W'.heap[b]? = W.heap[b]?) : Calm B W' b := by
  obtain ⟨o, ho, hb⟩ := h
  exact ⟨o, e.trans ho, hb⟩

theorem roundIn_depth {n m : Nat} {P : Program} {l : Nat} {f : FuncId} {tmps : Array Value} {assign body : Code} {w : World} {R : Ending → World → Prop} (h : RoundIn Fence.wide n P l f tmps assign body w R) : RoundIn Fence.wide m P l f tmps assign body w R :=
  ⟨h.1, fun c cs _ => h.2 c cs (room_wide _)⟩
theorem callsIn_depth {n m : Nat} {P : Program} {f : FuncId} {args : Array Value} {w : World} {R : Ending → World → Prop} (h : CallsIn Fence.wide n P f args w R) : CallsIn Fence.wide m P f args w R := callsIn_wide.2 (callsIn_wide.1 h)

/-- What an iterator does: it hands over xs, one behind the other, until it is stopped. -/
def Iter {α : Type} (P : Program) (B0 gf : Nat) (lb : Array Value) (encs : α → Array Value) (xs : List α) (W : World) : Prop :=
  ∀ (l : Nat) (J : Nat → World → Prop) (Jx : World → Prop), (∀ i A B, J i A → TurnFrom W.heap.size A B → J i B) → (∀ A B, Jx A → TurnFrom W.heap.size A B → Jx B) →
    (∀ (i : Nat) (x : α) (A : World), xs[i]? = some x → J i A → ∀ m, YieldAt Fence.wide m P l (encs x) A fun e B => (e = .returned (.bool true) ∧ J (i + 1) B ∧ KpT B0 A B) ∨ (e = .returned (.bool false) ∧ Jx B ∧ KpE W.heap.size B0 A B)) →
    J 0 W → ∀ n, CallsIn Fence.wide n P gf (#[.func (.yield l) #[] #[]] ++ lb) W fun e B => (∃ v, e = .returned v) ∧ (J xs.length B ∨ Jx B)

/-- How a round's body is left. -/
def turnPost (s B0 : Nat) (I : Nat → World → Prop) (Ix : World → Prop) (i : Nat) (W : World) : Exit → Act → World → Prop
  | .normal, _, W' => KpT B0 W W' ∧ I (i + 1) W'
  | .ret, _, W' => KpE s B0 W W' ∧ Ix W'
  | _, _, _ => False

theorem range_turn {α : Type} {P : Program} {n B0 : Nat} {g : Operand} {ps : Array Tmp} {assign body : Code} {Q : Exit → Act → World → Prop} {a : Act} {w : World}
    {gf : Nat} {lb : Array Value} (hg : a.eval g = .func (.func gf) #[] lb) (eg : ∀ args w, (callFunc gf args).run P w = .ok (.enter gf args) w) {encs : α → Array Value} (hps : ∀ x, (encs x).size = ps.size) {xs : List α}
    (hit : ∀ r, Iter P B0 gf lb encs xs ((w.alloc (.deferred (some []))).alloc (.loop r)))
    (I : Nat → World → Prop) (Ix : World → Prop) (hI : ∀ i A B, I i A → TurnFrom w.heap.size A B → I i B) (hIx : ∀ A B, Ix A → TurnFrom w.heap.size A B → Ix B) (h0 : I 0 w) (a₁ : α → Act)
    (hassign : ∀ (l : Nat) (x : α) (W : World) (K : Act → World → Prop), K (a₁ x) W →
      assign.wpIn (Fence.wide.inRound l) 5 P (Exit.then K (fun _ _ _ => False)) { tmps := (ps.zip (encs x)).foldl (fun t (p, v) => t.setIfInBounds p v) a.tmps, defers := [] } W)
    (hbody : ∀ (l i : Nat) (x : α) (W : World), xs[i]? = some x → I i W → body.wpIn (Fence.wide.inRound l) 5 P (turnPost w.heap.size B0 I Ix i W) (a₁ x) W)
    (hdone : ∀ (D : Nat) (W : World), w.heap.size ≤ D → I xs.length W → W.heap[D]? = some (.deferred (some [])) → Q .normal { a with defers := { target := .collected D, args := #[] } :: a.defers } W)
    (hstop : ∀ (D : Nat) (W : World), w.heap.size ≤ D → Ix W → W.heap[D]? = some (.deferred (some [])) → Code.ret.wpIn Fence.wide n P Q { a with defers := { target := .collected D, args := #[] } :: a.defers } W) :
    (Code.rangeFunc g ps assign body).wpIn Fence.wide n P Q a w := by
  refine wpIn_rangeFunc fun fn _ => ?_
  let r0 : Loop := { state := .ready, pending := none, fn := fn, tmps := a.tmps, params := ps, assign := assign, body := body, defers := w.heap.size }
  let W1 : World := (w.alloc (.deferred (some []))).alloc (.loop r0)
  have hsz : W1.heap.size = w.heap.size + 1 + 1 := by simp [W1]
  have hL : W1.heap[w.heap.size + 1]? = some (.loop r0) := by
    have := World.alloc_heap_new (w.alloc (.deferred (some []))) (.loop r0); rwa [World.size_alloc] at this
  have hD : W1.heap[w.heap.size]? = some (.deferred (some [])) := (Below.heap_alloc _ _ _ (by simp)).trans (World.alloc_heap_new w _)
  have hT : TurnFrom w.heap.size w W1 := (TurnFrom.alloc _ w _).trans (TurnFrom.alloc _ _ _)
  refine ⟨w.heap.size + 1, [{ target := .collected w.heap.size, args := #[] }], W1, { target := .fn (.func gf) lb, args := #[.func (.yield (w.heap.size + 1)) #[] #[]] }, W1, gf, #[.func (.yield (w.heap.size + 1)) #[] #[]] ++ lb, W1, run_enterLoop_outer _ _ _ _ _, ?_, fun _ _ => trivial, ?_, ?_, ?_⟩
  · simp only [resolve, hg]
    simp [go_sem]
  · simp [invoke, go_sem, eg]
  · intro h; simp [Fence.wide] at h
  refine (hit r0 (w.heap.size + 1)
    (fun i W => I i W ∧ W.heap[w.heap.size + 1]? = some (.loop r0) ∧ W.heap[w.heap.size]? = some (.deferred (some [])))
    (fun W => Ix W ∧ W.heap[w.heap.size + 1]? = some (.loop { r0 with state := .done, pending := some .ret }) ∧ W.heap[w.heap.size]? = some (.deferred (some [])))
    (fun i A B ⟨q1, q2, q3⟩ ht => ⟨hI i A B q1 (ht.lower (by show _ ≤ W1.heap.size; omega)), ht.same _ _ q2 (.inl (by show _ < W1.heap.size; omega)), ht.same _ _ q3 (.inl (by show _ < W1.heap.size; omega))⟩)
    (fun A B ⟨q1, q2, q3⟩ ht => ⟨hIx A B q1 (ht.lower (by show _ ≤ W1.heap.size; omega)), ht.same _ _ q2 (.inl (by show _ < W1.heap.size; omega)), ht.same _ _ q3 (.inl (by show _ < W1.heap.size; omega))⟩)
    ?_ ⟨hI 0 w W1 h0 hT, hL, hD⟩ (n - 1)).mono ?_
  · -- a round
    rintro i x W hx ⟨q1, q2, q3⟩ m
    refine ⟨fn, _, assign, body, run_yield q2 (hps x), roundIn_depth (n := 5) (roundIn_of_wpIn trivial (hassign _ x W _ ?_))⟩
    have hlt : w.heap.size + 1 < W.heap.size := (Array.getElem?_eq_some_iff.1 q2).1
    refine ⟨_, run_beginRound q2 rfl, ?_⟩
    have hb : (W.putObj (w.heap.size + 1) (.loop { r0 with state := .busy })).heap[w.heap.size + 1]? = some (.loop { r0 with state := .busy }) := World.putObj_heap_same hlt
    have hb2 : (W.putObj (w.heap.size + 1) (.loop { r0 with state := .busy })).heap[w.heap.size]? = some (.deferred (some [])) := (World.putObj_heap_other (by omega)).trans q3
    refine wpIn_mono (hbody _ i x _ hx (hI i W _ q1 (TurnFrom.putObj _ (by omega) q2 rfl))) ?_
    intro e a3 W3 hp
    cases e with
    | normal =>
      obtain ⟨hk, hi⟩ := hp
      have h3 := hk.same _ _ hb (.inr rfl)
      have h4 := hk.same _ _ hb2 (.inr rfl)
      have hlt3 : w.heap.size + 1 < W3.heap.size := (Array.getElem?_eq_some_iff.1 h3).1
      exact ⟨_, _, run_endRound none h3, .inl ⟨rfl, ⟨hI _ W3 _ hi (TurnFrom.putObj _ (by omega) h3 rfl), World.putObj_heap_same hlt3, (World.putObj_heap_other (by omega)).trans h4⟩, KpT.round q2 hk⟩⟩
    | ret =>
      obtain ⟨hk, hi⟩ := hp
      have h3 := hk.same _ _ hb (.inr rfl) (by omega)
      have h4 := hk.same _ _ hb2 (.inr rfl) (by omega)
      have hlt3 : w.heap.size + 1 < W3.heap.size := (Array.getElem?_eq_some_iff.1 h3).1
      refine ⟨_, _, run_endRound (some .ret) h3, .inr ⟨rfl, ⟨hIx W3 _ hi (TurnFrom.putObj _ (by omega) h3 rfl), World.putObj_heap_same hlt3, (World.putObj_heap_other (by omega)).trans h4⟩, ?_, fun k o hk1 ho hl => ?_⟩⟩
      · have := hk.size; simp at this ⊢; omega
      · have hl' : w.heap.size + 1 + 1 ≤ k := by have : W1.heap.size ≤ k := hl; omega
        exact (World.putObj_heap_other (by omega)).trans (hk.same k o ((World.putObj_heap_other (by omega)).trans hk1) ho (by omega))
    | exit id => exact hp.elim
    | goto t => exact hp.elim
    | panic c => exact hp.elim
    | outgrown => exact hp.elim
  · -- behind the iterator
    rintro e W ⟨⟨v, rfl⟩, ⟨q1, q2, q3⟩ | ⟨q1, q2, q3⟩⟩
    · exact ⟨none, _, run_endLoop q2 (by simp [r0]), hdone _ _ (Nat.le_refl _) (hI _ W _ q1 (TurnFrom.putObj _ (by omega) q2 rfl)) ((World.putObj_heap_other (by omega)).trans q3)⟩
    · exact ⟨some .ret, _, run_endLoop q2 (by simp), hstop _ _ (Nat.le_refl _) (hIx W _ q1 (TurnFrom.putObj _ (by omega) q2 rfl)) ((World.putObj_heap_other (by omega)).trans q3)⟩
end Go.Proofs.Yteaadpgammbdgaa.PA
