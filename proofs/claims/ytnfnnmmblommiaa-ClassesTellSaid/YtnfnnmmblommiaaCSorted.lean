/- (Of XRange, for rows of int32.) A loop over an iterator whose rounds write what earlier rounds have made: what may turn is told by the objects' kinds. slices.AppendSeq, slices.Collect at int32, of whatever iterator that hands over a list. classes.ends, as an iterator: all places at which something may change. slices.Sorted at int32 of an iterator; slices.Compact of a row of the call's own; classes.ends. -/
import Derived.Test.YtnfnnmmblommiaaIterMem
import Derived.Test.YtnfnnmmblommiaaHUnion
import Derived.Test.YtnfnnmmblommiaaSortTop
import Derived.Test.YtnfnnmmblommiaaCShelf
import Derived.Shelf.SlicesE.Compact
namespace Go.Proofs.Ytnfnnmmblommiaa.PA
open Go.RowKit Go.Shelf Go.Proofs.YtnfnnmmblommiaaW.PrintWords Go.Proofs.YtnfnnmmblommiaaW.PrintLast Go.Proofs.YtnfnnmmblommiaaW.PrintMore
set_option linter.unusedVariables false
set_option linter.unusedSimpArgs false

def loopish : Obj → Bool
  | .loop _ => true
  | .deferred _ => true
  | .mapIter .. => true
  | _ => false
/-- Loops' own records, from B on, may turn; whatever else was there lies as it lay. -/
structure TurnFrom (B : Nat) (W W' : World) : Prop where
  os : W'.os = W.os
  tape : W'.tape = W.tape
  output : W'.output = W.output
  size : W.heap.size ≤ W'.heap.size
  same : ∀ (k : Nat) (o : Obj), W.heap[k]? = some o → (k < B ∨ loopish o = false) → W'.heap[k]? = some o
theorem TurnFrom.refl (B : Nat) (W : World) : TurnFrom B W W := ⟨rfl, rfl, rfl, Nat.le_refl _, fun _ _ h _ => h⟩
theorem TurnFrom.trans {B : Nat} {X Y Z : World} (h : TurnFrom B X Y) (k : TurnFrom B Y Z) : TurnFrom B X Z :=
  ⟨k.os.trans h.os, k.tape.trans h.tape, k.output.trans h.output, Nat.le_trans h.size k.size, fun i o hi ho => k.same i o (h.same i o hi ho) ho⟩
theorem TurnFrom.alloc (B : Nat) (W : World) (o : Obj) : TurnFrom B W (W.alloc o) :=
  ⟨rfl, rfl, rfl, by simp, fun k o' hk _ => (Below.heap_alloc W o k (Array.getElem?_eq_some_iff.1 hk).1).trans hk⟩
theorem TurnFrom.putObj {B : Nat} {W : World} {l : Nat} {o : Obj} (o' : Obj) (hB : B ≤ l) (hl : W.heap[l]? = some o) (ho : loopish o = true) : TurnFrom B W (W.putObj l o') :=
  ⟨rfl, rfl, rfl, by simp, fun k o2 hk h => (World.putObj_heap_other (fun e => by
    subst e; rw [hk] at hl; cases hl
    rcases h with h | h
    · omega
    · rw [ho] at h; cases h)).trans hk⟩
theorem TurnFrom.lower {B B' : Nat} {W W' : World} (h : TurnFrom B' W W') (hB : B ≤ B') : TurnFrom B W W' :=
  ⟨h.os, h.tape, h.output, h.size, fun k o hk ho => h.same k o hk (ho.elim (fun q => .inl (by omega)) .inr)⟩
theorem TurnFrom.of_below {B : Nat} {W W' : World} (h : Below W.heap.size W W') : TurnFrom B W W' :=
  ⟨h.os, h.tape, h.output, h.size, fun k o hk _ => (h.block k (Array.getElem?_eq_some_iff.1 hk).1).trans hk⟩
theorem TurnFrom.cell {B : Nat} {W W' : World} (h : TurnFrom B W W') {a : Addr} {v : Value} (hc : W.cell? a = some v) : W'.cell? a = some v := by
  obtain ⟨o, ho, hcl⟩ := cells_of_cell hc
  refine (World.cell?_of_block ((h.same _ _ ho (.inr ?_)).trans ho.symm)).trans hc
  cases o <;> first | rfl | (simp [Obj.isCells] at hcl)
theorem TurnFrom.below {B : Nat} {w W W' : World} (h : TurnFrom B W W') (hb : Below w.heap.size w W) (hB : w.heap.size ≤ B) : Below w.heap.size w W' := by
  refine hb.trans ⟨h.os, h.tape, h.output, h.size, fun k hk => ?_⟩
  have hlt : k < W.heap.size := Nat.lt_of_lt_of_le hk hb.size
  rw [Array.getElem?_eq_getElem hlt]
  exact h.same k _ (Array.getElem?_eq_getElem hlt) (.inl (by omega))

/-- The objects that the collecting of int32 turns: rows of int32, variables that hold such a row. -/
def rowish : Obj → Bool
  | .cells _ t _ => t == 21 || t == 48
  | _ => false
/-- Whatever lies below B, and whatever is no such row, lies as it lay. -/
structure KpT (B : Nat) (W W' : World) : Prop where
  size : W.heap.size ≤ W'.heap.size
  same : ∀ (k : Nat) (o : Obj), W.heap[k]? = some o → (k < B ∨ rowish o = false) → W'.heap[k]? = some o
theorem KpT.refl (B : Nat) (W : World) : KpT B W W := ⟨Nat.le_refl _, fun _ _ h _ => h⟩
theorem KpT.trans {B : Nat} {X Y Z : World} (h : KpT B X Y) (k : KpT B Y Z) : KpT B X Z := ⟨Nat.le_trans h.size k.size, fun i o hi ho => k.same i o (h.same i o hi ho) ho⟩
theorem KpT.of_below {B : Nat} {W W' : World} (h : Below W.heap.size W W') : KpT B W W' := ⟨h.size, fun k o hk _ => (h.block k (Array.getElem?_eq_some_iff.1 hk).1).trans hk⟩
/-- One round: the record turned, the body, the record turned back. -/
theorem KpT.round {B : Nat} {W W3 : World} {l : Nat} {o o' : Obj} (hl : W.heap[l]? = some o) (h : KpT B (W.putObj l o') W3) : KpT B W (W3.putObj l o) := by
  have hlt : l < W.heap.size := (Array.getElem?_eq_some_iff.1 hl).1
  refine ⟨by have := h.size; simp at this ⊢; omega, fun k o2 hk ho2 => ?_⟩
  by_cases e : k = l
  · subst e
    rw [hk] at hl; cases hl
    exact World.putObj_heap_same (by have := h.size; simp at this; omega)
  · exact (World.putObj_heap_other e).trans (h.same k o2 ((World.putObj_heap_other e).trans hk) ho2)
/-- As KpT, but what lies below s may have turned. -/
structure KpE (s B : Nat) (W W' : World) : Prop where
  size : W.heap.size ≤ W'.heap.size
  same : ∀ (k : Nat) (o : Obj), W.heap[k]? = some o → (k < B ∨ rowish o = false) → s ≤ k → W'.heap[k]? = some o
theorem KpT.e {B : Nat} {W W' : World} (h : KpT B W W') (s : Nat) : KpE s B W W' := ⟨h.size, fun k o hk ho _ => h.same k o hk ho⟩
theorem KpE.up {s s' B : Nat} {W W' : World} (h : KpE s B W W') (hs : s ≤ s') : KpE s' B W W' := ⟨h.size, fun k o hk ho hl => h.same k o hk ho (by omega)⟩
/-- A block that KpT keeps. -/
def Calm (B : Nat) (W : World) (b : Nat) : Prop := ∃ o : Obj, W.heap[b]? = some o ∧ (b < B ∨ rowish o = false)
theorem KpT.block {B : Nat} {W W' : World} (h : KpT B W W') {b : Nat} (hc : Calm B W b) : W'.heap[b]? = W.heap[b]? := by
  obtain ⟨o, ho, hb⟩ := hc
  rw [ho]; exact h.same b o ho hb
theorem Calm.kept {B : Nat} {W W' : World} {b : Nat} (h : Calm B W b) (e : W'.heap[b]? = W.heap[b]?) : Calm B W' b := by
  obtain ⟨o, ho, hb⟩ := h
  exact ⟨o, e.trans ho, hb⟩

theorem roundIn_depth {n m : Nat} {P : Program} {l : Nat} {f : FuncId} {tmps : Array Value} {assign body : Code} {w : World} {R : Ending → World → Prop} (h : RoundIn Fence.wide n P l f tmps assign body w R) : RoundIn Fence.wide m P l f tmps assign body w R :=
  ⟨h.1, fun c cs _ => h.2 c cs (room_wide _)⟩
theorem callsIn_depth {n m : Nat} {P : Program} {f : FuncId} {args : Array Value} {w : World} {R : Ending → World → Prop} (h : CallsIn Fence.wide n P f args w R) : CallsIn Fence.wide m P f args w R := callsIn_wide.2 (callsIn_wide.1 h)

/-- What an iterator does: it hands over xs, one behind the other, until it is stopped. -/
def Iter {α : Type} (P : Program) (B0 gf : Nat) (lb : Array Value) (encs : α → Array Value) (xs : List α) (W : World) : Prop :=
  ∀ (l : Nat) (J : Nat → World → Prop) (Jx : World → Prop), (∀ i A B, J i A → TurnFrom W.heap.size A B → J i B) → (∀ A B, Jx A → TurnFrom W.heap.size A B → Jx B) →
    (∀ (i : Nat) (x : α) (A : World), xs[i]? = some x → J i A → ∀ m, YieldAt Fence.wide m P l (encs x) A fun e B => (e = .returned (.bool true) ∧ J (i + 1) B ∧ KpT B0 A B) ∨ (e = .returned (.bool false) ∧ Jx B ∧ KpE W.heap.size B0 A B)) →
    J 0 W → ∀ n, CallsIn Fence.wide n P gf (#[.func (.yield l) #[] #[]] ++ lb) W fun e B => (∃ v, e = .returned v) ∧ (J xs.length B ∨ Jx B)

/-- How a round's body is left. -/
def turnPost (s B0 : Nat) (I : Nat → World → Prop) (Ix : World → Prop) (i : Nat) (W : World) : Exit → Act → World → Prop
  | .normal, _, W' => KpT B0 W W' ∧ I (i + 1) W'
  | .ret, _, W' => KpE s B0 W W' ∧ Ix W'
  | _, _, _ => False

theorem range_turn {α : Type} {P : Program} {n B0 : Nat} {g : Operand} {ps : Array Tmp} {assign body : Code} {Q : Exit → Act → World → Prop} {a : Act} {w : World}
    {gf : Nat} {lb : Array Value} (hg : a.eval g = .func (.func gf) #[] lb) (eg : ∀ args w, (callFunc gf args).run P w = .ok (.enter gf args) w) {encs : α → Array Value} (hps : ∀ x, (encs x).size = ps.size) {xs : List α}
    (hit : ∀ r, Iter P B0 gf lb encs xs ((w.alloc (.deferred (some []))).alloc (.loop r)))
    (I : Nat → World → Prop) (Ix : World → Prop) (hI : ∀ i A B, I i A → TurnFrom w.heap.size A B → I i B) (hIx : ∀ A B, Ix A → TurnFrom w.heap.size A B → Ix B) (h0 : I 0 w) (a₁ : α → Act)
    (hassign : ∀ (l : Nat) (x : α) (W : World) (K : Act → World → Prop), K (a₁ x) W →
      assign.wpIn (Fence.wide.inRound l) 5 P (Exit.then K (fun _ _ _ => False)) { tmps := (ps.zip (encs x)).foldl (fun t (p, v) => t.setIfInBounds p v) a.tmps, defers := [] } W)
    (hbody : ∀ (l i : Nat) (x : α) (W : World), xs[i]? = some x → I i W → body.wpIn (Fence.wide.inRound l) 5 P (turnPost w.heap.size B0 I Ix i W) (a₁ x) W)
    (hdone : ∀ (D : Nat) (W : World), w.heap.size ≤ D → I xs.length W → W.heap[D]? = some (.deferred (some [])) → Q .normal { a with defers := { target := .collected D, args := #[] } :: a.defers } W)
    (hstop : ∀ (D : Nat) (W : World), w.heap.size ≤ D → Ix W → W.heap[D]? = some (.deferred (some [])) → Code.ret.wpIn Fence.wide n P Q { a with defers := { target := .collected D, args := #[] } :: a.defers } W) :
    (Code.rangeFunc g ps assign body).wpIn Fence.wide n P Q a w := by
  refine wpIn_rangeFunc fun fn _ => ?_
  let r0 : Loop := { state := .ready, pending := none, fn := fn, tmps := a.tmps, params := ps, assign := assign, body := body, defers := w.heap.size }
  let W1 : World := (w.alloc (.deferred (some []))).alloc (.loop r0)
  have hsz : W1.heap.size = w.heap.size + 1 + 1 := by simp [W1]
  have hL : W1.heap[w.heap.size + 1]? = some (.loop r0) := by
    have := World.alloc_heap_new (w.alloc (.deferred (some []))) (.loop r0); rwa [World.size_alloc] at this
  have hD : W1.heap[w.heap.size]? = some (.deferred (some [])) := (Below.heap_alloc _ _ _ (by simp)).trans (World.alloc_heap_new w _)
  have hT : TurnFrom w.heap.size w W1 := (TurnFrom.alloc _ w _).trans (TurnFrom.alloc _ _ _)
  refine ⟨w.heap.size + 1, [{ target := .collected w.heap.size, args := #[] }], W1, { target := .fn (.func gf) lb, args := #[.func (.yield (w.heap.size + 1)) #[] #[]] }, W1, gf, #[.func (.yield (w.heap.size + 1)) #[] #[]] ++ lb, W1, run_enterLoop_outer _ _ _ _ _, ?_, fun _ _ => trivial, ?_, ?_, ?_⟩
  · simp only [resolve, hg]
    simp [go_sem]
  · simp [invoke, go_sem, eg]
  · intro h; simp [Fence.wide] at h
  refine (hit r0 (w.heap.size + 1)
    (fun i W => I i W ∧ W.heap[w.heap.size + 1]? = some (.loop r0) ∧ W.heap[w.heap.size]? = some (.deferred (some [])))
    (fun W => Ix W ∧ W.heap[w.heap.size + 1]? = some (.loop { r0 with state := .done, pending := some .ret }) ∧ W.heap[w.heap.size]? = some (.deferred (some [])))
    (fun i A B ⟨q1, q2, q3⟩ ht => ⟨hI i A B q1 (ht.lower (by show _ ≤ W1.heap.size; omega)), ht.same _ _ q2 (.inl (by show _ < W1.heap.size; omega)), ht.same _ _ q3 (.inl (by show _ < W1.heap.size; omega))⟩)
    (fun A B ⟨q1, q2, q3⟩ ht => ⟨hIx A B q1 (ht.lower (by show _ ≤ W1.heap.size; omega)), ht.same _ _ q2 (.inl (by show _ < W1.heap.size; omega)), ht.same _ _ q3 (.inl (by show _ < W1.heap.size; omega))⟩)
    ?_ ⟨hI 0 w W1 h0 hT, hL, hD⟩ (n - 1)).mono ?_
  · -- a round
    rintro i x W hx ⟨q1, q2, q3⟩ m
    refine ⟨fn, _, assign, body, run_yield q2 (hps x), roundIn_depth (n := 5) (roundIn_of_wpIn trivial (hassign _ x W _ ?_))⟩
    have hlt : w.heap.size + 1 < W.heap.size := (Array.getElem?_eq_some_iff.1 q2).1
    refine ⟨_, run_beginRound q2 rfl, ?_⟩
    have hb : (W.putObj (w.heap.size + 1) (.loop { r0 with state := .busy })).heap[w.heap.size + 1]? = some (.loop { r0 with state := .busy }) := World.putObj_heap_same hlt
    have hb2 : (W.putObj (w.heap.size + 1) (.loop { r0 with state := .busy })).heap[w.heap.size]? = some (.deferred (some [])) := (World.putObj_heap_other (by omega)).trans q3
    refine wpIn_mono (hbody _ i x _ hx (hI i W _ q1 (TurnFrom.putObj _ (by omega) q2 rfl))) ?_
    intro e a3 W3 hp
    cases e with
    | normal =>
      obtain ⟨hk, hi⟩ := hp
      have h3 := hk.same _ _ hb (.inr rfl)
      have h4 := hk.same _ _ hb2 (.inr rfl)
      have hlt3 : w.heap.size + 1 < W3.heap.size := (Array.getElem?_eq_some_iff.1 h3).1
      exact ⟨_, _, run_endRound none h3, .inl ⟨rfl, ⟨hI _ W3 _ hi (TurnFrom.putObj _ (by omega) h3 rfl), World.putObj_heap_same hlt3, (World.putObj_heap_other (by omega)).trans h4⟩, KpT.round q2 hk⟩⟩
    | ret =>
      obtain ⟨hk, hi⟩ := hp
      have h3 := hk.same _ _ hb (.inr rfl) (by omega)
      have h4 := hk.same _ _ hb2 (.inr rfl) (by omega)
      have hlt3 : w.heap.size + 1 < W3.heap.size := (Array.getElem?_eq_some_iff.1 h3).1
      refine ⟨_, _, run_endRound (some .ret) h3, .inr ⟨rfl, ⟨hIx W3 _ hi (TurnFrom.putObj _ (by omega) h3 rfl), World.putObj_heap_same hlt3, (World.putObj_heap_other (by omega)).trans h4⟩, ?_, fun k o hk1 ho hl => ?_⟩⟩
      · have := hk.size; simp at this ⊢; omega
      · have hl' : w.heap.size + 1 + 1 ≤ k := by have : W1.heap.size ≤ k := hl; omega
        exact (World.putObj_heap_other (by omega)).trans (hk.same k o ((World.putObj_heap_other (by omega)).trans hk1) ho (by omega))
    | exit id => exact hp.elim
    | goto t => exact hp.elim
    | panic c => exact hp.elim
    | outgrown => exact hp.elim
  · -- behind the iterator
    rintro e W ⟨⟨v, rfl⟩, ⟨q1, q2, q3⟩ | ⟨q1, q2, q3⟩⟩
    · exact ⟨none, _, run_endLoop q2 (by simp [r0]), hdone _ _ (Nat.le_refl _) (hI _ W _ q1 (TurnFrom.putObj _ (by omega) q2 rfl)) ((World.putObj_heap_other (by omega)).trans q3)⟩
    · exact ⟨some .ret, _, run_endLoop q2 (by simp), hstop _ _ (Nat.le_refl _) (hIx W _ q1 (TurnFrom.putObj _ (by omega) q2 rfl)) ((World.putObj_heap_other (by omega)).trans q3)⟩
end Go.Proofs.Ytnfnnmmblommiaa.PA
namespace Go.Proofs.Ytnfnnmmblommiaa.PA
open Go.RowKit Go.Shelf Go.Proofs.YtnfnnmmblommiaaW.PrintWords Go.Proofs.YtnfnnmmblommiaaW.PrintLast Go.Proofs.YtnfnnmmblommiaaW.PrintMore
attribute [local go_sem] Oper.semAt_some
set_option linter.unusedVariables false
set_option linter.unusedSimpArgs false

theorem infoC32 : (Try.prog.info? 21).map (fun i => (i.zero, i.size, i.bytes)) = some (some (.int .i32 0), 1, 4) := by kernel_rfl
theorem TurnFrom.boxed {B b : Nat} {W W' : World} {t : TypeId} {v : Value} (h : TurnFrom B W W') (hb : Boxed W b t v) : Boxed W' b t v := h.same _ _ hb (.inr rfl)
theorem TurnFrom.R {α : Type} {d : Kd α} {B e base : Nat} {ok : Nat → Prop} {W W' : World} {v : Value} {xs : List α} (h : TurnFrom B W W') (hr : d.R e W base ok v xs) : d.R e W' base ok v xs :=
  Kd.R_mono (Kd.R_move (Kd.R_bound hr) (fun k hk => by obtain ⟨_, _, _, q, _, c, hc⟩ := hk; exact (h.same _ _ hc (.inr rfl)).trans hc.symm)) (fun _ hk => hk.1)
/-- What has been collected. -/
structure Got (W : World) (Bx B0 : Nat) (xs : List Int) (W' : World) : Prop where
  bx : ∃ v, Boxed W' Bx 48 v ∧ Kd.R (Kd.int .i32) 21 W' B0 (fun _ => True) v xs
  below : Below W.heap.size W W'
  le : B0 ≤ W'.heap.size
theorem Got.turn {W A C : World} {Bx B0 B : Nat} {xs : List Int} (h : Got W Bx B0 xs A) (ht : TurnFrom B A C) (hB : W.heap.size ≤ B) : Got W Bx B0 xs C := by
  obtain ⟨v, h1, h2⟩ := h.bx
  exact ⟨⟨v, ht.boxed h1, ht.R h2⟩, ht.below h.below hB, Nat.le_trans h.le ht.size⟩
/-- 'box = append(box, x)': what lies behind it. -/
theorem Got.more {W W1 W2 : World} {Bx B0 : Nat} {xs : List Int} {x : Int} {v v1 : Value} (hle : B0 ≤ W1.heap.size) (hb : Below W.heap.size W W1) (hv : Boxed W1 Bx 48 v) (hR : Kd.R (Kd.int .i32) 21 W1 B0 (fun _ => True) v xs)
    (ho : Kd.R (Kd.int .i32) 21 W2 B0 (fun _ => True) v1 (xs ++ [x])) (hg : W1.grownBy W2 v.ownBlock) (hBx : W.heap.size ≤ Bx) (hlt : Bx < B0) :
    (Boxed W2 Bx 48 v) ∧ Got W Bx B0 (xs ++ [x]) (W2.setCell ⟨Bx, 0, none⟩ v1) ∧ KpT W.heap.size W1 (W2.setCell ⟨Bx, 0, none⟩ v1) := by
  obtain ⟨q1, q2, q3, _, q5, q6⟩ := collected (B := B0) (S := fun _ => False) hv hR ho hg (by decide) (fun b hb => hb.elim)
  refine ⟨q1, ⟨⟨v1, q2, q3⟩, hb.trans (q6 _ (by omega) hBx hb.size), Nat.le_trans hle q5.size⟩, q5.size, fun k o hk hor => ?_⟩
  have hkl : k < W1.heap.size := (Array.getElem?_eq_some_iff.1 hk).1
  obtain ⟨_, inner, hown, _⟩ := id hR
  have hne : k ≠ Bx := by
    rintro rfl
    rcases hor with h | h
    · omega
    · rw [hv] at hk; cases hk; simp [rowish] at h
  have hnr : some k ≠ v.ownBlock := by
    intro e
    rcases hor with h | h
    · have := own_base hown k e.symm; omega
    · obtain ⟨c, hc⟩ := own_typed hown k e.symm
      rw [hc] at hk; cases hk; simp [rowish] at h
  exact (Below.heap_setCell W2 ⟨Bx, 0, none⟩ v1 k hne).trans ((hg.block k hkl hnr).trans hk)
set_option maxRecDepth 100000 in
set_option maxHeartbeats 4000000 in
theorem appendseq_calls (gf : Nat) (lb : Array Value) (xs : List Int) (hl : xs.length < 1000000000) (eg : ∀ args w, (callFunc gf args).run Try.prog w = .ok (.enter gf args) w) (W : World) (hit : ∀ W', Below W.heap.size W W' → Iter Try.prog W.heap.size gf lb (fun x : Int => #[Value.int .i32 x]) xs W') :
    Calls Try.prog 72 #[.slice none 0 0, .func (.func gf) #[] lb] W fun e w' => ∃ v, e = .returned v ∧ Kd.R (Kd.int .i32) 21 w' W.heap.size (fun _ => True) v xs ∧ Below W.heap.size W w' := by
  refine callsIn_wide (n := 5) |>.1 ?_
  have HI := Lib.hid hit
  clear hit
  refine callsIn_of_wp_marks Try.func72 rfl trivial ?_ rfl
  simp only [Try.ntmps72, List.size_toArray, List.length_cons, List.length_nil, Nat.reduceAdd, Nat.reduceSub, Array.replicate_succ, Array.replicate_zero, List.push_toArray, List.append_toArray, List.nil_append, List.cons_append]
  gi_wp2
  obtain ⟨w2, e2⟩ : ∃ w2, W.alloc (.cells #[.slice none 0 0] 48) = w2 := ⟨_, rfl⟩
  have hs2 : w2.heap.size = W.heap.size + 1 := by rw [← e2]; simp
  have hB2 : Below W.heap.size W w2 := by rw [← e2]; exact (Below.refl _ W).alloc (Nat.le_refl _) _
  have hG2 : Got W W.heap.size w2.heap.size [] w2 := ⟨⟨.slice none 0 0, by rw [← e2]; exact heap_alloc_new W _, Kd.R_nil _ _ _ _ _⟩, hB2, Nat.le_refl _⟩
  rw [e2]
  clear e2
  have HG2 := Lib.hid hG2
  clear hG2
  refine range_turn (B0 := W.heap.size) rfl eg (fun _ => rfl) (fun r => HI.out _ ((hB2.alloc hB2.size _).alloc (by have := hB2.size; simp; omega) _))
    (fun i W' => Got W W.heap.size w2.heap.size (xs.take i) W') (fun _ => False)
    (fun i A C q ht => q.turn ht (by omega)) (fun A C q ht => q) (by rw [List.take_zero]; exact HG2.out)
    (fun x => { tmps := #[.slice none 0 0, .func (.func gf) #[] lb, .pointer (some ⟨W.heap.size, 0, none⟩), undef, .slice none 0 0, .int .i32 x, .func (.func gf) #[] lb, .int .i32 x, undef, undef, undef, undef, undef], defers := [] })
    ?assign ?body ?done ?stop
  case assign =>
    intro l' x W' K hK
    gi_wp2
    exact hK
  case body =>
    rintro l' i x W' hx hj
    obtain ⟨v, hv, hR⟩ := hj.bx
    have hc := hv.cell
    have hfq := hv.frozen
    have HV := Lib.hid hv
    have HRR := Lib.hid hR
    have HB := Lib.hid hj.below
    have hle := hj.le
    have hlen : (xs.take i).length ≤ xs.length := List.length_take_le' _ _
    have HX := Lib.hid hx
    clear hv hR hj hx
    gi_wp2_with (gi_at_builtin; go_loud (refine R_appendIn (Kd.int .i32) w2.heap.size rfl (.tmp 8) (.tmp 10) 48 21 (.int .i32 0) 4 rfl Try.underlying48 infoC32 rfl Nat.one_pos (by omega) v (xs.take i) x [.int .i32 x] (fun _ => True) (fun _ => False) rfl rfl ?aP (fun _ hk => hk.elim) (fun _ _ => trivial) HRR.out ?aS ?aL ?_); (case aP => rfl); (case aS => exact hle); (case aL => omega); intro v1 w9 ho hg hat; obtain ⟨A1, c1, e1⟩ := Kd.R_slice ho; generalize (xs.take i ++ [x]).length = n1 at e1; subst e1; obtain ⟨q1, q2, q3⟩ := Got.more hle HB.out HV.out HRR.out ho hg (Nat.le_refl _) (by omega); have hcq := q1.cell; have hfq := q1.frozen; have Q2 := Lib.hid q2; have Q3 := Lib.hid q3; clear q1 q2 q3 ho hg hat)
    refine ⟨Q3.out, ?_⟩
    have e : xs.take (i + 1) = xs.take i ++ [x] := by
      have hx := HX.out
      obtain ⟨hi, hxe⟩ := List.getElem?_eq_some_iff.1 hx
      rw [List.take_succ_eq_append_getElem hi, hxe]
    show Got W W.heap.size w2.heap.size (xs.take (i + 1)) _
    rw [e]; exact Q2.out
  case done =>
    rintro D W' hD hj hK
    rw [List.take_length] at hj
    obtain ⟨v, hv, hR⟩ := hj.bx
    have hc := hv.cell
    have hB := hj.below
    gi_wp2
    refine ⟨by simp, .inl ⟨_, _, rfl, run_takeDeferred hK, ?_⟩⟩
    have ht : TurnFrom w2.heap.size W' (W'.putObj D (.deferred none)) := TurnFrom.putObj _ hD hK rfl
    exact ⟨_, results_tmp rfl _ _ _, v, rfl, Kd.R_lower (ht.R hR) (by omega), ht.below hB (by omega)⟩
  case stop =>
    rintro D W' hD h hK
    exact h.elim
set_option maxHeartbeats 1000000 in
theorem collect_calls (gf : Nat) (lb : Array Value) (xs : List Int) (hl : xs.length < 1000000000) (eg : ∀ args w, (callFunc gf args).run Try.prog w = .ok (.enter gf args) w) (W : World) (hit : ∀ W', Below W.heap.size W W' → Iter Try.prog W.heap.size gf lb (fun x : Int => #[Value.int .i32 x]) xs W') :
    Calls Try.prog 63 #[.func (.func gf) #[] lb] W fun e w' => ∃ v, e = .returned v ∧ Kd.R (Kd.int .i32) 21 w' W.heap.size (fun _ => True) v xs ∧ Below W.heap.size W w' := by
  have HC := Lib.hid (appendseq_calls gf lb xs hl eg W hit)
  clear hit
  go_enter Try.func63, Try.ntmps63
  go_wp2_with fail
  refine HC.out.mono ?_
  rintro e w' ⟨v, rfl, hR, hB⟩
  have H := Lib.hid (And.intro hR hB)
  clear hR hB HC
  go_wp2
  go_ret
  exact ⟨v, rfl, H.out⟩
end Go.Proofs.Ytnfnnmmblommiaa.PA
namespace Go.Proofs.Ytnfnnmmblommiaa.PA
open Go.RowKit Go.Shelf Go.Proofs.YtnfnnmmblommiaaW.PrintWords Go.Proofs.YtnfnnmmblommiaaW.PrintLast Go.Proofs.YtnfnnmmblommiaaW.PrintMore
attribute [local go_sem] Oper.semAt_some
set_option linter.unusedVariables false
set_option linter.unusedSimpArgs false

/-- What lay in w0 lies as it lay. -/
def Old (w0 W : World) : Prop := ∀ k, k < w0.heap.size → W.heap[k]? = w0.heap[k]?
theorem Old.cell {w0 W : World} (h : Old w0 W) {a : Addr} {v : Value} (hc : w0.cell? a = some v) : W.cell? a = some v := (World.cell?_of_block (h _ (World.block_lt_of_cell? w0 a hc))).trans hc
theorem Old.kp {w0 A C : World} {B : Nat} (h : Old w0 A) (k : KpT B A C) (hB : w0.heap.size ≤ B) : Old w0 C := fun i hi => by
  have e := h i hi
  rw [Array.getElem?_eq_getElem hi] at e
  rw [Array.getElem?_eq_getElem hi]
  exact k.same i _ e (.inl (by omega))
theorem Old.below {w0 A C : World} (h : Old w0 A) (k : Below A.heap.size A C) (hl : w0.heap.size ≤ A.heap.size) : Old w0 C := fun i hi => (k.block i (by omega)).trans (h i hi)
theorem C_cells {α : Type} {d : Kd α} {w w' : World} {A : Option Addr} {n : Nat} {xs : List α} (h : d.C w A n xs) (hK : ∀ x c, d.K w x c → d.K w' x c) (hc : ∀ a v, w.cell? a = some v → w'.cell? a = some v) : d.C w' A n xs := by
  refine ⟨h.1, h.2.1, fun hn => ?_⟩
  obtain ⟨ad, e, hq⟩ := h.2.2 hn
  refine ⟨ad, e, fun j p hp => ?_⟩
  obtain ⟨c, h1, h2, h3⟩ := hq j p hp
  exact ⟨c, h1, hK _ _ h2, fun i u hi => hc _ _ (h3 i u hi)⟩
theorem Old.sets {w0 W : World} {A : Option Addr} {n : Nat} {sets : List (List Rg)} (h : Old w0 W) (hr : Kd.C (Kd.slice 41 k41) w0 A n sets) : Kd.C (Kd.slice 41 k41) W A n sets :=
  C_cells hr (fun x c ⟨A', c', e, hl, hC⟩ => ⟨A', c', e, hl, C_cells hC (fun _ _ h => h) fun _ _ hc => h.cell hc⟩) fun _ _ hc => h.cell hc
/-- A row of ranges of the call's own is no row of int32. -/
theorem KpT.Rr {B base : Nat} {ok : Nat → Prop} {A C : World} {v : Value} {xs : List Rg} (h : KpT B A C) (hr : Kd.R k41 41 A base ok v xs) : Kd.R k41 41 C base ok v xs :=
  Kd.R_mono (Kd.R_move (Kd.R_bound hr) (fun k hk => by
    obtain ⟨_, _, _, q, hq, c, hc⟩ := hk
    have hq' : q = 41 := by
      rcases List.mem_cons.1 hq with e | e
      · exact e
      · exact absurd e (by intro h; cases h)
    subst hq'
    exact (h.same _ _ hc (.inr rfl)).trans hc.symm)) (fun _ hk => hk.1)

/-- Where a range begins, and where what lies behind it does. -/
def pts (x : Rg) : List Int := x.f0 :: (if x.f1 < 1114111 then [x.f1 + 1] else [])
def endsOf (l : List Rg) : List Int := (norm (l ++ [])).flatMap pts
def endsL (sets : List (List Rg)) : List Int := 0 :: sets.flatMap endsOf
theorem ends_drop {sets : List (List Rg)} {k : Nat} (h : k < sets.length) : (sets.drop k).flatMap endsOf = endsOf (rd_L2 sets (k : Int)) ++ (sets.drop (k + 1)).flatMap endsOf := by
  rw [List.drop_eq_getElem_cons h, List.flatMap_cons]
  congr 2
  unfold rd_L2; simp [h]
theorem pts_drop {u : List Rg} {m : Nat} (h : m < u.length) : (u.drop m).flatMap pts = pts (rd_T41 u (m : Int)) ++ (u.drop (m + 1)).flatMap pts := by
  rw [List.drop_eq_getElem_cons h, List.flatMap_cons]
  congr 2
  unfold rd_T41; simp [h]
theorem at_pre {xs pre suf : List Int} {x : Int} (h : xs = pre ++ x :: suf) : xs[pre.length]? = some x := by subst h; simp
theorem norm_ok (l : List Rg) : ∀ x ∈ norm l, 0 ≤ x.f1 ∧ x.f1 ≤ 1114111 := fun x hx => by
  have := good_iff.1 (IsF.good (by omega) (norm_isC l) x hx)
  omega
set_option maxRecDepth 100000 in
set_option maxHeartbeats 8000000 in
theorem ends1_iter (B : Nat) (w0 : World) (Bx : Nat) (A : Option Addr) (c : Nat) (sets : List (List Rg)) (hl : sets.length < 1000000000) (hls : ∀ l ∈ sets, l.length < 1000000000) (hbx : w0.cell? ⟨Bx, 0, none⟩ = some (.slice A sets.length c)) (hr : Kd.C (Kd.slice 41 k41) w0 A sets.length sets)
    (hB : w0.heap.size ≤ B) (W : World) (hW : Below w0.heap.size w0 W) :
    Iter Try.prog B 65 #[.pointer (some ⟨Bx, 0, none⟩)] (fun x : Int => #[Value.int .i32 x]) (endsL sets) W := by
  intro l J Jx hJ hJx hY h0 n
  have hu := Try.underlying41
  have hO : Old w0 W := fun k hk => hW.block k hk
  have hcb := hO.cell hbx
  refine callsIn_depth (n := 5) ?_
  refine callsIn_of_wp Try.func65 rfl trivial ?_ rfl
  simp only [Try.ntmps65, List.size_toArray, List.length_cons, List.length_nil, Nat.reduceAdd, Nat.reduceSub, Array.replicate_succ, Array.replicate_zero, List.push_toArray, List.append_toArray, List.nil_append, List.cons_append]
  have HY := Lib.hid hY
  have HJ := Lib.hid hJ
  have HR := Lib.hid hr
  have HLS := Lib.hid hls
  have hsz0 := hW.size
  have HO := Lib.hid hO
  have HBX := Lib.hid hbx
  have HX : Hid (endsL sets = [0] ++ (sets.drop 0).flatMap endsOf) := Lib.hid rfl
  obtain ⟨fn, tmps, assign, body, hy0, hR0⟩ := HY.out 0 0 W (by rfl) h0 (5 - 1)
  clear hY hJ hJx hr hls h0 hO hW hbx
  gi_wp2
  refine (roundIn_depth hR0).mono ?_
  rintro e W3 (⟨rfl, hJ3, hk3⟩ | ⟨rfl, hJx3, _⟩)
  · have HJ3 := Lib.hid hJ3
    have HO3 := Lib.hid (HO.out.kp hk3 hB)
    have hs3 := hk3.size
    have hcb3 := HO3.out.cell HBX.out
    clear hJ3 hk3 hR0 hy0 HO hcb
    gi_wp2
    gi_loopw [12] (fun i wr => ∃ (k : Nat) (pre : List Int), k ≤ sets.length ∧ i = .int .i64 k ∧ Hid (endsL sets = pre ++ (sets.drop k).flatMap endsOf) ∧ Hid (J pre.length wr) ∧ Hid (Old w0 wr) ∧ w0.heap.size ≤ wr.heap.size ∧ W.heap.size ≤ wr.heap.size) (fun i _ => sets.length - (intOf i).toNat)
    case atStart => exact ⟨0, [0], Nat.zero_le _, rfl, HX, HJ3, HO3, by omega, hs3⟩
    case round =>
      clear HX HJ3 HO3 hs3 hcb3
      obtain ⟨k, pre, hk, rfl, HE, HJk, HOk, hsz, hszW⟩ := hrel
      by_cases hlt : k < sets.length
      · obtain ⟨ad, A0, c0, rfl, hx, hlc, hC⟩ := at_L2 (HOk.out.sets HR.out) (k : Int) (by omega) (by omega)
        have hll : (rd_L2 sets (k : Int)).length < 1000000000 := HLS.out _ (by unfold rd_L2; simp [hlt])
        have HE2 : Hid (endsL sets = pre ++ ((norm (rd_L2 sets (k : Int) ++ [])).drop 0).flatMap pts ++ (sets.drop (k + 1)).flatMap endsOf) := Lib.hid (by rw [HE.out, ends_drop hlt, List.drop_zero, List.append_assoc]; rfl)
        obtain ⟨l1, hl1⟩ : ∃ l1, rd_L2 sets (k : Int) = l1 := ⟨_, rfl⟩
        rw [hl1] at hx hlc hC hll HE2
        have hun := fun W' hC' => callsIn_wide (n := 5 - 1) |>.2 (uniset_Union.calls A0 c0 l1 none 0 [] (norm (l1 ++ [])) W' hC' hlc (Kd.R_reads' (Kd.R_nil k41 41 W' 0 (fun _ => True))).2.2 (Nat.le_refl _) (by unfold uniset_Union.f; rw [if_pos (by simp; omega)]))
        have HOKS := Lib.hid (norm_ok (l1 ++ []))
        have hul : (norm (l1 ++ [])).length < 1000000000 := Nat.lt_of_le_of_lt (norm_length _) (by simpa using hll)
        have HUN := Lib.hid (hun wr hC)
        generalize norm (l1 ++ []) = u at HE2 HUN HOKS hul
        clear hl1 hC hun HE
        simp only [Int.toNat_natCast] at hx
        gi_wp2_with (refine ⟨trivial, ?_⟩; gi_at_call 33; refine HUN.out.mono ?_; rintro e w4 ⟨v, rfl, hRu, hBu⟩; obtain ⟨A4, c4, rfl, hlc4, hC4⟩ := Kd.R_reads hRu; have H4 := Lib.hid hRu; have H5 := Lib.hid hBu; clear hRu hBu hlc4 hC4)
        have HJ4 := Lib.hid (HJ.out _ _ _ HJk.out (TurnFrom.of_below (B := W.heap.size) H5.out))
        have HO4 := Lib.hid (HOk.out.below H5.out hsz)
        have hs4 := H5.out.size
        obtain ⟨wo, rfl⟩ : ∃ wo : World, wo = wr := ⟨_, rfl⟩
        clear HUN HJk HOk hx
        gi_loopw [19] (fun i wr => ∃ (m : Nat) (pre : List Int), m ≤ u.length ∧ i = .int .i64 m ∧ Hid (endsL sets = pre ++ (u.drop m).flatMap pts ++ (sets.drop (k + 1)).flatMap endsOf) ∧ Hid (J pre.length wr) ∧ Hid (Old w0 wr) ∧ w0.heap.size ≤ wr.heap.size ∧ W.heap.size ≤ wr.heap.size ∧ Hid (Kd.R k41 41 wr 0 (fun _ => True) (.slice A4 u.length c4) u)) (fun i _ => u.length - (intOf i).toNat)
        case atStart => exact ⟨0, pre, Nat.zero_le _, rfl, HE2, HJ4, HO4, by omega, by omega, Lib.hid (Kd.R_lower H4.out (Nat.zero_le _))⟩
        case round =>
          clear HE2 HJ4 HO4 H4 H5
          obtain ⟨m, pre, hm, rfl, HE, HJk, HOk, hsz, hszW, HRU⟩ := hrel
          by_cases hltm : m < u.length
          · obtain ⟨ad', rfl, hx0, hx1⟩ := at_T41 (Kd.R_reads' HRU.out).2.2 (m : Int) (by omega) (by omega)
            have HE2 : Hid (endsL sets = pre ++ (rd_T41 u (m : Int)).f0 :: ((if (rd_T41 u (m : Int)).f1 < 1114111 then [(rd_T41 u (m : Int)).f1 + 1] else []) ++ (u.drop (m + 1)).flatMap pts ++ (sets.drop (k + 1)).flatMap endsOf)) := Lib.hid (by rw [HE.out, pts_drop hltm]; unfold pts; simp)
            have hgd := HOKS.out (rd_T41 u (m : Int)) (by unfold rd_T41; simp [hltm])
            generalize rd_T41 u (m : Int) = x at hx0 hx1 HE2 hgd
            simp only [Int.toNat_natCast] at hx0 hx1
            obtain ⟨w5, hw5⟩ : ∃ w5, wr.alloc (.cells #[.int .i32 x.f0, .int .i32 x.f1] 41) = w5 := ⟨_, rfl⟩
            have hb5 : Below wr.heap.size wr w5 := by rw [← hw5]; exact (Below.refl _ wr).alloc (Nat.le_refl _) _
            have hs5 : w5.heap[wr.heap.size]? = some (.cells #[.int .i32 x.f0, .int .i32 x.f1] 41) := by rw [← hw5]; exact heap_alloc_new wr _
            have h50 : w5.cell? ⟨wr.heap.size, 0, none⟩ = some (.int .i32 x.f0) := by unfold World.cell?; simp only [hs5]; rfl
            have h51 : w5.cell? ⟨wr.heap.size, 1, none⟩ = some (.int .i32 x.f1) := by unfold World.cell?; simp only [hs5]; rfl
            obtain ⟨fn, tmps, assign, body, hy, hR⟩ := HY.out pre.length x.f0 w5 (at_pre HE2.out) (HJ.out _ _ _ HJk.out (TurnFrom.of_below (B := W.heap.size) hb5)) (5 - 1)
            have HS5 := Lib.hid hs5
            have HB5 := Lib.hid hb5
            clear HE hs5 hb5
            gi_wp2
            refine (roundIn_depth hR).mono ?_
            rintro e W6 (⟨rfl, hJ6, hk6⟩ | ⟨rfl, hJx6, _⟩)
            · have HO6 := Lib.hid ((HOk.out.below HB5.out hsz).kp hk6 hB)
              have HR6 := Lib.hid (hk6.Rr (Kd.R_below HRU.out HB5.out))
              have hs6 : W6.heap[wr.heap.size]? = some (.cells #[.int .i32 x.f0, .int .i32 x.f1] 41) := hk6.same _ _ HS5.out (.inr rfl)
              have h61 : W6.cell? ⟨wr.heap.size, 1, none⟩ = some (.int .i32 x.f1) := by unfold World.cell?; simp only [hs6]; rfl
              have hle6 : wr.heap.size ≤ W6.heap.size := Nat.le_trans HB5.out.size hk6.size
              have hJ6' : J (pre ++ [x.f0]).length W6 := by rw [List.length_append]; exact hJ6
              have HJ6 := Lib.hid hJ6'
              by_cases hlo : x.f1 < 1114111
              · have HE3 : Hid (endsL sets = (pre ++ [x.f0]) ++ (x.f1 + 1) :: ((u.drop (m + 1)).flatMap pts ++ (sets.drop (k + 1)).flatMap endsOf)) := Lib.hid (by rw [HE2.out, if_pos hlo]; simp)
                obtain ⟨fn2, tmps2, assign2, body2, hy2, hR2⟩ := HY.out (pre ++ [x.f0]).length (x.f1 + 1) W6 (at_pre HE3.out) hJ6' (5 - 1)
                have hw : IntKind.i32.wrap (x.f1 + 1) = x.f1 + 1 := by simp [IntKind.wrap, IntKind.bits, IntKind.signed]; omega
                have hd : decide (x.f1 < 1114111) = true := decide_eq_true hlo
                clear hJ6 hJ6' hk6 hs6 hR hy HE2 hx0 hx1 h50 h51
                gi_wp2
                refine (roundIn_depth hR2).mono ?_
                rintro e W7 (⟨rfl, hJ7, hk7⟩ | ⟨rfl, hJx7, _⟩)
                · have hJ7' : J (pre ++ [x.f0, x.f1 + 1]).length W7 := by rw [show (pre ++ [x.f0, x.f1 + 1]).length = (pre ++ [x.f0]).length + 1 by simp]; exact hJ7
                  have HJ7 := Lib.hid hJ7'
                  have HO7 := Lib.hid (HO6.out.kp hk7 hB)
                  have HR7 := Lib.hid (hk7.Rr HR6.out)
                  have hle7 := hk7.size
                  clear hJ7 hJ7' hk7 hy2 hR2 h61 hw
                  gi_wp2
                  go_roundw
                  case rel => exact ⟨m + 1, pre ++ [x.f0, x.f1 + 1], by omega, by go_num, Lib.hid (by rw [HE3.out]; simp), HJ7, HO7, by omega, by omega, HR7⟩
                  case measure => simp [intOf]; omega
                · have HJ7 := Lib.hid hJx7
                  clear hJx7 hy2 hR2 h61 hw
                  gi_wp2
                  refine bodyPost_ret (results_none rfl _ _ _) rfl ?_
                  exact ⟨⟨_, rfl⟩, .inr HJ7.out⟩
              · have HE3 : Hid (endsL sets = (pre ++ [x.f0]) ++ (u.drop (m + 1)).flatMap pts ++ (sets.drop (k + 1)).flatMap endsOf) := Lib.hid (by rw [HE2.out, if_neg hlo]; simp)
                have hd : decide (x.f1 < 1114111) = false := decide_eq_false hlo
                clear hJ6 hJ6' hk6 hs6 hR hy HE2 hx0 hx1 h50 h51
                gi_wp2_with (refine wpListIn_skip (o := ⟨some 37, _, _, _, _, _⟩) rfl rfl ?_)
                go_roundw
                case rel => exact ⟨m + 1, pre ++ [x.f0], by omega, by go_num, HE3, HJ6, HO6, by omega, by omega, HR6⟩
                case measure => simp [intOf]; omega
            · have HJ6 := Lib.hid hJx6
              clear hJx6 hR hy
              gi_wp2_with (first | (refine wpListIn_skip (o := ⟨some 33, _, _, _, _, _⟩) rfl rfl ?_) | (refine wpListIn_skip (o := ⟨some 34, _, _, _, _, _⟩) rfl rfl ?_) | (refine wpListIn_skip (o := ⟨some 35, _, _, _, _, _⟩) rfl rfl ?_) | (refine wpListIn_skip (o := ⟨some 36, _, _, _, _, _⟩) rfl rfl ?_) | (refine wpListIn_skip (o := ⟨some 37, _, _, _, _, _⟩) rfl rfl ?_) | (refine wpListIn_skip (o := ⟨some 38, _, _, _, _, _⟩) rfl rfl ?_))
              refine bodyPost_ret (results_none rfl _ _ _) rfl ?_
              exact ⟨⟨_, rfl⟩, .inr HJ6.out⟩
          · obtain rfl : m = u.length := by omega
            gi_wp2
            go_roundw
            case rel => exact ⟨k + 1, pre, by omega, by go_num, Lib.hid (by have := HE.out; rw [List.drop_length] at this; simpa using this), HJk, HOk, hsz, hszW⟩
            case measure => simp [intOf]; omega
      · obtain rfl : k = sets.length := by omega
        gi_wp2
        go_end0
        refine ⟨⟨_, rfl⟩, .inl ?_⟩
        have := HE.out
        rw [List.drop_length] at this
        rw [this]
        simpa using HJk.out
  · have HJ3 := Lib.hid hJx3
    clear hJx3 hR0 hy0
    gi_wp2
    refine bodyPost_ret (results_none rfl _ _ _) rfl ?_
    exact ⟨⟨_, rfl⟩, .inr HJ3.out⟩
end Go.Proofs.Ytnfnnmmblommiaa.PA
namespace Go.Proofs.Ytnfnnmmblommiaa.PA
open Go.RowKit Go.Shelf Go.Lib Go.Proofs.YtnfnnmmblommiaaW.PrintWords Go.Proofs.YtnfnnmmblommiaaW.PrintLast Go.Proofs.YtnfnnmmblommiaaW.PrintMore
open Go.Sort (Holds putRow putCells)
set_option linter.unusedVariables false
set_option linter.unusedSimpArgs false

/-- A list in order, each element as often as in the other. -/
structure InOrder (ys xs : List Int) : Prop where
  perm : ys.Perm xs
  le : ys.Pairwise (fun x y => x ≤ y)
set_option maxHeartbeats 1000000 in
theorem sorted32_calls (gf : Nat) (lb : Array Value) (xs : List Int) (hne : xs ≠ []) (hl : xs.length < 1000000000) (eg : ∀ args w, (callFunc gf args).run Try.prog w = .ok (.enter gf args) w) (W : World) (hit : ∀ W', Below W.heap.size W W' → Iter Try.prog W.heap.size gf lb (fun x : Int => #[Value.int .i32 x]) xs W') :
    Calls Try.prog 50 #[.func (.func gf) #[] lb] W fun e w' => ∃ g n c ys, e = .returned (.slice (some ⟨g, 0, none⟩) n c) ∧ Kd.R (Kd.int .i32) 21 w' W.heap.size (fun _ => True) (.slice (some ⟨g, 0, none⟩) n c) ys ∧ Below W.heap.size W w' ∧ InOrder ys xs := by
  have HC := Lib.hid (collect_calls gf lb xs hl eg W hit)
  clear hit
  go_enter Try.func50, Try.ntmps50
  go_wp2_with fail
  refine HC.out.mono ?_
  rintro e w1 ⟨v, rfl, hR, hB⟩
  have hshape : ∃ g n c, v = .slice (some ⟨g, 0, none⟩) n c := by
    obtain ⟨_, inner, ho, _⟩ := id hR
    rcases ho.2 with ⟨_, h⟩ | ⟨g, cap, cur, he, _⟩
    · exact absurd (List.eq_nil_of_length_eq_zero h) hne
    · exact ⟨g, _, cap, he⟩
  obtain ⟨g, n, c, rfl⟩ := hshape
  have HS := Lib.hid (sort_row W.heap.size c g (fun _ => True) w1 n xs hR (by omega))
  have HB := Lib.hid hB
  clear hR hB HC
  go_wp2_with fail
  refine HS.out.mono ?_
  rintro e w2 ⟨rfl, ys, hR, hp, hs, hB2⟩
  have H := Lib.hid (And.intro hR (And.intro hp (And.intro hs hB2)))
  clear hR hp hs hB2 HS
  go_wp2
  go_ret
  exact ⟨g, n, c, ys, rfl, H.out.1, HB.out.trans H.out.2.2.2, H.out.2.1, H.out.2.2.1⟩
theorem put32 (W : World) (g m : Nat) (d : Array Int) : putRow enc32 (Go.Sort.ahead W m) g 0 d = Go.Proofs.sortWorldK enc32L 1 W g 0 m d #[] := by
  rw [← sortWorld32]; unfold sortWorld; rw [Go.Sort.grow_empty]
def compactL (ys : List Int) : List Int := compactUpTo ys.toArray ys.length
theorem compactL_length (ys : List Int) : (compactL ys).length ≤ ys.length := by
  unfold compactL compactUpTo
  rw [List.length_map]
  exact Nat.le_trans (List.length_filter_le _ _) (by simp)
theorem compact_calls (base g n c : Nat) (W : World) (ys : List Int) (hR : Kd.R (Kd.int .i32) 21 W base (fun _ => True) (.slice (some ⟨g, 0, none⟩) n c) ys) (hl : ys.length < 1000000000) :
    Calls Try.prog 49 #[.slice (some ⟨g, 0, none⟩) n c] W fun e w' => e = .returned (.slice (some ⟨g, 0, none⟩) (compactL ys).length c) ∧ Kd.R (Kd.int .i32) 21 w' base (fun _ => True) (.slice (some ⟨g, 0, none⟩) (compactL ys).length c) (compactL ys) ∧ Below base W w' := by
  have hopen : ∀ W base ok p cs, (Kd.int .i32).M W base ok p cs → cs = enc32L p := fun _ _ _ _ _ h => h
  obtain ⟨hH, cur, hh, hn, h1, h2, h3, hb, hok⟩ := R_holdsK (enc := enc32L) (k := 1) hR rfl hopen (fun _ => rfl) (by omega)
  subst hn
  have hg : g < W.heap.size := (Array.getElem?_eq_some_iff.1 hh).1
  have hc := AnyE.slices_Compact Try.compact32 enc32 one32 (EqlAt.intD _ _ .i32) (NeqAt.intD _ _ .i32) 0 (fun w => by kernel_rfl) g 0 c ys.toArray W (holds32 hH) (by simp; omega) (by simpa using h1)
  rw [List.size_toArray] at hc
  refine hc.mono ?_
  rintro e w' ⟨rfl, q, rfl⟩
  have hle := compactL_length ys
  refine ⟨rfl, ?_, ?_⟩
  · rw [put32]
    have hz : compactUpTo ys.toArray ys.length = compactL ys := rfl
    rw [hz]
    have h4 := sorted_R (enc := enc32L) (k := 1) (m := q) (compactL ys ++ List.replicate (ys.length - (compactL ys).length) 0).toArray #[] hR rfl hopen (fun _ _ _ _ => rfl) (fun _ => rfl) Nat.one_pos (by
      simp only [List.size_toArray, List.length_append, List.length_replicate]
      omega)
    have h5 := Kd.R_take (m := (compactL ys).length) h4 (by simp)
    have h6 : List.take (compactL ys).length (compactL ys ++ List.replicate (ys.length - (compactL ys).length) 0).toArray.toList = compactL ys := by simp
    rw [h6] at h5
    exact h5
  · rw [put32]; exact sorted_below _ #[] hb hg
set_option maxHeartbeats 1000000 in
theorem ends_calls (A : Option Addr) (n c : Nat) (w : World) : Calls Try.prog 51 #[.slice A n c] w fun e w' => e = .returned (.func (.func 65) #[] #[.pointer (some ⟨w.heap.size, 0, none⟩)]) ∧ w' = w.alloc (.cells #[.slice A n c] 39) := by
  go_enter Try.func51, Try.ntmps51
  go_wp2
  go_ret
  exact ⟨rfl, rfl⟩
/-- Sorted(ends(sets)). -/
theorem sorted_ends (w : World) (A : Option Addr) (c : Nat) (sets : List (List Rg)) (hl : sets.length < 1000) (hls : ∀ l ∈ sets, l.length < 100000) (hr : Kd.C (Kd.slice 41 k41) w A sets.length sets) (hx : (endsL sets).length < 1000000000) :
    Calls Try.prog 50 #[.func (.func 65) #[] #[.pointer (some ⟨w.heap.size, 0, none⟩)]] (w.alloc (.cells #[.slice A sets.length c] 39)) fun e w' => ∃ g n cc ys, e = .returned (.slice (some ⟨g, 0, none⟩) n cc) ∧ Kd.R (Kd.int .i32) 21 w' w.heap.size (fun _ => True) (.slice (some ⟨g, 0, none⟩) n cc) ys ∧ Below w.heap.size w w' ∧ InOrder ys (endsL sets) := by
  have hb := (Below.refl w.heap.size w).alloc (Nat.le_refl _) (.cells #[.slice A sets.length c] 39)
  refine (sorted32_calls 65 #[.pointer (some ⟨w.heap.size, 0, none⟩)] (endsL sets) (by simp [endsL]) hx (enters_of Try.func65 (by kernel_rfl) rfl) _ fun W' hW => ?_).mono ?_
  · exact ends1_iter _ _ w.heap.size A c sets (by omega) (fun l hl => by have := hls l hl; omega) (cell_new 0 rfl) (Kd.C_below hr hb) (Nat.le_refl _) W' hW
  · rintro e w' ⟨g, n, cc, ys, rfl, hR, hB, hO⟩
    exact ⟨g, n, cc, ys, rfl, Kd.R_lower hR (by simp), hb.trans (hB.mono (by simp)), hO⟩
end Go.Proofs.Ytnfnnmmblommiaa.PA
