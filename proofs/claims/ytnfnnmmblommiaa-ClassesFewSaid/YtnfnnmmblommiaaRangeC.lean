/- (Of XRange, for rows of int32.) A loop over an iterator whose rounds write what earlier rounds have made: what may turn is told by the objects' kinds. slices.AppendSeq, slices.Collect at int32, of whatever iterator that hands over a list. -/
import Derived.Test.YtnfnnmmblommiaaIterMem
namespace Go.Proofs.Ytnfnnmmblommiaa.PA
open Go.RowKit Go.Shelf Go.Proofs.YtnfnnmmblommiaaW.PrintWords Go.Proofs.YtnfnnmmblommiaaW.PrintLast Go.Proofs.YtnfnnmmblommiaaW.PrintMore
set_option linter.unusedVariables false
set_option linter.unusedSimpArgs false

def loopish : Obj → Bool
  | .loop _ => true
  | .deferred _ => true
  | .mapIter .. => true
  | _ => false
/-- Loops' own records, from B on, may turn; whatever else was there lies as it lay. -/
structure TurnFrom (B : Nat) (W W' : World) : Prop where
  os : W'.os = W.os
  tape : W'.tape = W.tape
  output : W'.output = W.output
  size : W.heap.size ≤ W'.heap.size
  same : ∀ (k : Nat) (o : Obj), W.heap[k]? = some o → (k < B ∨ loopish o = false) → W'.heap[k]? = some o
theorem TurnFrom.refl (B : Nat) (W : World) : TurnFrom B W W := ⟨rfl, rfl, rfl, Nat.le_refl _, fun _ _ h _ => h⟩
theorem TurnFrom.trans {B : Nat} {X Y Z : World} (h : TurnFrom B X Y) (k : TurnFrom B Y Z) : TurnFrom B X Z :=
  ⟨k.os.trans h.os, k.tape.trans h.tape, k.output.trans h.output, Nat.le_trans h.size k.size, fun i o hi ho => k.same i o (h.same i o hi ho) ho⟩
theorem TurnFrom.alloc (B : Nat) (W : World) (o : Obj) : TurnFrom B W (W.alloc o) :=
  ⟨rfl, rfl, rfl, by simp, fun k o' hk _ => (Below.heap_alloc W o k (Array.getElem?_eq_some_iff.1 hk).1).trans hk⟩
theorem TurnFrom.putObj {B : Nat} {W : World} {l : Nat} {o : Obj} (o' : Obj) (hB : B ≤ l) (hl : W.heap[l]? = some o) (ho : loopish o = true) : TurnFrom B W (W.putObj l o') :=
  ⟨rfl, rfl, rfl, by simp, fun k o2 hk h => (World.putObj_heap_other (fun e => by
    subst e; rw [hk] at hl; cases hl
    rcases h with h | h
    · omega
    · rw [ho] at h; cases h)).trans hk⟩
theorem TurnFrom.lower {B B' : Nat} {W W' : World} (h : TurnFrom B' W W') (hB : B ≤ B') : TurnFrom B W W' :=
  ⟨h.os, h.tape, h.output, h.size, fun k o hk ho => h.same k o hk (ho.elim (fun q => .inl (by omega)) .inr)⟩
theorem TurnFrom.of_below {B : Nat} {W W' : World} (h : Below W.heap.size W W') : TurnFrom B W W' :=
  ⟨h.os, h.tape, h.output, h.size, fun k o hk _ => (h.block k (Array.getElem?_eq_some_iff.1 hk).1).trans hk⟩
theorem TurnFrom.cell {B : Nat} {W W' : World} (h : TurnFrom B W W') {a : Addr} {v : Value} (hc : W.cell? a = some v) : W'.cell? a = some v := by
  obtain ⟨o, ho, hcl⟩ := cells_of_cell hc
  refine (World.cell?_of_block ((h.same _ _ ho (.inr ?_)).trans ho.symm)).trans hc
  cases o <;> first | rfl | (simp [Obj.isCells] at hcl)
theorem TurnFrom.below {B : Nat} {w W W' : World} (h : TurnFrom B W W') (hb : Below w.heap.size w W) (hB : w.heap.size ≤ B) : Below w.heap.size w W' := by
  refine hb.trans ⟨h.os, h.tape, h.output, h.size, fun k hk => ?_⟩
  have hlt : k < W.heap.size := Nat.lt_of_lt_of_le hk hb.size
  rw [Array.getElem?_eq_getElem hlt]
  exact h.same k _ (Array.getElem?_eq_getElem hlt) (.inl (by omega))

/-- The objects that the collecting of int32 turns: rows of int32, variables that hold such a row. -/
def rowish : Obj → Bool
  | .cells _ t _ => t == 21 || t == 48
  | _ => false
/-- Whatever lies below B, and whatever is no such row, lies as it lay. -/
structure KpT (B : Nat) (W W' : World) : Prop where
  size : W.heap.size ≤ W'.heap.size
  same : ∀ (k : Nat) (o : Obj), W.heap[k]? = some o → (k < B ∨ rowish o = false) → W'.heap[k]? = some o
theorem KpT.refl (B : Nat) (W : World) : KpT B W W := ⟨Nat.le_refl _, fun _ _ h _ => h⟩
theorem KpT.trans {B : Nat} {X Y Z : World} (h : KpT B X Y) (k : KpT B Y Z) : KpT B X Z := ⟨Nat.le_trans h.size k.size, fun i o hi ho => k.same i o (h.same i o hi ho) ho⟩
theorem KpT.of_below {B : Nat} {W W' : World} (h : Below W.heap.size W W') : KpT B W W' := ⟨h.size, fun k o hk _ => (h.block k (Array.getElem?_eq_some_iff.1 hk).1).trans hk⟩
/-- One round: the record turned, the body, the record turned back. -/
theorem KpT.round {B : Nat} {W W3 : World} {l : Nat} {o o' : Obj} (hl : W.heap[l]? = some o) (h : KpT B (W.putObj l o') W3) : KpT B W (W3.putObj l o) := by
  have hlt : l < W.heap.size := (Array.getElem?_eq_some_iff.1 hl).1
  refine ⟨by have := h.size; simp at this ⊢; omega, fun k o2 hk ho2 => ?_⟩
  by_cases e : k = l
  · subst e
    rw [hk] at hl; cases hl
    exact World.putObj_heap_same (by have := h.size; simp at this; omega)
  · exact (World.putObj_heap_other e).trans (h.same k o2 ((World.putObj_heap_other e).trans hk) ho2)
/-- As KpT, but what lies below s may have turned. -/
structure KpE (s B : Nat) (W W' : World) : Prop where
  size : W.heap.size ≤ W'.heap.size
  same : ∀ (k : Nat) (o : Obj), W.heap[k]? = some o → (k < B ∨ rowish o = false) → s ≤ k → W'.heap[k]? = some o
theorem KpT.e {B : Nat} {W W' : World} (h : KpT B W W') (s : Nat) : KpE s B W W' := ⟨h.size, fun k o hk ho _ => h.same k o hk ho⟩
theorem KpE.up {s s' B : Nat} {W W' : World} (h : KpE s B W W') (hs : s ≤ s') : KpE s' B W W' := ⟨h.size, fun k o hk ho hl => h.same k o hk ho (by omega)⟩
/-- A block that KpT keeps. -/
def Calm (B : Nat) (W : World) (b : Nat) : Prop := ∃ o : Obj, W.heap[b]? = some o ∧ (b < B ∨ rowish o = false)
theorem KpT.block {B : Nat} {W W' : World} (h : KpT B W W') {b : Nat} (hc : Calm B W b) : W'.heap[b]? = W.heap[b]? := by
  obtain ⟨o, ho, hb⟩ := hc
  rw [ho]; exact h.same b o ho hb
theorem Calm.kept {B : Nat} {W W' : World} {b : Nat} (h : Calm B W b) (e : W'.heap[b]? = W.heap[b]?) : Calm B W' b := by
  obtain ⟨o, ho, hb⟩ := h
  exact ⟨o, e.trans ho, hb⟩

theorem roundIn_depth {n m : Nat} {P : Program} {l : Nat} {f : FuncId} {tmps : Array Value} {assign body : Code} {w : World} {R : Ending → World → Prop} (h : RoundIn Fence.wide n P l f tmps assign body w R) : RoundIn Fence.wide m P l f tmps assign body w R :=
  ⟨h.1, fun c cs _ => h.2 c cs (room_wide _)⟩
theorem callsIn_depth {n m : Nat} {P : Program} {f : FuncId} {args : Array Value} {w : World} {R : Ending → World → Prop} (h : CallsIn Fence.wide n P f args w R) : CallsIn Fence.wide m P f args w R := callsIn_wide.2 (callsIn_wide.1 h)

/-- What an iterator does: it hands over xs, one behind the other, until it is stopped. -/
def Iter {α : Type} (P : Program) (B0 gf : Nat) (lb : Array Value) (encs : α → Array Value) (xs : List α) (W : World) : Prop :=
  ∀ (l : Nat) (J : Nat → World → Prop) (Jx : World → Prop), (∀ i A B, J i A → TurnFrom W.heap.size A B → J i B) → (∀ A B, Jx A → TurnFrom W.heap.size A B → Jx B) →
    (∀ (i : Nat) (x : α) (A : World), xs[i]? = some x → J i A → ∀ m, YieldAt Fence.wide m P l (encs x) A fun e B => (e = .returned (.bool true) ∧ J (i + 1) B ∧ KpT B0 A B) ∨ (e = .returned (.bool false) ∧ Jx B ∧ KpE W.heap.size B0 A B)) →
    J 0 W → ∀ n, CallsIn Fence.wide n P gf (#[.func (.yield l) #[] #[]] ++ lb) W fun e B => (∃ v, e = .returned v) ∧ (J xs.length B ∨ Jx B)

/-- How a round's body is left. -/
def turnPost (s B0 : Nat) (I : Nat → World → Prop) (Ix : World → Prop) (i : Nat) (W : World) : Exit → Act → World → Prop
  | .normal, _, W' => KpT B0 W W' ∧ I (i + 1) W'
  | .ret, _, W' => KpE s B0 W W' ∧ Ix W'
  | _, _, _ => False

theorem range_turn {α : Type} {P : Program} {n B0 : Nat} {g : Operand} {ps : Array Tmp} {assign body : Code} {Q : Exit → Act → World → Prop} {a : Act} {w : World}
    {gf : Nat} {lb : Array Value} (hg : a.eval g = .func (.func gf) #[] lb) (eg : ∀ args w, (callFunc gf args).run P w = .ok (.enter gf args) w) {encs : α → Array Value} (hps : ∀ x, (encs x).size = ps.size) {xs : List α}
    (hit : ∀ r, Iter P B0 gf lb encs xs ((w.alloc (.deferred (some []))).alloc (.loop r)))
    (I : Nat → World → Prop) (Ix : World → Prop) (hI : ∀ i A B, I i A → TurnFrom w.heap.size A B → I i B) (hIx : ∀ A B, Ix A → TurnFrom w.heap.size A B → Ix B) (h0 : I 0 w) (a₁ : α → Act)
    (hassign : ∀ (l : Nat) (x : α) (W : World) (K : Act → World → Prop), K (a₁ x) W →
      assign.wpIn (Fence.wide.inRound l) 5 P (Exit.then K (fun _ _ _ => False)) { tmps := (ps.zip (encs x)).foldl (fun t (p, v) => t.setIfInBounds p v) a.tmps, defers := [] } W)
    (hbody : ∀ (l i : Nat) (x : α) (W : World), xs[i]? = some x → I i W → body.wpIn (Fence.wide.inRound l) 5 P (turnPost w.heap.size B0 I Ix i W) (a₁ x) W)
    (hdone : ∀ (D : Nat) (W : World), w.heap.size ≤ D → I xs.length W → W.heap[D]? = some (.deferred (some [])) → Q .normal { a with defers := { target := .collected D, args := #[] } :: a.defers } W)
    (hstop : ∀ (D : Nat) (W : World), w.heap.size ≤ D → Ix W → W.heap[D]? = some (.deferred (some [])) → Code.ret.wpIn Fence.wide n P Q { a with defers := { target := .collected D, args := #[] } :: a.defers } W) :
    (Code.rangeFunc g ps assign body).wpIn Fence.wide n P Q a w := by
  refine wpIn_rangeFunc fun fn _ => ?_
  let r0 : Loop := { state := .ready, pending := none, fn := fn, tmps := a.tmps, params := ps, assign := assign, body := body, defers := w.heap.size }
  let W1 : World := (w.alloc (.deferred (some []))).alloc (.loop r0)
  have hsz : W1.heap.size = w.heap.size + 1 + 1 := by simp [W1]
  have hL : W1.heap[w.heap.size + 1]? = some (.loop r0) := by
    have := World.alloc_heap_new (w.alloc (.deferred (some []))) (.loop r0); rwa [World.size_alloc] at this
  have hD : W1.heap[w.heap.size]? = some (.deferred (some [])) := (Below.heap_alloc _ _ _ (by simp)).trans (World.alloc_heap_new w _)
  have hT : TurnFrom w.heap.size w W1 := (TurnFrom.alloc _ w _).trans (TurnFrom.alloc _ _ _)
  refine ⟨w.heap.size + 1, [{ target := .collected w.heap.size, args := #[] }], W1, { target := .fn (.func gf) lb, args := #[.func (.yield (w.heap.size + 1)) #[] #[]] }, W1, gf, #[.func (.yield (w.heap.size + 1)) #[] #[]] ++ lb, W1, run_enterLoop_outer _ _ _ _ _, ?_, fun _ _ => trivial, ?_, ?_, ?_⟩
  · simp only [resolve, hg]
    simp [go_sem]
  · simp [invoke, go_sem, eg]
  · intro h; simp [Fence.wide] at h
  refine (hit r0 (w.heap.size + 1)
    (fun i W => I i W ∧ W.heap[w.heap.size + 1]? = some (.loop r0) ∧ W.heap[w.heap.size]? = some (.deferred (some [])))
    (fun W => Ix W ∧ W.heap[w.heap.size + 1]? = some (.loop { r0 with state := .done, pending := some .ret }) ∧ W.heap[w.heap.size]? = some (.deferred (some [])))
    (fun i A B ⟨q1, q2, q3⟩ ht => ⟨hI i A B q1 (ht.lower (by show _ ≤ W1.heap.size; omega)), ht.same _ _ q2 (.inl (by show _ < W1.heap.size; omega)), ht.same _ _ q3 (.inl (by show _ < W1.heap.size; omega))⟩)
    (fun A B ⟨q1, q2, q3⟩ ht => ⟨hIx A B q1 (ht.lower (by show _ ≤ W1.heap.size; omega)), ht.same _ _ q2 (.inl (by show _ < W1.heap.size; omega)), ht.same _ _ q3 (.inl (by show _ < W1.heap.size; omega))⟩)
    ?_ ⟨hI 0 w W1 h0 hT, hL, hD⟩ (n - 1)).mono ?_
  · -- a round
    rintro i x W hx ⟨q1, q2, q3⟩ m
    refine ⟨fn, _, assign, body, run_yield q2 (hps x), roundIn_depth (n := 5) (roundIn_of_wpIn trivial (hassign _ x W _ ?_))⟩
    have hlt : w.heap.size + 1 < W.heap.size := (Array.getElem?_eq_some_iff.1 q2).1
    refine ⟨_, run_beginRound q2 rfl, ?_⟩
    have hb : (W.putObj (w.heap.size + 1) (.loop { r0 with state := .busy })).heap[w.heap.size + 1]? = some (.loop { r0 with state := .busy }) := World.putObj_heap_same hlt
    have hb2 : (W.putObj (w.heap.size + 1) (.loop { r0 with state := .busy })).heap[w.heap.size]? = some (.deferred (some [])) := (World.putObj_heap_other (by omega)).trans q3
    refine wpIn_mono (hbody _ i x _ hx (hI i W _ q1 (TurnFrom.putObj _ (by omega) q2 rfl))) ?_
    intro e a3 W3 hp
    cases e with
    | normal =>
      obtain ⟨hk, hi⟩ := hp
      have h3 := hk.same _ _ hb (.inr rfl)
      have h4 := hk.same _ _ hb2 (.inr rfl)
      have hlt3 : w.heap.size + 1 < W3.heap.size := (Array.getElem?_eq_some_iff.1 h3).1
      exact ⟨_, _, run_endRound none h3, .inl ⟨rfl, ⟨hI _ W3 _ hi (TurnFrom.putObj _ (by omega) h3 rfl), World.putObj_heap_same hlt3, (World.putObj_heap_other (by omega)).trans h4⟩, KpT.round q2 hk⟩⟩
    | ret =>
      obtain ⟨hk, hi⟩ := hp
      have h3 := hk.same _ _ hb (.inr rfl) (by omega)
      have h4 := hk.same _ _ hb2 (.inr rfl) (by omega)
      have hlt3 : w.heap.size + 1 < W3.heap.size := (Array.getElem?_eq_some_iff.1 h3).1
      refine ⟨_, _, run_endRound (some .ret) h3, .inr ⟨rfl, ⟨hIx W3 _ hi (TurnFrom.putObj _ (by omega) h3 rfl), World.putObj_heap_same hlt3, (World.putObj_heap_other (by omega)).trans h4⟩, ?_, fun k o hk1 ho hl => ?_⟩⟩
      · have := hk.size; simp at this ⊢; omega
      · have hl' : w.heap.size + 1 + 1 ≤ k := by have : W1.heap.size ≤ k := hl; omega
        exact (World.putObj_heap_other (by omega)).trans (hk.same k o ((World.putObj_heap_other (by omega)).trans hk1) ho (by omega))
    | exit id => exact hp.elim
    | goto t => exact hp.elim
    | panic c => exact hp.elim
    | outgrown => exact hp.elim
  · -- behind the iterator
    rintro e W ⟨⟨v, rfl⟩, ⟨q1, q2, q3⟩ | ⟨q1, q2, q3⟩⟩
    · exact ⟨none, _, run_endLoop q2 (by simp [r0]), hdone _ _ (Nat.le_refl _) (hI _ W _ q1 (TurnFrom.putObj _ (by omega) q2 rfl)) ((World.putObj_heap_other (by omega)).trans q3)⟩
    · exact ⟨some .ret, _, run_endLoop q2 (by simp), hstop _ _ (Nat.le_refl _) (hIx W _ q1 (TurnFrom.putObj _ (by omega) q2 rfl)) ((World.putObj_heap_other (by omega)).trans q3)⟩
end Go.Proofs.Ytnfnnmmblommiaa.PA
namespace Go.Proofs.Ytnfnnmmblommiaa.PA
open Go.RowKit Go.Shelf Go.Proofs.YtnfnnmmblommiaaW.PrintWords Go.Proofs.YtnfnnmmblommiaaW.PrintLast Go.Proofs.YtnfnnmmblommiaaW.PrintMore
attribute [local go_sem] Oper.semAt_some
set_option linter.unusedVariables false
set_option linter.unusedSimpArgs false

theorem infoC32 : (Try.prog.info? 21).map (fun i => (i.zero, i.size, i.bytes)) = some (some (.int .i32 0), 1, 4) := by kernel_rfl
theorem TurnFrom.boxed {B b : Nat} {W W' : World} {t : TypeId} {v : Value} (h : TurnFrom B W W') (hb : Boxed W b t v) : Boxed W' b t v := h.same _ _ hb (.inr rfl)
theorem TurnFrom.R {α : Type} {d : Kd α} {B e base : Nat} {ok : Nat → Prop} {W W' : World} {v : Value} {xs : List α} (h : TurnFrom B W W') (hr : d.R e W base ok v xs) : d.R e W' base ok v xs :=
  Kd.R_mono (Kd.R_move (Kd.R_bound hr) (fun k hk => by obtain ⟨_, _, _, q, _, c, hc⟩ := hk; exact (h.same _ _ hc (.inr rfl)).trans hc.symm)) (fun _ hk => hk.1)
/-- What has been collected. -/
structure Got (W : World) (Bx B0 : Nat) (xs : List Int) (W' : World) : Prop where
  bx : ∃ v, Boxed W' Bx 48 v ∧ Kd.R (Kd.int .i32) 21 W' B0 (fun _ => True) v xs
  below : Below W.heap.size W W'
  le : B0 ≤ W'.heap.size
theorem Got.turn {W A C : World} {Bx B0 B : Nat} {xs : List Int} (h : Got W Bx B0 xs A) (ht : TurnFrom B A C) (hB : W.heap.size ≤ B) : Got W Bx B0 xs C := by
  obtain ⟨v, h1, h2⟩ := h.bx
  exact ⟨⟨v, ht.boxed h1, ht.R h2⟩, ht.below h.below hB, Nat.le_trans h.le ht.size⟩
/-- 'box = append(box, x)': what lies behind it. -/
theorem Got.more {W W1 W2 : World} {Bx B0 : Nat} {xs : List Int} {x : Int} {v v1 : Value} (hle : B0 ≤ W1.heap.size) (hb : Below W.heap.size W W1) (hv : Boxed W1 Bx 48 v) (hR : Kd.R (Kd.int .i32) 21 W1 B0 (fun _ => True) v xs)
    (ho : Kd.R (Kd.int .i32) 21 W2 B0 (fun _ => True) v1 (xs ++ [x])) (hg : W1.grownBy W2 v.ownBlock) (hBx : W.heap.size ≤ Bx) (hlt : Bx < B0) :
    (Boxed W2 Bx 48 v) ∧ Got W Bx B0 (xs ++ [x]) (W2.setCell ⟨Bx, 0, none⟩ v1) ∧ KpT W.heap.size W1 (W2.setCell ⟨Bx, 0, none⟩ v1) := by
  obtain ⟨q1, q2, q3, _, q5, q6⟩ := collected (B := B0) (S := fun _ => False) hv hR ho hg (by decide) (fun b hb => hb.elim)
  refine ⟨q1, ⟨⟨v1, q2, q3⟩, hb.trans (q6 _ (by omega) hBx hb.size), Nat.le_trans hle q5.size⟩, q5.size, fun k o hk hor => ?_⟩
  have hkl : k < W1.heap.size := (Array.getElem?_eq_some_iff.1 hk).1
  obtain ⟨_, inner, hown, _⟩ := id hR
  have hne : k ≠ Bx := by
    rintro rfl
    rcases hor with h | h
    · omega
    · rw [hv] at hk; cases hk; simp [rowish] at h
  have hnr : some k ≠ v.ownBlock := by
    intro e
    rcases hor with h | h
    · have := own_base hown k e.symm; omega
    · obtain ⟨c, hc⟩ := own_typed hown k e.symm
      rw [hc] at hk; cases hk; simp [rowish] at h
  exact (Below.heap_setCell W2 ⟨Bx, 0, none⟩ v1 k hne).trans ((hg.block k hkl hnr).trans hk)
set_option maxRecDepth 100000 in
set_option maxHeartbeats 4000000 in
theorem appendseq_calls (gf : Nat) (lb : Array Value) (xs : List Int) (hl : xs.length < 1000000000) (eg : ∀ args w, (callFunc gf args).run Try.prog w = .ok (.enter gf args) w) (W : World) (hit : ∀ W', Below W.heap.size W W' → Iter Try.prog W.heap.size gf lb (fun x : Int => #[Value.int .i32 x]) xs W') :
    Calls Try.prog 72 #[.slice none 0 0, .func (.func gf) #[] lb] W fun e w' => ∃ v, e = .returned v ∧ Kd.R (Kd.int .i32) 21 w' W.heap.size (fun _ => True) v xs ∧ Below W.heap.size W w' := by
  refine callsIn_wide (n := 5) |>.1 ?_
  have HI := Lib.hid hit
  clear hit
  refine callsIn_of_wp_marks Try.func72 rfl trivial ?_ rfl
  simp only [Try.ntmps72, List.size_toArray, List.length_cons, List.length_nil, Nat.reduceAdd, Nat.reduceSub, Array.replicate_succ, Array.replicate_zero, List.push_toArray, List.append_toArray, List.nil_append, List.cons_append]
  gi_wp2
  obtain ⟨w2, e2⟩ : ∃ w2, W.alloc (.cells #[.slice none 0 0] 48) = w2 := ⟨_, rfl⟩
  have hs2 : w2.heap.size = W.heap.size + 1 := by rw [← e2]; simp
  have hB2 : Below W.heap.size W w2 := by rw [← e2]; exact (Below.refl _ W).alloc (Nat.le_refl _) _
  have hG2 : Got W W.heap.size w2.heap.size [] w2 := ⟨⟨.slice none 0 0, by rw [← e2]; exact heap_alloc_new W _, Kd.R_nil _ _ _ _ _⟩, hB2, Nat.le_refl _⟩
  rw [e2]
  clear e2
  have HG2 := Lib.hid hG2
  clear hG2
  refine range_turn (B0 := W.heap.size) rfl eg (fun _ => rfl) (fun r => HI.out _ ((hB2.alloc hB2.size _).alloc (by have := hB2.size; simp; omega) _))
    (fun i W' => Got W W.heap.size w2.heap.size (xs.take i) W') (fun _ => False)
    (fun i A C q ht => q.turn ht (by omega)) (fun A C q ht => q) (by rw [List.take_zero]; exact HG2.out)
    (fun x => { tmps := #[.slice none 0 0, .func (.func gf) #[] lb, .pointer (some ⟨W.heap.size, 0, none⟩), undef, .slice none 0 0, .int .i32 x, .func (.func gf) #[] lb, .int .i32 x, undef, undef, undef, undef, undef], defers := [] })
    ?assign ?body ?done ?stop
  case assign =>
    intro l' x W' K hK
    gi_wp2
    exact hK
  case body =>
    rintro l' i x W' hx hj
    obtain ⟨v, hv, hR⟩ := hj.bx
    have hc := hv.cell
    have hfq := hv.frozen
    have HV := Lib.hid hv
    have HRR := Lib.hid hR
    have HB := Lib.hid hj.below
    have hle := hj.le
    have hlen : (xs.take i).length ≤ xs.length := List.length_take_le' _ _
    have HX := Lib.hid hx
    clear hv hR hj hx
    gi_wp2_with (gi_at_builtin; go_loud (refine R_appendIn (Kd.int .i32) w2.heap.size rfl (.tmp 8) (.tmp 10) 48 21 (.int .i32 0) 4 rfl Try.underlying48 infoC32 rfl Nat.one_pos (by omega) v (xs.take i) x [.int .i32 x] (fun _ => True) (fun _ => False) rfl rfl ?aP (fun _ hk => hk.elim) (fun _ _ => trivial) HRR.out ?aS ?aL ?_); (case aP => rfl); (case aS => exact hle); (case aL => omega); intro v1 w9 ho hg hat; obtain ⟨A1, c1, e1⟩ := Kd.R_slice ho; generalize (xs.take i ++ [x]).length = n1 at e1; subst e1; obtain ⟨q1, q2, q3⟩ := Got.more hle HB.out HV.out HRR.out ho hg (Nat.le_refl _) (by omega); have hcq := q1.cell; have hfq := q1.frozen; have Q2 := Lib.hid q2; have Q3 := Lib.hid q3; clear q1 q2 q3 ho hg hat)
    refine ⟨Q3.out, ?_⟩
    have e : xs.take (i + 1) = xs.take i ++ [x] := by
      have hx := HX.out
      obtain ⟨hi, hxe⟩ := List.getElem?_eq_some_iff.1 hx
      rw [List.take_succ_eq_append_getElem hi, hxe]
    show Got W W.heap.size w2.heap.size (xs.take (i + 1)) _
    rw [e]; exact Q2.out
  case done =>
    rintro D W' hD hj hK
    rw [List.take_length] at hj
    obtain ⟨v, hv, hR⟩ := hj.bx
    have hc := hv.cell
    have hB := hj.below
    gi_wp2
    refine ⟨by simp, .inl ⟨_, _, rfl, run_takeDeferred hK, ?_⟩⟩
    have ht : TurnFrom w2.heap.size W' (W'.putObj D (.deferred none)) := TurnFrom.putObj _ hD hK rfl
    exact ⟨_, results_tmp rfl _ _ _, v, rfl, Kd.R_lower (ht.R hR) (by omega), ht.below hB (by omega)⟩
  case stop =>
    rintro D W' hD h hK
    exact h.elim
set_option maxHeartbeats 1000000 in
theorem collect_calls (gf : Nat) (lb : Array Value) (xs : List Int) (hl : xs.length < 1000000000) (eg : ∀ args w, (callFunc gf args).run Try.prog w = .ok (.enter gf args) w) (W : World) (hit : ∀ W', Below W.heap.size W W' → Iter Try.prog W.heap.size gf lb (fun x : Int => #[Value.int .i32 x]) xs W') :
    Calls Try.prog 63 #[.func (.func gf) #[] lb] W fun e w' => ∃ v, e = .returned v ∧ Kd.R (Kd.int .i32) 21 w' W.heap.size (fun _ => True) v xs ∧ Below W.heap.size W w' := by
  have HC := Lib.hid (appendseq_calls gf lb xs hl eg W hit)
  clear hit
  go_enter Try.func63, Try.ntmps63
  go_wp2_with fail
  refine HC.out.mono ?_
  rintro e w' ⟨v, rfl, hR, hB⟩
  have H := Lib.hid (And.intro hR hB)
  clear hR hB HC
  go_wp2
  go_ret
  exact ⟨v, rfl, H.out⟩
end Go.Proofs.Ytnfnnmmblommiaa.PA
