/- The keys of a node's map, in whatever order, each once: maps.Keys. -/
import Derived.Test.YteaadpgammbdgaaFind
import Derived.Maps.RangeWalk
namespace Go.Proofs.Yteaadpgammbdgaa.PA
open Go.RowKit Go.Shelf Go.Proofs.YteaadpgammbdgaaW.PrintWords Go.Proofs.YteaadpgammbdgaaW.PrintLast Go.Proofs.YteaadpgammbdgaaW.PrintMore
open Go.Maps (int_keyed keyOf_int_mk IsMap)
attribute [local go_sem] Oper.semAt_some
set_option linter.unusedVariables false
set_option linter.unusedSimpArgs false

/-- What a round over words may turn: rows of words, and the variables that hold them. -/
def wordish : Obj → Bool
  | .cells _ t _ => t == 22 || t == 50
  | _ => false
structure KpW (W W' : World) : Prop where
  size : W.heap.size ≤ W'.heap.size
  same : ∀ (k : Nat) (o : Obj), W.heap[k]? = some o → wordish o = false → W'.heap[k]? = some o
theorem KpW.round {W W3 : World} {l : Nat} {o o' : Obj} (hl : W.heap[l]? = some o) (h : KpW (W.putObj l o') W3) : KpW W (W3.putObj l o) := by
  have hlt : l < W.heap.size := (Array.getElem?_eq_some_iff.1 hl).1
  refine ⟨by have := h.size; simp at this ⊢; omega, fun k o2 hk ho2 => ?_⟩
  by_cases e : k = l
  · subst e
    rw [hk] at hl; cases hl
    exact World.putObj_heap_same (by have := h.size; simp at this; omega)
  · exact (World.putObj_heap_other e).trans (h.same k o2 ((World.putObj_heap_other e).trans hk) ho2)
/-- What an iterator does that goes from state to state, until it is done; kp: what it wants kept meanwhile. -/
def IterS {α σ : Type} (P : Program) (gf : Nat) (lb : Array Value) (encs : α → Array Value) (st : σ → Prop) (ok : σ → α → Prop) (nxt : σ → α → σ) (fin : σ → Prop) (kp : World → World → Prop) (W : World) : Prop :=
  ∀ (l : Nat) (J : σ → World → Prop), (∀ s A C, J s A → TurnFrom W.heap.size A C → J s C) → (∀ s A, J s A → kp W A) →
    (∀ (s : σ) (x : α) (A : World), ok s x → J s A → ∀ m, YieldAt Fence.wide m P l (encs x) A fun e C => e = .returned (.bool true) ∧ J (nxt s x) C ∧ KpW A C) →
    (∀ s, st s → J s W) → ∀ n, CallsIn Fence.wide n P gf (#[.func (.yield l) #[] #[]] ++ lb) W fun e C => (∃ v, e = .returned v) ∧ ∃ s, fin s ∧ J s C
def roundPost (I : World → Prop) (W : World) : Exit → Act → World → Prop
  | .normal, _, W' => KpW W W' ∧ I W'
  | _, _, _ => False
theorem range_turnS {α σ : Type} {P : Program} {n : Nat} {g : Operand} {ps : Array Tmp} {assign body : Code} {Q : Exit → Act → World → Prop} {a : Act} {w : World}
    {gf : Nat} {lb : Array Value} (hg : a.eval g = .func (.func gf) #[] lb) (eg : ∀ args w, (callFunc gf args).run P w = .ok (.enter gf args) w) {encs : α → Array Value} (hps : ∀ x, (encs x).size = ps.size) {st : σ → Prop} {ok : σ → α → Prop} {nxt : σ → α → σ} {fin : σ → Prop} {kp : World → World → Prop}
    (hit : ∀ r, IterS P gf lb encs st ok nxt fin kp ((w.alloc (.deferred (some []))).alloc (.loop r)))
    (I : σ → World → Prop) (hI : ∀ s A C, I s A → TurnFrom w.heap.size A C → I s C) (hkp : ∀ r s A, I s A → kp ((w.alloc (.deferred (some []))).alloc (.loop r)) A) (h0 : ∀ s, st s → I s w) (a₁ : α → Act)
    (hassign : ∀ (l : Nat) (x : α) (W : World) (K : Act → World → Prop), K (a₁ x) W →
      assign.wpIn (Fence.wide.inRound l) 5 P (Exit.then K (fun _ _ _ => False)) { tmps := (ps.zip (encs x)).foldl (fun t (p, v) => t.setIfInBounds p v) a.tmps, defers := [] } W)
    (hbody : ∀ (l : Nat) (s : σ) (x : α) (W : World), ok s x → I s W → body.wpIn (Fence.wide.inRound l) 5 P (roundPost (I (nxt s x)) W) (a₁ x) W)
    (hdone : ∀ (s : σ) (D : Nat) (W : World), fin s → w.heap.size ≤ D → I s W → W.heap[D]? = some (.deferred (some [])) → Q .normal { a with defers := { target := .collected D, args := #[] } :: a.defers } W) :
    (Code.rangeFunc g ps assign body).wpIn Fence.wide n P Q a w := by
  refine wpIn_rangeFunc fun fn _ => ?_
  let r0 : Loop := { state := .ready, pending := none, fn := fn, tmps := a.tmps, params := ps, assign := assign, body := body, defers := w.heap.size }
  let W1 : World := (w.alloc (.deferred (some []))).alloc (.loop r0)
  have hsz : W1.heap.size = w.heap.size + 1 + 1 := by simp [W1]
  have hL : W1.heap[w.heap.size + 1]? = some (.loop r0) := by
    have := World.alloc_heap_new (w.alloc (.deferred (some []))) (.loop r0); rwa [World.size_alloc] at this
  have hD : W1.heap[w.heap.size]? = some (.deferred (some [])) := (Below.heap_alloc _ _ _ (by simp)).trans (World.alloc_heap_new w _)
  have hT : TurnFrom w.heap.size w W1 := (TurnFrom.alloc _ w _).trans (TurnFrom.alloc _ _ _)
  refine ⟨w.heap.size + 1, [{ target := .collected w.heap.size, args := #[] }], W1, { target := .fn (.func gf) lb, args := #[.func (.yield (w.heap.size + 1)) #[] #[]] }, W1, gf, #[.func (.yield (w.heap.size + 1)) #[] #[]] ++ lb, W1, run_enterLoop_outer _ _ _ _ _, ?_, fun _ _ => trivial, ?_, ?_, ?_⟩
  · simp only [resolve, hg]
    simp [go_sem]
  · simp [invoke, go_sem, eg]
  · intro h; simp [Fence.wide] at h
  refine (hit r0 (w.heap.size + 1)
    (fun s W => I s W ∧ W.heap[w.heap.size + 1]? = some (.loop r0) ∧ W.heap[w.heap.size]? = some (.deferred (some [])))
    (fun s A B ⟨q1, q2, q3⟩ ht => ⟨hI s A B q1 (ht.lower (by show _ ≤ W1.heap.size; omega)), ht.same _ _ q2 (.inl (by show _ < W1.heap.size; omega)), ht.same _ _ q3 (.inl (by show _ < W1.heap.size; omega))⟩)
    (fun s A q => hkp r0 s A q.1)
    ?_ (fun s hs => ⟨hI s w W1 (h0 s hs) hT, hL, hD⟩) (n - 1)).mono ?_
  · rintro s x W hx ⟨q1, q2, q3⟩ m
    refine ⟨fn, _, assign, body, run_yield q2 (hps x), roundIn_depth (n := 5) (roundIn_of_wpIn trivial (hassign _ x W _ ?_))⟩
    have hlt : w.heap.size + 1 < W.heap.size := (Array.getElem?_eq_some_iff.1 q2).1
    refine ⟨_, run_beginRound q2 rfl, ?_⟩
    have hb : (W.putObj (w.heap.size + 1) (.loop { r0 with state := .busy })).heap[w.heap.size + 1]? = some (.loop { r0 with state := .busy }) := World.putObj_heap_same hlt
    have hb2 : (W.putObj (w.heap.size + 1) (.loop { r0 with state := .busy })).heap[w.heap.size]? = some (.deferred (some [])) := (World.putObj_heap_other (by omega)).trans q3
    refine wpIn_mono (hbody _ s x _ hx (hI s W _ q1 (TurnFrom.putObj _ (by omega) q2 rfl))) ?_
    intro e a3 W3 hp
    cases e with
    | normal =>
      obtain ⟨hk, hi⟩ := hp
      have h3 := hk.same _ _ hb rfl
      have h4 := hk.same _ _ hb2 rfl
      have hlt3 : w.heap.size + 1 < W3.heap.size := (Array.getElem?_eq_some_iff.1 h3).1
      exact ⟨_, _, run_endRound none h3, rfl, ⟨hI _ W3 _ hi (TurnFrom.putObj _ (by omega) h3 rfl), World.putObj_heap_same hlt3, (World.putObj_heap_other (by omega)).trans h4⟩, KpW.round q2 hk⟩
    | ret => exact hp.elim
    | exit id => exact hp.elim
    | goto t => exact hp.elim
    | panic c => exact hp.elim
    | outgrown => exact hp.elim
  · rintro e W ⟨⟨v, rfl⟩, s, hs, q1, q2, q3⟩
    exact ⟨none, _, run_endLoop q2 (by simp [r0]), hdone s _ _ hs (Nat.le_refl _) (hI s W _ q1 (TurnFrom.putObj _ (by omega) q2 rfl)) ((World.putObj_heap_other (by omega)).trans q3)⟩
/-- What a map tells of a pointer's datum. -/
theorem Rp_shape {v : Value} {y : DataW Unit × List MemPlace} (h : Rp v = some y) : ∃ o : Option Nat, v = ptr o ∧ y = (ptrD o, []) := by
  unfold Rp at h
  split at h
  · exact ⟨some _, rfl, (Option.some.inj h).symm⟩
  · exact ⟨none, rfl, (Option.some.inj h).symm⟩
  · cases h
theorem ranges_same {w w' : World} {b r n cnt : Nat} {D : DataW Unit} {left : Lit → Bool} (h : w.ranges Try.prog 21 Rp b r n D left cnt) (hb : w'.heap[b]? = w.heap[b]?) (hr : w'.heap[r]? = w.heap[r]?) : w'.ranges Try.prog 21 Rp b r n D left cnt := by
  obtain ⟨es, clock, since, seen, c0, h1, F, h2, h3, h4, rest⟩ := h
  exact ⟨es, clock, since, seen, c0, hb.trans h1, F, h2, h3, hr.trans h4, rest⟩
theorem ranges_iter {w : World} {b r n cnt : Nat} {D : DataW Unit} {left : Lit → Bool} (h : w.ranges Try.prog 21 Rp b r n D left cnt) : ∃ o, w.heap[r]? = some o ∧ loopish o = true ∧ wordish o = false := by
  obtain ⟨es, clock, since, seen, c0, h1, F, h2, h3, h4, rest⟩ := h
  exact ⟨_, h4, rfl, rfl⟩
theorem TurnFrom.grown {B r : Nat} {w w' : World} {o : Obj} (hg : w.grownBy w' (some r)) (hB : B ≤ r) (ho : w.heap[r]? = some o) (hl : loopish o = true) : TurnFrom B w w' :=
  ⟨hg.os, hg.tape, hg.output, hg.size, fun k o2 hk h => by
    by_cases e : k = r
    · subst e
      rw [hk] at ho; cases ho
      rcases h with h | h
      · omega
      · rw [hl] at h; cases h
    · exact (hg.block k (Array.getElem?_eq_some_iff.1 hk).1 (fun e2 => e (by cases e2; rfl))).trans hk⟩
set_option maxRecDepth 100000 in
set_option maxHeartbeats 4000000 in
theorem keys1_iterS (Bx mb N : Nat) (gk : Int → Option Nat) (W : World) (hbox : W.heap[Bx]? = some (.cells #[.map (some mb)] 68 (0, 0))) (hM : PMap W mb N gk) :
    IterS Try.prog 76 #[.pointer (some ⟨Bx, 0, none⟩)] (fun x : Int => #[Value.int .i32 x]) (σ := Int → Bool) (fun s => ∀ x, s x = true ↔ gk x ≠ none) (fun s x => (Lit.int .i32 x).wf = true ∧ gk x ≠ none ∧ s x = true) (fun s x z => s z && !decide (z = x)) (fun s => ∀ x, s x = false) (fun W A => A.heap[mb]? = W.heap[mb]?) W := by
  intro l J hJ hmb hY h0 n
  have hc0 := box_cell hbox
  obtain ⟨D, hD, hat⟩ := hM
  refine callsIn_depth (n := 5) ?_
  refine callsIn_of_wp Try.func76 rfl trivial ?_ rfl
  simp only [Try.ntmps76, List.size_toArray, List.length_cons, List.length_nil, Nat.reduceAdd, Nat.reduceSub, Array.replicate_succ, Array.replicate_zero, List.push_toArray, List.append_toArray, List.nil_append, List.cons_append]
  obtain ⟨w2, hrun, hrg, hgr, hsz⟩ := hD.range (t := 68) (e := 67) (int_keyed Try.underlying21) Try.underlying68
  have hT : TurnFrom W.heap.size W w2 := ⟨hgr.os, hgr.tape, hgr.output, hgr.size, fun k o hk _ => (hgr.block k (Array.getElem?_eq_some_iff.1 hk).1 (by simp)).trans hk⟩
  have HJ := Lib.hid hJ
  have HY := Lib.hid hY
  have HMB := Lib.hid hmb
  have HAT := Lib.hid hat
  have hst : ∀ x : Int, (fun x : Int => Maps.has D (.int .i32 x)) x = true ↔ gk x ≠ none := fun x => by
    show Maps.has D (.int .i32 x) = true ↔ _
    have := hat x
    cases hg : gk x with
    | none => rw [hg] at this; simp only [ptrZ] at this; simp [Maps.has_false_of_atKey this]
    | some y => rw [hg] at this; simp only [ptrZ] at this; simp [Maps.has_true_of_atKey this]
  have HJ0 := Lib.hid (hJ _ W w2 (h0 _ hst) hT)
  have HRG := Lib.hid hrg
  clear hst hJ hY hmb hat h0 hT hrg hgr hsz hD
  gi_wp2
  gi_loopw [3] (fun _ wr => ∃ (left : Lit → Bool) (cnt : Nat), Hid (J (fun x => left (.int .i32 x)) wr) ∧ Hid (wr.ranges Try.prog 21 Rp mb W.heap.size N D left cnt)) (fun _ wr => wr.rangeLeft mb W.heap.size)
  case atStart => exact ⟨_, _, HJ0, HRG⟩
  case round =>
    obtain ⟨left, cnt, hJs, hRs⟩ := hrel
    gi_wp2_with (refine wpListIn_next_ranges wr rfl (.tmp 5) rfl 21 (int_keyed Try.underlying21) Rp (Value.int .i32) ptr (fun key kl hk => by obtain ⟨x, rfl, _⟩ := Maps.keyOf_int_inv Try.underlying21 hk; exact ⟨x, rfl⟩) (fun v y hv => by obtain ⟨o, rfl, _⟩ := Rp_shape hv; exact ⟨o, rfl⟩) mb W.heap.size N D left cnt rfl hRs.out ?dn ?mr)
    case dn =>
      intro hz hlf
      have HJs := hJs
      have hfin : ∀ x : Int, (fun x : Int => left (.int .i32 x)) x = false := fun x => hlf _
      have HF := Lib.hid hfin
      clear hz hlf hfin
      gi_wp2
      go_end0
      exact ⟨⟨_, rfl⟩, _, HF.out, HJs.out⟩
    case mr =>
      intro x c kl d ps w' cnt' hkey hleft hv hat hrg hlt hgr hsz hen
      obtain ⟨x', ex, rfl, hwx⟩ := Maps.keyOf_int_inv Try.underlying21 hkey
      cases ex
      obtain ⟨o, ho, hlo, _⟩ := ranges_iter hRs.out
      have hJ' := HJ.out _ wr w' hJs.out (TurnFrom.grown hgr (Nat.le_refl _) ho hlo)
      have hgk : gk x ≠ none := fun e => by
        have h1 := hat .nil
        have h2 := hat (.lit (.int .i64 0))
        rw [HAT.out, e] at h1 h2
        simp only [ptrZ] at h1 h2
        rw [← h2] at h1; cases h1
      obtain ⟨fn, tmps, assign, body, hy, hR⟩ := HY.out _ x w' ⟨hwx, hgk, hleft⟩ hJ' 4
      have HJ' := Lib.hid hJ'
      have HRG' := Lib.hid hrg
      have HLT := Lib.hid hlt
      have HLE := Lib.hid hRs.out.left_eq
      clear hkey hleft hv hat hrg hlt hgr hsz hJ' hgk ho hlo
      gi_wp2
      refine (roundIn_depth hR).mono ?_
      rintro e W3 ⟨rfl, hJ3, hk3⟩
      have hR3 : W3.ranges Try.prog 21 Rp mb W.heap.size N D (fun z => left z && !z.sameKey (.int .i32 x)) cnt' := by
        obtain ⟨o, ho, _, htr⟩ := ranges_iter HRG'.out
        exact ranges_same HRG'.out ((HMB.out _ W3 hJ3).trans (HMB.out _ w' HJ'.out).symm) ((hk3.same _ _ ho htr).trans ho.symm)
      have eJ : (fun z => (fun x : Int => left (.int .i32 x)) z && !decide (z = x)) = (fun z : Int => (fun z' => left z' && !z'.sameKey (.int .i32 x)) (.int .i32 z)) := by
        funext z
        simp [Lit.sameKey]
      rw [eJ] at hJ3
      have HJ3 := Lib.hid hJ3
      have HR3 := Lib.hid hR3
      clear hJ3 hk3 hR3 hen eJ
      gi_wp2
      go_roundw
      case rel => exact ⟨_, _, HJ3, HR3⟩
      case measure => rw [HR3.out.left_eq, HLE.out]; exact HLT.out
end Go.Proofs.Yteaadpgammbdgaa.PA
