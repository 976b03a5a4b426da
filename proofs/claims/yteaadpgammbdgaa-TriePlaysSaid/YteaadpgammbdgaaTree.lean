/- A tree of words in memory: nodes, each with a map from code points to nodes; what a step down, a new node, a mark do to it. -/
import Derived.Test.YteaadpgammbdgaaIterMem
import Derived.Maps.Views
import Derived.Maps.OwnSet
namespace Go.Proofs.Yteaadpgammbdgaa.PA
open Go.RowKit Go.Proofs.YteaadpgammbdgaaW.PrintWords Go.Proofs.YteaadpgammbdgaaW.PrintLast Go.Proofs.YteaadpgammbdgaaW.PrintMore
open Go.Maps (int_keyed keyOf_int_mk IsMap)
set_option linter.unusedVariables false
set_option linter.unusedSimpArgs false

/-- How a pointer to a node reads. -/
def Rp (v : Value) : Option (DataW Unit × List MemPlace) :=
  match v with
  | .pointer (some ⟨b, 0, none⟩) => some (.lit (.int .i64 (b : Int)), [])
  | .pointer none => some (.nil, [])
  | _ => none
def ptr : Option Nat → Value
  | some b => .pointer (some ⟨b, 0, none⟩)
  | none => .pointer none
def ptrD : Option Nat → DataW Unit
  | some b => .lit (.int .i64 (b : Int))
  | none => .nil
theorem Rp_ptr (o : Option Nat) : Rp (ptr o) = some (ptrD o, []) := by cases o <;> rfl
theorem Rp_inv {v : Value} {o : Option Nat} {ps : List MemPlace} (h : Rp v = some (ptrD o, ps)) : v = ptr o := by
  unfold Rp at h
  split at h
  · cases o with
    | none => simp [ptrD] at h
    | some b => simp only [ptrD, Option.some.injEq, Prod.mk.injEq, DataW.lit.injEq, Lit.int.injEq, true_and] at h; have := h.1; simp only [ptr]; congr 3; omega
  · cases o with
    | none => rfl
    | some b => simp [ptrD] at h
  · cases h

def ptrZ (o : Option Nat) (z : DataW Unit) : DataW Unit :=
  match o with
  | some b => .lit (.int .i64 (b : Int))
  | none => z
theorem ptrZ_nil (o : Option Nat) : ptrZ o .nil = ptrD o := by cases o <;> rfl
/-- Block mb is a map of at most n entries, from code points to nodes' blocks. -/
def PMap (w : World) (mb n : Nat) (g : Int → Option Nat) : Prop :=
  ∃ D : DataW Unit, w.ownsMap Try.prog 21 Rp mb n D ∧ ∀ (c : Int) (z : DataW Unit), D.atKey (.int .i32 c) z = ptrZ (g c) z
theorem PMap.congr {w : World} {mb n : Nat} {g g' : Int → Option Nat} (h : PMap w mb n g) (e : ∀ c, g c = g' c) : PMap w mb n g' := by
  obtain ⟨D, h1, h2⟩ := h
  exact ⟨D, h1, fun c z => by rw [h2, e]⟩
theorem PMap.mono {w : World} {mb n m : Nat} {g : Int → Option Nat} (h : PMap w mb n g) (hn : n ≤ m) : PMap w mb m g := by
  obtain ⟨D, h1, h2⟩ := h
  exact ⟨D, h1.mono hn, h2⟩
theorem PMap.same {w w' : World} {mb n : Nat} {g : Int → Option Nat} (h : PMap w mb n g) (e : w'.heap[mb]? = w.heap[mb]?) : PMap w' mb n g := by
  obtain ⟨D, ⟨es, clock, hb, F, hs, hD⟩, h2⟩ := h
  exact ⟨D, ⟨es, clock, e.trans hb, F, hs, hD⟩, h2⟩
theorem PMap.obj {w : World} {mb n : Nat} {g : Int → Option Nat} (h : PMap w mb n g) : ∃ es clock, w.heap[mb]? = some (.map es clock) := by
  obtain ⟨D, ⟨es, clock, hb, _⟩, _⟩ := h
  exact ⟨es, clock, hb⟩
theorem PMap.lt {w : World} {mb n : Nat} {g : Int → Option Nat} (h : PMap w mb n g) : mb < w.heap.size := by
  obtain ⟨es, clock, h⟩ := h.obj
  exact (Array.getElem?_eq_some_iff.1 h).1
theorem PMap.made (w : World) : PMap (w.alloc (.map #[] 0)) w.heap.size 0 (fun _ => none) :=
  ⟨.map [], World.ownsMap_made _ _ _ _, fun _ _ => rfl⟩
theorem PMap.lookup {w : World} {mb n : Nat} {g : Int → Option Nat} (h : PMap w mb n g) (c : Int) (hc : (Lit.int .i32 c).wf = true) :
    (Instr.lookup 68 (.map (some mb)) (.int .i32 c) false).run Try.prog w = .ok (ptr (g c)) w := by
  obtain ⟨D, h1, h2⟩ := h
  obtain ⟨v, ps, hrun, hv⟩ := h1.lookup (int_keyed Try.underlying21) Try.underlying68 (z := .pointer none) (by first | kernel_rfl | simp [go_sem]) (zd := .nil) (zp := []) rfl (keyOf_int_mk Try.underlying21 hc)
  rw [h2, ptrZ_nil] at hv
  rw [hrun, Rp_inv hv]
theorem PMap.update {w : World} {mb n : Nat} {g : Int → Option Nat} (h : PMap w mb n g) (hn : n < maxLen) (c : Int) (hc : (Lit.int .i32 c).wf = true) (b : Nat) :
    ∃ w', (Instr.mapUpdate 68 (.map (some mb)) (.int .i32 c) (.pointer (some ⟨b, 0, none⟩))).run Try.prog w = .ok () w' ∧ PMap w' mb (n + 1) (fun x => if x = c then some b else g x) ∧ w.grownBy w' (some mb) := by
  obtain ⟨D, h1, h2⟩ := h
  have hM : IsMap D := by obtain ⟨es, clock, _, _, _, hD⟩ := h1; exact ⟨_, hD⟩
  obtain ⟨w', hrun, h3, hg⟩ := h1.update (int_keyed Try.underlying21) Try.underlying68 hn (val := ptr (some b)) (keyOf_int_mk Try.underlying21 hc) (Rp_ptr (some b))
  refine ⟨w', hrun, ⟨_, h3, fun x z => ?_⟩, hg⟩
  show _ = ptrZ (if x = c then some b else g x) z
  by_cases e : x = c
  · subst e
    rw [Maps.atKey_put_same hM (int_keyed Try.underlying21 |>.key (keyOf_int_mk Try.underlying21 hc)), if_pos rfl]; rfl
  · rw [Maps.atKey_put_other (fun e' => e (by cases e'; rfl)), h2, if_neg e]

/-- What lies where: a word's path from the root (the word from its end on) to its node's block, its map's block, whether it is a word. -/
abbrev Gh := List Int → Option (Nat × Nat × Bool)
structure Tree (w : World) (N : Nat) (g : Gh) : Prop where
  node : ∀ p nb mb h, g p = some (nb, mb, h) → w.heap[nb]? = some (.cells #[.map (some mb), .bool h] 70 (0, 0))
  map : ∀ p nb mb h, g p = some (nb, mb, h) → PMap w mb N (fun c => (g (p ++ [c])).map (·.1))
  closed : ∀ p c, g p = none → g (p ++ [c]) = none
  apart : ∀ p q nb mb h nb' mb' h', g p = some (nb, mb, h) → g q = some (nb', mb', h') → nb = nb' ∨ mb = mb' → p = q
  rise : ∀ p c nb mb h nb' mb' h', g p = some (nb, mb, h) → g (p ++ [c]) = some (nb', mb', h') → nb < nb'
/-- The tree's own blocks. -/
def Gh.own (g : Gh) (b : Nat) : Prop := ∃ p nb mb h, g p = some (nb, mb, h) ∧ (b = nb ∨ b = mb)
theorem Tree.own_lt {w : World} {N : Nat} {g : Gh} (T : Tree w N g) {b : Nat} (h : g.own b) : b < w.heap.size := by
  obtain ⟨p, nb, mb, hh, hg, rfl | rfl⟩ := h
  · exact (Array.getElem?_eq_some_iff.1 (T.node _ _ _ _ hg)).1
  · exact (T.map _ _ _ _ hg).lt
theorem Tree.kept {w w' : World} {N : Nat} {g : Gh} (T : Tree w N g) (h : ∀ b, g.own b → w'.heap[b]? = w.heap[b]?) : Tree w' N g :=
  ⟨fun p nb mb hh hg => (h nb ⟨p, nb, mb, hh, hg, .inl rfl⟩).trans (T.node p nb mb hh hg), fun p nb mb hh hg => (T.map p nb mb hh hg).same (h mb ⟨p, nb, mb, hh, hg, .inr rfl⟩), T.closed, T.apart, T.rise⟩
theorem Tree.below {w w' : World} {N : Nat} {g : Gh} (T : Tree w N g) (h : Below w.heap.size w w') : Tree w' N g := T.kept fun b hb => h.block b (T.own_lt hb)
theorem Tree.mono {w : World} {N M : Nat} {g : Gh} (T : Tree w N g) (h : N ≤ M) : Tree w M g := ⟨T.node, fun p nb mb hh hg => (T.map p nb mb hh hg).mono h, T.closed, T.apart, T.rise⟩
theorem Tree.nm {w : World} {N : Nat} {g : Gh} (T : Tree w N g) {p q : List Int} {nb mb : Nat} {h : Bool} {nb' mb' : Nat} {h' : Bool} (hp : g p = some (nb, mb, h)) (hq : g q = some (nb', mb', h')) : nb ≠ mb' := by
  intro e
  subst e
  obtain ⟨es, clock, h1⟩ := (T.map _ _ _ _ hq).obj
  rw [T.node _ _ _ _ hp] at h1
  cases h1
theorem Tree.cell0 {w : World} {N : Nat} {g : Gh} (T : Tree w N g) {p : List Int} {nb mb : Nat} {h : Bool} (hp : g p = some (nb, mb, h)) : w.cell? ⟨nb, 0, none⟩ = some (.map (some mb)) := by
  unfold World.cell?; simp only [T.node _ _ _ _ hp]; rfl
theorem Tree.cell1 {w : World} {N : Nat} {g : Gh} (T : Tree w N g) {p : List Int} {nb mb : Nat} {h : Bool} (hp : g p = some (nb, mb, h)) : w.cell? ⟨nb, 1, none⟩ = some (.bool h) := by
  unfold World.cell?; simp only [T.node _ _ _ _ hp]; rfl
theorem Tree.frozen {w : World} {N : Nat} {g : Gh} (T : Tree w N g) {p : List Int} {nb mb : Nat} {h : Bool} (hp : g p = some (nb, mb, h)) (j : Nat) : w.frozen? ⟨nb, j, none⟩ = false := by
  have := T.node _ _ _ _ hp
  unfold World.frozen?; simp [this]
/-- The first tree: a root alone. -/
def gNew (w : World) : Gh := fun p => if p = [] then some (w.heap.size + 1, w.heap.size, false) else none
theorem Tree.made (w : World) (W : World) (h0 : W.heap[w.heap.size]? = some (.map #[] 0)) (h1 : W.heap[w.heap.size + 1]? = some (.cells #[.map (some w.heap.size), .bool false] 70 (0, 0))) : Tree W 0 (gNew w) := by
  have hp : ∀ p nb mb h, gNew w p = some (nb, mb, h) → p = [] ∧ nb = w.heap.size + 1 ∧ mb = w.heap.size ∧ h = false := fun p nb mb h hg => by
    unfold gNew at hg
    split at hg
    · simp only [Option.some.injEq, Prod.mk.injEq] at hg; rename_i e; exact ⟨e, hg.1.symm, hg.2.1.symm, hg.2.2.symm⟩
    · cases hg
  refine ⟨fun p nb mb h hg => ?_, fun p nb mb h hg => ?_, fun p c _ => ?_, fun p q nb mb h nb' mb' h' hg hg' _ => ?_, fun p c nb mb h nb' mb' h' _ hg' => ?_⟩
  · obtain ⟨_, rfl, rfl, rfl⟩ := hp _ _ _ _ hg; exact h1
  · obtain ⟨rfl, rfl, rfl, rfl⟩ := hp _ _ _ _ hg
    have m := (PMap.made w).same (w' := W) (by rw [h0]; exact (World.alloc_heap_new w _).symm)
    exact m.congr fun c => by simp [gNew]
  · simp [gNew]
  · rw [(hp _ _ _ _ hg).1, (hp _ _ _ _ hg').1]
  · exact absurd (hp _ _ _ _ hg').1 (by simp)
/-- A new node behind p, by c. -/
def Gh.grow (g : Gh) (p : List Int) (c : Int) (nb mb : Nat) : Gh := fun q => if q = p ++ [c] then some (nb, mb, false) else g q
theorem snoc_inj {p q : List Int} {c d : Int} : p ++ [c] = q ++ [d] ↔ p = q ∧ c = d := by
  constructor
  · intro e
    have := List.append_inj' e rfl
    exact ⟨this.1, by simpa using this.2⟩
  · rintro ⟨rfl, rfl⟩; rfl
theorem Tree.grow {w W : World} {N : Nat} {g : Gh} (T : Tree w N g) {p : List Int} {c : Int} {nb mb : Nat} {h : Bool} (hp : g p = some (nb, mb, h)) (hn : g (p ++ [c]) = none)
    (hm : W.heap[w.heap.size]? = some (.map #[] 0)) (hc : W.heap[w.heap.size + 1]? = some (.cells #[.map (some w.heap.size), .bool false] 70 (0, 0)))
    (hk : ∀ b, b < w.heap.size → b ≠ mb → W.heap[b]? = w.heap[b]?) (hM : PMap W mb (N + 1) (fun x => if x = c then some (w.heap.size + 1) else (g (p ++ [x])).map (·.1))) :
    Tree W (N + 1) (g.grow p c (w.heap.size + 1) w.heap.size) := by
  have hg : ∀ q nb' mb' h', g.grow p c (w.heap.size + 1) w.heap.size q = some (nb', mb', h') → (q = p ++ [c] ∧ nb' = w.heap.size + 1 ∧ mb' = w.heap.size ∧ h' = false) ∨ (q ≠ p ++ [c] ∧ g q = some (nb', mb', h')) := fun q nb' mb' h' hq => by
    unfold Gh.grow at hq
    split at hq
    · simp only [Option.some.injEq, Prod.mk.injEq] at hq; rename_i e; exact .inl ⟨e, hq.1.symm, hq.2.1.symm, hq.2.2.symm⟩
    · rename_i e; exact .inr ⟨e, hq⟩
  have hlt : ∀ q nb' mb' h', g q = some (nb', mb', h') → nb' < w.heap.size ∧ mb' < w.heap.size := fun q nb' mb' h' hq => ⟨T.own_lt ⟨q, nb', mb', h', hq, .inl rfl⟩, T.own_lt ⟨q, nb', mb', h', hq, .inr rfl⟩⟩
  have hne : ∀ x, g (p ++ [c] ++ [x]) = none := fun x => T.closed _ _ hn
  refine ⟨fun q nb' mb' h' hq => ?_, fun q nb' mb' h' hq0 => ?_, fun q x hq => ?_, fun q q' nb1 mb1 h1 nb2 mb2 h2 hq hq' e => ?_, fun q x nb1 mb1 h1 nb2 mb2 h2 hq hq' => ?_⟩
  · rcases hg _ _ _ _ hq with ⟨rfl, rfl, rfl, rfl⟩ | ⟨_, hq⟩
    · exact hc
    · exact (hk nb' (hlt _ _ _ _ hq).1 (T.nm hq hp)).trans (T.node _ _ _ _ hq)
  · rcases hg _ _ _ _ hq0 with ⟨rfl, rfl, rfl, rfl⟩ | ⟨hqn, hq⟩
    · have m := (PMap.made w).same (w' := W) (by rw [hm]; exact (World.alloc_heap_new w _).symm)
      refine (m.mono (Nat.zero_le _)).congr fun x => ?_
      unfold Gh.grow
      rw [if_neg (by simp), hne]; rfl
    · have hq2 := hq
      by_cases e : q = p
      · rw [e] at hq2 ⊢
        rw [hp] at hq2
        cases hq2
        refine hM.congr fun x => ?_
        unfold Gh.grow
        by_cases e2 : x = c
        · subst e2; simp
        · rw [if_neg e2, if_neg (fun e3 => e2 (snoc_inj.1 e3).2)]
      · refine (((T.map _ _ _ _ hq).same (hk mb' (hlt _ _ _ _ hq).2 fun e2 => e (T.apart _ _ _ _ _ _ _ _ hq hp (.inr e2)))).mono (Nat.le_succ N)).congr fun x => ?_
        unfold Gh.grow
        rw [if_neg (fun e3 => e (snoc_inj.1 e3).1)]
  · unfold Gh.grow at hq ⊢
    split at hq
    · cases hq
    · rw [if_neg, T.closed q x hq]
      intro e
      have := (snoc_inj.1 e).1
      subst this
      rw [hp] at hq; cases hq
  · rcases hg _ _ _ _ hq with ⟨rfl, rfl, rfl, rfl⟩ | ⟨_, hq⟩
    · rcases hg _ _ _ _ hq' with ⟨rfl, _⟩ | ⟨_, hq'⟩
      · rfl
      · have := hlt _ _ _ _ hq'; omega
    · rcases hg _ _ _ _ hq' with ⟨_, rfl, rfl, rfl⟩ | ⟨_, hq'⟩
      · have := hlt _ _ _ _ hq; omega
      · exact T.apart _ _ _ _ _ _ _ _ hq hq' e
  · rcases hg _ _ _ _ hq' with ⟨e, rfl, _, _⟩ | ⟨hne', hq'⟩
    · rcases hg _ _ _ _ hq with ⟨rfl, _, _, _⟩ | ⟨_, hq⟩
      · exact absurd e (by simp)
      · have := hlt _ _ _ _ hq; omega
    · rcases hg _ _ _ _ hq with ⟨rfl, _, _, _⟩ | ⟨_, hq⟩
      · rw [hne] at hq'; cases hq'
      · exact T.rise _ _ _ _ _ _ _ _ hq hq'
/-- A mark set, or struck. -/
def Gh.mark (g : Gh) (p : List Int) (b : Bool) : Gh := fun q => if q = p then (g p).map fun x => (x.1, x.2.1, b) else g q
theorem Tree.mark {w : World} {N : Nat} {g : Gh} (T : Tree w N g) {p : List Int} {nb mb : Nat} {h : Bool} (hp : g p = some (nb, mb, h)) (b : Bool) : Tree (w.setCell ⟨nb, 1, none⟩ (.bool b)) N (g.mark p b) := by
  have hg : ∀ q nb' mb' h', g.mark p b q = some (nb', mb', h') → (q = p ∧ nb' = nb ∧ mb' = mb ∧ h' = b) ∨ (q ≠ p ∧ g q = some (nb', mb', h')) := fun q nb' mb' h' hq => by
    unfold Gh.mark at hq
    split at hq
    · rw [hp] at hq; simp only [Option.map_some, Option.some.injEq, Prod.mk.injEq] at hq; rename_i e; exact .inl ⟨e, hq.1.symm, hq.2.1.symm, hq.2.2.symm⟩
    · rename_i e; exact .inr ⟨e, hq⟩
  have hfst : ∀ q, (g.mark p b q).map (·.1) = (g q).map (·.1) := fun q => by
    unfold Gh.mark
    split
    · rename_i e; subst e; rw [hp]; rfl
    · rfl
  have hkeep : ∀ k, k ≠ nb → (w.setCell ⟨nb, 1, none⟩ (.bool b)).heap[k]? = w.heap[k]? := fun k hk => Below.heap_setCell w ⟨nb, 1, none⟩ (.bool b) k hk
  have hgen : ∀ q nb' mb' h', g.mark p b q = some (nb', mb', h') → ∃ h'', g q = some (nb', mb', h'') := fun q nb' mb' h' hq => by
    rcases hg _ _ _ _ hq with ⟨rfl, rfl, rfl, rfl⟩ | ⟨_, hq⟩
    · exact ⟨_, hp⟩
    · exact ⟨_, hq⟩
  refine ⟨fun q nb' mb' h' hq => ?_, fun q nb' mb' h' hq => ?_, fun q x hq => ?_, fun q q' nb1 mb1 h1 nb2 mb2 h2 hq hq' e => ?_, fun q x nb1 mb1 h1 nb2 mb2 h2 hq hq' => ?_⟩
  · rcases hg _ _ _ _ hq with ⟨rfl, rfl, rfl, rfl⟩ | ⟨hne, hq⟩
    · exact heap_set (T.node _ _ _ _ hp) 1 (.bool h')
    · exact (hkeep nb' fun e => hne (T.apart _ _ _ _ _ _ _ _ hq hp (.inl e))).trans (T.node _ _ _ _ hq)
  · obtain ⟨h'', hq'⟩ := hgen _ _ _ _ hq
    exact ((T.map _ _ _ _ hq').same (hkeep mb' fun e => T.nm hp hq' e.symm)).congr fun x => (hfst _).symm
  · have e1 : g q = none := by
      have := hfst q
      rw [hq] at this
      cases hh : g q with
      | none => rfl
      | some y => rw [hh] at this; cases this
    have e2 := hfst (q ++ [x])
    rw [T.closed q x e1] at e2
    cases hh : g.mark p b (q ++ [x]) with
    | none => rfl
    | some y => rw [hh] at e2; cases e2
  · obtain ⟨_, a⟩ := hgen _ _ _ _ hq
    obtain ⟨_, a'⟩ := hgen _ _ _ _ hq'
    exact T.apart _ _ _ _ _ _ _ _ a a' e
  · obtain ⟨_, a⟩ := hgen _ _ _ _ hq
    obtain ⟨_, a'⟩ := hgen _ _ _ _ hq'
    exact T.rise _ _ _ _ _ _ _ _ a a'
end Go.Proofs.Yteaadpgammbdgaa.PA
