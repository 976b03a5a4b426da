/- All words below a node of a tree: trie.tree.words. -/
import Derived.Test.YteaadpgammbdgaaKeysS
import Derived.Test.YteaadpgammbdgaaOrder
import Derived.Test.YteaadpgammbdgaaAdd
import Derived.Deep.AppendLies
import Derived.WalkSpells
import Derived.Laws.Pointers
import Derived.Lib.SliceRun
namespace Go.Proofs.Yteaadpgammbdgaa.PA
open Go.RowKit Go.Shelf Go.Proofs.YteaadpgammbdgaaW.PrintWords Go.Proofs.YteaadpgammbdgaaW.PrintLast Go.Proofs.YteaadpgammbdgaaW.PrintMore
open Go.Maps (int_keyed keyOf_int_mk IsMap)
attribute [local go_sem] Oper.semAt_some
set_option linter.unusedVariables false
set_option linter.unusedSimpArgs false

/-- A row of code points in a block of its own. -/
abbrev WordRow (w : World) (u : Value) (zs : List Int) : Prop := w.ownsRow 0 21 1 u zs.length (nums .i32 zs)
theorem row_kept {w w' : World} {e : TypeId} {size n : Nat} {v : Value} {xs : List Value} (h : w.ownsRow 0 e size v n xs) (hk : ∀ g cs, v.ownBlock = some g → w.heap[g]? = some (.cells cs e (0, 0)) → w'.heap[g]? = some (.cells cs e (0, 0))) : w'.ownsRow 0 e size v n xs :=
  ⟨h.1, h.2.imp id fun ⟨g, cap, cur, q1, q2, q3, q4⟩ => ⟨g, cap, cur, q1, q2, hk g cur (by rw [q1]; rfl) q3, q4⟩⟩
theorem row_base {w : World} {b e : TypeId} {size n : Nat} {v : Value} {xs : List Value} (h : w.ownsRow b e size v n xs) : w.ownsRow 0 e size v n xs :=
  ⟨h.1, h.2.imp id fun ⟨g, cap, cur, q1, q2, q3⟩ => ⟨g, cap, cur, q1, Nat.zero_le _, q3⟩⟩
theorem row_block {w : World} {e : TypeId} {size n : Nat} {v : Value} {xs : List Value} (h : w.ownsRow 0 e size v n xs) : ∀ g, v.ownBlock = some g → ∃ cs, w.heap[g]? = some (.cells cs e (0, 0)) := fun g hg => by
  rcases h.2 with ⟨rfl, _⟩ | ⟨g', cap, cur, rfl, _, q, _⟩
  · cases hg
  · cases hg; exact ⟨cur, q⟩
theorem WordRow.reads {w : World} {u : Value} {zs : List Int} (h : WordRow w u zs) : ∃ A c, u = .slice A zs.length c ∧ Kd.C (Kd.int .i32) w A zs.length zs ∧ (zs.length = 0 → A = none ∨ ∃ g, A = some ⟨g, 0, none⟩) := by
  obtain ⟨A, c, rfl, hrd⟩ := own_reads h
  refine ⟨A, c, rfl, Kd.C_of_reads (d := (0 : Int)) (h1 := fun _ => rfl) hrd, fun _ => ?_⟩
  rcases h.2 with ⟨e, _⟩ | ⟨g', cap, cur, e, _⟩
  · simp only [Value.slice.injEq] at e; exact .inl e.1
  · simp only [Value.slice.injEq] at e; exact .inr ⟨g', e.1⟩
/-- A row of words, each in a block of its own. -/
def RowsAt (w : World) (v : Value) (L : List (List Int)) : Prop :=
  ∃ vs, w.ownsRow 0 22 1 v L.length vs ∧ ∀ (i : Nat) (u : Value) (zs : List Int), vs[i]? = some u → L[i]? = some zs → WordRow w u zs
theorem RowsAt.kept {w w' : World} {v : Value} {L : List (List Int)} (h : RowsAt w v L) (hk : ∀ k cs t, w.heap[k]? = some (.cells cs t (0, 0)) → (t = 21 ∨ (t = 22 ∧ v.ownBlock = some k)) → w'.heap[k]? = some (.cells cs t (0, 0))) : RowsAt w' v L := by
  obtain ⟨vs, h1, h2⟩ := h
  exact ⟨vs, row_kept h1 fun g cs hg hc => hk g cs _ hc (.inr ⟨rfl, hg⟩), fun i u zs hu hz => row_kept (h2 i u zs hu hz) fun g cs hg hc => hk g cs _ hc (.inl rfl)⟩
theorem RowsAt.nil (w : World) : RowsAt w (.slice none 0 0) [] := ⟨[], World.ownsRow_nil w _ _ _, fun i u zs hu => by cases hu⟩
theorem RowsAt.below {w w' : World} {v : Value} {L : List (List Int)} (h : RowsAt w v L) (hb : Below w.heap.size w w') : RowsAt w' v L :=
  h.kept fun k cs t hc _ => (hb.block k (Array.getElem?_eq_some_iff.1 hc).1).trans hc
theorem RowsAt.turn {w w' : World} {v : Value} {L : List (List Int)} {B : Nat} (h : RowsAt w v L) (hb : TurnFrom B w w') : RowsAt w' v L :=
  h.kept fun k cs t hc _ => hb.same _ _ hc (.inr rfl)
/-- The words below a node. -/
def Under (g : Gh) (p : List Int) (M : List (List Int)) : Prop := M.Nodup ∧ ∀ u, u ∈ M ↔ ∃ q, u.reverse = p ++ q ∧ isWord g (p ++ q) = true
/-- The words below a node, by those of its keys that are done. -/
def Done (g : Gh) (p : List Int) (h : Bool) (left : Int → Bool) (M : List (List Int)) : Prop :=
  M.Nodup ∧ ∀ u, u ∈ M ↔ (h = true ∧ u.reverse = p) ∨ ∃ x q, left x = false ∧ u.reverse = p ++ x :: q ∧ isWord g (p ++ x :: q) = true
theorem Done.under {g : Gh} {p : List Int} {h : Bool} {left : Int → Bool} {M : List (List Int)} (hd : Done g p h left M) (hl : ∀ x, left x = false) (hh : isWord g p = h) : Under g p M := by
  refine ⟨hd.1, fun u => (hd.2 u).trans ⟨?_, ?_⟩⟩
  · rintro (⟨h1, h2⟩ | ⟨x, q, _, h1, h2⟩)
    · exact ⟨[], by simpa using h2, by rw [List.append_nil, hh]; exact h1⟩
    · exact ⟨x :: q, h1, h2⟩
  · rintro ⟨q, h1, h2⟩
    cases q with
    | nil => rw [List.append_nil] at h1 h2; exact .inl ⟨by rw [← hh]; exact h2, h1⟩
    | cons x q => exact .inr ⟨x, q, hl x, h1, h2⟩
theorem Done.more {g : Gh} {p : List Int} {h : Bool} {left : Int → Bool} {M M2 : List (List Int)} {x : Int} (hd : Done g p h left M) (hx : left x = true) (hu : Under g (p ++ [x]) M2) : Done g p h (fun z => left z && !decide (z = x)) (M ++ M2) := by
  have hM2 : ∀ u, u ∈ M2 ↔ ∃ q, u.reverse = p ++ x :: q ∧ isWord g (p ++ x :: q) = true := fun u => by
    rw [hu.2 u]
    simp only [List.append_assoc, List.singleton_append]
  refine ⟨List.nodup_append.2 ⟨hd.1, hu.1, fun a ha b hb e => ?_⟩, fun u => ?_⟩
  · subst e
    obtain ⟨q, h1, _⟩ := (hM2 a).1 hb
    rcases (hd.2 a).1 ha with ⟨_, h2⟩ | ⟨y, q', h2, h3, _⟩
    · rw [h1] at h2
      have := congrArg List.length h2
      simp at this
    · rw [h1] at h3
      have := List.append_cancel_left h3
      injection this with e1 e2
      subst e1
      rw [hx] at h2; cases h2
  · rw [List.mem_append, hd.2 u, hM2 u]
    constructor
    · rintro ((h1 | ⟨y, q, h1, h2⟩) | ⟨q, h1⟩)
      · exact .inl h1
      · exact .inr ⟨y, q, by simp [h1], h2⟩
      · exact .inr ⟨x, q, by simp, h1⟩
    · rintro (h1 | ⟨y, q, h1, h2⟩)
      · exact .inl (.inl h1)
      · by_cases e : y = x
        · subst e; exact .inr ⟨q, h2⟩
        · exact .inl (.inr ⟨y, q, by simpa [e] using h1, h2⟩)
/-- What words were told before, ahead of a node: no word below it. -/
structure Ahead (g : Gh) (p : List Int) (L : List (List Int)) : Prop where
  nodup : L.Nodup
  word : ∀ u ∈ L, isWord g u.reverse = true
  apart : ∀ u ∈ L, ∀ q, u.reverse ≠ p ++ q
theorem Ahead.more {g : Gh} {p : List Int} {h : Bool} {left : Int → Bool} {L M : List (List Int)} {x : Int} (hA : Ahead g p L) (hh : isWord g p = h) (hd : Done g p h left M) (hx : left x = true) : Ahead g (p ++ [x]) (L ++ M) := by
  have hM : ∀ u ∈ M, ∃ q, u.reverse = p ++ q ∧ isWord g u.reverse = true := fun u hu => by
    rcases (hd.2 u).1 hu with ⟨h1, h2⟩ | ⟨y, q, _, h2, h3⟩
    · exact ⟨[], by simpa using h2, by rw [h2, hh]; exact h1⟩
    · exact ⟨y :: q, h2, by rw [h2]; exact h3⟩
  refine ⟨List.nodup_append.2 ⟨hA.nodup, hd.1, fun a ha b hb e => ?_⟩, fun u hu => ?_, fun u hu q e => ?_⟩
  · subst e
    obtain ⟨q, h1, _⟩ := hM a hb
    exact hA.apart a ha q h1
  · rcases List.mem_append.1 hu with hu | hu
    · exact hA.word u hu
    · exact (hM u hu).choose_spec.2
  · rw [List.append_assoc, List.singleton_append] at e
    rcases List.mem_append.1 hu with hu | hu
    · exact hA.apart u hu _ e
    · rcases (hd.2 u).1 hu with ⟨_, h2⟩ | ⟨y, q', h2, h3, _⟩
      · rw [e] at h2
        have := congrArg List.length h2
        simp at this
      · rw [e] at h3
        have := List.append_cancel_left h3
        injection this with e1 e2
        subst e1
        rw [hx] at h2; cases h2
theorem Ahead.len {g : Gh} {p : List Int} {h : Bool} {left : Int → Bool} {L M : List (List Int)} (hA : Ahead g p L) (hh : isWord g p = h) (hd : Done g p h left M) {m : Nat} (hcap : ∀ K : List (List Int), K.Nodup → (∀ u ∈ K, isWord g u.reverse = true) → K.length ≤ m) : L.length + M.length ≤ m := by
  have hM : ∀ u ∈ M, ∃ q, u.reverse = p ++ q ∧ isWord g u.reverse = true := fun u hu => by
    rcases (hd.2 u).1 hu with ⟨h1, h2⟩ | ⟨y, q, _, h2, h3⟩
    · exact ⟨[], by simpa using h2, by rw [h2, hh]; exact h1⟩
    · exact ⟨y :: q, h2, by rw [h2]; exact h3⟩
  rw [← List.length_append]
  refine hcap _ (List.nodup_append.2 ⟨hA.nodup, hd.1, fun a ha b hb e => ?_⟩) fun u hu => ?_
  · subst e
    obtain ⟨q, h1, _⟩ := hM a hb
    exact hA.apart a ha q h1
  · rcases List.mem_append.1 hu with hu | hu
    · exact hA.word u hu
    · exact (hM u hu).choose_spec.2
section
variable {F : Fence} {n : Nat} {P : Program} {w : World} {ops : Array Oper} {rest : List Oper} {o : Oper} {a : Act} {Q : Exit → Act → World → Prop}
theorem wpIn_append_eq {K : Act → World → Prop} (s x : Operand) (t : TypeId) (hop : o.op = Op.call { callee := Callee.builtin Builtin.append, args := #[s, x], argTypes := #[t, t] }) {v1 : Value} {w1 : World}
    (hrun : (Builtin.append_ #[t, t] o.type #[a.eval s, a.eval x]).run P w = .ok v1 w1) (hK : K (a.put o.dst v1) w1) : o.wpIn F n P a w K Q := by
  unfold Oper.wpIn
  refine ⟨?_, ?_⟩
  · simp [Oper.about, hop, resolve, Target.leads, Sem.run_pure]
  · rw [Oper.semAt_plain F _ _ (by rw [hop]; intro c hc'; cases hc')]
    simp [execOp, hop, resolve, invoke, builtin, hrun, Result.andThen]
    exact hK
theorem wpListIn_append_eq (hg : o.guard = none) (s x : Operand) (t : TypeId) (hop : o.op = Op.call { callee := Callee.builtin Builtin.append, args := #[s, x], argTypes := #[t, t] }) {v1 : Value} {w1 : World}
    (hrun : (Builtin.append_ #[t, t] o.type #[a.eval s, a.eval x]).run P w = .ok v1 w1) (hK : wpListIn F n P ops Q rest (a.put o.dst v1) w1) : wpListIn F n P ops Q (o :: rest) a w :=
  wpListIn_plain hg fun K hK' => wpIn_append_eq s x t hop hrun (hK' _ _ hK)
end
/-- A word's row behind a row of a block of its own. -/
theorem run_append_word {W : World} {base : Nat} {v u : Value} {xs ys : List Int} (HO : W.ownsRow base 21 1 v xs.length (nums .i32 xs)) (HU : WordRow W u ys) (hb : base ≤ W.heap.size) (hl : xs.length + ys.length ≤ 1000000) :
    ∃ v1 w1, (Builtin.append_ #[22, 22] 22 #[v, u]).run Try.prog W = .ok v1 w1 ∧ w1.ownsRow base 21 1 v1 (xs ++ ys).length (nums .i32 (xs ++ ys)) ∧ W.grownBy w1 v.ownBlock ∧ (v1.ownBlock = v.ownBlock ∨ v1.ownBlock = some W.heap.size) := by
  have hinfo : (Try.prog.info? 21).map (fun i => (i.zero, i.size, i.bytes)) = some (some (.int .i32 0), 1, 4) := by kernel_rfl
  obtain ⟨i0, hi, hzz⟩ := Option.map_eq_some_iff.1 hinfo
  simp only [Prod.mk.injEq] at hzz
  obtain ⟨hz0, hz1, hz2⟩ := hzz
  have ht := Try.underlying22
  obtain ⟨A, c, rfl, HR, h0⟩ := HU.reads
  rcases HU.2 with ⟨e, hy⟩ | ⟨g, cap, cur, e, _, hg, hcap, hmx, hcs, htk⟩
  · obtain rfl : ys = [] := List.eq_nil_of_length_eq_zero hy
    simp only [Value.slice.injEq] at e
    obtain ⟨rfl, _⟩ := e
    refine ⟨v, W, ?_, by simpa using HO, World.grownBy.refl W _, .inl rfl⟩
    rcases HO.2 with ⟨rfl, hn⟩ | ⟨g, cap, cur, rfl, _, _, hnc, _⟩
    · simp [Builtin.append_, run_underlying ht, sizeOf, typeInfo, hi, Builtin.lenOf, Builtin.firstCells]
    · simp [Builtin.append_, run_underlying ht, sizeOf, typeInfo, hi, Builtin.lenOf, Builtin.firstCells, hnc, storeCells]
  · simp only [Value.slice.injEq] at e
    obtain ⟨rfl, _⟩ := e
    have hcells : ∀ j u, (nums .i32 ys)[j]? = some u → W.cell? ((⟨g, 0, none⟩ : Addr).add j) = some u := fun j u hu => by
      have hj : j < ys.length := by
        rcases Nat.lt_or_ge j ys.length with h | h
        · exact h
        · simp [nums, List.getElem?_eq_none h] at hu
      obtain ⟨ad', h', hc⟩ := Kd.at_int HR (j : Int) (by omega) (by omega)
      cases h'
      rw [Int.toNat_natCast] at hc
      simp [nums, List.getElem?_eq_getElem hj] at hu
      rw [hc, ← hu]
      simp [rd, hj]
    obtain ⟨v1, w1, hr, h2, h3, _, h5⟩ := run_append_own_at (P := Try.prog) (w := W) base 22 22 21 i0 (.int .i32 0) 1 4 ht hi hz0 hz1 hz2 rfl (by omega) v xs.length (nums .i32 xs) HO ⟨g, 0, none⟩ ys.length c (nums .i32 ys) (by simp [nums]) hcells
      (by intro u hu; simp only [nums, List.mem_map] at hu; obtain ⟨q, _, rfl⟩ := hu; rfl) (by simp only [maxLen]; omega) (by omega) hb
    exact ⟨v1, w1, hr, by simpa [nums] using h2, h3, h5⟩
/-- '[k] + end'. -/
theorem append_one {W W0 : World} {x : Int} {zs : List Int} {u : Value} {g : Nat} (hg : W.heap[g]? = some (.cells #[.int .i32 x] 21 (0, 0))) (hlo : W0.heap.size ≤ g) (h0 : Below W0.heap.size W0 W) (HU : WordRow W u zs) (hl : zs.length ≤ 1000) :
    ∃ v9 w9, (Builtin.append_ #[22, 22] 22 #[.slice (some ⟨g, 0, none⟩) 1 1, u]).run Try.prog W = .ok v9 w9 ∧ WordRow w9 v9 (x :: zs) ∧ Below W0.heap.size W0 w9 := by
  have hown : W.ownsRow 0 21 1 (.slice (some ⟨g, 0, none⟩) 1 1) ([x] : List Int).length (nums .i32 [x]) :=
    ⟨rfl, .inr ⟨g, 1, _, rfl, Nat.zero_le _, hg, Nat.le_refl _, by unfold maxLen; omega, rfl, rfl⟩⟩
  obtain ⟨v1, w9, hr, h2, h3, _⟩ := run_append_word (xs := [x]) hown HU (Nat.zero_le _) (by simp; omega)
  exact ⟨v1, w9, hr, h2, h0.grown h3 h0.size (fun k hk => by cases hk; exact hlo)⟩
/-- A word more in a row of words. -/
theorem append_words {W W0 : World} {L : List (List Int)} {v u : Value} {zs : List Int} {b : Nat} (hR : RowsAt W v L) (hU : WordRow W u zs) (hb : W.heap[b]? = some (.cells #[u] 22 (0, 0))) (hl : L.length < 1000000) :
    ∃ v1 w1, (Builtin.append_ #[50, 50] 50 #[v, .slice (some ⟨b, 0, none⟩) 1 1]).run Try.prog W = .ok v1 w1 ∧ RowsAt w1 v1 (L ++ [zs]) ∧ W.grownBy w1 v.ownBlock ∧ (v1.ownBlock = v.ownBlock ∨ v1.ownBlock = some W.heap.size) := by
  have hinfo : (Try.prog.info? 22).map (fun i => (i.zero, i.size, i.bytes)) = some (some (.slice none 0 0), 1, 24) := by kernel_rfl
  obtain ⟨i0, hi, hzz⟩ := Option.map_eq_some_iff.1 hinfo
  simp only [Prod.mk.injEq] at hzz
  obtain ⟨hz0, hz1, hz2⟩ := hzz
  have ht := Try.underlying50
  obtain ⟨vs, h1, h2⟩ := hR
  obtain ⟨A, c, hu, _⟩ := hU.reads
  obtain ⟨v1, w1, hr, q2, q3, _, q5⟩ := run_append_own_at (P := Try.prog) (w := W) 0 50 50 22 i0 (.slice none 0 0) 1 24 ht hi hz0 hz1 hz2 rfl (by omega) v L.length vs h1 ⟨b, 0, none⟩ 1 1 [u] rfl
    (fun j u' hj => by
      cases j with
      | zero => simp only [List.getElem?_cons_zero, Option.some.injEq] at hj; subst hj; exact box_cell hb
      | succ j => simp at hj)
    (by intro u' hu'; simp only [List.mem_singleton] at hu'; subst hu'; rw [hu]; rfl) (by simp only [maxLen]; omega) (by omega) (Nat.zero_le _)
  have hvl : vs.length = L.length := by have := h1.1; omega
  have hkeep : ∀ (u' : Value) (zs' : List Int), WordRow W u' zs' → WordRow w1 u' zs' := fun u' zs' h => row_kept h fun g cs _ hc => (q3.block g (Array.getElem?_eq_some_iff.1 hc).1 (fun e => by
    obtain ⟨cs', hc'⟩ := row_block h1 g e.symm
    rw [hc'] at hc
    simp at hc)).trans hc
  refine ⟨v1, w1, hr, ⟨vs ++ [u], by simpa using q2, fun i u' zs' hi' hz' => ?_⟩, q3, q5⟩
  rcases Nat.lt_or_ge i vs.length with hlt | hge
  · rw [List.getElem?_append_left hlt] at hi'
    rw [List.getElem?_append_left (by omega)] at hz'
    exact hkeep _ _ (h2 i u' zs' hi' hz')
  · rw [List.getElem?_append_right hge] at hi'
    rw [List.getElem?_append_right (by omega)] at hz'
    rw [hvl] at hi'
    cases hk : i - L.length with
    | zero => rw [hk] at hi' hz'; simp only [List.getElem?_cons_zero, Option.some.injEq] at hi' hz'; subst hi' hz'; exact hkeep _ _ hU
    | succ k => rw [hk] at hi'; simp at hi'
set_option maxRecDepth 100000 in
set_option maxHeartbeats 1000000 in
theorem clone_calls {W : World} {u : Value} {zs : List Int} (hU : WordRow W u zs) (hl : zs.length ≤ 1000000) :
    Calls Try.prog 67 #[u] W fun e w' => (∃ u', e = .returned u' ∧ WordRow w' u' zs) ∧ Below W.heap.size W w' := by
  refine callsIn_wide (n := 7) |>.1 ?_
  rcases hU.2 with ⟨rfl, hy⟩ | ⟨g, cap, cur, rfl, _⟩
  · obtain rfl : zs = [] := List.eq_nil_of_length_eq_zero hy
    have hbe : ∀ w, (binOp .eql 22 (.slice none 0 0) (.slice none 0 0)).run Try.prog w = .ok (.bool true) w := fun w => Lib.run_eql_slice_nil w _ _ _ _ _ _ _ Try.underlying22
    clear hU
    refine callsIn_of_wp Try.func67 rfl trivial ?_ rfl
    simp only [Try.ntmps67, List.size_toArray, List.length_cons, List.length_nil, Nat.reduceAdd, Nat.reduceSub, Array.replicate_succ, Array.replicate_zero, List.push_toArray, List.append_toArray, List.nil_append, List.cons_append]
    gi_wp2
    go_ret
    exact ⟨⟨_, rfl, World.ownsRow_nil W _ _ _⟩, Below.refl _ _⟩
  · have hn : W.heap.size < (W.alloc (.cells #[] 21)).heap.size := by simp
    have hU2 : WordRow (W.alloc (.cells #[] 21)) (.slice (some ⟨g, 0, none⟩) zs.length cap) zs := row_kept hU fun k cs _ hc => (Below.heap_alloc W _ k (Array.getElem?_eq_some_iff.1 hc).1).trans hc
    have hown : (W.alloc (.cells #[] 21)).ownsRow W.heap.size 21 1 (.slice (some ⟨W.heap.size, 0, none⟩) 0 0) ([] : List Int).length (nums .i32 []) :=
      ⟨rfl, .inr ⟨W.heap.size, 0, #[], rfl, Nat.le_refl _, World.alloc_heap_new W _, Nat.le_refl _, Nat.zero_le _, rfl, rfl⟩⟩
    obtain ⟨v1, w9, hr, h2, h3, _⟩ := run_append_word (xs := []) hown hU2 (Nat.le_of_lt hn) (by simpa using hl)
    have hB : Below W.heap.size W w9 := (((Below.refl _ W).alloc (Nat.le_refl _) _)).grown h3 (Nat.le_of_lt hn) (fun k hk => by cases hk; exact Nat.le_refl _)
    rw [List.nil_append] at h2
    have H2 := Lib.hid (row_base h2)
    have HB := Lib.hid hB
    have hbe : ∀ w, (binOp .eql 22 (.slice (some ⟨g, 0, none⟩) zs.length cap) (.slice none 0 0)).run Try.prog w = .ok (.bool false) w := fun w => Lib.run_eql_slice_nil w _ _ _ _ _ _ _ Try.underlying22
    clear hU hU2 hown h2 h3 hB hn
    refine callsIn_of_wp Try.func67 rfl trivial ?_ rfl
    simp only [Try.ntmps67, List.size_toArray, List.length_cons, List.length_nil, Nat.reduceAdd, Nat.reduceSub, Array.replicate_succ, Array.replicate_zero, List.push_toArray, List.append_toArray, List.nil_append, List.cons_append]
    gi_wp2_with (refine wpListIn_append_eq rfl (.tmp 5) (.tmp 6) 22 rfl hr ?_)
    go_ret
    exact ⟨⟨_, rfl, H2.out⟩, HB.out⟩
set_option maxHeartbeats 1000000 in
theorem keys_calls (mb : Nat) (w : World) : Calls Try.prog 68 #[.map (some mb)] w fun e w' => e = .returned (.func (.func 76) #[] #[.pointer (some ⟨w.heap.size, 0, none⟩)]) ∧ w' = w.alloc (.cells #[.map (some mb)] 68) := by
  go_enter Try.func68, Try.ntmps68
  go_wp2
  go_ret
  exact ⟨rfl, rfl⟩
end Go.Proofs.Yteaadpgammbdgaa.PA
