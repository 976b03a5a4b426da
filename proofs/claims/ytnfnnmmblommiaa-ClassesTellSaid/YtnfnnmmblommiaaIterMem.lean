/- What a loop's body keeps of the blocks that its iterator reads; small words for the fenced walk. -/
import Derived.Test.YtnfnnmmblommiaaMem
import Derived.RangeFuncNested
import Derived.RangeFuncBound
import Derived.RangeFuncCalls
import Derived.RangeFuncLeaves
import Derived.Shelf.Abstract
import Derived.Shelf.RegionOpen
import Derived.WalkKit
import Derived.OwnWalkIn
import Derived.TacticsInMore
import Derived.LoopNIn
import Derived.LoopIn
import Derived.Maps.AppendAt
import Derived.Maps.OwnIn
namespace Go.Proofs.Ytnfnnmmblommiaa.PA
open Go.RowKit Go.Shelf Go.Proofs.YtnfnnmmblommiaaW.PrintWords Go.Proofs.YtnfnnmmblommiaaW.PrintLast Go.Proofs.YtnfnnmmblommiaaW.PrintMore

/-- The blocks of S lie as they lay. -/
structure KeepsOf (S : Nat → Prop) (W W' : World) : Prop where
  size : W.heap.size ≤ W'.heap.size
  same : ∀ b, S b → W'.heap[b]? = W.heap[b]?
theorem KeepsOf.refl (S : Nat → Prop) (W : World) : KeepsOf S W W := ⟨Nat.le_refl _, fun _ _ => rfl⟩
theorem KeepsOf.trans {S : Nat → Prop} {A B C : World} (h : KeepsOf S A B) (k : KeepsOf S B C) : KeepsOf S A C := ⟨Nat.le_trans h.size k.size, fun b hb => (k.same b hb).trans (h.same b hb)⟩
theorem KeepsOf.of_grownBy {S : Nat → Prop} {W W' : World} {row : Option Nat} (hg : W.grownBy W' row) (hS : ∀ b, S b → b < W.heap.size ∧ some b ≠ row) : KeepsOf S W W' := ⟨hg.size, fun b hb => hg.block b (hS b hb).1 (hS b hb).2⟩
theorem keepsOf_b {S : Nat → Prop} {w : World} (hS : ∀ b, S b → b < w.heap.size) (W : World) (l : Nat) (o o' : Obj) (hl : w.heap.size ≤ l) (_ : W.heap[l]? = some o) (_ : o.isCells = false) (_ : o.isWalk = false) : KeepsOf S W (W.putObj l o') :=
  ⟨by simp, fun b hb => World.putObj_heap_other (by have := hS b hb; omega)⟩
theorem KeepsOf.cell {S : Nat → Prop} {W W' : World} (h : KeepsOf S W W') {a : Addr} (ha : S a.block) {v : Value} (hc : W.cell? a = some v) : W'.cell? a = some v := (World.cell?_of_block (h.same _ ha)).trans hc
theorem KeepsOf.of_below {S : Nat → Prop} {W W' : World} (h : Below W.heap.size W W') (hS : ∀ b, S b → b < W.heap.size) : KeepsOf S W W' := ⟨h.size, fun b hb => h.block b (hS b hb)⟩
/-- A row of elements that is read, its blocks as they lay (elements whose cells lead nowhere). -/
theorem C_kept {α : Type} {d : Kd α} {w w' : World} {A : Option Addr} {n : Nat} {xs : List α} (h : d.C w A n xs) (hK : ∀ x c, d.K w x c → d.K w' x c) (hb : ∀ a, A = some a → w'.heap[a.block]? = w.heap[a.block]?) : d.C w' A n xs := by
  refine ⟨h.1, h.2.1, fun hn => ?_⟩
  obtain ⟨ad, e, hc⟩ := h.2.2 hn
  refine ⟨ad, e, fun j p hp => ?_⟩
  obtain ⟨c, h1, h2, h3⟩ := hc j p hp
  refine ⟨c, h1, hK _ _ h2, fun i u hi => ?_⟩
  have := h3 i u hi
  refine (World.cell?_of_block ?_).trans this
  have e1 : (ad.add (j * d.sz + i)).block = ad.block := by unfold Addr.add; split <;> rfl
  rw [e1]; exact hb ad e

/-- What a loop's book-keeping may do: new blocks; blocks from B on that hold no cells turn. -/
structure Meek (B : Nat) (W W' : World) : Prop where
  os : W'.os = W.os
  tape : W'.tape = W.tape
  output : W'.output = W.output
  size : W.heap.size ≤ W'.heap.size
  low : ∀ k : Nat, k < W.heap.size → k < B → W'.heap[k]? = W.heap[k]?
  cells : ∀ (k : Nat) (c : Array Value) (t : TypeId) (fr : Nat × Nat), W.heap[k]? = some (Obj.cells c t fr) → W'.heap[k]? = some (Obj.cells c t fr)
theorem ownFrom_meek {β : Type} {B : Nat} {I : β → World → Prop} (h : ∀ s W W', I s W → Meek B W W' → I s W') : OwnFrom B I := fun s W W' row hs hg hr => by
  refine h s W W' hs ⟨hg.os, hg.tape, hg.output, hg.size, fun k hk hB => hg.block k hk fun e => ?_, fun k c t fr hk => (hg.block k (Array.getElem?_eq_some_iff.1 hk).1 fun e => ?_).trans hk⟩
  · have := (hr k e.symm).1; omega
  · obtain ⟨_, o, ho, hc⟩ := hr k e.symm
    rw [hk] at ho; cases ho; cases hc
theorem meek_alloc (B : Nat) (W : World) (o : Obj) : Meek B W (W.alloc o) := ⟨rfl, rfl, rfl, by simp, fun k hk _ => Below.heap_alloc W o k hk, fun k c t fr hk => (Below.heap_alloc W o k (Array.getElem?_eq_some_iff.1 hk).1).trans hk⟩
theorem meek_putObj {B : Nat} {W : World} {l : Nat} {o : Obj} (o' : Obj) (hB : B ≤ l) (hl : W.heap[l]? = some o) (ho : o.isCells = false) : Meek B W (W.putObj l o') :=
  ⟨rfl, rfl, rfl, by simp, fun k hk hkB => World.putObj_heap_other (by omega), fun k c t fr hk => (World.putObj_heap_other (fun e => by subst e; rw [hk] at hl; cases hl; cases ho)).trans hk⟩
theorem Meek.cell {B : Nat} {W W' : World} (h : Meek B W W') {a : Addr} {v : Value} (hc : W.cell? a = some v) : W'.cell? a = some v := by
  obtain ⟨o, ho, hcl⟩ := cells_of_cell hc
  cases o <;> simp [Obj.isCells] at hcl
  exact (World.cell?_of_block ((h.cells _ _ _ _ ho).trans ho.symm)).trans hc
theorem Meek.boxed {B : Nat} {W W' : World} (h : Meek B W W') {b : Nat} {t : TypeId} {v : Value} (hb : Boxed W b t v) : Boxed W' b t v := h.cells _ _ _ _ hb
theorem Meek.below {B n₀ : Nat} {w W W' : World} (h : Meek B W W') (hb : Below n₀ w W) (hn : n₀ ≤ w.heap.size) (hB : n₀ ≤ B) : Below n₀ w W' :=
  hb.trans ⟨h.os, h.tape, h.output, h.size, fun k hk => h.low k (by have := hb.size; omega) (by omega)⟩
theorem Meek.R {α : Type} {d : Kd α} {B e base : Nat} {ok : Nat → Prop} {W W' : World} {v : Value} {xs : List α} (h : Meek B W W') (hr : d.R e W base ok v xs) : d.R e W' base ok v xs :=
  Kd.R_mono (Kd.R_move (Kd.R_bound hr) (fun k hk => by obtain ⟨_, _, _, q, _, c, hc⟩ := hk; exact (h.cells _ _ _ _ hc).trans hc.symm)) (fun _ hk => hk.1)
theorem Meek.keeps {B : Nat} {S : Nat → Prop} {w W W' : World} (h : Meek B W W') (hk : KeepsOf S w W) (hS : ∀ b, S b → b < w.heap.size ∧ b < B) : KeepsOf S w W' :=
  ⟨Nat.le_trans hk.size h.size, fun b hb => (h.low b (by have := (hS b hb).1; have := hk.size; omega) (hS b hb).2).trans (hk.same b hb)⟩

section
variable {F : Fence} {n : Nat} {P : Program} {ops : Array Oper} {rest : List Oper} {o : Oper} {a : Act} {Q : Exit → Act → World → Prop} {α : Type}
/-- append of one element, inside a fence: the row of the call's own. -/
theorem R_appendIn (d : Kd α) {W : World} (base : Nat) (hgd : o.guard = none) (s x : Operand) (t e : TypeId) (z : Value) (bytes : Nat)
    (ho : o.op = .call { callee := .builtin .append, args := #[s, x], argTypes := #[t, t] })
    (ht : P.underlying t = some (.slice e)) (hinfo : (P.info? e).map (fun i => (i.zero, i.size, i.bytes)) = some (some z, d.sz, bytes)) (hz : z.cells.size = d.sz) (hs0 : 0 < d.sz) (hb0 : 0 < bytes)
    (v : Value) (xs : List α) (p : α) (cs : List Value) (ok okp : Nat → Prop) (hs : a.eval s = v) (hx : a.eval x = .slice (some ⟨W.heap.size, 0, none⟩) 1 1) (hp : d.M W base okp p cs) (hokp : ∀ k, okp k → ok k ∧ some k ≠ v.ownBlock) (hfresh : ∀ k, W.heap.size ≤ k → ok k)
    (HO : d.R e W base ok v xs) (hbase : base ≤ W.heap.size) (hl : (xs.length + 1) * bytes ≤ 140737488355328)
    (h : ∀ v1 w1, d.R e w1 base ok v1 (xs ++ [p]) → W.grownBy w1 v.ownBlock → (v1.ownBlock = v.ownBlock ∨ ∃ b, v1.ownBlock = some b ∧ W.heap.size ≤ b) → wpListIn F n P ops Q rest (a.put o.dst v1) w1) :
    wpListIn F n P ops Q (o :: rest) a (W.alloc (.cells cs.toArray e)) := by
  obtain ⟨h0, inner, hown, hr⟩ := HO
  obtain ⟨i0, hi, hzz⟩ := Option.map_eq_some_iff.1 hinfo
  simp only [Prod.mk.injEq] at hzz
  obtain ⟨hz0, hz1, hz2⟩ := hzz
  have hlen : xs.length + 1 ≤ 140737488355328 := Nat.le_trans (Nat.le_mul_of_pos_right _ hb0) hl
  refine wpListIn_append_own_at (W.alloc (.cells cs.toArray e)) hgd s x t ho base e i0 z d.sz bytes ht hi hz0 hz1 hz2 hz hs0 v xs.length inner hs (hown.alloc _) ⟨W.heap.size, 0, none⟩ 1 1 cs hx (by rw [d.K_len (d.K_of_M hp)]; simp)
    (by simpa using World.news_of_block (cs := cs.toArray) (t := e) (fr := (0, 0)) (heap_alloc_new W (.cells cs.toArray e))) (d.K_one (d.K_of_M hp)) (by simp only [maxLen]; omega) hl (by simp; omega) ?_
  intro v1 w1 hown1 hg _ hat
  have hg1 := World.grownBy.trans (World.grownBy_alloc W _ _) hg
  have hat1 : v1.ownBlock = v.ownBlock ∨ ∃ b, v1.ownBlock = some b ∧ W.heap.size ≤ b := by
    rcases hat with hat | hat
    · exact .inl hat
    · exact .inr ⟨_, hat, by simp⟩
  exact h v1 w1 (Kd.R_appended h0 hr hp hokp hfresh hown1 hg1 hat1) hg1 hat1
end
/-- 'box = append(box, x)': what lies behind it. -/
theorem collected {α : Type} {d : Kd α} {base e B0 tb B : Nat} {S : Nat → Prop} {W W1 : World} {v v1 : Value} {xs ys : List α}
    (hv : Boxed W B0 tb v) (hR : d.R e W base (fun _ => True) v xs) (hR1 : d.R e W1 base (fun _ => True) v1 ys) (hg : W.grownBy W1 v.ownBlock) (ht : ∀ q, q ∈ e :: d.E → q ≠ tb) (hS : ∀ b, S b → b < base ∧ b < W.heap.size ∧ b ≠ B0) :
    Boxed W1 B0 tb v ∧ Boxed (W1.setCell ⟨B0, 0, none⟩ v1) B0 tb v1 ∧ d.R e (W1.setCell ⟨B0, 0, none⟩ v1) base (fun _ => True) v1 ys ∧ KeepsFrom B W (W1.setCell ⟨B0, 0, none⟩ v1) ∧ KeepsOf S W (W1.setCell ⟨B0, 0, none⟩ v1) ∧ (∀ n₀, n₀ ≤ base → n₀ ≤ B0 → n₀ ≤ W.heap.size → Below n₀ W (W1.setCell ⟨B0, 0, none⟩ v1)) := by
  have hne : some B0 ≠ v.ownBlock := by
    obtain ⟨_, inner, hown, _⟩ := hR
    exact hv.not_row (fun e' => ht e (List.mem_cons_self ..) e'.symm) hown
  have hv1 : Boxed W1 B0 tb v := hv.kept hg hne
  obtain ⟨_, inner, hown, _⟩ := id hR
  have hcellrow : ∀ (j : Nat) (o : Obj), v.ownBlock = some j → W.heap[j]? = some o → o.isCells = true := fun j o hj ho => by
    obtain ⟨c, hc⟩ := own_typed hown j hj
    rw [hc] at ho; cases ho; rfl
  have hst : W1.grownBy (W1.setCell ⟨B0, 0, none⟩ v1) (some B0) := grownBy_setCell' _ _ _
  refine ⟨hv1, hv1.set v1, Kd.R_set hR1 hv1 ht 0 v1, ((KeepsOthers.of_grownBy hg fun j o hj ho => hcellrow j o hj ho).trans (KeepsOthers.setCell _ _ _)).from B, ⟨Nat.le_trans hg.size hst.size, fun b hb => ?_⟩, fun n₀ h1 h2 h3 => ?_⟩
  · obtain ⟨hb1, hb2, hb3⟩ := hS b hb
    refine (hst.block b (Nat.lt_of_lt_of_le hb2 hg.size) (fun e' => hb3 (by cases e'; rfl))).trans (hg.block b hb2 fun e' => ?_)
    have := own_base hown b e'.symm; omega
  · exact ((Below.refl n₀ W).grown hg h3 (fun k hk => by have := own_base hown k hk; omega)).setCell (p := ⟨B0, 0, none⟩) h2 v1
end Go.Proofs.Ytnfnnmmblommiaa.PA
