/- Small words on memory, for the walks by hand. -/
import Derived.Test.YtnfnnmmblommiaaPAx0
import Derived.Deep.DeepFit
import Derived.Outline
import Derived.Lib.Hide
namespace Go.Proofs.Ytnfnnmmblommiaa.PA
open Go.RowKit Go.Proofs.YtnfnnmmblommiaaW.PrintWords Go.Proofs.YtnfnnmmblommiaaW.PrintLast Go.Proofs.YtnfnnmmblommiaaW.PrintMore

theorem cell_new {W : World} {cs : Array Value} {t : TypeId} (j : Nat) {v : Value} (h : cs[j]? = some v) : (W.alloc (.cells cs t)).cell? ⟨W.heap.size, j, none⟩ = some v := by
  have e := heap_alloc_new W (.cells cs t)
  unfold World.cell?
  simp only [e]
  simpa using h
theorem cell_old {W : World} {a : Addr} {v : Value} (o : Obj) (h : W.cell? a = some v) : (W.alloc o).cell? a = some v :=
  (World.cell?_of_block (Below.heap_alloc W o a.block (World.block_lt_of_cell? W a h))).trans h
theorem below_a {W w' : World} {o : Obj} (h : Below (W.alloc o).heap.size (W.alloc o) w') : Below W.heap.size W w' :=
  ((Below.refl _ _).alloc (Nat.le_refl _) o).trans (h.mono (by simp))
theorem below_t {a b c : World} (h : Below a.heap.size a b) (k : Below b.heap.size b c) : Below a.heap.size a c := h.trans (k.mono h.size)
theorem below_d {a b : World} (h : Below a.heap.size a b) (n : Nat) : Below a.heap.size a (b.drewN n) := pw_below_drewN h n
theorem cell_b {W w' : World} (hb : Below W.heap.size W w') {a : Addr} {v : Value} (h : W.cell? a = some v) : w'.cell? a = some v := pw_cell_below hb h
theorem cell_lt {W : World} {a : Addr} {v : Value} (h : W.cell? a = some v) : a.block < W.heap.size := World.block_lt_of_cell? W a h
theorem heap_set {W : World} {b : Nat} {cs : Array Value} {t : TypeId} {fr : Nat × Nat} (h : W.heap[b]? = some (.cells cs t fr)) (j : Nat) (v : Value) : (W.setCell ⟨b, j, none⟩ v).heap[b]? = some (.cells (cs.setIfInBounds j v) t fr) := by
  show (W.heap.modify b _)[b]? = _
  rw [Array.getElem?_modify, if_pos rfl, h]
  rfl
theorem add_none (b o j : Nat) : (⟨b, o, none⟩ : Addr).add j = ⟨b, o + j, none⟩ := by unfold Addr.add; split <;> simp_all
/-- Where a row that is read begins. -/
theorem C_plain {α : Type} {d : Kd α} {w : World} {A : Option Addr} {n : Nat} {xs : List α} (h : d.C w A n xs) (hn : 0 < n) (hs : 0 < d.sz) : ∃ b off, A = some ⟨b, off, none⟩ ∧ b < w.heap.size := by
  obtain ⟨ad, e, hc⟩ := h.2.2 hn
  have hl : 0 < xs.length := by rw [h.1]; exact hn
  obtain ⟨c, h1, _, h3⟩ := hc 0 _ (List.getElem?_eq_getElem hl)
  have hu := h3 0 _ (List.getElem?_eq_getElem (by omega : 0 < c.length))
  have e0 : ad.add (0 * d.sz + 0) = ad := by simp [Addr.add]
  rw [e0] at hu
  have hsp : ad.spot = none := by
    unfold World.cell? at hu
    cases hh : ad.spot with
    | none => rfl
    | some q => rw [hh] at hu; split at hu <;> simp at hu
  have hb := cell_lt hu
  obtain ⟨b, off, sp⟩ := ad
  dsimp only at hsp hb
  subst hsp
  exact ⟨b, off, e, hb⟩
/-- The cells of a row that is read, one by one. -/
theorem C_cell {α : Type} {d : Kd α} {w : World} {b off n : Nat} {xs : List α} (h : d.C w (some ⟨b, off, none⟩) n xs) {j : Nat} {p : α} (hp : xs[j]? = some p) : ∃ c, c.length = d.sz ∧ d.K w p c ∧ ∀ i u, c[i]? = some u → w.cell? ⟨b, off + j * d.sz + i, none⟩ = some u := by
  have hn : 0 < n := by rw [← h.1]; exact Nat.lt_of_le_of_lt (Nat.zero_le j) (List.getElem?_eq_some_iff.1 hp).1
  obtain ⟨ad, e, hc⟩ := h.2.2 hn
  cases e
  obtain ⟨c, h1, h2, h3⟩ := hc j p hp
  refine ⟨c, h1, h2, fun i u hi => ?_⟩
  have := h3 i u hi
  rw [add_none, ← Nat.add_assoc] at this
  exact this
end Go.Proofs.Ytnfnnmmblommiaa.PA
