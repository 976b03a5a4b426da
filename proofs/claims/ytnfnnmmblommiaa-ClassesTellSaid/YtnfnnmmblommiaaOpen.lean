/- What a law's argument reads, opened once for each kind of value: a slice's row of elements, whole numbers, texts, ranges. -/
import Derived.Test.YtnfnnmmblommiaaPAx0
import Derived.Deep.Slices
import Derived.ChangeSame
namespace Go.Proofs.Ytnfnnmmblommiaa.PA
open Go.RowKit Go.ChangeShapes Go.WideShapes Go.Proofs.YtnfnnmmblommiaaW.PrintWords
set_option linter.unusedVariables false
set_option linter.unusedSimpArgs false
section
variable {H : Type} {enc : TypeId × Value → H} {P : Program} {w : World} {base : Nat} {spare : Nat → Bool} {held : Bool}
/-- Every value of the type that is told of the world is one of the kind, and as wf says. -/
def Opens {α : Type} (enc : TypeId × Value → H) (P : Program) (w : World) (base : Nat) (spare : Nat → Bool) (held : Bool) (t : TypeId) (d : Kd α) (wf : α → Prop) : Prop :=
  ∀ fuel cs x, DataW.trod enc P w base spare held fuel t cs = some x → ∃ v, d.K w v cs ∧ wf v
theorem opens_int {t : TypeId} {k : IntKind} (ht : P.underlying t = some (.int k)) : Opens enc P w base spare held t (Kd.int k) fun n => (Lit.int k n).wf = true := by
  intro fuel cs x h
  obtain ⟨n, rfl, _, hw⟩ := DataW.trod_int ht h
  exact ⟨n, rfl, hw⟩
theorem opens_string {t : TypeId} (ht : P.underlying t = some .string) : Opens enc P w base spare held t Kd.string fun s => s.size ≤ maxLen := by
  intro fuel cs x h
  obtain ⟨s, rfl, _, hw⟩ := DataW.trod_string ht h
  exact ⟨s, rfl, hw⟩
theorem opens_row {α : Type} {t e : TypeId} {d : Kd α} {wf : α → Prop} (ht : P.underlying t = some (.slice e)) (hC : P.cellsOf e = d.sz) (he : Opens enc P w base spare held e d wf) {fuel : Nat} {cs : List Value} {x : DataW H × List MemPlace} (h : DataW.trod enc P w base spare held fuel t cs = some x) :
    ∃ (A : Option Addr) (c : Nat) (l : List α), cs = [.slice A l.length c] ∧ l.length ≤ c ∧ c ≤ maxLen ∧ d.C w A l.length l ∧ ∀ v ∈ l, wf v := by
  rcases Go.Deep.open_slice ht h with ⟨rfl, _⟩ | ⟨a, len, cap, m, n, D, Pl, rfl, hb, hl, hm, hmm, hx, hi⟩
  · exact ⟨none, 0, [], rfl, Nat.le_refl _, Nat.zero_le _, ⟨rfl, Nat.zero_le _, fun h => absurd h (by simp)⟩, fun v hv => by cases hv⟩
  · have hlm : len ≤ m := by rw [hmm]; split <;> omega
    have H : ∀ i : Fin len, ∃ v, wf v ∧ ∃ c : List Value, c.length = d.sz ∧ d.K w v c ∧ ∀ j u, c[j]? = some u → w.cell? (a.add (i.1 * d.sz + j)) = some u := by
      intro i
      obtain ⟨cs', hc, ht'⟩ := hi i.1 (by have := i.2; omega)
      rw [hC] at hc
      obtain ⟨v, hk, hw⟩ := he _ _ _ ht'
      obtain ⟨_, hlen, hat⟩ := World.cells?_some hc
      refine ⟨v, hw, cs', hlen, hk, fun j u hj => ?_⟩
      have hjl : j < d.sz := by rw [← hlen]; exact (List.getElem?_eq_some_iff.1 hj).1
      rw [← Go.Deep.add_add, hat j hjl, hj]
    let f : Fin len → α := fun i => Classical.choose (H i)
    have hlen : (List.ofFn f).length = len := by simp
    refine ⟨some a, cap, List.ofFn f, by rw [hlen], by rw [hlen]; exact hl, hm, ⟨rfl, ?_, fun _ => ⟨a, rfl, fun j p hj => ?_⟩⟩, fun v hv => ?_⟩
    · rw [hlen]; have : maxLen ≤ 9223372036854775807 := by decide
      omega
    · obtain ⟨hjl, rfl⟩ := List.getElem?_eq_some_iff.1 hj
      rw [List.getElem_ofFn]
      exact (Classical.choose_spec (H ⟨j, by simpa using hjl⟩)).2
    · obtain ⟨i, rfl⟩ := List.mem_ofFn.1 hv
      exact (Classical.choose_spec (H i)).1
theorem opens_slice {α : Type} {t e : TypeId} {d : Kd α} {wf : α → Prop} (ht : P.underlying t = some (.slice e)) (hC : P.cellsOf e = d.sz) (he : Opens enc P w base spare held e d wf) : Opens enc P w base spare held t (Kd.slice e d) fun l => ∀ v ∈ l, wf v := by
  intro fuel cs x h
  obtain ⟨A, c, l, rfl, hl, _, hr, hw⟩ := opens_row ht hC he h
  exact ⟨l, ⟨A, c, rfl, hl, hr⟩, hw⟩
/-- A parameter that is a slice. -/
theorem open_rows {α : Type} {t e : TypeId} {d : Kd α} {wf : α → Prop} (ht : P.underlying t = some (.slice e)) (hC : P.cellsOf e = d.sz) (he : Opens enc P w base spare held e d wf) {a : Option Addr} {len cap : Nat} {dt : DataW H} {p : List MemPlace} (h : DataW.Trod enc P w base spare held t (.slice a len cap) dt p) :
    ∃ l : List α, len = l.length ∧ l.length ≤ cap ∧ cap ≤ maxLen ∧ d.C w a l.length l ∧ ∀ v ∈ l, wf v := by
  obtain ⟨fuel, hf⟩ := h
  obtain ⟨A, c, l, hcs, hl, hm, hr, hw⟩ := opens_row ht hC he hf
  simp [Value.cells] at hcs
  obtain ⟨rfl, rfl, rfl⟩ := hcs
  exact ⟨l, rfl, hl, hm, hr, hw⟩
end
theorem two_of {α : Type} {l : List α} (h : l.length = 2) : ∃ a b, l = [a, b] := by
  match l, h with
  | [a, b], _ => exact ⟨a, b, rfl⟩
/-- A range's two ends are int32s. -/
def wfRg (x : S41) : Prop := (Lit.int .i32 x.f0).wf = true ∧ (Lit.int .i32 x.f1).wf = true
theorem opens_rg {H : Type} {enc : TypeId × Value → H} {w : World} {base : Nat} {spare : Nat → Bool} {held : Bool} : Opens enc Try.prog w base spare held 41 k41 wfRg := by
  intro fuel cs x h
  obtain ⟨xs, n, _, _, hlen, hxl, hf⟩ := DataW.trod_struct Try.underlying41 h
  have h0 : DataW.trod enc Try.prog w base spare held n 21 ((cs.drop 0).take (Try.prog.cellsOf 21)) = xs[0]? := hf 0 _ rfl
  have h1 : DataW.trod enc Try.prog w base spare held n 21 ((cs.drop 1).take (Try.prog.cellsOf 21)) = xs[1]? := hf 1 _ rfl
  have hc : Try.prog.cellsOf 41 = 2 := by kernel_rfl
  have hi : Try.prog.cellsOf 21 = 1 := by kernel_rfl
  rw [hc] at hlen
  rw [hi] at h0 h1
  clear hc hi
  obtain ⟨c0, c1, rfl⟩ := two_of hlen
  simp only [List.drop_zero, List.drop_succ_cons, List.take_succ_cons, List.take_zero] at h0 h1
  have hx : ∃ x0 x1, xs[0]? = some x0 ∧ xs[1]? = some x1 := by
    obtain ⟨x0, x1, rfl⟩ := two_of hxl
    exact ⟨x0, x1, rfl, rfl⟩
  obtain ⟨x0, x1, e0, e1⟩ := hx
  rw [e0] at h0
  rw [e1] at h1
  obtain ⟨a, e0, _, w0⟩ := DataW.trod_int Try.underlying21 h0
  obtain ⟨b, e1, _, w1⟩ := DataW.trod_int Try.underlying21 h1
  injection e0 with e0 _
  injection e1 with e1 _
  subst e0 e1
  exact ⟨⟨a, b⟩, k41_mk w ⟨a, b⟩, w0, w1⟩
end Go.Proofs.Ytnfnnmmblommiaa.PA
