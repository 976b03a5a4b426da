/- uniset.Has: by hand: a closure over a captured code point, slices.ContainsFunc. -/
import Derived.Test.YtnfnnmmblommiaaHSorted
import Derived.Test.YtnfnnmmblommiaaHShelf
namespace Go.Proofs.Ytnfnnmmblommiaa.PA
open Go.RowKit Go.Proofs.YtnfnnmmblommiaaW.PrintWords Go.Proofs.YtnfnnmmblommiaaW.PrintLast Go.Proofs.YtnfnnmmblommiaaW.PrintMore
set_option linter.unusedVariables false
set_option linter.unusedSimpArgs false

def inB (x : Rg) (r : Int) : Bool := good x && decide (x.f0 ≤ r) && decide (r ≤ x.f1)
set_option maxHeartbeats 1000000 in
theorem has_closure (x : Rg) (r : Int) (B : Nat) (W : World) (hB : B < W.heap.size) (hc : W.cell? ⟨B, 0, none⟩ = some (.int .i32 r)) :
    Calls Try.prog 45 #[.agg #[.int .i32 x.f0, .int .i32 x.f1], .pointer (some ⟨B, 0, none⟩)] W fun e w' => e = .returned (.bool (inB x r)) ∧ Below W.heap.size W w' := by
  have hu := Try.underlying41
  have hne : B ≠ W.heap.size := by omega
  unfold inB
  cases hg : good x with
  | false =>
    have hr := fun w => right_calls x w
    rw [hg] at hr
    clear hg
    go_enter Try.func45, Try.ntmps45
    go_wp2_with (go_at_call 43; refine (hr _).mono ?_; rintro e w' ⟨rfl, hb⟩)
    go_ret
    exact ⟨rfl, ((Below.refl _ _).alloc (Nat.le_refl _) _).trans (hb.mono (by simp))⟩
  | true =>
    have hr := fun w => right_calls x w
    rw [hg] at hr
    clear hg
    obtain ⟨b1, h1'⟩ : ∃ b, decide (x.f0 ≤ r) = b := ⟨_, rfl⟩
    obtain ⟨b2, h2'⟩ : ∃ b, decide (r ≤ x.f1) = b := ⟨_, rfl⟩
    cases b1
    all_goals cases b2
    all_goals
      go_enter Try.func45, Try.ntmps45
      go_wp2_with (go_at_call 43; refine (hr _).mono ?_; rintro e w' ⟨rfl, hb⟩; have c0 := cell_b hb (cell_old _ hc); have c1 := cell_b hb (cell_new 0 rfl); have c2 := cell_b hb (cell_new 1 rfl))
      go_ret
      exact ⟨by simp [*], below_a hb⟩

def encRg (x : Rg) : List Value := [.int .i32 x.f0, .int .i32 x.f1]
instance : Inhabited Rg := ⟨z41⟩
/-- slices.ContainsFunc over ranges: whatever predicate. -/
theorem contains_calls (p : Rg → Bool) (g : Nat) (lb : Array Value) (A0 : Option Addr) (c0 : Nat) (l0 : List Rg) (w : World) (eg : ∀ args w, (callFunc g args).run Try.prog w = .ok (.enter g args) w)
    (hp : PredBelow Try.prog g lb (fun x => .agg (encRg x).toArray) p w) (hr0 : Kd.C k41 w A0 l0.length l0) :
    Calls Try.prog 44 #[.slice A0 l0.length c0, .func (.func g) #[] lb] w fun e w' => e = .returned (.bool (l0.any p)) ∧ Below w.heap.size w w' := by
  by_cases hn : l0.length = 0
  · have hnil := List.eq_nil_of_length_eq_zero hn
    subst hnil
    rw [List.any_nil, List.length_nil]
    clear hr0 hn hp eg
    have hi : ∀ W, Calls Try.prog 60 #[.slice A0 0 c0, .func (.func g) #[] lb] W fun e w' => e = .returned (.int .i64 (-1)) ∧ w' = W := by
      intro W
      go_enter Try.func60, Try.ntmps60
      go_wp2
      refine wp_loop_rounds 1 ?_
      rw [rounds_succ]
      go_wp2
      go_ret
      exact ⟨rfl, rfl⟩
    go_enter Try.func44, Try.ntmps44
    go_wp2_with (go_at_call 60; refine (hi _).mono ?_; rintro e w' ⟨rfl, rfl⟩)
    go_ret
    exact ⟨rfl, Below.refl _ _⟩
  · obtain ⟨b, off, rfl, hb⟩ := C_plain hr0 (by omega) (by decide)
    have hcon := AnyQ.slices_ContainsFunc Try.containsRg 2 Try.isAgg41 Try.sizeOf41 encRg (fun _ => rfl) p g lb eg b off l0.length c0 l0 w hp (Nat.le_refl _) hr0.2.1 hb (fun j hj i v hi => by
      rw [getElem!_pos l0 j hj] at hi
      obtain ⟨c, h1, h2, h3⟩ := C_cell hr0 (List.getElem?_eq_getElem hj)
      rw [k41_open h2] at h3
      exact h3 i v hi)
    rw [List.take_length] at hcon
    exact hcon

def uniset_Has.f (l0 : List S41) (a1 : Int) : Option Bool := some (hasL l0 a1)
set_option maxHeartbeats 1000000 in
theorem uniset_Has.calls (A0 : Option Addr) (c0 : Nat) (l0 : List S41) (a1 : Int) (r : Bool) (w : World) (hr0 : Kd.C k41 w A0 l0.length l0) (hc0 : l0.length ≤ c0) (h : uniset_Has.f l0 a1 = some r) :
    Calls Try.prog 20 #[.slice A0 l0.length c0, .int .i32 a1] w fun e w' => e = .returned (.bool r) ∧ Below w.heap.size w w' := by
  obtain rfl := Option.some.inj h
  have eg : ∀ args w, (callFunc 45 args).run Try.prog w = .ok (.enter 45 args) w := enters_of Try.func45 (by kernel_rfl) rfl
  have hcon := contains_calls (fun x => inB x a1) 45 #[.pointer (some ⟨w.heap.size, 0, none⟩)] A0 c0 l0 (w.alloc (.cells #[.int .i32 a1] 21)) eg
    (fun W x hb => (has_closure x a1 w.heap.size W (by have := hb.size; simp at this; omega) (cell_b hb (cell_new 0 rfl))).mono fun _ _ ⟨he, hb2⟩ => ⟨he, below_t hb hb2⟩) (Kd.C_alloc hr0 _)
  have e : hasL l0 a1 = l0.any fun x => inB x a1 := rfl
  rw [e]
  generalize l0.any (fun x => inB x a1) = rr at hcon ⊢
  clear hr0 hc0 h e
  go_enter Try.func20, Try.ntmps20
  go_wp2_with (go_at_call 44; refine hcon.mono ?_; rintro e w' ⟨rfl, hb'⟩)
  go_ret
  exact ⟨rfl, below_a hb'⟩
end Go.Proofs.Ytnfnnmmblommiaa.PA
