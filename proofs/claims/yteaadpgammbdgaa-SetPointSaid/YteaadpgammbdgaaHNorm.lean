/- uniset.Norm: by hand. -/
import Derived.Test.YteaadpgammbdgaaHHas
import Derived.Test.YteaadpgammbdgaaHSet
namespace Go.Proofs.Yteaadpgammbdgaa.PA
open Go.RowKit Go.Shelf Go.Proofs.YteaadpgammbdgaaW.PrintWords Go.Proofs.YteaadpgammbdgaaW.PrintLast Go.Proofs.YteaadpgammbdgaaW.PrintMore
set_option linter.unusedVariables false
set_option linter.unusedSimpArgs false

set_option maxHeartbeats 1000000 in
theorem norm_closure (x : Rg) (W : World) :
    Calls Try.prog 50 #[.agg #[.int .i32 x.f0, .int .i32 x.f1]] W fun e w' => e = .returned (.bool (!good x)) ∧ Below W.heap.size W w' := by
  have hu := Try.underlying37
  have hr := fun w => right_calls x w
  generalize good x = b at hr ⊢
  cases b
  all_goals
    go_enter Try.func50, Try.ntmps50
    go_wp2_with (go_at_call 51; refine (hr _).mono ?_; rintro e w' ⟨rfl, hb⟩)
    go_ret
    exact ⟨rfl, below_a hb⟩

def uniset_Norm.f (l0 : List S37) : Option (List S37 × Int) :=
  if l0.any (fun x => !good x) = true then some ([], 30) else if l0.length < 1099511627776 then (if (norm l0).length > 200 then some ([], 30) else some (norm l0, 0)) else none
set_option maxHeartbeats 1000000 in
theorem uniset_Norm.calls (A0 : Option Addr) (c0 : Nat) (l0 : List S37) (r1 : List S37) (r2 : Int) (w : World) (hr0 : Kd.C k37 w A0 l0.length l0) (hc0 : l0.length ≤ c0) (h : uniset_Norm.f l0 = some (r1, r2)) :
    Calls Try.prog 20 #[.slice A0 l0.length c0] w fun e w' => ∃ v0_ : Value, e = .returned (.tuple #[v0_, .int .i64 r2]) ∧ Kd.R k37 37 w' w.heap.size (fun _ => True) v0_ r1 ∧ Below w.heap.size w w' := by
  have eg : ∀ args w, (callFunc 50 args).run Try.prog w = .ok (.enter 50 args) w := enters_of Try.func50 (by kernel_rfl) rfl
  have hcon := contains_calls (fun x => !good x) 50 #[] A0 c0 l0 w eg (fun W x hb => (norm_closure x W).mono fun _ _ ⟨he, hb2⟩ => ⟨he, below_t hb hb2⟩) hr0
  have HR := Lib.hid hr0
  unfold uniset_Norm.f at h
  generalize l0.any (fun x => !good x) = b at hcon h
  cases b
  · simp only [Bool.false_eq_true, if_false] at h
    split at h
    · rename_i hlt
      have hset := fun W hr => uniset_set.calls A0 c0 l0 (norm l0) W hr hc0 (by unfold uniset_set.f; rw [if_pos hlt])
      split at h
      · rename_i hgt
        have d1 : decide ((200 : Int) < ((norm l0).length : Int)) = true := decide_eq_true (by omega)
        have d2 : decide (200 < (norm l0).length) = true := decide_eq_true (by omega)
        simp only [Option.some.injEq, Prod.mk.injEq] at h
        obtain ⟨rfl, rfl⟩ := h
        clear hr0 hc0 eg hlt hgt
        go_enter Try.func20, Try.ntmps20
        go_wp2_with (first | (go_at_call 49; refine hcon.mono ?_; rintro e w1 ⟨rfl, hb⟩; have H1 := Lib.hid hb; clear hb) | (go_at_call 52; refine (hset _ (Kd.C_below HR.out H1.out)).mono ?_; rintro e w2 ⟨v, rfl, hR, hB⟩; obtain ⟨A, c, rfl⟩ := Kd.R_slice hR; have H2 := Lib.hid hB; clear hR hB))
        go_ret2
        exact ⟨_, rfl, Kd.R_nil _ _ _ _ _, below_t H1.out H2.out⟩
      · rename_i hle
        have d1 : decide ((200 : Int) < ((norm l0).length : Int)) = false := decide_eq_false (by omega)
        have d2 : decide (200 < (norm l0).length) = false := decide_eq_false (by omega)
        simp only [Option.some.injEq, Prod.mk.injEq] at h
        obtain ⟨h0, rfl⟩ := h
        subst h0
        clear hr0 hc0 eg hlt hle
        go_enter Try.func20, Try.ntmps20
        go_wp2_with (first | (go_at_call 49; refine hcon.mono ?_; rintro e w1 ⟨rfl, hb⟩; have H1 := Lib.hid hb; clear hb) | (go_at_call 52; refine (hset _ (Kd.C_below HR.out H1.out)).mono ?_; rintro e w2 ⟨v, rfl, hR, hB⟩; obtain ⟨A, c, rfl⟩ := Kd.R_slice hR; have H2 := Lib.hid hB; have H3 := Lib.hid hR; clear hR hB))
        go_ret2
        exact ⟨_, rfl, Kd.R_lower H3.out H1.out.size, below_t H1.out H2.out⟩
    · cases h
  · simp only [if_true, Option.some.injEq, Prod.mk.injEq] at h
    obtain ⟨rfl, rfl⟩ := h
    clear hr0 hc0 eg
    go_enter Try.func20, Try.ntmps20
    go_wp2_with (go_at_call 49; refine hcon.mono ?_; rintro e w1 ⟨rfl, hb⟩; have H1 := Lib.hid hb; clear hb)
    go_ret2
    exact ⟨_, rfl, Kd.R_nil _ _ _ _ _, H1.out⟩
end Go.Proofs.Yteaadpgammbdgaa.PA
