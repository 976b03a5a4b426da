/- slices.Grow of a nil slice of ranges: by hand: a new row with no element. -/
import Derived.Test.YtnfnnmmblommiaaMem
namespace Go.Proofs.Ytnfnnmmblommiaa.PA
open Go.RowKit Go.Proofs.YtnfnnmmblommiaaW.PrintWords Go.Proofs.YtnfnnmmblommiaaW.PrintLast Go.Proofs.YtnfnnmmblommiaaW.PrintMore
attribute [local go_sem] max2_int min2_int max_two min_two max_three min_three max_four min_four
set_option linter.unusedVariables false
set_option linter.unusedSimpArgs false

def api_Range_66.f (l0 : List S41) (a1 : Int) : Option (List S41) := if 0 ≤ a1 then (if a1 < 17592186044416 then some [] else none) else none
set_option maxHeartbeats 1000000 in
theorem api_Range_66.calls (a1 : Int) (r : List S41) (w : World) (h : api_Range_66.f [] a1 = some r) :
    Calls Try.prog 66 #[.slice none 0 0, .int .i64 a1] w fun e w' => ∃ v0_ : Value, e = .returned v0_ ∧ Kd.R k41 41 w' w.heap.size (fun _ => True) v0_ r ∧ Below w.heap.size w w' := by
  unfold api_Range_66.f at h
  by_cases h0 : 0 ≤ a1
  · rw [if_pos h0] at h
    by_cases h1 : a1 < 17592186044416
    · rw [if_pos h1] at h
      obtain rfl := Option.some.inj h
      have n0 : decide (a1 < 0) = false := decide_eq_false (by omega)
      clear h
      by_cases h2 : a1 = 0
      · subst h2
        go_enter Try.func66, Try.ntmps66
        go_wp2
        go_ret
        exact ⟨_, rfl, Kd.R_nil _ _ _ _ _, Below.refl _ _⟩
      · have p0 : decide (0 < a1) = true := decide_eq_true (by omega)
        clear h2
        go_enter Try.func66, Try.ntmps66
        go_wp2_with (at_builtin; go_loud (refine Kd.R_append_zeros k41 (w0 := w) w.heap.size rfl (.tmp 20) (.tmp 21) 26 3 41 (.agg #[(.int .i32 0), (.int .i32 0)]) 8 rfl Try.underlying26 Try.underlying3 info41 rfl (by decide) (by omega) (.slice none 0 0) [] (⟨0, 0⟩ : S41) a1 (fun _ => True) rfl rfl ?aZ (fun _ _ => trivial) (Kd.R_nil _ _ _ _ _) h0 (Below.refl _ _) (Nat.le_refl _) ?aL ?_); (case aZ => exact k41_mkM _ _ _ (⟨0, 0⟩ : S41)); (case aL => simp; omega); intro v1 w1 ho hb hg hat; have HO := Lib.hid ho; obtain ⟨A1, c1, e1⟩ := Kd.R_slice ho; clear ho; subst e1; have HB := Lib.hid hb; clear hb hg hat)
        go_ret
        exact ⟨_, rfl, Kd.R_take (m := 0) HO.out (Nat.zero_le _), HB.out⟩
    · rw [if_neg h1] at h; cases h
  · rw [if_neg h0] at h; cases h
end Go.Proofs.Ytnfnnmmblommiaa.PA
