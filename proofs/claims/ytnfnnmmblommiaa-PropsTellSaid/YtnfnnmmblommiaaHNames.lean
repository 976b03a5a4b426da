/- props.Names: by hand: all names, in their order. -/
import Derived.Test.YtnfnnmmblommiaaNames
namespace Go.Proofs.Ytnfnnmmblommiaa.PA
open Go.RowKit Go.Shelf Go.Proofs.YtnfnnmmblommiaaW.PrintWords Go.Proofs.YtnfnnmmblommiaaW.PrintLast Go.Proofs.YtnfnnmmblommiaaW.PrintMore
attribute [local go_sem] Oper.semAt_some
set_option linter.unusedVariables false
set_option linter.unusedSimpArgs false

set_option maxRecDepth 100000 in
set_option maxHeartbeats 4000000 in
theorem names_in (n : Nat) (hn : 3 ≤ n) (w : World) :
    CallsIn Fence.wide n Try.prog 13 #[] w fun e w' => ∃ v0_ : Value, e = .returned v0_ ∧ Kd.R Kd.string 9 w' w.heap.size (fun _ => True) v0_ namesL ∧ Below w.heap.size w w' := by
  have h1 : 1 ≤ n := by omega
  refine callsIn_of_wp_marks Try.func13 rfl trivial ?_ rfl
  simp only [Try.ntmps13, List.size_toArray, List.length_cons, List.length_nil, Nat.reduceAdd, Nat.reduceSub, Array.replicate_succ, Array.replicate_zero, List.push_toArray, List.append_toArray, List.nil_append, List.cons_append]
  have hnc := fun W => callsIn_wide (n := n - 1) |>.2 (names_calls W)
  gi_wp2_with (refine ⟨trivial, ?_⟩; gi_at_call 36; refine (hnc _).mono ?_; rintro e w2 ⟨rfl, e20⟩; have E2 := Lib.hid e20; clear e20)
  have e2 := E2.out
  clear E2
  obtain ⟨wa, hwa⟩ : ∃ wa, w.alloc (.cells #[.slice none 0 0] 23) = wa := ⟨_, rfl⟩
  rw [hwa] at e2
  have hsa : wa.heap.size = w.heap.size + 1 := by rw [← hwa]; simp
  have hSrc : SrcTx w2 (w.heap.size + 1 + 1) (w.heap.size + 1) 0 11 namesL := by rw [← hsa, e2]; exact names_src wa
  have hs2 : w2.heap.size = wa.heap.size + 2 := by rw [e2]; simp
  have hBa : Below w.heap.size w wa := by rw [← hwa]; exact (Below.refl _ w).alloc (Nat.le_refl _) _
  have hB0 : Below w.heap.size w w2 := by rw [e2]; exact (hBa.alloc (by omega) _).alloc (by simp; omega) _
  have bO2 : Boxed w2 w.heap.size 23 (.slice none 0 0) := by
    have b0 : Boxed wa w.heap.size 23 (.slice none 0 0) := by rw [← hwa]; exact heap_alloc_new w _
    rw [e2]; exact (b0.alloc _).alloc _
  have hS : ∀ b, ofTx (w.heap.size + 1 + 1) (w.heap.size + 1) b → b ≠ w.heap.size ∧ w.heap.size < b ∧ b < w2.heap.size := by
    intro b hb
    rcases hb with rfl | rfl <;> omega
  clear e2
  refine wpIn_rangeFunc_ownH rfl h1 (gf := 67) (lb := #[.pointer (some ⟨w.heap.size + 1 + 1, 0, none⟩)]) rfl trivial (enters_of Try.func67 (by kernel_rfl) rfl)
    (values_stops (n - 1) (by omega) (w.heap.size + 1 + 1) (w.heap.size + 1) 0 11 namesL (by decide) w2 hSrc) (fun h k => KeepsOf.trans h k) (keepsOf_b (fun b hb => (hS b hb).2.2)) (Below.refl _ _) (fun _ => rfl)
    (fun pre W => ∃ v, Boxed W w.heap.size 23 v ∧ Kd.R Kd.string 9 W w2.heap.size (fun _ => True) v pre ∧ Below w.heap.size w W ∧ w2.heap.size ≤ W.heap.size)
    (fun _ _ _ => False)
    (ownFrom_meek fun pre W W' ⟨v, h1, h2, h3, h4⟩ hm => ⟨v, hm.boxed h1, hm.R h2, hm.below h3 (Nat.le_refl _) (by omega), Nat.le_trans h4 hm.size⟩)
    (fun _ _ _ _ _ hs _ _ => hs)
    ⟨.slice none 0 0, bO2, Kd.R_nil _ _ _ _ _, hB0, Nat.le_refl _⟩
    (fun x a' W => a' = { tmps := #[.slice none 0 0, .pointer (some ⟨w.heap.size, 0, none⟩), .string x, .func (.func 67) #[] #[.pointer (some ⟨w.heap.size + 1 + 1, 0, none⟩)], .string x, undef, undef, undef, undef, undef], defers := [] })
    (fun x a' => ownFrom_meek fun _ W W' e hm => e)
    ?assign ?body ?done ?stop
  case assign =>
    rintro l pre x W K ⟨v, hv, hR, hB, hle⟩ hK
    gi_wp2
    exact hK _ _ (KeepsOthers.refl _ |>.from _) (KeepsOf.refl _ _) ⟨v, hv, hR, hB, hle⟩ rfl
  case body =>
    rintro l pre x a' W hl ⟨r, hr⟩ ⟨v, hv, hR, hB, hle⟩ rfl hlt
    have hc := hv.cell
    have hlen : pre.length < 11 := hlt
    have HV := Lib.hid hv
    have HRR := Lib.hid hR
    have HB := Lib.hid hB
    have hlW : l < W.heap.size := (Array.getElem?_eq_some_iff.1 hr).1
    have HS := Lib.hid hS
    clear hv hR hB hr hS
    gi_wp2_with (gi_at_builtin; go_loud (refine R_appendIn Kd.string w2.heap.size rfl (.tmp 5) (.tmp 7) 23 9 (.string ⟨#[]⟩) 16 rfl Try.underlying23 info9 rfl (by decide) (by omega) v pre x [.string x] (fun _ => True) (fun _ => False) rfl rfl rfl (fun _ hk => hk.elim) (fun _ _ => trivial) HRR.out hle (by omega) ?_); intro v1 w9 ho hg hat; obtain ⟨A1, c1, e1⟩ := Kd.R_slice ho; rw [show (pre ++ [x]).length = pre.length + 1 by simp] at e1; subst e1; obtain ⟨q1, q2, q3, q4, q5, q6⟩ := collected (B := w2.heap.size) (S := ofTx (w.heap.size + 1 + 1) (w.heap.size + 1)) HV.out HRR.out ho hg (by decide) (fun b hb => ⟨(HS.out b hb).2.2, Nat.lt_of_lt_of_le (HS.out b hb).2.2 hle, (HS.out b hb).1⟩); have Q2 := Lib.hid q2; have Q3 := Lib.hid q3; have Q4 := Lib.hid q4; have Q5 := Lib.hid q5; have Q6 := Lib.hid q6; have hcq := q1.cell; have hfq := q1.frozen; clear q1 q2 q3 q4 q5 q6 ho hg hat)
    exact ⟨Q4.out, Q5.out, ⟨_, Q2.out, by simpa using Q3.out, HB.out.trans (Q6.out _ (by omega) (Nat.le_refl _) HB.out.size), Nat.le_trans hle Q5.out.size⟩⟩
  case done =>
    rintro D ys W hD rfl ⟨v, hv, hR, hB, hle⟩ hK
    have hc := hv.cell
    gi_wp2
    refine ⟨by simp, .inl ⟨_, _, rfl, run_takeDeferred hK, ?_⟩⟩
    exact ⟨_, results_tmp rfl _ _ _, v, rfl, Kd.R_lower (Meek.R (meek_putObj _ hD hK rfl) hR) (by omega), hB.trans (belowK_b (w := w) (Nat.le_refl _) W D _ _ (by omega) hK rfl rfl)⟩
  case stop =>
    rintro D c pre W _ _ h _
    exact h.elim

def props_Names.f : Option (List ByteArray) := some namesL
theorem props_Names.calls (r : List ByteArray) (w : World) (h : props_Names.f = some r) :
    Calls Try.prog 13 #[] w fun e w' => ∃ v0_ : Value, e = .returned (v0_) ∧ Kd.R Kd.string 9 w' w.heap.size (fun _ => True) v0_ r ∧ Below w.heap.size w w' := by
  obtain rfl := Option.some.inj h
  exact callsIn_wide.1 (names_in 3 (by omega) w)
end Go.Proofs.Ytnfnnmmblommiaa.PA
