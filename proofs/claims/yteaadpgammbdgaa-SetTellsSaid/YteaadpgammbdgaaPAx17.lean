-- Printed for this claim by gp.py (a program of this session's over the kit's print).
import Derived.Test.YteaadpgammbdgaaPAx0
import Derived.Test.YteaadpgammbdgaaPAx3
import Derived.Test.YteaadpgammbdgaaPAx5
import Derived.Test.YteaadpgammbdgaaPAx6
import Derived.Test.YteaadpgammbdgaaPAx7
import Derived.Test.YteaadpgammbdgaaPAx8
import Derived.Test.YteaadpgammbdgaaPAx10
import Derived.Test.YteaadpgammbdgaaPAx11
import Derived.Test.YteaadpgammbdgaaHHas
import Derived.Test.YteaadpgammbdgaaHNorm
import Derived.Test.YteaadpgammbdgaaHUnion
namespace Go.Proofs.Yteaadpgammbdgaa.PA
open Go.RowKit Go.Proofs.YteaadpgammbdgaaW.PrintWords Go.Proofs.YteaadpgammbdgaaW.PrintLast Go.Proofs.YteaadpgammbdgaaW.PrintMore
attribute [local go_sem] max2_int min2_int max_two min_two max_three min_three max_four min_four   -- for this text's walks alone
set_option linter.unusedVariables false
set_option linter.unusedSimpArgs false

/-! ### hornbooklaw3_SetTells: function 13 -/
mutual
def hornbooklaw3_SetTells.j0 : Nat → List (S37) → List (S37) → Int → Bool → Option (Bool)
 | 0, _, _, _, _ => none
 | k + 1, x0, x1, x2, x23 => if x23 = true then (some true) else (if ([] : List (S37)).length + x0.length < 17592186044416 then ((uniset_Norm.f (([] : List (S37)) ++ x0)).bind fun bt448 => ((hornbookref3_Norm.f k x0).bind fun bt452 => ((uniset_Least.f x0).bind fun bt456 => ((hornbookref3_Of.f k x0).bind fun t458 => (if bt452.2 = true then (if bt448.2 = 0 then ((hornbookref3_Same.f k bt448.1 bt452.1).bind fun t461 => (if t461 = true then (if (t458.length : Int) > 0 then (if bt456.2 = true then (if 0 < (t458.length : Int) then (if bt456.1 = ((rd_T37 t458 0).f0) then (hornbooklaw3_SetTells.j1 k x0 x1 x2 false) else (hornbooklaw3_SetTells.j1 k x0 x1 x2 true)) else (none)) else (hornbooklaw3_SetTells.j1 k x0 x1 x2 true)) else (if bt456.2 = true then (hornbooklaw3_SetTells.j1 k x0 x1 x2 true) else (hornbooklaw3_SetTells.j1 k x0 x1 x2 (bt456.1 != 0)))) else (hornbooklaw3_SetTells.j1 k x0 x1 x2 true))) else (hornbooklaw3_SetTells.j1 k x0 x1 x2 true)) else (if bt448.2 = 0 then (hornbooklaw3_SetTells.j1 k x0 x1 x2 true) else (if bt448.2 = 30 then ((hornbookref3_Same.f k bt448.1 bt452.1).bind fun t463 => (if t463 = true then (if (t458.length : Int) > 0 then (if bt456.2 = true then (if 0 < (t458.length : Int) then (if bt456.1 = ((rd_T37 t458 0).f0) then (hornbooklaw3_SetTells.j1 k x0 x1 x2 false) else (hornbooklaw3_SetTells.j1 k x0 x1 x2 true)) else (none)) else (hornbooklaw3_SetTells.j1 k x0 x1 x2 true)) else (if bt456.2 = true then (hornbooklaw3_SetTells.j1 k x0 x1 x2 true) else (hornbooklaw3_SetTells.j1 k x0 x1 x2 (bt456.1 != 0)))) else (hornbooklaw3_SetTells.j1 k x0 x1 x2 true))) else (hornbooklaw3_SetTells.j1 k x0 x1 x2 true)))))))) else (none))
def hornbooklaw3_SetTells.j1 : Nat → List (S37) → List (S37) → Int → Bool → Option (Bool)
 | 0, _, _, _, _ => none
 | k + 1, x0, x1, x2, x85 => if x85 = true then (none) else ((uniset_Is.f k x0).bind fun t465 => ((hornbookref3_Is.f k x0).bind fun t466 => (if (t465 == t466) = true then ((uniset_Union.f x0 x1).bind fun t467 => ((hornbookref3_Union.f k x0 x1).bind fun t470 => ((hornbookref3_Same.f k t467 t470).bind fun t473 => (if t473 = true then ((uniset_Inter.f k x0 x1).bind fun t474 => ((hornbookref3_Inter.f k x0 x1).bind fun t477 => ((hornbookref3_Same.f k t474 t477).bind fun t480 => (if t480 = true then ((uniset_Minus.f k x0 x1).bind fun t481 => ((hornbookref3_Minus.f k x0 x1).bind fun t484 => ((hornbookref3_Same.f k t481 t484).bind fun t487 => (if t487 = true then ((uniset_Not.f k x0).bind fun t488 => ((hornbookref3_Not.f k x0).bind fun t491 => ((hornbookref3_Same.f k t488 t491).bind fun t494 => (if t494 = true then ((uniset_Has.f x0 x2).bind fun t495 => ((hornbookref3_Has.f k x0 x2).bind fun t496 => (if (t495 == t496) = true then ((uniset_Count.f k x0).bind fun t497 => ((hornbookref3_Count.f k x0).bind fun t498 => (if t497 = t498 then ((uniset_Same.f k x0 x1).bind fun t499 => ((hornbookref3_Of.f k x0).bind fun t500 => ((hornbookref3_Of.f k x1).bind fun t503 => ((hornbookref3_Same.f k t500 t503).bind fun t506 => (some (t499 == t506)))))) else (none)))) else (none)))) else (none))))) else (none))))) else (none))))) else (none))))) else (none))))
end
def hornbooklaw3_SetTells.f (k : Nat) (l0 : List (S37)) (l1 : List (S37)) (a2 : Int) : Option (Bool) := (hornbooklaw3_known.f k).bind fun t444 => (if t444 = true then (if (l0.length : Int) > 60 then (hornbooklaw3_SetTells.j0 k l0 l1 a2 true) else (hornbooklaw3_SetTells.j0 k l0 l1 a2 (decide ((l1.length : Int) > 60)))) else (none))
theorem hornbooklaw3_SetTells.mono_l : ∀ k, (∀ y0 y1 y2 y3, LeO (hornbooklaw3_SetTells.j0 k y0 y1 y2 y3) (hornbooklaw3_SetTells.j0 (k + 1) y0 y1 y2 y3)) ∧ (∀ y0 y1 y2 y3, LeO (hornbooklaw3_SetTells.j1 k y0 y1 y2 y3) (hornbooklaw3_SetTells.j1 (k + 1) y0 y1 y2 y3))
 | 0 => ⟨fun _ _ _ _ r h => by simp [hornbooklaw3_SetTells.j0] at h, fun _ _ _ _ r h => by simp [hornbooklaw3_SetTells.j1] at h⟩
 | k + 1 => by
  obtain ⟨ih0, ih1⟩ := hornbooklaw3_SetTells.mono_l k
  refine ⟨?_, ?_⟩
  ·intro y0 y1 y2 y3
   unfold hornbooklaw3_SetTells.j0
   repeat' first
   | (with_reducible exact ih0 _ _ _ _)
   | (with_reducible exact ih1 _ _ _ _)
   | (with_reducible exact hornbooklaw3_known.mono _)
   | (with_reducible exact hornbookref3_Count.mono _ _)
   | (with_reducible exact hornbookref3_Has.mono _ _ _)
   | (with_reducible exact hornbookref3_Inter.mono _ _ _)
   | (with_reducible exact hornbookref3_Is.mono _ _)
   | (with_reducible exact hornbookref3_Minus.mono _ _ _)
   | (with_reducible exact hornbookref3_Norm.mono _ _)
   | (with_reducible exact hornbookref3_Not.mono _ _)
   | (with_reducible exact hornbookref3_Of.mono _ _)
   | (with_reducible exact hornbookref3_Same.mono _ _ _)
   | (with_reducible exact hornbookref3_Union.mono _ _ _)
   | (with_reducible exact uniset_Count.mono _ _)
   | (with_reducible exact uniset_Inter.mono _ _ _)
   | (with_reducible exact uniset_Is.mono _ _)
   | (with_reducible exact uniset_Minus.mono _ _ _)
   | (with_reducible exact uniset_Not.mono _ _)
   | (with_reducible exact uniset_Same.mono _ _ _)
   | (with_reducible exact LeO.refl _)
   | (with_reducible exact LeO.none _)
   | (with_reducible refine LeO.ite ?_ ?_)
   | (with_reducible refine LeO.bind ?_ (fun _ => ?_))
   | exact ih0 _ _ _ _
   | exact ih1 _ _ _ _
   | exact hornbooklaw3_known.mono _
   | exact hornbookref3_Count.mono _ _
   | exact hornbookref3_Has.mono _ _ _
   | exact hornbookref3_Inter.mono _ _ _
   | exact hornbookref3_Is.mono _ _
   | exact hornbookref3_Minus.mono _ _ _
   | exact hornbookref3_Norm.mono _ _
   | exact hornbookref3_Not.mono _ _
   | exact hornbookref3_Of.mono _ _
   | exact hornbookref3_Same.mono _ _ _
   | exact hornbookref3_Union.mono _ _ _
   | exact uniset_Count.mono _ _
   | exact uniset_Inter.mono _ _ _
   | exact uniset_Is.mono _ _
   | exact uniset_Minus.mono _ _ _
   | exact uniset_Not.mono _ _
   | exact uniset_Same.mono _ _ _
   | exact LeO.none _
   | refine LeO.ite ?_ ?_
   | refine LeO.bind ?_ (fun _ => ?_)
  ·intro y0 y1 y2 y3
   unfold hornbooklaw3_SetTells.j1
   repeat' first
   | (with_reducible exact ih0 _ _ _ _)
   | (with_reducible exact ih1 _ _ _ _)
   | (with_reducible exact hornbooklaw3_known.mono _)
   | (with_reducible exact hornbookref3_Count.mono _ _)
   | (with_reducible exact hornbookref3_Has.mono _ _ _)
   | (with_reducible exact hornbookref3_Inter.mono _ _ _)
   | (with_reducible exact hornbookref3_Is.mono _ _)
   | (with_reducible exact hornbookref3_Minus.mono _ _ _)
   | (with_reducible exact hornbookref3_Norm.mono _ _)
   | (with_reducible exact hornbookref3_Not.mono _ _)
   | (with_reducible exact hornbookref3_Of.mono _ _)
   | (with_reducible exact hornbookref3_Same.mono _ _ _)
   | (with_reducible exact hornbookref3_Union.mono _ _ _)
   | (with_reducible exact uniset_Count.mono _ _)
   | (with_reducible exact uniset_Inter.mono _ _ _)
   | (with_reducible exact uniset_Is.mono _ _)
   | (with_reducible exact uniset_Minus.mono _ _ _)
   | (with_reducible exact uniset_Not.mono _ _)
   | (with_reducible exact uniset_Same.mono _ _ _)
   | (with_reducible exact LeO.refl _)
   | (with_reducible exact LeO.none _)
   | (with_reducible refine LeO.ite ?_ ?_)
   | (with_reducible refine LeO.bind ?_ (fun _ => ?_))
   | exact ih0 _ _ _ _
   | exact ih1 _ _ _ _
   | exact hornbooklaw3_known.mono _
   | exact hornbookref3_Count.mono _ _
   | exact hornbookref3_Has.mono _ _ _
   | exact hornbookref3_Inter.mono _ _ _
   | exact hornbookref3_Is.mono _ _
   | exact hornbookref3_Minus.mono _ _ _
   | exact hornbookref3_Norm.mono _ _
   | exact hornbookref3_Not.mono _ _
   | exact hornbookref3_Of.mono _ _
   | exact hornbookref3_Same.mono _ _ _
   | exact hornbookref3_Union.mono _ _ _
   | exact uniset_Count.mono _ _
   | exact uniset_Inter.mono _ _ _
   | exact uniset_Is.mono _ _
   | exact uniset_Minus.mono _ _ _
   | exact uniset_Not.mono _ _
   | exact uniset_Same.mono _ _ _
   | exact LeO.none _
   | refine LeO.ite ?_ ?_
   | refine LeO.bind ?_ (fun _ => ?_)
theorem hornbooklaw3_SetTells.mono : ∀ a0 a1 a2 k, LeO (hornbooklaw3_SetTells.f k a0 a1 a2) (hornbooklaw3_SetTells.f (k + 1) a0 a1 a2) := by
 intro a0 a1 a2 k
 obtain ⟨ih0, ih1⟩ := hornbooklaw3_SetTells.mono_l k
 unfold hornbooklaw3_SetTells.f
 repeat' first
   | (with_reducible exact ih0 _ _ _ _)
   | (with_reducible exact ih1 _ _ _ _)
   | (with_reducible exact hornbooklaw3_known.mono _)
   | (with_reducible exact hornbookref3_Count.mono _ _)
   | (with_reducible exact hornbookref3_Has.mono _ _ _)
   | (with_reducible exact hornbookref3_Inter.mono _ _ _)
   | (with_reducible exact hornbookref3_Is.mono _ _)
   | (with_reducible exact hornbookref3_Minus.mono _ _ _)
   | (with_reducible exact hornbookref3_Norm.mono _ _)
   | (with_reducible exact hornbookref3_Not.mono _ _)
   | (with_reducible exact hornbookref3_Of.mono _ _)
   | (with_reducible exact hornbookref3_Same.mono _ _ _)
   | (with_reducible exact hornbookref3_Union.mono _ _ _)
   | (with_reducible exact uniset_Count.mono _ _)
   | (with_reducible exact uniset_Inter.mono _ _ _)
   | (with_reducible exact uniset_Is.mono _ _)
   | (with_reducible exact uniset_Minus.mono _ _ _)
   | (with_reducible exact uniset_Not.mono _ _)
   | (with_reducible exact uniset_Same.mono _ _ _)
   | (with_reducible exact LeO.refl _)
   | (with_reducible exact LeO.none _)
   | (with_reducible refine LeO.ite ?_ ?_)
   | (with_reducible refine LeO.bind ?_ (fun _ => ?_))
   | exact ih0 _ _ _ _
   | exact ih1 _ _ _ _
   | exact hornbooklaw3_known.mono _
   | exact hornbookref3_Count.mono _ _
   | exact hornbookref3_Has.mono _ _ _
   | exact hornbookref3_Inter.mono _ _ _
   | exact hornbookref3_Is.mono _ _
   | exact hornbookref3_Minus.mono _ _ _
   | exact hornbookref3_Norm.mono _ _
   | exact hornbookref3_Not.mono _ _
   | exact hornbookref3_Of.mono _ _
   | exact hornbookref3_Same.mono _ _ _
   | exact hornbookref3_Union.mono _ _ _
   | exact uniset_Count.mono _ _
   | exact uniset_Inter.mono _ _ _
   | exact uniset_Is.mono _ _
   | exact uniset_Minus.mono _ _ _
   | exact uniset_Not.mono _ _
   | exact uniset_Same.mono _ _ _
   | exact LeO.none _
   | refine LeO.ite ?_ ?_
   | refine LeO.bind ?_ (fun _ => ?_)
set_option maxHeartbeats 8000000 in
set_option maxRecDepth 100000 in
theorem hornbooklaw3_SetTells.calls (k : Nat) (A0 : Option Addr) (c0 : Nat) (l0 : List (S37)) (A1 : Option Addr) (c1 : Nat) (l1 : List (S37)) (a2 : Int) (r : Bool) (w : World) (hr0 : Kd.C k37 w A0 l0.length l0) (hc0 : l0.length ≤ c0) (hr1 : Kd.C k37 w A1 l1.length l1) (hc1 : l1.length ≤ c1) (h : hornbooklaw3_SetTells.f k l0 l1 a2 = some r) :
  Calls Try.prog 13 #[.slice A0 l0.length c0, .slice A1 l1.length c1, .int .i32 a2] w fun e w' => e = .returned (.bool r) ∧ Below w.heap.size w w' := by
 have HR0 := Aside0.mk hr0
 have HC0 := Aside0.mk hc0
 clear hr0 hc0
 have HR1 := Aside0.mk hr1
 have HC1 := Aside0.mk hc1
 clear hr1 hc1
 have HB := Aside0.mk (Below.refl w.heap.size w)
 have H : ((hornbooklaw3_known.f k).bind fun t444 => (if t444 = true then (if (l0.length : Int) > 60 then (hornbooklaw3_SetTells.j0 k l0 l1 a2 true) else (hornbooklaw3_SetTells.j0 k l0 l1 a2 (decide ((l1.length : Int) > 60)))) else (none))) = some r := h
 clear h
 replace H := Option.bind_eq_some_iff.mp H
 obtain ⟨t444, A40, H⟩ := H
 replace H : (if t444 = true then (if (l0.length : Int) > 60 then (hornbooklaw3_SetTells.j0 k l0 l1 a2 true) else (hornbooklaw3_SetTells.j0 k l0 l1 a2 (decide ((l1.length : Int) > 60)))) else (none)) = some r := H
 have A4 := Aside0.mk A40
 clear A40
 by_cases c5 : t444 = true
 ·subst c5
  have H1 : (if (l0.length : Int) > 60 then (hornbooklaw3_SetTells.j0 k l0 l1 a2 true) else (hornbooklaw3_SetTells.j0 k l0 l1 a2 (decide ((l1.length : Int) > 60)))) = some r := by rw [if_pos rfl] at H; exact H
  clear H
  have H := H1
  clear H1
  have HC6 := Aside0.mk H
  clear H
  go_enter Try.func13, Try.ntmps13
  go_upto_region 3 with (first | ((with_reducible refine gate_callee (f := 19) rfl ?_); refine goesL_ (some 14) rfl rfl Try.func19 (by kernel_rfl) rfl #[] rfl (by (try simp only [List.map_toArray, List.map_cons, List.map_nil]); first | done | rfl | (simp only [List.length_drop, List.length_take]; rfl)) ?_; (with_reducible refine (hornbooklaw3_known.calls k  true _ A4.out).mono ?_); rintro e w7 ⟨rfl, hb⟩; refine ⟨_, rfl, ?_⟩; have n0_ := Aside0.mk (below_step (by repeat (first | (with_reducible first | exact HB.out | apply below_alloc | apply pw_below_drewN | apply below_drew1) | exact HB.out)) hb); clear HB; have HB := n0_; clear n0_; (try clear hb); (try clear hb2); (try clear hk); (try clear hi); clear A4) | (go_at_call 19; (with_reducible refine (hornbooklaw3_known.calls k  true _ A4.out).mono ?_); rintro e w7 ⟨rfl, hb⟩; have n0_ := Aside0.mk (below_step (by repeat (first | (with_reducible first | exact HB.out | apply below_alloc | apply pw_below_drewN | apply below_drew1) | exact HB.out)) hb); clear HB; have HB := n0_; clear n0_; (try clear hb); (try clear hb2); (try clear hk); (try clear hi); clear A4))
  (try simp only [Act.put, List.setIfInBounds_toArray, List.set_cons_zero, List.set_cons_succ])
  go_cut [23] (fun v23 wc => ∃ (kq : Nat) (x23_5 : Bool), v23 = .bool x23_5 ∧ Aside0 (hornbooklaw3_SetTells.j0 kq l0 l1 a2 x23_5 = some r) ∧ Aside0 (kq ≤ k) ∧ Aside0 (Below w.heap.size w wc))
  case first =>
   have H := HC6.out
   clear HC6
   by_cases c8 : (l0.length : Int) > 60
   ·rw [if_pos c8] at H
    have c8b0 : decide (60 < (l0.length : Int)) = true := decide_eq_true c8
    have c8b1 : decide (60 < l0.length) = true := decide_eq_true (by omega)
    clear c8
    (first | rw [c8b0] | (simp only [i64_w, i32_w]; rw [c8b0]) | skip)
    have H' := Aside0.mk H
    clear H
    go_wp2
    go_meet
    case rel => exact ⟨_, (true), (by first | rfl | (simp; done) | (simp [*]; done)), H', ⟨by first | omega | exact Nat.le_refl _⟩, ⟨by repeat (first | (with_reducible first | exact HB.out | apply below_alloc | apply pw_below_drewN | apply below_drew1) | exact HB.out)⟩⟩
   ·rw [if_neg c8] at H
    have c8b0 : decide (60 < (l0.length : Int)) = false := decide_eq_false c8
    have c8b1 : decide (60 < l0.length) = false := decide_eq_false (by omega)
    clear c8
    (first | rw [c8b0] | (simp only [i64_w, i32_w]; rw [c8b0]) | skip)
    have H' := Aside0.mk H
    clear H
    go_wp2
    go_meet
    case rel => exact ⟨_, (decide ((l1.length : Int) > 60)), (by first | rfl | (simp; done) | (simp [*]; done)), H', ⟨by first | omega | exact Nat.le_refl _⟩, ⟨by repeat (first | (with_reducible first | exact HB.out | apply below_alloc | apply pw_below_drewN | apply below_drew1) | exact HB.out)⟩⟩
  case rest =>
   clear HC6
   try clear c1
   try clear p2
   try clear c5
   try clear c8
   try clear c8b0
   try clear c8b1
   obtain ⟨kq, x23_5, rfl, HA, HJ5, HB⟩ := hcut
   cases kq with
   | zero => exact absurd HA.out (by simp [hornbooklaw3_SetTells.j0])
   | succ kj5 =>
    have H := HA.out
    clear HA
    simp only [hornbooklaw3_SetTells.j0] at H
    by_cases c9 : x23_5 = true
    ·subst c9
     have H1 : (some true) = some r := by rw [if_pos rfl] at H; exact H
     clear H
     have H := H1
     clear H1
     obtain rfl := Option.some.inj H
     go_wp2
     go_ret
     exact ⟨by first | rfl | (simp [errW_none, errW_some] <;> rfl) | (simp [*, errW_none, errW_some] <;> rfl), by repeat (first | (with_reducible first | exact HB.out | apply below_alloc | apply pw_below_drewN | apply below_drew1) | exact HB.out)⟩
    ·replace c9 := Bool.eq_false_iff.mpr c9
     subst c9
     have H1 : (if ([] : List (S37)).length + l0.length < 17592186044416 then ((uniset_Norm.f (([] : List (S37)) ++ l0)).bind fun bt448 => ((hornbookref3_Norm.f kj5 l0).bind fun bt452 => ((uniset_Least.f l0).bind fun bt456 => ((hornbookref3_Of.f kj5 l0).bind fun t458 => (if bt452.2 = true then (if bt448.2 = 0 then ((hornbookref3_Same.f kj5 bt448.1 bt452.1).bind fun t461 => (if t461 = true then (if (t458.length : Int) > 0 then (if bt456.2 = true then (if 0 < (t458.length : Int) then (if bt456.1 = ((rd_T37 t458 0).f0) then (hornbooklaw3_SetTells.j1 kj5 l0 l1 a2 false) else (hornbooklaw3_SetTells.j1 kj5 l0 l1 a2 true)) else (none)) else (hornbooklaw3_SetTells.j1 kj5 l0 l1 a2 true)) else (if bt456.2 = true then (hornbooklaw3_SetTells.j1 kj5 l0 l1 a2 true) else (hornbooklaw3_SetTells.j1 kj5 l0 l1 a2 (bt456.1 != 0)))) else (hornbooklaw3_SetTells.j1 kj5 l0 l1 a2 true))) else (hornbooklaw3_SetTells.j1 kj5 l0 l1 a2 true)) else (if bt448.2 = 0 then (hornbooklaw3_SetTells.j1 kj5 l0 l1 a2 true) else (if bt448.2 = 30 then ((hornbookref3_Same.f kj5 bt448.1 bt452.1).bind fun t463 => (if t463 = true then (if (t458.length : Int) > 0 then (if bt456.2 = true then (if 0 < (t458.length : Int) then (if bt456.1 = ((rd_T37 t458 0).f0) then (hornbooklaw3_SetTells.j1 kj5 l0 l1 a2 false) else (hornbooklaw3_SetTells.j1 kj5 l0 l1 a2 true)) else (none)) else (hornbooklaw3_SetTells.j1 kj5 l0 l1 a2 true)) else (if bt456.2 = true then (hornbooklaw3_SetTells.j1 kj5 l0 l1 a2 true) else (hornbooklaw3_SetTells.j1 kj5 l0 l1 a2 (bt456.1 != 0)))) else (hornbooklaw3_SetTells.j1 kj5 l0 l1 a2 true))) else (hornbooklaw3_SetTells.j1 kj5 l0 l1 a2 true)))))))) else (none)) = some r := by rw [if_neg (show ¬ (false = true) by decide)] at H; exact H
     clear H
     have H := H1
     clear H1
     by_cases c10 : ([] : List (S37)).length + l0.length < 17592186044416
     ·rw [if_pos c10] at H
      have LMc10 := Aside0.mk c10
      clear c10
      obtain ⟨y445, hy445⟩ : ∃ y_ : List (S37), y_ = (([] : List (S37)) ++ l0) := ⟨_, rfl⟩
      replace H : ((uniset_Norm.f y445).bind fun bt448 => ((hornbookref3_Norm.f kj5 l0).bind fun bt452 => ((uniset_Least.f l0).bind fun bt456 => ((hornbookref3_Of.f kj5 l0).bind fun t458 => (if bt452.2 = true then (if bt448.2 = 0 then ((hornbookref3_Same.f kj5 bt448.1 bt452.1).bind fun t461 => (if t461 = true then (if (t458.length : Int) > 0 then (if bt456.2 = true then (if 0 < (t458.length : Int) then (if bt456.1 = ((rd_T37 t458 0).f0) then (hornbooklaw3_SetTells.j1 kj5 l0 l1 a2 false) else (hornbooklaw3_SetTells.j1 kj5 l0 l1 a2 true)) else (none)) else (hornbooklaw3_SetTells.j1 kj5 l0 l1 a2 true)) else (if bt456.2 = true then (hornbooklaw3_SetTells.j1 kj5 l0 l1 a2 true) else (hornbooklaw3_SetTells.j1 kj5 l0 l1 a2 (bt456.1 != 0)))) else (hornbooklaw3_SetTells.j1 kj5 l0 l1 a2 true))) else (hornbooklaw3_SetTells.j1 kj5 l0 l1 a2 true)) else (if bt448.2 = 0 then (hornbooklaw3_SetTells.j1 kj5 l0 l1 a2 true) else (if bt448.2 = 30 then ((hornbookref3_Same.f kj5 bt448.1 bt452.1).bind fun t463 => (if t463 = true then (if (t458.length : Int) > 0 then (if bt456.2 = true then (if 0 < (t458.length : Int) then (if bt456.1 = ((rd_T37 t458 0).f0) then (hornbooklaw3_SetTells.j1 kj5 l0 l1 a2 false) else (hornbooklaw3_SetTells.j1 kj5 l0 l1 a2 true)) else (none)) else (hornbooklaw3_SetTells.j1 kj5 l0 l1 a2 true)) else (if bt456.2 = true then (hornbooklaw3_SetTells.j1 kj5 l0 l1 a2 true) else (hornbooklaw3_SetTells.j1 kj5 l0 l1 a2 (bt456.1 != 0)))) else (hornbooklaw3_SetTells.j1 kj5 l0 l1 a2 true))) else (hornbooklaw3_SetTells.j1 kj5 l0 l1 a2 true)))))))) = some r := by first | (rw [hy445]; with_reducible exact H) | (have H2_ := (Option.bind_some _ _).symm.trans H; rw [hy445]; with_reducible exact H2_) | (have H2_ := (Option.bind_some _ _).symm.trans H; with_reducible exact H2_) | with_reducible exact H | (rw [hy445]; exact H) | exact H
      have Ny445 := Aside0.mk hy445
      clear hy445
      replace H := Option.bind_eq_some_iff.mp H
      obtain ⟨⟨t448, t449⟩, A110, H⟩ := H
      replace H : ((hornbookref3_Norm.f kj5 l0).bind fun bt452 => ((uniset_Least.f l0).bind fun bt456 => ((hornbookref3_Of.f kj5 l0).bind fun t458 => (if bt452.2 = true then (if t449 = 0 then ((hornbookref3_Same.f kj5 t448 bt452.1).bind fun t461 => (if t461 = true then (if (t458.length : Int) > 0 then (if bt456.2 = true then (if 0 < (t458.length : Int) then (if bt456.1 = ((rd_T37 t458 0).f0) then (hornbooklaw3_SetTells.j1 kj5 l0 l1 a2 false) else (hornbooklaw3_SetTells.j1 kj5 l0 l1 a2 true)) else (none)) else (hornbooklaw3_SetTells.j1 kj5 l0 l1 a2 true)) else (if bt456.2 = true then (hornbooklaw3_SetTells.j1 kj5 l0 l1 a2 true) else (hornbooklaw3_SetTells.j1 kj5 l0 l1 a2 (bt456.1 != 0)))) else (hornbooklaw3_SetTells.j1 kj5 l0 l1 a2 true))) else (hornbooklaw3_SetTells.j1 kj5 l0 l1 a2 true)) else (if t449 = 0 then (hornbooklaw3_SetTells.j1 kj5 l0 l1 a2 true) else (if t449 = 30 then ((hornbookref3_Same.f kj5 t448 bt452.1).bind fun t463 => (if t463 = true then (if (t458.length : Int) > 0 then (if bt456.2 = true then (if 0 < (t458.length : Int) then (if bt456.1 = ((rd_T37 t458 0).f0) then (hornbooklaw3_SetTells.j1 kj5 l0 l1 a2 false) else (hornbooklaw3_SetTells.j1 kj5 l0 l1 a2 true)) else (none)) else (hornbooklaw3_SetTells.j1 kj5 l0 l1 a2 true)) else (if bt456.2 = true then (hornbooklaw3_SetTells.j1 kj5 l0 l1 a2 true) else (hornbooklaw3_SetTells.j1 kj5 l0 l1 a2 (bt456.1 != 0)))) else (hornbooklaw3_SetTells.j1 kj5 l0 l1 a2 true))) else (hornbooklaw3_SetTells.j1 kj5 l0 l1 a2 true))))))) = some r := H
      have A11 := Aside0.mk A110
      clear A110
      replace H := Option.bind_eq_some_iff.mp H
      obtain ⟨⟨t452, t453⟩, A120, H⟩ := H
      replace H : ((uniset_Least.f l0).bind fun bt456 => ((hornbookref3_Of.f kj5 l0).bind fun t458 => (if t453 = true then (if t449 = 0 then ((hornbookref3_Same.f kj5 t448 t452).bind fun t461 => (if t461 = true then (if (t458.length : Int) > 0 then (if bt456.2 = true then (if 0 < (t458.length : Int) then (if bt456.1 = ((rd_T37 t458 0).f0) then (hornbooklaw3_SetTells.j1 kj5 l0 l1 a2 false) else (hornbooklaw3_SetTells.j1 kj5 l0 l1 a2 true)) else (none)) else (hornbooklaw3_SetTells.j1 kj5 l0 l1 a2 true)) else (if bt456.2 = true then (hornbooklaw3_SetTells.j1 kj5 l0 l1 a2 true) else (hornbooklaw3_SetTells.j1 kj5 l0 l1 a2 (bt456.1 != 0)))) else (hornbooklaw3_SetTells.j1 kj5 l0 l1 a2 true))) else (hornbooklaw3_SetTells.j1 kj5 l0 l1 a2 true)) else (if t449 = 0 then (hornbooklaw3_SetTells.j1 kj5 l0 l1 a2 true) else (if t449 = 30 then ((hornbookref3_Same.f kj5 t448 t452).bind fun t463 => (if t463 = true then (if (t458.length : Int) > 0 then (if bt456.2 = true then (if 0 < (t458.length : Int) then (if bt456.1 = ((rd_T37 t458 0).f0) then (hornbooklaw3_SetTells.j1 kj5 l0 l1 a2 false) else (hornbooklaw3_SetTells.j1 kj5 l0 l1 a2 true)) else (none)) else (hornbooklaw3_SetTells.j1 kj5 l0 l1 a2 true)) else (if bt456.2 = true then (hornbooklaw3_SetTells.j1 kj5 l0 l1 a2 true) else (hornbooklaw3_SetTells.j1 kj5 l0 l1 a2 (bt456.1 != 0)))) else (hornbooklaw3_SetTells.j1 kj5 l0 l1 a2 true))) else (hornbooklaw3_SetTells.j1 kj5 l0 l1 a2 true)))))) = some r := H
      have A12 := Aside0.mk A120
      clear A120
      replace H := Option.bind_eq_some_iff.mp H
      obtain ⟨⟨t456, t457⟩, A130, H⟩ := H
      replace H : ((hornbookref3_Of.f kj5 l0).bind fun t458 => (if t453 = true then (if t449 = 0 then ((hornbookref3_Same.f kj5 t448 t452).bind fun t461 => (if t461 = true then (if (t458.length : Int) > 0 then (if t457 = true then (if 0 < (t458.length : Int) then (if t456 = ((rd_T37 t458 0).f0) then (hornbooklaw3_SetTells.j1 kj5 l0 l1 a2 false) else (hornbooklaw3_SetTells.j1 kj5 l0 l1 a2 true)) else (none)) else (hornbooklaw3_SetTells.j1 kj5 l0 l1 a2 true)) else (if t457 = true then (hornbooklaw3_SetTells.j1 kj5 l0 l1 a2 true) else (hornbooklaw3_SetTells.j1 kj5 l0 l1 a2 (t456 != 0)))) else (hornbooklaw3_SetTells.j1 kj5 l0 l1 a2 true))) else (hornbooklaw3_SetTells.j1 kj5 l0 l1 a2 true)) else (if t449 = 0 then (hornbooklaw3_SetTells.j1 kj5 l0 l1 a2 true) else (if t449 = 30 then ((hornbookref3_Same.f kj5 t448 t452).bind fun t463 => (if t463 = true then (if (t458.length : Int) > 0 then (if t457 = true then (if 0 < (t458.length : Int) then (if t456 = ((rd_T37 t458 0).f0) then (hornbooklaw3_SetTells.j1 kj5 l0 l1 a2 false) else (hornbooklaw3_SetTells.j1 kj5 l0 l1 a2 true)) else (none)) else (hornbooklaw3_SetTells.j1 kj5 l0 l1 a2 true)) else (if t457 = true then (hornbooklaw3_SetTells.j1 kj5 l0 l1 a2 true) else (hornbooklaw3_SetTells.j1 kj5 l0 l1 a2 (t456 != 0)))) else (hornbooklaw3_SetTells.j1 kj5 l0 l1 a2 true))) else (hornbooklaw3_SetTells.j1 kj5 l0 l1 a2 true))))) = some r := H
      have A13 := Aside0.mk A130
      clear A130
      replace H := Option.bind_eq_some_iff.mp H
      obtain ⟨t458, A140, H⟩ := H
      replace H : (if t453 = true then (if t449 = 0 then ((hornbookref3_Same.f kj5 t448 t452).bind fun t461 => (if t461 = true then (if (t458.length : Int) > 0 then (if t457 = true then (if 0 < (t458.length : Int) then (if t456 = ((rd_T37 t458 0).f0) then (hornbooklaw3_SetTells.j1 kj5 l0 l1 a2 false) else (hornbooklaw3_SetTells.j1 kj5 l0 l1 a2 true)) else (none)) else (hornbooklaw3_SetTells.j1 kj5 l0 l1 a2 true)) else (if t457 = true then (hornbooklaw3_SetTells.j1 kj5 l0 l1 a2 true) else (hornbooklaw3_SetTells.j1 kj5 l0 l1 a2 (t456 != 0)))) else (hornbooklaw3_SetTells.j1 kj5 l0 l1 a2 true))) else (hornbooklaw3_SetTells.j1 kj5 l0 l1 a2 true)) else (if t449 = 0 then (hornbooklaw3_SetTells.j1 kj5 l0 l1 a2 true) else (if t449 = 30 then ((hornbookref3_Same.f kj5 t448 t452).bind fun t463 => (if t463 = true then (if (t458.length : Int) > 0 then (if t457 = true then (if 0 < (t458.length : Int) then (if t456 = ((rd_T37 t458 0).f0) then (hornbooklaw3_SetTells.j1 kj5 l0 l1 a2 false) else (hornbooklaw3_SetTells.j1 kj5 l0 l1 a2 true)) else (none)) else (hornbooklaw3_SetTells.j1 kj5 l0 l1 a2 true)) else (if t457 = true then (hornbooklaw3_SetTells.j1 kj5 l0 l1 a2 true) else (hornbooklaw3_SetTells.j1 kj5 l0 l1 a2 (t456 != 0)))) else (hornbooklaw3_SetTells.j1 kj5 l0 l1 a2 true))) else (hornbooklaw3_SetTells.j1 kj5 l0 l1 a2 true)))) = some r := H
      have A14 := Aside0.mk A140
      clear A140
      have HC15 := Aside0.mk H
      clear H
      go_upto_region 9 with (first | ((with_reducible refine gate_builtin (b := .append) (xs := #[.const (.slice none 0 0), .tmp 25]) rfl ?_); (try (refine gate_guard (by rfl) ?_; dsimp only)); at_builtin; refine Kd.R_append_rows k37 (w0 := w) w.heap.size rfl (.const (.slice none 0 0)) (.tmp 25) 34 37 (.agg #[(.int .i32 0), (.int .i32 0)]) 8 rfl Try.underlying34 info37 rfl (by decide) (by omega) (.slice none 0 0) ([] : List (S37)) l0 _ _ _ (fun _ => True) (fun _ => False) rfl rfl ?aO ?aR (fun _ _ h => h) (fun _ h => h.elim) ?aF ?aB ?aS ?aL ?_; (case aR => repeat (first | exact (Kd.C_below HR0.out HB.out) | (with_reducible refine Kd.C_alloc ?_ _) | (with_reducible refine Kd.C_drewN ?_ _) | (with_reducible refine Kd.C_drew ?_))); (case aB => exact (by repeat (first | (with_reducible first | exact HB.out | apply below_alloc | apply pw_below_drewN | apply below_drew1) | exact HB.out))); (case aF => exact (fun _ _ => trivial)); (case aO => exact ((Kd.R_nil _ _ _ _ (fun _ => True)))); (case aS => exact (below_size (by repeat (first | (with_reducible first | exact HB.out | apply below_alloc | apply pw_below_drewN | apply below_drew1) | exact HB.out)))); (case aL => have := LMc10.out; omega); intro v446 w16 ho hb hg hat; rw [← Ny445.out] at ho; have n0_ := Aside0.mk (hb); have n1_ := Aside0.mk (ho); clear HB; have HB := n0_; have HO447 := n1_; clear n0_ n1_; clear ho hb hg hat; obtain ⟨Ao17, co17, eo17⟩ := Kd.R_slice HO447.out; subst eo17) | ((with_reducible refine gate_callee (f := 20) rfl ?_); refine goesL_ (some 27) rfl rfl Try.func20 (by kernel_rfl) rfl #[.slice Ao17 y445.length co17] rfl (by (try simp only [List.map_toArray, List.map_cons, List.map_nil]); first | done | rfl | (simp only [List.length_drop, List.length_take]; rfl)) ?_; (with_reducible refine (uniset_Norm.calls _ _ y445 t448 t449 _ ?side1 ?side2 A11.out).mono ?_); (case side1 => repeat (first | exact (Kd.R_reads' HO447.out).2.2 | (with_reducible refine Kd.C_alloc ?_ _) | (with_reducible refine Kd.C_drewN ?_ _) | (with_reducible refine Kd.C_drew ?_))); (case side2 => exact (Kd.R_reads' HO447.out).2.1); rintro e w18 ⟨v450, rfl, ho0, hb⟩; refine ⟨_, rfl, ?_⟩; have n0_ := Aside0.mk (Kd.R_elder' (by (with_reducible repeat (first | apply Kd.R_alloc | apply Kd.R_drewN | apply Kd.R_drew)); exact HO447.out) (Kd.R_base ho0) hb); have n1_ := Aside0.mk (Kd.R_lower (Kd.R_new' ho0 (Kd.R_lt (by (with_reducible repeat (first | apply Kd.R_alloc | apply Kd.R_drewN | apply Kd.R_drew)); exact HO447.out))) (below_size (by repeat (first | (with_reducible first | exact HB.out | apply below_alloc | apply pw_below_drewN | apply below_drew1) | exact HB.out)))); have n2_ := Aside0.mk (below_step (by repeat (first | (with_reducible first | exact HB.out | apply below_alloc | apply pw_below_drewN | apply below_drew1) | exact HB.out)) hb); clear HO447; clear HB; have HO447 := n0_; have HO451 := n1_; have HB := n2_; clear n0_ n1_ n2_; (try clear hb); (try clear hb2); (try clear hk); (try clear hi); (try clear ho0); clear A11) | (go_at_call 20; (with_reducible refine (uniset_Norm.calls _ _ y445 t448 t449 _ ?side1 ?side2 A11.out).mono ?_); (case side1 => repeat (first | exact (Kd.R_reads' HO447.out).2.2 | (with_reducible refine Kd.C_alloc ?_ _) | (with_reducible refine Kd.C_drewN ?_ _) | (with_reducible refine Kd.C_drew ?_))); (case side2 => exact (Kd.R_reads' HO447.out).2.1); rintro e w18 ⟨v450, rfl, ho0, hb⟩; have n0_ := Aside0.mk (Kd.R_elder' (by (with_reducible repeat (first | apply Kd.R_alloc | apply Kd.R_drewN | apply Kd.R_drew)); exact HO447.out) (Kd.R_base ho0) hb); have n1_ := Aside0.mk (Kd.R_lower (Kd.R_new' ho0 (Kd.R_lt (by (with_reducible repeat (first | apply Kd.R_alloc | apply Kd.R_drewN | apply Kd.R_drew)); exact HO447.out))) (below_size (by repeat (first | (with_reducible first | exact HB.out | apply below_alloc | apply pw_below_drewN | apply below_drew1) | exact HB.out)))); have n2_ := Aside0.mk (below_step (by repeat (first | (with_reducible first | exact HB.out | apply below_alloc | apply pw_below_drewN | apply below_drew1) | exact HB.out)) hb); clear HO447; clear HB; have HO447 := n0_; have HO451 := n1_; have HB := n2_; clear n0_ n1_ n2_; (try clear hb); (try clear hb2); (try clear hk); (try clear hi); (try clear ho0); clear A11) | ((with_reducible refine gate_callee (f := 36) rfl ?_); refine goesL_ (some 32) rfl rfl Try.func36 (by kernel_rfl) rfl #[.slice A0 l0.length c0] rfl (by (try simp only [List.map_toArray, List.map_cons, List.map_nil]); first | done | rfl | (simp only [List.length_drop, List.length_take]; rfl)) ?_; (with_reducible refine (hornbookref3_Norm.calls kj5 _ _ l0 t452 t453 _ ?side1 ?side2 A12.out).mono ?_); (case side1 => repeat (first | exact (Kd.C_below HR0.out HB.out) | (with_reducible refine Kd.C_alloc ?_ _) | (with_reducible refine Kd.C_drewN ?_ _) | (with_reducible refine Kd.C_drew ?_))); (case side2 => exact HC0.out); rintro e w19 ⟨v454, rfl, ho0, hb⟩; refine ⟨_, rfl, ?_⟩; have n0_ := Aside0.mk (Kd.R_elder' (by (with_reducible repeat (first | apply Kd.R_alloc | apply Kd.R_drewN | apply Kd.R_drew)); exact HO447.out) (Kd.R_base ho0) hb); have n1_ := Aside0.mk (Kd.R_elder' (by (with_reducible repeat (first | apply Kd.R_alloc | apply Kd.R_drewN | apply Kd.R_drew)); exact HO451.out) (Kd.R_base ho0) hb); have n2_ := Aside0.mk (Kd.R_lower (Kd.R_new' (Kd.R_new' ho0 (Kd.R_lt (by (with_reducible repeat (first | apply Kd.R_alloc | apply Kd.R_drewN | apply Kd.R_drew)); exact HO447.out))) (Kd.R_lt (by (with_reducible repeat (first | apply Kd.R_alloc | apply Kd.R_drewN | apply Kd.R_drew)); exact HO451.out))) (below_size (by repeat (first | (with_reducible first | exact HB.out | apply below_alloc | apply pw_below_drewN | apply below_drew1) | exact HB.out)))); have n3_ := Aside0.mk (below_step (by repeat (first | (with_reducible first | exact HB.out | apply below_alloc | apply pw_below_drewN | apply below_drew1) | exact HB.out)) hb); clear HO447; clear HO451; clear HB; have HO447 := n0_; have HO451 := n1_; have HO455 := n2_; have HB := n3_; clear n0_ n1_ n2_ n3_; (try clear hb); (try clear hb2); (try clear hk); (try clear hi); (try clear ho0); clear A12) | (go_at_call 36; (with_reducible refine (hornbookref3_Norm.calls kj5 _ _ l0 t452 t453 _ ?side1 ?side2 A12.out).mono ?_); (case side1 => repeat (first | exact (Kd.C_below HR0.out HB.out) | (with_reducible refine Kd.C_alloc ?_ _) | (with_reducible refine Kd.C_drewN ?_ _) | (with_reducible refine Kd.C_drew ?_))); (case side2 => exact HC0.out); rintro e w19 ⟨v454, rfl, ho0, hb⟩; have n0_ := Aside0.mk (Kd.R_elder' (by (with_reducible repeat (first | apply Kd.R_alloc | apply Kd.R_drewN | apply Kd.R_drew)); exact HO447.out) (Kd.R_base ho0) hb); have n1_ := Aside0.mk (Kd.R_elder' (by (with_reducible repeat (first | apply Kd.R_alloc | apply Kd.R_drewN | apply Kd.R_drew)); exact HO451.out) (Kd.R_base ho0) hb); have n2_ := Aside0.mk (Kd.R_lower (Kd.R_new' (Kd.R_new' ho0 (Kd.R_lt (by (with_reducible repeat (first | apply Kd.R_alloc | apply Kd.R_drewN | apply Kd.R_drew)); exact HO447.out))) (Kd.R_lt (by (with_reducible repeat (first | apply Kd.R_alloc | apply Kd.R_drewN | apply Kd.R_drew)); exact HO451.out))) (below_size (by repeat (first | (with_reducible first | exact HB.out | apply below_alloc | apply pw_below_drewN | apply below_drew1) | exact HB.out)))); have n3_ := Aside0.mk (below_step (by repeat (first | (with_reducible first | exact HB.out | apply below_alloc | apply pw_below_drewN | apply below_drew1) | exact HB.out)) hb); clear HO447; clear HO451; clear HB; have HO447 := n0_; have HO451 := n1_; have HO455 := n2_; have HB := n3_; clear n0_ n1_ n2_ n3_; (try clear hb); (try clear hb2); (try clear hk); (try clear hi); (try clear ho0); clear A12) | ((with_reducible refine gate_callee (f := 31) rfl ?_); refine goesL_ (some 37) rfl rfl Try.func31 (by kernel_rfl) rfl #[.slice A0 l0.length c0] rfl (by (try simp only [List.map_toArray, List.map_cons, List.map_nil]); first | done | rfl | (simp only [List.length_drop, List.length_take]; rfl)) ?_; (with_reducible refine (uniset_Least.calls _ _ l0 t456 t457 _ ?side1 ?side2 A13.out).mono ?_); (case side1 => repeat (first | exact (Kd.C_below HR0.out HB.out) | (with_reducible refine Kd.C_alloc ?_ _) | (with_reducible refine Kd.C_drewN ?_ _) | (with_reducible refine Kd.C_drew ?_))); (case side2 => exact HC0.out); rintro e w20 ⟨rfl, hb⟩; refine ⟨_, rfl, ?_⟩; have n0_ := Aside0.mk (Kd.R_below (by (with_reducible repeat (first | apply Kd.R_alloc | apply Kd.R_drewN | apply Kd.R_drew)); exact HO447.out) hb); have n1_ := Aside0.mk (Kd.R_below (by (with_reducible repeat (first | apply Kd.R_alloc | apply Kd.R_drewN | apply Kd.R_drew)); exact HO451.out) hb); have n2_ := Aside0.mk (Kd.R_below (by (with_reducible repeat (first | apply Kd.R_alloc | apply Kd.R_drewN | apply Kd.R_drew)); exact HO455.out) hb); have n3_ := Aside0.mk (below_step (by repeat (first | (with_reducible first | exact HB.out | apply below_alloc | apply pw_below_drewN | apply below_drew1) | exact HB.out)) hb); clear HO447; clear HO451; clear HO455; clear HB; have HO447 := n0_; have HO451 := n1_; have HO455 := n2_; have HB := n3_; clear n0_ n1_ n2_ n3_; (try clear hb); (try clear hb2); (try clear hk); (try clear hi); clear A13) | (go_at_call 31; (with_reducible refine (uniset_Least.calls _ _ l0 t456 t457 _ ?side1 ?side2 A13.out).mono ?_); (case side1 => repeat (first | exact (Kd.C_below HR0.out HB.out) | (with_reducible refine Kd.C_alloc ?_ _) | (with_reducible refine Kd.C_drewN ?_ _) | (with_reducible refine Kd.C_drew ?_))); (case side2 => exact HC0.out); rintro e w20 ⟨rfl, hb⟩; have n0_ := Aside0.mk (Kd.R_below (by (with_reducible repeat (first | apply Kd.R_alloc | apply Kd.R_drewN | apply Kd.R_drew)); exact HO447.out) hb); have n1_ := Aside0.mk (Kd.R_below (by (with_reducible repeat (first | apply Kd.R_alloc | apply Kd.R_drewN | apply Kd.R_drew)); exact HO451.out) hb); have n2_ := Aside0.mk (Kd.R_below (by (with_reducible repeat (first | apply Kd.R_alloc | apply Kd.R_drewN | apply Kd.R_drew)); exact HO455.out) hb); have n3_ := Aside0.mk (below_step (by repeat (first | (with_reducible first | exact HB.out | apply below_alloc | apply pw_below_drewN | apply below_drew1) | exact HB.out)) hb); clear HO447; clear HO451; clear HO455; clear HB; have HO447 := n0_; have HO451 := n1_; have HO455 := n2_; have HB := n3_; clear n0_ n1_ n2_ n3_; (try clear hb); (try clear hb2); (try clear hk); (try clear hi); clear A13) | ((with_reducible refine gate_callee (f := 37) rfl ?_); refine goesL_ (some 41) rfl rfl Try.func37 (by kernel_rfl) rfl #[.slice A0 l0.length c0] rfl (by (try simp only [List.map_toArray, List.map_cons, List.map_nil]); first | done | rfl | (simp only [List.length_drop, List.length_take]; rfl)) ?_; (with_reducible refine (hornbookref3_Of.calls kj5 _ _ l0 t458 _ ?side1 ?side2 A14.out).mono ?_); (case side1 => repeat (first | exact (Kd.C_below HR0.out HB.out) | (with_reducible refine Kd.C_alloc ?_ _) | (with_reducible refine Kd.C_drewN ?_ _) | (with_reducible refine Kd.C_drew ?_))); (case side2 => exact HC0.out); rintro e w21 ⟨v459, rfl, ho0, hb⟩; refine ⟨_, rfl, ?_⟩; have n0_ := Aside0.mk (Kd.R_elder' (by (with_reducible repeat (first | apply Kd.R_alloc | apply Kd.R_drewN | apply Kd.R_drew)); exact HO447.out) (Kd.R_base ho0) hb); have n1_ := Aside0.mk (Kd.R_elder' (by (with_reducible repeat (first | apply Kd.R_alloc | apply Kd.R_drewN | apply Kd.R_drew)); exact HO451.out) (Kd.R_base ho0) hb); have n2_ := Aside0.mk (Kd.R_elder' (by (with_reducible repeat (first | apply Kd.R_alloc | apply Kd.R_drewN | apply Kd.R_drew)); exact HO455.out) (Kd.R_base ho0) hb); have n3_ := Aside0.mk (Kd.R_lower (Kd.R_new' (Kd.R_new' (Kd.R_new' ho0 (Kd.R_lt (by (with_reducible repeat (first | apply Kd.R_alloc | apply Kd.R_drewN | apply Kd.R_drew)); exact HO447.out))) (Kd.R_lt (by (with_reducible repeat (first | apply Kd.R_alloc | apply Kd.R_drewN | apply Kd.R_drew)); exact HO451.out))) (Kd.R_lt (by (with_reducible repeat (first | apply Kd.R_alloc | apply Kd.R_drewN | apply Kd.R_drew)); exact HO455.out))) (below_size (by repeat (first | (with_reducible first | exact HB.out | apply below_alloc | apply pw_below_drewN | apply below_drew1) | exact HB.out)))); have n4_ := Aside0.mk (below_step (by repeat (first | (with_reducible first | exact HB.out | apply below_alloc | apply pw_below_drewN | apply below_drew1) | exact HB.out)) hb); clear HO447; clear HO451; clear HO455; clear HB; have HO447 := n0_; have HO451 := n1_; have HO455 := n2_; have HO460 := n3_; have HB := n4_; clear n0_ n1_ n2_ n3_ n4_; (try clear hb); (try clear hb2); (try clear hk); (try clear hi); (try clear ho0); clear A14) | (go_at_call 37; (with_reducible refine (hornbookref3_Of.calls kj5 _ _ l0 t458 _ ?side1 ?side2 A14.out).mono ?_); (case side1 => repeat (first | exact (Kd.C_below HR0.out HB.out) | (with_reducible refine Kd.C_alloc ?_ _) | (with_reducible refine Kd.C_drewN ?_ _) | (with_reducible refine Kd.C_drew ?_))); (case side2 => exact HC0.out); rintro e w21 ⟨v459, rfl, ho0, hb⟩; have n0_ := Aside0.mk (Kd.R_elder' (by (with_reducible repeat (first | apply Kd.R_alloc | apply Kd.R_drewN | apply Kd.R_drew)); exact HO447.out) (Kd.R_base ho0) hb); have n1_ := Aside0.mk (Kd.R_elder' (by (with_reducible repeat (first | apply Kd.R_alloc | apply Kd.R_drewN | apply Kd.R_drew)); exact HO451.out) (Kd.R_base ho0) hb); have n2_ := Aside0.mk (Kd.R_elder' (by (with_reducible repeat (first | apply Kd.R_alloc | apply Kd.R_drewN | apply Kd.R_drew)); exact HO455.out) (Kd.R_base ho0) hb); have n3_ := Aside0.mk (Kd.R_lower (Kd.R_new' (Kd.R_new' (Kd.R_new' ho0 (Kd.R_lt (by (with_reducible repeat (first | apply Kd.R_alloc | apply Kd.R_drewN | apply Kd.R_drew)); exact HO447.out))) (Kd.R_lt (by (with_reducible repeat (first | apply Kd.R_alloc | apply Kd.R_drewN | apply Kd.R_drew)); exact HO451.out))) (Kd.R_lt (by (with_reducible repeat (first | apply Kd.R_alloc | apply Kd.R_drewN | apply Kd.R_drew)); exact HO455.out))) (below_size (by repeat (first | (with_reducible first | exact HB.out | apply below_alloc | apply pw_below_drewN | apply below_drew1) | exact HB.out)))); have n4_ := Aside0.mk (below_step (by repeat (first | (with_reducible first | exact HB.out | apply below_alloc | apply pw_below_drewN | apply below_drew1) | exact HB.out)) hb); clear HO447; clear HO451; clear HO455; clear HB; have HO447 := n0_; have HO451 := n1_; have HO455 := n2_; have HO460 := n3_; have HB := n4_; clear n0_ n1_ n2_ n3_ n4_; (try clear hb); (try clear hb2); (try clear hk); (try clear hi); (try clear ho0); clear A14))
      (try simp only [Act.put, List.setIfInBounds_toArray, List.set_cons_zero, List.set_cons_succ])
      go_cut [85] (fun v85 wc => ∃ (kq : Nat) (x85_14 : Bool), v85 = .bool x85_14 ∧ Aside0 (hornbooklaw3_SetTells.j1 kq l0 l1 a2 x85_14 = some r) ∧ Aside0 (kq ≤ kj5) ∧ Aside0 (Below w.heap.size w wc))
      case first =>
       have H := HC15.out
       clear HC15
       by_cases c22 : t453 = true
       ·subst c22
        have H1 : (if t449 = 0 then ((hornbookref3_Same.f kj5 t448 t452).bind fun t461 => (if t461 = true then (if (t458.length : Int) > 0 then (if t457 = true then (if 0 < (t458.length : Int) then (if t456 = ((rd_T37 t458 0).f0) then (hornbooklaw3_SetTells.j1 kj5 l0 l1 a2 false) else (hornbooklaw3_SetTells.j1 kj5 l0 l1 a2 true)) else (none)) else (hornbooklaw3_SetTells.j1 kj5 l0 l1 a2 true)) else (if t457 = true then (hornbooklaw3_SetTells.j1 kj5 l0 l1 a2 true) else (hornbooklaw3_SetTells.j1 kj5 l0 l1 a2 (t456 != 0)))) else (hornbooklaw3_SetTells.j1 kj5 l0 l1 a2 true))) else (hornbooklaw3_SetTells.j1 kj5 l0 l1 a2 true)) = some r := by rw [if_pos rfl] at H; exact H
        clear H
        have H := H1
        clear H1
        by_cases c23 : t449 = 0
        ·rw [if_pos c23] at H
         have c23b0 : (t449 == 0) = true := beq_iff_eq.mpr c23
         have c23b1 : (t449 != 0) = false := bne_eq_false_iff_eq.mpr c23
         clear c23
         (first | rw [c23b0] | (simp only [i64_w, i32_w]; rw [c23b0]) | skip)
         replace H := Option.bind_eq_some_iff.mp H
         obtain ⟨t461, A240, H⟩ := H
         replace H : (if t461 = true then (if (t458.length : Int) > 0 then (if t457 = true then (if 0 < (t458.length : Int) then (if t456 = ((rd_T37 t458 0).f0) then (hornbooklaw3_SetTells.j1 kj5 l0 l1 a2 false) else (hornbooklaw3_SetTells.j1 kj5 l0 l1 a2 true)) else (none)) else (hornbooklaw3_SetTells.j1 kj5 l0 l1 a2 true)) else (if t457 = true then (hornbooklaw3_SetTells.j1 kj5 l0 l1 a2 true) else (hornbooklaw3_SetTells.j1 kj5 l0 l1 a2 (t456 != 0)))) else (hornbooklaw3_SetTells.j1 kj5 l0 l1 a2 true)) = some r := H
         have A24 := Aside0.mk A240
         clear A240
         by_cases c25 : t461 = true
         ·subst c25
          have H1 : (if (t458.length : Int) > 0 then (if t457 = true then (if 0 < (t458.length : Int) then (if t456 = ((rd_T37 t458 0).f0) then (hornbooklaw3_SetTells.j1 kj5 l0 l1 a2 false) else (hornbooklaw3_SetTells.j1 kj5 l0 l1 a2 true)) else (none)) else (hornbooklaw3_SetTells.j1 kj5 l0 l1 a2 true)) else (if t457 = true then (hornbooklaw3_SetTells.j1 kj5 l0 l1 a2 true) else (hornbooklaw3_SetTells.j1 kj5 l0 l1 a2 (t456 != 0)))) = some r := by rw [if_pos rfl] at H; exact H
          clear H
          have H := H1
          clear H1
          by_cases c26 : (t458.length : Int) > 0
          ·rw [if_pos c26] at H
           have c26b0 : decide (0 < (t458.length : Int)) = true := decide_eq_true c26
           have c26b1 : decide (0 < t458.length) = true := decide_eq_true (by omega)
           clear c26
           by_cases c27 : t457 = true
           ·subst c27
            have H1 : (if 0 < (t458.length : Int) then (if t456 = ((rd_T37 t458 0).f0) then (hornbooklaw3_SetTells.j1 kj5 l0 l1 a2 false) else (hornbooklaw3_SetTells.j1 kj5 l0 l1 a2 true)) else (none)) = some r := by rw [if_pos rfl] at H; exact H
            clear H
            have H := H1
            clear H1
            by_cases c28 : 0 < (t458.length : Int)
            ·rw [if_pos c28] at H
             have c28b0 : decide (0 < (t458.length : Int)) = true := decide_eq_true c28
             have c28b1 : decide (0 < t458.length) = true := decide_eq_true (by omega)
             clear c28
             by_cases c29 : t456 = ((rd_T37 t458 0).f0)
             ·rw [if_pos c29] at H
              have c29b0 : (t456 == ((rd_T37 t458 0).f0)) = true := beq_iff_eq.mpr c29
              have c29b1 : (t456 != ((rd_T37 t458 0).f0)) = false := bne_eq_false_iff_eq.mpr c29
              clear c29
              have H' := Aside0.mk H
              clear H
              obtain ⟨Ao30, co30, eo30⟩ := Kd.R_slice HO451.out
              subst eo30
              obtain ⟨Ao31, co31, eo31⟩ := Kd.R_slice HO455.out
              subst eo31
              go_wp2_with (first | (go_at_call 38; (with_reducible refine (hornbookref3_Same.calls kj5 _ _ t448 _ _ t452 true _ ?side1 ?side2 ?side3 ?side4 A24.out).mono ?_); (case side1 => repeat (first | exact (Kd.R_reads' HO451.out).2.2 | (with_reducible refine Kd.C_alloc ?_ _) | (with_reducible refine Kd.C_drewN ?_ _) | (with_reducible refine Kd.C_drew ?_))); (case side2 => exact (Kd.R_reads' HO451.out).2.1); (case side3 => repeat (first | exact (Kd.R_reads' HO455.out).2.2 | (with_reducible refine Kd.C_alloc ?_ _) | (with_reducible refine Kd.C_drewN ?_ _) | (with_reducible refine Kd.C_drew ?_))); (case side4 => exact (Kd.R_reads' HO455.out).2.1); rintro e w' ⟨rfl, ⟨nd, rfl⟩⟩; obtain ⟨Ao32, co32, eo32⟩ := Kd.R_slice HO460.out; subst eo32; have p462 : 0 ≤ (0 : Int) := (by omega); have q462 : 0 < (t458.length : Int) := of_decide_eq_true (by first | (with_reducible assumption) | assumption); obtain ⟨ad462, e462, hx462_0, hx462_1⟩ := at_T37 (Kd.R_reads' HO460.out).2.2 0 p462 q462; cases e462; have qi462 : (0 < t458.length) = True := eq_true (by omega); (try rw [show ((0 : Int)).toNat = 0 from rfl] at hx462_0); (try rw [show 0 * 2 = 0 from rfl] at hx462_0); (try rw [Addr.add_zero'] at hx462_0); (try rw [show ((0 : Int)).toNat = 0 from rfl] at hx462_1); (try rw [show 0 * 2 = 0 from rfl] at hx462_1); (try rw [Addr.add_zero'] at hx462_1); replace p462 := eq_true p462; replace q462 := eq_true q462; clear A24))
              go_meet
              case rel => exact ⟨_, (false), (by first | rfl | (simp; done) | (simp [*]; done)), H', ⟨by have := HJ5.out; first | omega | exact Nat.le_refl _⟩, ⟨by repeat (first | (with_reducible first | exact HB.out | apply below_alloc | apply pw_below_drewN | apply below_drew1) | exact HB.out)⟩⟩
             ·rw [if_neg c29] at H
              have c29b0 : (t456 == ((rd_T37 t458 0).f0)) = false := beq_eq_false_iff_ne.mpr c29
              have c29b1 : (t456 != ((rd_T37 t458 0).f0)) = true := bne_iff_ne.mpr c29
              have H' := Aside0.mk H
              clear H
              obtain ⟨Ao33, co33, eo33⟩ := Kd.R_slice HO451.out
              subst eo33
              obtain ⟨Ao34, co34, eo34⟩ := Kd.R_slice HO455.out
              subst eo34
              go_wp2_with (first | (go_at_call 38; (with_reducible refine (hornbookref3_Same.calls kj5 _ _ t448 _ _ t452 true _ ?side1 ?side2 ?side3 ?side4 A24.out).mono ?_); (case side1 => repeat (first | exact (Kd.R_reads' HO451.out).2.2 | (with_reducible refine Kd.C_alloc ?_ _) | (with_reducible refine Kd.C_drewN ?_ _) | (with_reducible refine Kd.C_drew ?_))); (case side2 => exact (Kd.R_reads' HO451.out).2.1); (case side3 => repeat (first | exact (Kd.R_reads' HO455.out).2.2 | (with_reducible refine Kd.C_alloc ?_ _) | (with_reducible refine Kd.C_drewN ?_ _) | (with_reducible refine Kd.C_drew ?_))); (case side4 => exact (Kd.R_reads' HO455.out).2.1); rintro e w' ⟨rfl, ⟨nd, rfl⟩⟩; obtain ⟨Ao35, co35, eo35⟩ := Kd.R_slice HO460.out; subst eo35; have p462 : 0 ≤ (0 : Int) := (by omega); have q462 : 0 < (t458.length : Int) := of_decide_eq_true (by first | (with_reducible assumption) | assumption); obtain ⟨ad462, e462, hx462_0, hx462_1⟩ := at_T37 (Kd.R_reads' HO460.out).2.2 0 p462 q462; cases e462; have qi462 : (0 < t458.length) = True := eq_true (by omega); (try rw [show ((0 : Int)).toNat = 0 from rfl] at hx462_0); (try rw [show 0 * 2 = 0 from rfl] at hx462_0); (try rw [Addr.add_zero'] at hx462_0); (try rw [show ((0 : Int)).toNat = 0 from rfl] at hx462_1); (try rw [show 0 * 2 = 0 from rfl] at hx462_1); (try rw [Addr.add_zero'] at hx462_1); replace p462 := eq_true p462; replace q462 := eq_true q462; clear A24))
              go_meet
              case rel => exact ⟨_, (true), (by first | rfl | (simp; done) | (simp [*]; done)), H', ⟨by have := HJ5.out; first | omega | exact Nat.le_refl _⟩, ⟨by repeat (first | (with_reducible first | exact HB.out | apply below_alloc | apply pw_below_drewN | apply below_drew1) | exact HB.out)⟩⟩
            ·rw [if_neg c28] at H
             exact absurd H (by simp)
           ·replace c27 := Bool.eq_false_iff.mpr c27
            subst c27
            have H1 : (hornbooklaw3_SetTells.j1 kj5 l0 l1 a2 true) = some r := by rw [if_neg (show ¬ (false = true) by decide)] at H; exact H
            clear H
            have H := H1
            clear H1
            have H' := Aside0.mk H
            clear H
            obtain ⟨Ao36, co36, eo36⟩ := Kd.R_slice HO451.out
            subst eo36
            obtain ⟨Ao37, co37, eo37⟩ := Kd.R_slice HO455.out
            subst eo37
            go_wp2_with (first | (go_at_call 38; (with_reducible refine (hornbookref3_Same.calls kj5 _ _ t448 _ _ t452 true _ ?side1 ?side2 ?side3 ?side4 A24.out).mono ?_); (case side1 => repeat (first | exact (Kd.R_reads' HO451.out).2.2 | (with_reducible refine Kd.C_alloc ?_ _) | (with_reducible refine Kd.C_drewN ?_ _) | (with_reducible refine Kd.C_drew ?_))); (case side2 => exact (Kd.R_reads' HO451.out).2.1); (case side3 => repeat (first | exact (Kd.R_reads' HO455.out).2.2 | (with_reducible refine Kd.C_alloc ?_ _) | (with_reducible refine Kd.C_drewN ?_ _) | (with_reducible refine Kd.C_drew ?_))); (case side4 => exact (Kd.R_reads' HO455.out).2.1); rintro e w' ⟨rfl, ⟨nd, rfl⟩⟩; obtain ⟨Ao38, co38, eo38⟩ := Kd.R_slice HO460.out; subst eo38; clear A24))
            go_meet
            case rel => exact ⟨_, (true), (by first | rfl | (simp; done) | (simp [*]; done)), H', ⟨by have := HJ5.out; first | omega | exact Nat.le_refl _⟩, ⟨by repeat (first | (with_reducible first | exact HB.out | apply below_alloc | apply pw_below_drewN | apply below_drew1) | exact HB.out)⟩⟩
          ·rw [if_neg c26] at H
           have c26b0 : decide (0 < (t458.length : Int)) = false := decide_eq_false c26
           have c26b1 : decide (0 < t458.length) = false := decide_eq_false (by omega)
           clear c26
           by_cases c39 : t457 = true
           ·subst c39
            have H1 : (hornbooklaw3_SetTells.j1 kj5 l0 l1 a2 true) = some r := by rw [if_pos rfl] at H; exact H
            clear H
            have H := H1
            clear H1
            have H' := Aside0.mk H
            clear H
            obtain ⟨Ao40, co40, eo40⟩ := Kd.R_slice HO451.out
            subst eo40
            obtain ⟨Ao41, co41, eo41⟩ := Kd.R_slice HO455.out
            subst eo41
            go_wp2_with (first | (go_at_call 38; (with_reducible refine (hornbookref3_Same.calls kj5 _ _ t448 _ _ t452 true _ ?side1 ?side2 ?side3 ?side4 A24.out).mono ?_); (case side1 => repeat (first | exact (Kd.R_reads' HO451.out).2.2 | (with_reducible refine Kd.C_alloc ?_ _) | (with_reducible refine Kd.C_drewN ?_ _) | (with_reducible refine Kd.C_drew ?_))); (case side2 => exact (Kd.R_reads' HO451.out).2.1); (case side3 => repeat (first | exact (Kd.R_reads' HO455.out).2.2 | (with_reducible refine Kd.C_alloc ?_ _) | (with_reducible refine Kd.C_drewN ?_ _) | (with_reducible refine Kd.C_drew ?_))); (case side4 => exact (Kd.R_reads' HO455.out).2.1); rintro e w' ⟨rfl, ⟨nd, rfl⟩⟩; obtain ⟨Ao42, co42, eo42⟩ := Kd.R_slice HO460.out; subst eo42; clear A24))
            go_meet
            case rel => exact ⟨_, (true), (by first | rfl | (simp; done) | (simp [*]; done)), H', ⟨by have := HJ5.out; first | omega | exact Nat.le_refl _⟩, ⟨by repeat (first | (with_reducible first | exact HB.out | apply below_alloc | apply pw_below_drewN | apply below_drew1) | exact HB.out)⟩⟩
           ·replace c39 := Bool.eq_false_iff.mpr c39
            subst c39
            have H1 : (hornbooklaw3_SetTells.j1 kj5 l0 l1 a2 (t456 != 0)) = some r := by rw [if_neg (show ¬ (false = true) by decide)] at H; exact H
            clear H
            have H := H1
            clear H1
            have H' := Aside0.mk H
            clear H
            obtain ⟨Ao43, co43, eo43⟩ := Kd.R_slice HO451.out
            subst eo43
            obtain ⟨Ao44, co44, eo44⟩ := Kd.R_slice HO455.out
            subst eo44
            go_wp2_with (first | (go_at_call 38; (with_reducible refine (hornbookref3_Same.calls kj5 _ _ t448 _ _ t452 true _ ?side1 ?side2 ?side3 ?side4 A24.out).mono ?_); (case side1 => repeat (first | exact (Kd.R_reads' HO451.out).2.2 | (with_reducible refine Kd.C_alloc ?_ _) | (with_reducible refine Kd.C_drewN ?_ _) | (with_reducible refine Kd.C_drew ?_))); (case side2 => exact (Kd.R_reads' HO451.out).2.1); (case side3 => repeat (first | exact (Kd.R_reads' HO455.out).2.2 | (with_reducible refine Kd.C_alloc ?_ _) | (with_reducible refine Kd.C_drewN ?_ _) | (with_reducible refine Kd.C_drew ?_))); (case side4 => exact (Kd.R_reads' HO455.out).2.1); rintro e w' ⟨rfl, ⟨nd, rfl⟩⟩; obtain ⟨Ao45, co45, eo45⟩ := Kd.R_slice HO460.out; subst eo45; clear A24))
            go_meet
            case rel => exact ⟨_, ((t456 != 0)), (by first | rfl | (simp; done) | (simp [*]; done)), H', ⟨by have := HJ5.out; first | omega | exact Nat.le_refl _⟩, ⟨by repeat (first | (with_reducible first | exact HB.out | apply below_alloc | apply pw_below_drewN | apply below_drew1) | exact HB.out)⟩⟩
         ·replace c25 := Bool.eq_false_iff.mpr c25
          subst c25
          have H1 : (hornbooklaw3_SetTells.j1 kj5 l0 l1 a2 true) = some r := by rw [if_neg (show ¬ (false = true) by decide)] at H; exact H
          clear H
          have H := H1
          clear H1
          have H' := Aside0.mk H
          clear H
          obtain ⟨Ao46, co46, eo46⟩ := Kd.R_slice HO451.out
          subst eo46
          obtain ⟨Ao47, co47, eo47⟩ := Kd.R_slice HO455.out
          subst eo47
          go_wp2_with (first | (go_at_call 38; (with_reducible refine (hornbookref3_Same.calls kj5 _ _ t448 _ _ t452 false _ ?side1 ?side2 ?side3 ?side4 A24.out).mono ?_); (case side1 => repeat (first | exact (Kd.R_reads' HO451.out).2.2 | (with_reducible refine Kd.C_alloc ?_ _) | (with_reducible refine Kd.C_drewN ?_ _) | (with_reducible refine Kd.C_drew ?_))); (case side2 => exact (Kd.R_reads' HO451.out).2.1); (case side3 => repeat (first | exact (Kd.R_reads' HO455.out).2.2 | (with_reducible refine Kd.C_alloc ?_ _) | (with_reducible refine Kd.C_drewN ?_ _) | (with_reducible refine Kd.C_drew ?_))); (case side4 => exact (Kd.R_reads' HO455.out).2.1); rintro e w' ⟨rfl, ⟨nd, rfl⟩⟩; clear A24))
          go_meet
          case rel => exact ⟨_, (true), (by first | rfl | (simp; done) | (simp [*]; done)), H', ⟨by have := HJ5.out; first | omega | exact Nat.le_refl _⟩, ⟨by repeat (first | (with_reducible first | exact HB.out | apply below_alloc | apply pw_below_drewN | apply below_drew1) | exact HB.out)⟩⟩
        ·rw [if_neg c23] at H
         have c23b0 : (t449 == 0) = false := beq_eq_false_iff_ne.mpr c23
         have c23b1 : (t449 != 0) = true := bne_iff_ne.mpr c23
         (first | rw [c23b0] | (simp only [i64_w, i32_w]; rw [c23b0]) | skip)
         have H' := Aside0.mk H
         clear H
         go_wp2
         go_meet
         case rel => exact ⟨_, (true), (by first | rfl | (simp; done) | (simp [*]; done)), H', ⟨by have := HJ5.out; first | omega | exact Nat.le_refl _⟩, ⟨by repeat (first | (with_reducible first | exact HB.out | apply below_alloc | apply pw_below_drewN | apply below_drew1) | exact HB.out)⟩⟩
       ·replace c22 := Bool.eq_false_iff.mpr c22
        subst c22
        have H1 : (if t449 = 0 then (hornbooklaw3_SetTells.j1 kj5 l0 l1 a2 true) else (if t449 = 30 then ((hornbookref3_Same.f kj5 t448 t452).bind fun t463 => (if t463 = true then (if (t458.length : Int) > 0 then (if t457 = true then (if 0 < (t458.length : Int) then (if t456 = ((rd_T37 t458 0).f0) then (hornbooklaw3_SetTells.j1 kj5 l0 l1 a2 false) else (hornbooklaw3_SetTells.j1 kj5 l0 l1 a2 true)) else (none)) else (hornbooklaw3_SetTells.j1 kj5 l0 l1 a2 true)) else (if t457 = true then (hornbooklaw3_SetTells.j1 kj5 l0 l1 a2 true) else (hornbooklaw3_SetTells.j1 kj5 l0 l1 a2 (t456 != 0)))) else (hornbooklaw3_SetTells.j1 kj5 l0 l1 a2 true))) else (hornbooklaw3_SetTells.j1 kj5 l0 l1 a2 true))) = some r := by rw [if_neg (show ¬ (false = true) by decide)] at H; exact H
        clear H
        have H := H1
        clear H1
        by_cases c48 : t449 = 0
        ·rw [if_pos c48] at H
         have c48b0 : (t449 == 0) = true := beq_iff_eq.mpr c48
         have c48b1 : (t449 != 0) = false := bne_eq_false_iff_eq.mpr c48
         clear c48
         have H' := Aside0.mk H
         clear H
         go_wp2
         go_meet
         case rel => exact ⟨_, (true), (by first | rfl | (simp; done) | (simp [*]; done)), H', ⟨by have := HJ5.out; first | omega | exact Nat.le_refl _⟩, ⟨by repeat (first | (with_reducible first | exact HB.out | apply below_alloc | apply pw_below_drewN | apply below_drew1) | exact HB.out)⟩⟩
        ·rw [if_neg c48] at H
         have c48b0 : (t449 == 0) = false := beq_eq_false_iff_ne.mpr c48
         have c48b1 : (t449 != 0) = true := bne_iff_ne.mpr c48
         by_cases c49 : t449 = 30
         ·rw [if_pos c49] at H
          have c49b0 : (t449 == 30) = true := beq_iff_eq.mpr c49
          have c49b1 : (t449 != 30) = false := bne_eq_false_iff_eq.mpr c49
          clear c49
          replace H := Option.bind_eq_some_iff.mp H
          obtain ⟨t463, A500, H⟩ := H
          replace H : (if t463 = true then (if (t458.length : Int) > 0 then (if t457 = true then (if 0 < (t458.length : Int) then (if t456 = ((rd_T37 t458 0).f0) then (hornbooklaw3_SetTells.j1 kj5 l0 l1 a2 false) else (hornbooklaw3_SetTells.j1 kj5 l0 l1 a2 true)) else (none)) else (hornbooklaw3_SetTells.j1 kj5 l0 l1 a2 true)) else (if t457 = true then (hornbooklaw3_SetTells.j1 kj5 l0 l1 a2 true) else (hornbooklaw3_SetTells.j1 kj5 l0 l1 a2 (t456 != 0)))) else (hornbooklaw3_SetTells.j1 kj5 l0 l1 a2 true)) = some r := H
          have A50 := Aside0.mk A500
          clear A500
          by_cases c51 : t463 = true
          ·subst c51
           have H1 : (if (t458.length : Int) > 0 then (if t457 = true then (if 0 < (t458.length : Int) then (if t456 = ((rd_T37 t458 0).f0) then (hornbooklaw3_SetTells.j1 kj5 l0 l1 a2 false) else (hornbooklaw3_SetTells.j1 kj5 l0 l1 a2 true)) else (none)) else (hornbooklaw3_SetTells.j1 kj5 l0 l1 a2 true)) else (if t457 = true then (hornbooklaw3_SetTells.j1 kj5 l0 l1 a2 true) else (hornbooklaw3_SetTells.j1 kj5 l0 l1 a2 (t456 != 0)))) = some r := by rw [if_pos rfl] at H; exact H
           clear H
           have H := H1
           clear H1
           by_cases c52 : (t458.length : Int) > 0
           ·rw [if_pos c52] at H
            have c52b0 : decide (0 < (t458.length : Int)) = true := decide_eq_true c52
            have c52b1 : decide (0 < t458.length) = true := decide_eq_true (by omega)
            clear c52
            by_cases c53 : t457 = true
            ·subst c53
             have H1 : (if 0 < (t458.length : Int) then (if t456 = ((rd_T37 t458 0).f0) then (hornbooklaw3_SetTells.j1 kj5 l0 l1 a2 false) else (hornbooklaw3_SetTells.j1 kj5 l0 l1 a2 true)) else (none)) = some r := by rw [if_pos rfl] at H; exact H
             clear H
             have H := H1
             clear H1
             by_cases c54 : 0 < (t458.length : Int)
             ·rw [if_pos c54] at H
              have c54b0 : decide (0 < (t458.length : Int)) = true := decide_eq_true c54
              have c54b1 : decide (0 < t458.length) = true := decide_eq_true (by omega)
              clear c54
              by_cases c55 : t456 = ((rd_T37 t458 0).f0)
              ·rw [if_pos c55] at H
               have c55b0 : (t456 == ((rd_T37 t458 0).f0)) = true := beq_iff_eq.mpr c55
               have c55b1 : (t456 != ((rd_T37 t458 0).f0)) = false := bne_eq_false_iff_eq.mpr c55
               clear c55
               have H' := Aside0.mk H
               clear H
               obtain ⟨Ao56, co56, eo56⟩ := Kd.R_slice HO451.out
               subst eo56
               obtain ⟨Ao57, co57, eo57⟩ := Kd.R_slice HO455.out
               subst eo57
               go_wp2_with (first | (go_at_call 38; (with_reducible refine (hornbookref3_Same.calls kj5 _ _ t448 _ _ t452 true _ ?side1 ?side2 ?side3 ?side4 A50.out).mono ?_); (case side1 => repeat (first | exact (Kd.R_reads' HO451.out).2.2 | (with_reducible refine Kd.C_alloc ?_ _) | (with_reducible refine Kd.C_drewN ?_ _) | (with_reducible refine Kd.C_drew ?_))); (case side2 => exact (Kd.R_reads' HO451.out).2.1); (case side3 => repeat (first | exact (Kd.R_reads' HO455.out).2.2 | (with_reducible refine Kd.C_alloc ?_ _) | (with_reducible refine Kd.C_drewN ?_ _) | (with_reducible refine Kd.C_drew ?_))); (case side4 => exact (Kd.R_reads' HO455.out).2.1); rintro e w' ⟨rfl, ⟨nd, rfl⟩⟩; obtain ⟨Ao58, co58, eo58⟩ := Kd.R_slice HO460.out; subst eo58; have p464 : 0 ≤ (0 : Int) := (by omega); have q464 : 0 < (t458.length : Int) := of_decide_eq_true (by first | (with_reducible assumption) | assumption); obtain ⟨ad464, e464, hx464_0, hx464_1⟩ := at_T37 (Kd.R_reads' HO460.out).2.2 0 p464 q464; cases e464; have qi464 : (0 < t458.length) = True := eq_true (by omega); (try rw [show ((0 : Int)).toNat = 0 from rfl] at hx464_0); (try rw [show 0 * 2 = 0 from rfl] at hx464_0); (try rw [Addr.add_zero'] at hx464_0); (try rw [show ((0 : Int)).toNat = 0 from rfl] at hx464_1); (try rw [show 0 * 2 = 0 from rfl] at hx464_1); (try rw [Addr.add_zero'] at hx464_1); replace p464 := eq_true p464; replace q464 := eq_true q464; clear A50))
               go_meet
               case rel => exact ⟨_, (false), (by first | rfl | (simp; done) | (simp [*]; done)), H', ⟨by have := HJ5.out; first | omega | exact Nat.le_refl _⟩, ⟨by repeat (first | (with_reducible first | exact HB.out | apply below_alloc | apply pw_below_drewN | apply below_drew1) | exact HB.out)⟩⟩
              ·rw [if_neg c55] at H
               have c55b0 : (t456 == ((rd_T37 t458 0).f0)) = false := beq_eq_false_iff_ne.mpr c55
               have c55b1 : (t456 != ((rd_T37 t458 0).f0)) = true := bne_iff_ne.mpr c55
               have H' := Aside0.mk H
               clear H
               obtain ⟨Ao59, co59, eo59⟩ := Kd.R_slice HO451.out
               subst eo59
               obtain ⟨Ao60, co60, eo60⟩ := Kd.R_slice HO455.out
               subst eo60
               go_wp2_with (first | (go_at_call 38; (with_reducible refine (hornbookref3_Same.calls kj5 _ _ t448 _ _ t452 true _ ?side1 ?side2 ?side3 ?side4 A50.out).mono ?_); (case side1 => repeat (first | exact (Kd.R_reads' HO451.out).2.2 | (with_reducible refine Kd.C_alloc ?_ _) | (with_reducible refine Kd.C_drewN ?_ _) | (with_reducible refine Kd.C_drew ?_))); (case side2 => exact (Kd.R_reads' HO451.out).2.1); (case side3 => repeat (first | exact (Kd.R_reads' HO455.out).2.2 | (with_reducible refine Kd.C_alloc ?_ _) | (with_reducible refine Kd.C_drewN ?_ _) | (with_reducible refine Kd.C_drew ?_))); (case side4 => exact (Kd.R_reads' HO455.out).2.1); rintro e w' ⟨rfl, ⟨nd, rfl⟩⟩; obtain ⟨Ao61, co61, eo61⟩ := Kd.R_slice HO460.out; subst eo61; have p464 : 0 ≤ (0 : Int) := (by omega); have q464 : 0 < (t458.length : Int) := of_decide_eq_true (by first | (with_reducible assumption) | assumption); obtain ⟨ad464, e464, hx464_0, hx464_1⟩ := at_T37 (Kd.R_reads' HO460.out).2.2 0 p464 q464; cases e464; have qi464 : (0 < t458.length) = True := eq_true (by omega); (try rw [show ((0 : Int)).toNat = 0 from rfl] at hx464_0); (try rw [show 0 * 2 = 0 from rfl] at hx464_0); (try rw [Addr.add_zero'] at hx464_0); (try rw [show ((0 : Int)).toNat = 0 from rfl] at hx464_1); (try rw [show 0 * 2 = 0 from rfl] at hx464_1); (try rw [Addr.add_zero'] at hx464_1); replace p464 := eq_true p464; replace q464 := eq_true q464; clear A50))
               go_meet
               case rel => exact ⟨_, (true), (by first | rfl | (simp; done) | (simp [*]; done)), H', ⟨by have := HJ5.out; first | omega | exact Nat.le_refl _⟩, ⟨by repeat (first | (with_reducible first | exact HB.out | apply below_alloc | apply pw_below_drewN | apply below_drew1) | exact HB.out)⟩⟩
             ·rw [if_neg c54] at H
              exact absurd H (by simp)
            ·replace c53 := Bool.eq_false_iff.mpr c53
             subst c53
             have H1 : (hornbooklaw3_SetTells.j1 kj5 l0 l1 a2 true) = some r := by rw [if_neg (show ¬ (false = true) by decide)] at H; exact H
             clear H
             have H := H1
             clear H1
             have H' := Aside0.mk H
             clear H
             obtain ⟨Ao62, co62, eo62⟩ := Kd.R_slice HO451.out
             subst eo62
             obtain ⟨Ao63, co63, eo63⟩ := Kd.R_slice HO455.out
             subst eo63
             go_wp2_with (first | (go_at_call 38; (with_reducible refine (hornbookref3_Same.calls kj5 _ _ t448 _ _ t452 true _ ?side1 ?side2 ?side3 ?side4 A50.out).mono ?_); (case side1 => repeat (first | exact (Kd.R_reads' HO451.out).2.2 | (with_reducible refine Kd.C_alloc ?_ _) | (with_reducible refine Kd.C_drewN ?_ _) | (with_reducible refine Kd.C_drew ?_))); (case side2 => exact (Kd.R_reads' HO451.out).2.1); (case side3 => repeat (first | exact (Kd.R_reads' HO455.out).2.2 | (with_reducible refine Kd.C_alloc ?_ _) | (with_reducible refine Kd.C_drewN ?_ _) | (with_reducible refine Kd.C_drew ?_))); (case side4 => exact (Kd.R_reads' HO455.out).2.1); rintro e w' ⟨rfl, ⟨nd, rfl⟩⟩; obtain ⟨Ao64, co64, eo64⟩ := Kd.R_slice HO460.out; subst eo64; clear A50))
             go_meet
             case rel => exact ⟨_, (true), (by first | rfl | (simp; done) | (simp [*]; done)), H', ⟨by have := HJ5.out; first | omega | exact Nat.le_refl _⟩, ⟨by repeat (first | (with_reducible first | exact HB.out | apply below_alloc | apply pw_below_drewN | apply below_drew1) | exact HB.out)⟩⟩
           ·rw [if_neg c52] at H
            have c52b0 : decide (0 < (t458.length : Int)) = false := decide_eq_false c52
            have c52b1 : decide (0 < t458.length) = false := decide_eq_false (by omega)
            clear c52
            by_cases c65 : t457 = true
            ·subst c65
             have H1 : (hornbooklaw3_SetTells.j1 kj5 l0 l1 a2 true) = some r := by rw [if_pos rfl] at H; exact H
             clear H
             have H := H1
             clear H1
             have H' := Aside0.mk H
             clear H
             obtain ⟨Ao66, co66, eo66⟩ := Kd.R_slice HO451.out
             subst eo66
             obtain ⟨Ao67, co67, eo67⟩ := Kd.R_slice HO455.out
             subst eo67
             go_wp2_with (first | (go_at_call 38; (with_reducible refine (hornbookref3_Same.calls kj5 _ _ t448 _ _ t452 true _ ?side1 ?side2 ?side3 ?side4 A50.out).mono ?_); (case side1 => repeat (first | exact (Kd.R_reads' HO451.out).2.2 | (with_reducible refine Kd.C_alloc ?_ _) | (with_reducible refine Kd.C_drewN ?_ _) | (with_reducible refine Kd.C_drew ?_))); (case side2 => exact (Kd.R_reads' HO451.out).2.1); (case side3 => repeat (first | exact (Kd.R_reads' HO455.out).2.2 | (with_reducible refine Kd.C_alloc ?_ _) | (with_reducible refine Kd.C_drewN ?_ _) | (with_reducible refine Kd.C_drew ?_))); (case side4 => exact (Kd.R_reads' HO455.out).2.1); rintro e w' ⟨rfl, ⟨nd, rfl⟩⟩; obtain ⟨Ao68, co68, eo68⟩ := Kd.R_slice HO460.out; subst eo68; clear A50))
             go_meet
             case rel => exact ⟨_, (true), (by first | rfl | (simp; done) | (simp [*]; done)), H', ⟨by have := HJ5.out; first | omega | exact Nat.le_refl _⟩, ⟨by repeat (first | (with_reducible first | exact HB.out | apply below_alloc | apply pw_below_drewN | apply below_drew1) | exact HB.out)⟩⟩
            ·replace c65 := Bool.eq_false_iff.mpr c65
             subst c65
             have H1 : (hornbooklaw3_SetTells.j1 kj5 l0 l1 a2 (t456 != 0)) = some r := by rw [if_neg (show ¬ (false = true) by decide)] at H; exact H
             clear H
             have H := H1
             clear H1
             have H' := Aside0.mk H
             clear H
             obtain ⟨Ao69, co69, eo69⟩ := Kd.R_slice HO451.out
             subst eo69
             obtain ⟨Ao70, co70, eo70⟩ := Kd.R_slice HO455.out
             subst eo70
             go_wp2_with (first | (go_at_call 38; (with_reducible refine (hornbookref3_Same.calls kj5 _ _ t448 _ _ t452 true _ ?side1 ?side2 ?side3 ?side4 A50.out).mono ?_); (case side1 => repeat (first | exact (Kd.R_reads' HO451.out).2.2 | (with_reducible refine Kd.C_alloc ?_ _) | (with_reducible refine Kd.C_drewN ?_ _) | (with_reducible refine Kd.C_drew ?_))); (case side2 => exact (Kd.R_reads' HO451.out).2.1); (case side3 => repeat (first | exact (Kd.R_reads' HO455.out).2.2 | (with_reducible refine Kd.C_alloc ?_ _) | (with_reducible refine Kd.C_drewN ?_ _) | (with_reducible refine Kd.C_drew ?_))); (case side4 => exact (Kd.R_reads' HO455.out).2.1); rintro e w' ⟨rfl, ⟨nd, rfl⟩⟩; obtain ⟨Ao71, co71, eo71⟩ := Kd.R_slice HO460.out; subst eo71; clear A50))
             go_meet
             case rel => exact ⟨_, ((t456 != 0)), (by first | rfl | (simp; done) | (simp [*]; done)), H', ⟨by have := HJ5.out; first | omega | exact Nat.le_refl _⟩, ⟨by repeat (first | (with_reducible first | exact HB.out | apply below_alloc | apply pw_below_drewN | apply below_drew1) | exact HB.out)⟩⟩
          ·replace c51 := Bool.eq_false_iff.mpr c51
           subst c51
           have H1 : (hornbooklaw3_SetTells.j1 kj5 l0 l1 a2 true) = some r := by rw [if_neg (show ¬ (false = true) by decide)] at H; exact H
           clear H
           have H := H1
           clear H1
           have H' := Aside0.mk H
           clear H
           obtain ⟨Ao72, co72, eo72⟩ := Kd.R_slice HO451.out
           subst eo72
           obtain ⟨Ao73, co73, eo73⟩ := Kd.R_slice HO455.out
           subst eo73
           go_wp2_with (first | (go_at_call 38; (with_reducible refine (hornbookref3_Same.calls kj5 _ _ t448 _ _ t452 false _ ?side1 ?side2 ?side3 ?side4 A50.out).mono ?_); (case side1 => repeat (first | exact (Kd.R_reads' HO451.out).2.2 | (with_reducible refine Kd.C_alloc ?_ _) | (with_reducible refine Kd.C_drewN ?_ _) | (with_reducible refine Kd.C_drew ?_))); (case side2 => exact (Kd.R_reads' HO451.out).2.1); (case side3 => repeat (first | exact (Kd.R_reads' HO455.out).2.2 | (with_reducible refine Kd.C_alloc ?_ _) | (with_reducible refine Kd.C_drewN ?_ _) | (with_reducible refine Kd.C_drew ?_))); (case side4 => exact (Kd.R_reads' HO455.out).2.1); rintro e w' ⟨rfl, ⟨nd, rfl⟩⟩; clear A50))
           go_meet
           case rel => exact ⟨_, (true), (by first | rfl | (simp; done) | (simp [*]; done)), H', ⟨by have := HJ5.out; first | omega | exact Nat.le_refl _⟩, ⟨by repeat (first | (with_reducible first | exact HB.out | apply below_alloc | apply pw_below_drewN | apply below_drew1) | exact HB.out)⟩⟩
         ·rw [if_neg c49] at H
          have c49b0 : (t449 == 30) = false := beq_eq_false_iff_ne.mpr c49
          have c49b1 : (t449 != 30) = true := bne_iff_ne.mpr c49
          have H' := Aside0.mk H
          clear H
          go_wp2
          go_meet
          case rel => exact ⟨_, (true), (by first | rfl | (simp; done) | (simp [*]; done)), H', ⟨by have := HJ5.out; first | omega | exact Nat.le_refl _⟩, ⟨by repeat (first | (with_reducible first | exact HB.out | apply below_alloc | apply pw_below_drewN | apply below_drew1) | exact HB.out)⟩⟩
      case rest =>
       clear HC15
       try clear c1
       try clear c2
       try clear p2
       try clear c3
       try clear c4
       try clear p4
       try clear q4
       try clear hx4
       try clear qi4
       try clear c5
       try clear c6
       try clear c8
       try clear c8b0
       try clear c8b1
       try clear c9
       try clear c10
       try clear c13
       try clear c19
       try clear c20
       try clear c22
       try clear c23
       try clear c23b0
       try clear c23b1
       try clear c25
       try clear c26
       try clear c26b0
       try clear c26b1
       try clear c27
       try clear c28
       try clear c28b0
       try clear c28b1
       try clear c29
       try clear c29b0
       try clear c29b1
       try clear c31
       try clear c36
       try clear c37
       try clear c39
       try clear p46
       try clear q46
       try clear hx46
       try clear qi46
       try clear c48
       try clear c48b0
       try clear c48b1
       try clear c49
       try clear c49b0
       try clear c49b1
       try clear c51
       try clear c52
       try clear c52b0
       try clear c52b1
       try clear c53
       try clear c54
       try clear c54b0
       try clear c54b1
       try clear c55
       try clear c55b0
       try clear c55b1
       try clear c65
       try clear hx462_0
       try clear hx462_1
       try clear hx464_0
       try clear hx464_1
       try clear p2
       try clear p462
       try clear p464
       try clear q462
       try clear q464
       obtain ⟨kq, x85_14, rfl, HA, HJ14, HB⟩ := hcut
       cases kq with
       | zero => exact absurd HA.out (by simp [hornbooklaw3_SetTells.j1])
       | succ kj14 =>
        have H := HA.out
        clear HA
        simp only [hornbooklaw3_SetTells.j1] at H
        by_cases c74 : x85_14 = true
        ·subst c74
         have H1 : (none) = some r := by rw [if_pos rfl] at H; exact H
         clear H
         have H := H1
         clear H1
         exact absurd H (by simp)
        ·replace c74 := Bool.eq_false_iff.mpr c74
         subst c74
         have H1 : ((uniset_Is.f kj14 l0).bind fun t465 => ((hornbookref3_Is.f kj14 l0).bind fun t466 => (if (t465 == t466) = true then ((uniset_Union.f l0 l1).bind fun t467 => ((hornbookref3_Union.f kj14 l0 l1).bind fun t470 => ((hornbookref3_Same.f kj14 t467 t470).bind fun t473 => (if t473 = true then ((uniset_Inter.f kj14 l0 l1).bind fun t474 => ((hornbookref3_Inter.f kj14 l0 l1).bind fun t477 => ((hornbookref3_Same.f kj14 t474 t477).bind fun t480 => (if t480 = true then ((uniset_Minus.f kj14 l0 l1).bind fun t481 => ((hornbookref3_Minus.f kj14 l0 l1).bind fun t484 => ((hornbookref3_Same.f kj14 t481 t484).bind fun t487 => (if t487 = true then ((uniset_Not.f kj14 l0).bind fun t488 => ((hornbookref3_Not.f kj14 l0).bind fun t491 => ((hornbookref3_Same.f kj14 t488 t491).bind fun t494 => (if t494 = true then ((uniset_Has.f l0 a2).bind fun t495 => ((hornbookref3_Has.f kj14 l0 a2).bind fun t496 => (if (t495 == t496) = true then ((uniset_Count.f kj14 l0).bind fun t497 => ((hornbookref3_Count.f kj14 l0).bind fun t498 => (if t497 = t498 then ((uniset_Same.f kj14 l0 l1).bind fun t499 => ((hornbookref3_Of.f kj14 l0).bind fun t500 => ((hornbookref3_Of.f kj14 l1).bind fun t503 => ((hornbookref3_Same.f kj14 t500 t503).bind fun t506 => (some (t499 == t506)))))) else (none)))) else (none)))) else (none))))) else (none))))) else (none))))) else (none))))) else (none)))) = some r := by rw [if_neg (show ¬ (false = true) by decide)] at H; exact H
         clear H
         have H := H1
         clear H1
         replace H := Option.bind_eq_some_iff.mp H
         obtain ⟨t465, A750, H⟩ := H
         replace H : ((hornbookref3_Is.f kj14 l0).bind fun t466 => (if (t465 == t466) = true then ((uniset_Union.f l0 l1).bind fun t467 => ((hornbookref3_Union.f kj14 l0 l1).bind fun t470 => ((hornbookref3_Same.f kj14 t467 t470).bind fun t473 => (if t473 = true then ((uniset_Inter.f kj14 l0 l1).bind fun t474 => ((hornbookref3_Inter.f kj14 l0 l1).bind fun t477 => ((hornbookref3_Same.f kj14 t474 t477).bind fun t480 => (if t480 = true then ((uniset_Minus.f kj14 l0 l1).bind fun t481 => ((hornbookref3_Minus.f kj14 l0 l1).bind fun t484 => ((hornbookref3_Same.f kj14 t481 t484).bind fun t487 => (if t487 = true then ((uniset_Not.f kj14 l0).bind fun t488 => ((hornbookref3_Not.f kj14 l0).bind fun t491 => ((hornbookref3_Same.f kj14 t488 t491).bind fun t494 => (if t494 = true then ((uniset_Has.f l0 a2).bind fun t495 => ((hornbookref3_Has.f kj14 l0 a2).bind fun t496 => (if (t495 == t496) = true then ((uniset_Count.f kj14 l0).bind fun t497 => ((hornbookref3_Count.f kj14 l0).bind fun t498 => (if t497 = t498 then ((uniset_Same.f kj14 l0 l1).bind fun t499 => ((hornbookref3_Of.f kj14 l0).bind fun t500 => ((hornbookref3_Of.f kj14 l1).bind fun t503 => ((hornbookref3_Same.f kj14 t500 t503).bind fun t506 => (some (t499 == t506)))))) else (none)))) else (none)))) else (none))))) else (none))))) else (none))))) else (none))))) else (none))) = some r := H
         have A75 := Aside0.mk A750
         clear A750
         replace H := Option.bind_eq_some_iff.mp H
         obtain ⟨t466, A760, H⟩ := H
         replace H : (if (t465 == t466) = true then ((uniset_Union.f l0 l1).bind fun t467 => ((hornbookref3_Union.f kj14 l0 l1).bind fun t470 => ((hornbookref3_Same.f kj14 t467 t470).bind fun t473 => (if t473 = true then ((uniset_Inter.f kj14 l0 l1).bind fun t474 => ((hornbookref3_Inter.f kj14 l0 l1).bind fun t477 => ((hornbookref3_Same.f kj14 t474 t477).bind fun t480 => (if t480 = true then ((uniset_Minus.f kj14 l0 l1).bind fun t481 => ((hornbookref3_Minus.f kj14 l0 l1).bind fun t484 => ((hornbookref3_Same.f kj14 t481 t484).bind fun t487 => (if t487 = true then ((uniset_Not.f kj14 l0).bind fun t488 => ((hornbookref3_Not.f kj14 l0).bind fun t491 => ((hornbookref3_Same.f kj14 t488 t491).bind fun t494 => (if t494 = true then ((uniset_Has.f l0 a2).bind fun t495 => ((hornbookref3_Has.f kj14 l0 a2).bind fun t496 => (if (t495 == t496) = true then ((uniset_Count.f kj14 l0).bind fun t497 => ((hornbookref3_Count.f kj14 l0).bind fun t498 => (if t497 = t498 then ((uniset_Same.f kj14 l0 l1).bind fun t499 => ((hornbookref3_Of.f kj14 l0).bind fun t500 => ((hornbookref3_Of.f kj14 l1).bind fun t503 => ((hornbookref3_Same.f kj14 t500 t503).bind fun t506 => (some (t499 == t506)))))) else (none)))) else (none)))) else (none))))) else (none))))) else (none))))) else (none))))) else (none)) = some r := H
         have A76 := Aside0.mk A760
         clear A760
         by_cases c77 : (t465 == t466) = true
         ·rw [if_pos c77] at H
          have c77b0 : (t465 == t466) = true := c77
          (try (have c77b1 : decide (t465 = t466) = true := by simpa using c77))
          (try (have c77b2 : (t465 == t466) = true := by simpa using c77))
          clear c77
          replace H := Option.bind_eq_some_iff.mp H
          obtain ⟨t467, A780, H⟩ := H
          replace H : ((hornbookref3_Union.f kj14 l0 l1).bind fun t470 => ((hornbookref3_Same.f kj14 t467 t470).bind fun t473 => (if t473 = true then ((uniset_Inter.f kj14 l0 l1).bind fun t474 => ((hornbookref3_Inter.f kj14 l0 l1).bind fun t477 => ((hornbookref3_Same.f kj14 t474 t477).bind fun t480 => (if t480 = true then ((uniset_Minus.f kj14 l0 l1).bind fun t481 => ((hornbookref3_Minus.f kj14 l0 l1).bind fun t484 => ((hornbookref3_Same.f kj14 t481 t484).bind fun t487 => (if t487 = true then ((uniset_Not.f kj14 l0).bind fun t488 => ((hornbookref3_Not.f kj14 l0).bind fun t491 => ((hornbookref3_Same.f kj14 t488 t491).bind fun t494 => (if t494 = true then ((uniset_Has.f l0 a2).bind fun t495 => ((hornbookref3_Has.f kj14 l0 a2).bind fun t496 => (if (t495 == t496) = true then ((uniset_Count.f kj14 l0).bind fun t497 => ((hornbookref3_Count.f kj14 l0).bind fun t498 => (if t497 = t498 then ((uniset_Same.f kj14 l0 l1).bind fun t499 => ((hornbookref3_Of.f kj14 l0).bind fun t500 => ((hornbookref3_Of.f kj14 l1).bind fun t503 => ((hornbookref3_Same.f kj14 t500 t503).bind fun t506 => (some (t499 == t506)))))) else (none)))) else (none)))) else (none))))) else (none))))) else (none))))) else (none)))) = some r := H
          have A78 := Aside0.mk A780
          clear A780
          replace H := Option.bind_eq_some_iff.mp H
          obtain ⟨t470, A790, H⟩ := H
          replace H : ((hornbookref3_Same.f kj14 t467 t470).bind fun t473 => (if t473 = true then ((uniset_Inter.f kj14 l0 l1).bind fun t474 => ((hornbookref3_Inter.f kj14 l0 l1).bind fun t477 => ((hornbookref3_Same.f kj14 t474 t477).bind fun t480 => (if t480 = true then ((uniset_Minus.f kj14 l0 l1).bind fun t481 => ((hornbookref3_Minus.f kj14 l0 l1).bind fun t484 => ((hornbookref3_Same.f kj14 t481 t484).bind fun t487 => (if t487 = true then ((uniset_Not.f kj14 l0).bind fun t488 => ((hornbookref3_Not.f kj14 l0).bind fun t491 => ((hornbookref3_Same.f kj14 t488 t491).bind fun t494 => (if t494 = true then ((uniset_Has.f l0 a2).bind fun t495 => ((hornbookref3_Has.f kj14 l0 a2).bind fun t496 => (if (t495 == t496) = true then ((uniset_Count.f kj14 l0).bind fun t497 => ((hornbookref3_Count.f kj14 l0).bind fun t498 => (if t497 = t498 then ((uniset_Same.f kj14 l0 l1).bind fun t499 => ((hornbookref3_Of.f kj14 l0).bind fun t500 => ((hornbookref3_Of.f kj14 l1).bind fun t503 => ((hornbookref3_Same.f kj14 t500 t503).bind fun t506 => (some (t499 == t506)))))) else (none)))) else (none)))) else (none))))) else (none))))) else (none))))) else (none))) = some r := H
          have A79 := Aside0.mk A790
          clear A790
          replace H := Option.bind_eq_some_iff.mp H
          obtain ⟨t473, A800, H⟩ := H
          replace H : (if t473 = true then ((uniset_Inter.f kj14 l0 l1).bind fun t474 => ((hornbookref3_Inter.f kj14 l0 l1).bind fun t477 => ((hornbookref3_Same.f kj14 t474 t477).bind fun t480 => (if t480 = true then ((uniset_Minus.f kj14 l0 l1).bind fun t481 => ((hornbookref3_Minus.f kj14 l0 l1).bind fun t484 => ((hornbookref3_Same.f kj14 t481 t484).bind fun t487 => (if t487 = true then ((uniset_Not.f kj14 l0).bind fun t488 => ((hornbookref3_Not.f kj14 l0).bind fun t491 => ((hornbookref3_Same.f kj14 t488 t491).bind fun t494 => (if t494 = true then ((uniset_Has.f l0 a2).bind fun t495 => ((hornbookref3_Has.f kj14 l0 a2).bind fun t496 => (if (t495 == t496) = true then ((uniset_Count.f kj14 l0).bind fun t497 => ((hornbookref3_Count.f kj14 l0).bind fun t498 => (if t497 = t498 then ((uniset_Same.f kj14 l0 l1).bind fun t499 => ((hornbookref3_Of.f kj14 l0).bind fun t500 => ((hornbookref3_Of.f kj14 l1).bind fun t503 => ((hornbookref3_Same.f kj14 t500 t503).bind fun t506 => (some (t499 == t506)))))) else (none)))) else (none)))) else (none))))) else (none))))) else (none))))) else (none)) = some r := H
          have A80 := Aside0.mk A800
          clear A800
          by_cases c81 : t473 = true
          ·subst c81
           have H1 : ((uniset_Inter.f kj14 l0 l1).bind fun t474 => ((hornbookref3_Inter.f kj14 l0 l1).bind fun t477 => ((hornbookref3_Same.f kj14 t474 t477).bind fun t480 => (if t480 = true then ((uniset_Minus.f kj14 l0 l1).bind fun t481 => ((hornbookref3_Minus.f kj14 l0 l1).bind fun t484 => ((hornbookref3_Same.f kj14 t481 t484).bind fun t487 => (if t487 = true then ((uniset_Not.f kj14 l0).bind fun t488 => ((hornbookref3_Not.f kj14 l0).bind fun t491 => ((hornbookref3_Same.f kj14 t488 t491).bind fun t494 => (if t494 = true then ((uniset_Has.f l0 a2).bind fun t495 => ((hornbookref3_Has.f kj14 l0 a2).bind fun t496 => (if (t495 == t496) = true then ((uniset_Count.f kj14 l0).bind fun t497 => ((hornbookref3_Count.f kj14 l0).bind fun t498 => (if t497 = t498 then ((uniset_Same.f kj14 l0 l1).bind fun t499 => ((hornbookref3_Of.f kj14 l0).bind fun t500 => ((hornbookref3_Of.f kj14 l1).bind fun t503 => ((hornbookref3_Same.f kj14 t500 t503).bind fun t506 => (some (t499 == t506)))))) else (none)))) else (none)))) else (none))))) else (none))))) else (none))))) = some r := by rw [if_pos rfl] at H; exact H
           clear H
           have H := H1
           clear H1
           replace H := Option.bind_eq_some_iff.mp H
           obtain ⟨t474, A820, H⟩ := H
           replace H : ((hornbookref3_Inter.f kj14 l0 l1).bind fun t477 => ((hornbookref3_Same.f kj14 t474 t477).bind fun t480 => (if t480 = true then ((uniset_Minus.f kj14 l0 l1).bind fun t481 => ((hornbookref3_Minus.f kj14 l0 l1).bind fun t484 => ((hornbookref3_Same.f kj14 t481 t484).bind fun t487 => (if t487 = true then ((uniset_Not.f kj14 l0).bind fun t488 => ((hornbookref3_Not.f kj14 l0).bind fun t491 => ((hornbookref3_Same.f kj14 t488 t491).bind fun t494 => (if t494 = true then ((uniset_Has.f l0 a2).bind fun t495 => ((hornbookref3_Has.f kj14 l0 a2).bind fun t496 => (if (t495 == t496) = true then ((uniset_Count.f kj14 l0).bind fun t497 => ((hornbookref3_Count.f kj14 l0).bind fun t498 => (if t497 = t498 then ((uniset_Same.f kj14 l0 l1).bind fun t499 => ((hornbookref3_Of.f kj14 l0).bind fun t500 => ((hornbookref3_Of.f kj14 l1).bind fun t503 => ((hornbookref3_Same.f kj14 t500 t503).bind fun t506 => (some (t499 == t506)))))) else (none)))) else (none)))) else (none))))) else (none))))) else (none)))) = some r := H
           have A82 := Aside0.mk A820
           clear A820
           replace H := Option.bind_eq_some_iff.mp H
           obtain ⟨t477, A830, H⟩ := H
           replace H : ((hornbookref3_Same.f kj14 t474 t477).bind fun t480 => (if t480 = true then ((uniset_Minus.f kj14 l0 l1).bind fun t481 => ((hornbookref3_Minus.f kj14 l0 l1).bind fun t484 => ((hornbookref3_Same.f kj14 t481 t484).bind fun t487 => (if t487 = true then ((uniset_Not.f kj14 l0).bind fun t488 => ((hornbookref3_Not.f kj14 l0).bind fun t491 => ((hornbookref3_Same.f kj14 t488 t491).bind fun t494 => (if t494 = true then ((uniset_Has.f l0 a2).bind fun t495 => ((hornbookref3_Has.f kj14 l0 a2).bind fun t496 => (if (t495 == t496) = true then ((uniset_Count.f kj14 l0).bind fun t497 => ((hornbookref3_Count.f kj14 l0).bind fun t498 => (if t497 = t498 then ((uniset_Same.f kj14 l0 l1).bind fun t499 => ((hornbookref3_Of.f kj14 l0).bind fun t500 => ((hornbookref3_Of.f kj14 l1).bind fun t503 => ((hornbookref3_Same.f kj14 t500 t503).bind fun t506 => (some (t499 == t506)))))) else (none)))) else (none)))) else (none))))) else (none))))) else (none))) = some r := H
           have A83 := Aside0.mk A830
           clear A830
           replace H := Option.bind_eq_some_iff.mp H
           obtain ⟨t480, A840, H⟩ := H
           replace H : (if t480 = true then ((uniset_Minus.f kj14 l0 l1).bind fun t481 => ((hornbookref3_Minus.f kj14 l0 l1).bind fun t484 => ((hornbookref3_Same.f kj14 t481 t484).bind fun t487 => (if t487 = true then ((uniset_Not.f kj14 l0).bind fun t488 => ((hornbookref3_Not.f kj14 l0).bind fun t491 => ((hornbookref3_Same.f kj14 t488 t491).bind fun t494 => (if t494 = true then ((uniset_Has.f l0 a2).bind fun t495 => ((hornbookref3_Has.f kj14 l0 a2).bind fun t496 => (if (t495 == t496) = true then ((uniset_Count.f kj14 l0).bind fun t497 => ((hornbookref3_Count.f kj14 l0).bind fun t498 => (if t497 = t498 then ((uniset_Same.f kj14 l0 l1).bind fun t499 => ((hornbookref3_Of.f kj14 l0).bind fun t500 => ((hornbookref3_Of.f kj14 l1).bind fun t503 => ((hornbookref3_Same.f kj14 t500 t503).bind fun t506 => (some (t499 == t506)))))) else (none)))) else (none)))) else (none))))) else (none))))) else (none)) = some r := H
           have A84 := Aside0.mk A840
           clear A840
           by_cases c85 : t480 = true
           ·subst c85
            have H1 : ((uniset_Minus.f kj14 l0 l1).bind fun t481 => ((hornbookref3_Minus.f kj14 l0 l1).bind fun t484 => ((hornbookref3_Same.f kj14 t481 t484).bind fun t487 => (if t487 = true then ((uniset_Not.f kj14 l0).bind fun t488 => ((hornbookref3_Not.f kj14 l0).bind fun t491 => ((hornbookref3_Same.f kj14 t488 t491).bind fun t494 => (if t494 = true then ((uniset_Has.f l0 a2).bind fun t495 => ((hornbookref3_Has.f kj14 l0 a2).bind fun t496 => (if (t495 == t496) = true then ((uniset_Count.f kj14 l0).bind fun t497 => ((hornbookref3_Count.f kj14 l0).bind fun t498 => (if t497 = t498 then ((uniset_Same.f kj14 l0 l1).bind fun t499 => ((hornbookref3_Of.f kj14 l0).bind fun t500 => ((hornbookref3_Of.f kj14 l1).bind fun t503 => ((hornbookref3_Same.f kj14 t500 t503).bind fun t506 => (some (t499 == t506)))))) else (none)))) else (none)))) else (none))))) else (none))))) = some r := by rw [if_pos rfl] at H; exact H
            clear H
            have H := H1
            clear H1
            replace H := Option.bind_eq_some_iff.mp H
            obtain ⟨t481, A860, H⟩ := H
            replace H : ((hornbookref3_Minus.f kj14 l0 l1).bind fun t484 => ((hornbookref3_Same.f kj14 t481 t484).bind fun t487 => (if t487 = true then ((uniset_Not.f kj14 l0).bind fun t488 => ((hornbookref3_Not.f kj14 l0).bind fun t491 => ((hornbookref3_Same.f kj14 t488 t491).bind fun t494 => (if t494 = true then ((uniset_Has.f l0 a2).bind fun t495 => ((hornbookref3_Has.f kj14 l0 a2).bind fun t496 => (if (t495 == t496) = true then ((uniset_Count.f kj14 l0).bind fun t497 => ((hornbookref3_Count.f kj14 l0).bind fun t498 => (if t497 = t498 then ((uniset_Same.f kj14 l0 l1).bind fun t499 => ((hornbookref3_Of.f kj14 l0).bind fun t500 => ((hornbookref3_Of.f kj14 l1).bind fun t503 => ((hornbookref3_Same.f kj14 t500 t503).bind fun t506 => (some (t499 == t506)))))) else (none)))) else (none)))) else (none))))) else (none)))) = some r := H
            have A86 := Aside0.mk A860
            clear A860
            replace H := Option.bind_eq_some_iff.mp H
            obtain ⟨t484, A870, H⟩ := H
            replace H : ((hornbookref3_Same.f kj14 t481 t484).bind fun t487 => (if t487 = true then ((uniset_Not.f kj14 l0).bind fun t488 => ((hornbookref3_Not.f kj14 l0).bind fun t491 => ((hornbookref3_Same.f kj14 t488 t491).bind fun t494 => (if t494 = true then ((uniset_Has.f l0 a2).bind fun t495 => ((hornbookref3_Has.f kj14 l0 a2).bind fun t496 => (if (t495 == t496) = true then ((uniset_Count.f kj14 l0).bind fun t497 => ((hornbookref3_Count.f kj14 l0).bind fun t498 => (if t497 = t498 then ((uniset_Same.f kj14 l0 l1).bind fun t499 => ((hornbookref3_Of.f kj14 l0).bind fun t500 => ((hornbookref3_Of.f kj14 l1).bind fun t503 => ((hornbookref3_Same.f kj14 t500 t503).bind fun t506 => (some (t499 == t506)))))) else (none)))) else (none)))) else (none))))) else (none))) = some r := H
            have A87 := Aside0.mk A870
            clear A870
            replace H := Option.bind_eq_some_iff.mp H
            obtain ⟨t487, A880, H⟩ := H
            replace H : (if t487 = true then ((uniset_Not.f kj14 l0).bind fun t488 => ((hornbookref3_Not.f kj14 l0).bind fun t491 => ((hornbookref3_Same.f kj14 t488 t491).bind fun t494 => (if t494 = true then ((uniset_Has.f l0 a2).bind fun t495 => ((hornbookref3_Has.f kj14 l0 a2).bind fun t496 => (if (t495 == t496) = true then ((uniset_Count.f kj14 l0).bind fun t497 => ((hornbookref3_Count.f kj14 l0).bind fun t498 => (if t497 = t498 then ((uniset_Same.f kj14 l0 l1).bind fun t499 => ((hornbookref3_Of.f kj14 l0).bind fun t500 => ((hornbookref3_Of.f kj14 l1).bind fun t503 => ((hornbookref3_Same.f kj14 t500 t503).bind fun t506 => (some (t499 == t506)))))) else (none)))) else (none)))) else (none))))) else (none)) = some r := H
            have A88 := Aside0.mk A880
            clear A880
            by_cases c89 : t487 = true
            ·subst c89
             have H1 : ((uniset_Not.f kj14 l0).bind fun t488 => ((hornbookref3_Not.f kj14 l0).bind fun t491 => ((hornbookref3_Same.f kj14 t488 t491).bind fun t494 => (if t494 = true then ((uniset_Has.f l0 a2).bind fun t495 => ((hornbookref3_Has.f kj14 l0 a2).bind fun t496 => (if (t495 == t496) = true then ((uniset_Count.f kj14 l0).bind fun t497 => ((hornbookref3_Count.f kj14 l0).bind fun t498 => (if t497 = t498 then ((uniset_Same.f kj14 l0 l1).bind fun t499 => ((hornbookref3_Of.f kj14 l0).bind fun t500 => ((hornbookref3_Of.f kj14 l1).bind fun t503 => ((hornbookref3_Same.f kj14 t500 t503).bind fun t506 => (some (t499 == t506)))))) else (none)))) else (none)))) else (none))))) = some r := by rw [if_pos rfl] at H; exact H
             clear H
             have H := H1
             clear H1
             replace H := Option.bind_eq_some_iff.mp H
             obtain ⟨t488, A900, H⟩ := H
             replace H : ((hornbookref3_Not.f kj14 l0).bind fun t491 => ((hornbookref3_Same.f kj14 t488 t491).bind fun t494 => (if t494 = true then ((uniset_Has.f l0 a2).bind fun t495 => ((hornbookref3_Has.f kj14 l0 a2).bind fun t496 => (if (t495 == t496) = true then ((uniset_Count.f kj14 l0).bind fun t497 => ((hornbookref3_Count.f kj14 l0).bind fun t498 => (if t497 = t498 then ((uniset_Same.f kj14 l0 l1).bind fun t499 => ((hornbookref3_Of.f kj14 l0).bind fun t500 => ((hornbookref3_Of.f kj14 l1).bind fun t503 => ((hornbookref3_Same.f kj14 t500 t503).bind fun t506 => (some (t499 == t506)))))) else (none)))) else (none)))) else (none)))) = some r := H
             have A90 := Aside0.mk A900
             clear A900
             replace H := Option.bind_eq_some_iff.mp H
             obtain ⟨t491, A910, H⟩ := H
             replace H : ((hornbookref3_Same.f kj14 t488 t491).bind fun t494 => (if t494 = true then ((uniset_Has.f l0 a2).bind fun t495 => ((hornbookref3_Has.f kj14 l0 a2).bind fun t496 => (if (t495 == t496) = true then ((uniset_Count.f kj14 l0).bind fun t497 => ((hornbookref3_Count.f kj14 l0).bind fun t498 => (if t497 = t498 then ((uniset_Same.f kj14 l0 l1).bind fun t499 => ((hornbookref3_Of.f kj14 l0).bind fun t500 => ((hornbookref3_Of.f kj14 l1).bind fun t503 => ((hornbookref3_Same.f kj14 t500 t503).bind fun t506 => (some (t499 == t506)))))) else (none)))) else (none)))) else (none))) = some r := H
             have A91 := Aside0.mk A910
             clear A910
             replace H := Option.bind_eq_some_iff.mp H
             obtain ⟨t494, A920, H⟩ := H
             replace H : (if t494 = true then ((uniset_Has.f l0 a2).bind fun t495 => ((hornbookref3_Has.f kj14 l0 a2).bind fun t496 => (if (t495 == t496) = true then ((uniset_Count.f kj14 l0).bind fun t497 => ((hornbookref3_Count.f kj14 l0).bind fun t498 => (if t497 = t498 then ((uniset_Same.f kj14 l0 l1).bind fun t499 => ((hornbookref3_Of.f kj14 l0).bind fun t500 => ((hornbookref3_Of.f kj14 l1).bind fun t503 => ((hornbookref3_Same.f kj14 t500 t503).bind fun t506 => (some (t499 == t506)))))) else (none)))) else (none)))) else (none)) = some r := H
             have A92 := Aside0.mk A920
             clear A920
             by_cases c93 : t494 = true
             ·subst c93
              have H1 : ((uniset_Has.f l0 a2).bind fun t495 => ((hornbookref3_Has.f kj14 l0 a2).bind fun t496 => (if (t495 == t496) = true then ((uniset_Count.f kj14 l0).bind fun t497 => ((hornbookref3_Count.f kj14 l0).bind fun t498 => (if t497 = t498 then ((uniset_Same.f kj14 l0 l1).bind fun t499 => ((hornbookref3_Of.f kj14 l0).bind fun t500 => ((hornbookref3_Of.f kj14 l1).bind fun t503 => ((hornbookref3_Same.f kj14 t500 t503).bind fun t506 => (some (t499 == t506)))))) else (none)))) else (none)))) = some r := by rw [if_pos rfl] at H; exact H
              clear H
              have H := H1
              clear H1
              replace H := Option.bind_eq_some_iff.mp H
              obtain ⟨t495, A940, H⟩ := H
              replace H : ((hornbookref3_Has.f kj14 l0 a2).bind fun t496 => (if (t495 == t496) = true then ((uniset_Count.f kj14 l0).bind fun t497 => ((hornbookref3_Count.f kj14 l0).bind fun t498 => (if t497 = t498 then ((uniset_Same.f kj14 l0 l1).bind fun t499 => ((hornbookref3_Of.f kj14 l0).bind fun t500 => ((hornbookref3_Of.f kj14 l1).bind fun t503 => ((hornbookref3_Same.f kj14 t500 t503).bind fun t506 => (some (t499 == t506)))))) else (none)))) else (none))) = some r := H
              have A94 := Aside0.mk A940
              clear A940
              replace H := Option.bind_eq_some_iff.mp H
              obtain ⟨t496, A950, H⟩ := H
              replace H : (if (t495 == t496) = true then ((uniset_Count.f kj14 l0).bind fun t497 => ((hornbookref3_Count.f kj14 l0).bind fun t498 => (if t497 = t498 then ((uniset_Same.f kj14 l0 l1).bind fun t499 => ((hornbookref3_Of.f kj14 l0).bind fun t500 => ((hornbookref3_Of.f kj14 l1).bind fun t503 => ((hornbookref3_Same.f kj14 t500 t503).bind fun t506 => (some (t499 == t506)))))) else (none)))) else (none)) = some r := H
              have A95 := Aside0.mk A950
              clear A950
              by_cases c96 : (t495 == t496) = true
              ·rw [if_pos c96] at H
               have c96b0 : (t495 == t496) = true := c96
               (try (have c96b1 : decide (t495 = t496) = true := by simpa using c96))
               (try (have c96b2 : (t495 == t496) = true := by simpa using c96))
               clear c96
               replace H := Option.bind_eq_some_iff.mp H
               obtain ⟨t497, A970, H⟩ := H
               replace H : ((hornbookref3_Count.f kj14 l0).bind fun t498 => (if t497 = t498 then ((uniset_Same.f kj14 l0 l1).bind fun t499 => ((hornbookref3_Of.f kj14 l0).bind fun t500 => ((hornbookref3_Of.f kj14 l1).bind fun t503 => ((hornbookref3_Same.f kj14 t500 t503).bind fun t506 => (some (t499 == t506)))))) else (none))) = some r := H
               have A97 := Aside0.mk A970
               clear A970
               replace H := Option.bind_eq_some_iff.mp H
               obtain ⟨t498, A980, H⟩ := H
               replace H : (if t497 = t498 then ((uniset_Same.f kj14 l0 l1).bind fun t499 => ((hornbookref3_Of.f kj14 l0).bind fun t500 => ((hornbookref3_Of.f kj14 l1).bind fun t503 => ((hornbookref3_Same.f kj14 t500 t503).bind fun t506 => (some (t499 == t506)))))) else (none)) = some r := H
               have A98 := Aside0.mk A980
               clear A980
               by_cases c99 : t497 = t498
               ·rw [if_pos c99] at H
                have c99b0 : (t497 == t498) = true := beq_iff_eq.mpr c99
                have c99b1 : (t497 != t498) = false := bne_eq_false_iff_eq.mpr c99
                clear c99
                replace H := Option.bind_eq_some_iff.mp H
                obtain ⟨t499, A1000, H⟩ := H
                replace H : ((hornbookref3_Of.f kj14 l0).bind fun t500 => ((hornbookref3_Of.f kj14 l1).bind fun t503 => ((hornbookref3_Same.f kj14 t500 t503).bind fun t506 => (some (t499 == t506))))) = some r := H
                have A100 := Aside0.mk A1000
                clear A1000
                replace H := Option.bind_eq_some_iff.mp H
                obtain ⟨t500, A1010, H⟩ := H
                replace H : ((hornbookref3_Of.f kj14 l1).bind fun t503 => ((hornbookref3_Same.f kj14 t500 t503).bind fun t506 => (some (t499 == t506)))) = some r := H
                have A101 := Aside0.mk A1010
                clear A1010
                replace H := Option.bind_eq_some_iff.mp H
                obtain ⟨t503, A1020, H⟩ := H
                replace H : ((hornbookref3_Same.f kj14 t500 t503).bind fun t506 => (some (t499 == t506))) = some r := H
                have A102 := Aside0.mk A1020
                clear A1020
                replace H := Option.bind_eq_some_iff.mp H
                obtain ⟨t506, A1030, H⟩ := H
                replace H : (some (t499 == t506)) = some r := H
                have A103 := Aside0.mk A1030
                clear A1030
                obtain rfl := Option.some.inj H
                go_wp2_with (first | ((with_reducible refine gate_callee (f := 23) rfl ?_); refine goesL_ (some 87) rfl rfl Try.func23 (by kernel_rfl) rfl #[.slice A0 l0.length c0] rfl (by (try simp only [List.map_toArray, List.map_cons, List.map_nil]); first | done | rfl | (simp only [List.length_drop, List.length_take]; rfl)) ?_; (with_reducible refine (uniset_Is.calls kj14 _ _ l0 t465 _ ?side1 ?side2 A75.out).mono ?_); (case side1 => repeat (first | exact (Kd.C_below HR0.out HB.out) | (with_reducible refine Kd.C_alloc ?_ _) | (with_reducible refine Kd.C_drewN ?_ _) | (with_reducible refine Kd.C_drew ?_))); (case side2 => exact HC0.out); rintro e w104 ⟨rfl, hb⟩; refine ⟨_, rfl, ?_⟩; have n0_ := Aside0.mk (below_step (by repeat (first | (with_reducible first | exact HB.out | apply below_alloc | apply pw_below_drewN | apply below_drew1) | exact HB.out)) hb); clear HB; have HB := n0_; clear n0_; (try clear hb); (try clear hb2); (try clear hk); (try clear hi); clear A75) | (go_at_call 23; (with_reducible refine (uniset_Is.calls kj14 _ _ l0 t465 _ ?side1 ?side2 A75.out).mono ?_); (case side1 => repeat (first | exact (Kd.C_below HR0.out HB.out) | (with_reducible refine Kd.C_alloc ?_ _) | (with_reducible refine Kd.C_drewN ?_ _) | (with_reducible refine Kd.C_drew ?_))); (case side2 => exact HC0.out); rintro e w104 ⟨rfl, hb⟩; have n0_ := Aside0.mk (below_step (by repeat (first | (with_reducible first | exact HB.out | apply below_alloc | apply pw_below_drewN | apply below_drew1) | exact HB.out)) hb); clear HB; have HB := n0_; clear n0_; (try clear hb); (try clear hb2); (try clear hk); (try clear hi); clear A75) | ((with_reducible refine gate_callee (f := 39) rfl ?_); refine goesL_ (some 89) rfl rfl Try.func39 (by kernel_rfl) rfl #[.slice A0 l0.length c0] rfl (by (try simp only [List.map_toArray, List.map_cons, List.map_nil]); first | done | rfl | (simp only [List.length_drop, List.length_take]; rfl)) ?_; (with_reducible refine (hornbookref3_Is.calls kj14 _ _ l0 t466 _ ?side1 ?side2 A76.out).mono ?_); (case side1 => repeat (first | exact (Kd.C_below HR0.out HB.out) | (with_reducible refine Kd.C_alloc ?_ _) | (with_reducible refine Kd.C_drewN ?_ _) | (with_reducible refine Kd.C_drew ?_))); (case side2 => exact HC0.out); rintro e w105 ⟨rfl, hb⟩; refine ⟨_, rfl, ?_⟩; have n0_ := Aside0.mk (below_step (by repeat (first | (with_reducible first | exact HB.out | apply below_alloc | apply pw_below_drewN | apply below_drew1) | exact HB.out)) hb); clear HB; have HB := n0_; clear n0_; (try clear hb); (try clear hb2); (try clear hk); (try clear hi); clear A76) | (go_at_call 39; (with_reducible refine (hornbookref3_Is.calls kj14 _ _ l0 t466 _ ?side1 ?side2 A76.out).mono ?_); (case side1 => repeat (first | exact (Kd.C_below HR0.out HB.out) | (with_reducible refine Kd.C_alloc ?_ _) | (with_reducible refine Kd.C_drewN ?_ _) | (with_reducible refine Kd.C_drew ?_))); (case side2 => exact HC0.out); rintro e w105 ⟨rfl, hb⟩; have n0_ := Aside0.mk (below_step (by repeat (first | (with_reducible first | exact HB.out | apply below_alloc | apply pw_below_drewN | apply below_drew1) | exact HB.out)) hb); clear HB; have HB := n0_; clear n0_; (try clear hb); (try clear hb2); (try clear hk); (try clear hi); clear A76) | (go_at_call 24; (with_reducible refine (uniset_Union.calls _ _ l0 _ _ l1 t467 _ ?side1 ?side2 ?side3 ?side4 A78.out).mono ?_); (case side1 => repeat (first | exact (Kd.C_below HR0.out HB.out) | (with_reducible refine Kd.C_alloc ?_ _) | (with_reducible refine Kd.C_drewN ?_ _) | (with_reducible refine Kd.C_drew ?_))); (case side2 => exact HC0.out); (case side3 => repeat (first | exact (Kd.C_below HR1.out HB.out) | (with_reducible refine Kd.C_alloc ?_ _) | (with_reducible refine Kd.C_drewN ?_ _) | (with_reducible refine Kd.C_drew ?_))); (case side4 => exact HC1.out); rintro e w106 ⟨v468, rfl, ho0, hb⟩; have n0_ := Aside0.mk (Kd.R_lower ho0 (below_size (by repeat (first | (with_reducible first | exact HB.out | apply below_alloc | apply pw_below_drewN | apply below_drew1) | exact HB.out)))); have n1_ := Aside0.mk (below_step (by repeat (first | (with_reducible first | exact HB.out | apply below_alloc | apply pw_below_drewN | apply below_drew1) | exact HB.out)) hb); clear HB; have HO469 := n0_; have HB := n1_; clear n0_ n1_; (try clear hb); (try clear hb2); (try clear hk); (try clear hi); (try clear ho0); clear A78) | (go_at_call 40; (with_reducible refine (hornbookref3_Union.calls kj14 _ _ l0 _ _ l1 t470 _ ?side1 ?side2 ?side3 ?side4 A79.out).mono ?_); (case side1 => repeat (first | exact (Kd.C_below HR0.out HB.out) | (with_reducible refine Kd.C_alloc ?_ _) | (with_reducible refine Kd.C_drewN ?_ _) | (with_reducible refine Kd.C_drew ?_))); (case side2 => exact HC0.out); (case side3 => repeat (first | exact (Kd.C_below HR1.out HB.out) | (with_reducible refine Kd.C_alloc ?_ _) | (with_reducible refine Kd.C_drewN ?_ _) | (with_reducible refine Kd.C_drew ?_))); (case side4 => exact HC1.out); rintro e w107 ⟨v471, rfl, ho0, hb⟩; have n0_ := Aside0.mk (Kd.R_elder' (by (with_reducible repeat (first | apply Kd.R_alloc | apply Kd.R_drewN | apply Kd.R_drew)); exact HO469.out) (Kd.R_base ho0) hb); have n1_ := Aside0.mk (Kd.R_lower (Kd.R_new' ho0 (Kd.R_lt (by (with_reducible repeat (first | apply Kd.R_alloc | apply Kd.R_drewN | apply Kd.R_drew)); exact HO469.out))) (below_size (by repeat (first | (with_reducible first | exact HB.out | apply below_alloc | apply pw_below_drewN | apply below_drew1) | exact HB.out)))); have n2_ := Aside0.mk (below_step (by repeat (first | (with_reducible first | exact HB.out | apply below_alloc | apply pw_below_drewN | apply below_drew1) | exact HB.out)) hb); clear HO469; clear HB; have HO469 := n0_; have HO472 := n1_; have HB := n2_; clear n0_ n1_ n2_; (try clear hb); (try clear hb2); (try clear hk); (try clear hi); (try clear ho0); obtain ⟨Ao108, co108, eo108⟩ := Kd.R_slice HO469.out; subst eo108; obtain ⟨Ao109, co109, eo109⟩ := Kd.R_slice HO472.out; subst eo109; clear A79) | (go_at_call 38; (with_reducible refine (hornbookref3_Same.calls kj14 _ _ t467 _ _ t470 true _ ?side1 ?side2 ?side3 ?side4 A80.out).mono ?_); (case side1 => repeat (first | exact (Kd.R_reads' HO469.out).2.2 | (with_reducible refine Kd.C_alloc ?_ _) | (with_reducible refine Kd.C_drewN ?_ _) | (with_reducible refine Kd.C_drew ?_))); (case side2 => exact (Kd.R_reads' HO469.out).2.1); (case side3 => repeat (first | exact (Kd.R_reads' HO472.out).2.2 | (with_reducible refine Kd.C_alloc ?_ _) | (with_reducible refine Kd.C_drewN ?_ _) | (with_reducible refine Kd.C_drew ?_))); (case side4 => exact (Kd.R_reads' HO472.out).2.1); rintro e w' ⟨rfl, ⟨nd, rfl⟩⟩; clear A80) | (go_at_call 26; (with_reducible refine (uniset_Inter.calls kj14 _ _ l0 _ _ l1 t474 _ ?side1 ?side2 ?side3 ?side4 A82.out).mono ?_); (case side1 => repeat (first | exact (Kd.C_below HR0.out (by repeat (first | (with_reducible first | exact HB.out | apply below_alloc | apply pw_below_drewN | apply below_drew1) | exact HB.out))) | (with_reducible refine Kd.C_alloc ?_ _) | (with_reducible refine Kd.C_drewN ?_ _) | (with_reducible refine Kd.C_drew ?_))); (case side2 => exact HC0.out); (case side3 => repeat (first | exact (Kd.C_below HR1.out (by repeat (first | (with_reducible first | exact HB.out | apply below_alloc | apply pw_below_drewN | apply below_drew1) | exact HB.out))) | (with_reducible refine Kd.C_alloc ?_ _) | (with_reducible refine Kd.C_drewN ?_ _) | (with_reducible refine Kd.C_drew ?_))); (case side4 => exact HC1.out); rintro e w110 ⟨v475, rfl, ho0, hb⟩; have n0_ := Aside0.mk (Kd.R_elder' (by (with_reducible repeat (first | apply Kd.R_alloc | apply Kd.R_drewN | apply Kd.R_drew)); exact HO469.out) (Kd.R_base ho0) hb); have n1_ := Aside0.mk (Kd.R_elder' (by (with_reducible repeat (first | apply Kd.R_alloc | apply Kd.R_drewN | apply Kd.R_drew)); exact HO472.out) (Kd.R_base ho0) hb); have n2_ := Aside0.mk (Kd.R_lower (Kd.R_new' (Kd.R_new' ho0 (Kd.R_lt (by (with_reducible repeat (first | apply Kd.R_alloc | apply Kd.R_drewN | apply Kd.R_drew)); exact HO469.out))) (Kd.R_lt (by (with_reducible repeat (first | apply Kd.R_alloc | apply Kd.R_drewN | apply Kd.R_drew)); exact HO472.out))) (below_size (by repeat (first | (with_reducible first | exact HB.out | apply below_alloc | apply pw_below_drewN | apply below_drew1) | exact HB.out)))); have n3_ := Aside0.mk (below_step (by repeat (first | (with_reducible first | exact HB.out | apply below_alloc | apply pw_below_drewN | apply below_drew1) | exact HB.out)) hb); clear HO469; clear HO472; clear HB; have HO469 := n0_; have HO472 := n1_; have HO476 := n2_; have HB := n3_; clear n0_ n1_ n2_ n3_; (try clear hb); (try clear hb2); (try clear hk); (try clear hi); (try clear ho0); clear A82) | (go_at_call 41; (with_reducible refine (hornbookref3_Inter.calls kj14 _ _ l0 _ _ l1 t477 _ ?side1 ?side2 ?side3 ?side4 A83.out).mono ?_); (case side1 => repeat (first | exact (Kd.C_below HR0.out HB.out) | (with_reducible refine Kd.C_alloc ?_ _) | (with_reducible refine Kd.C_drewN ?_ _) | (with_reducible refine Kd.C_drew ?_))); (case side2 => exact HC0.out); (case side3 => repeat (first | exact (Kd.C_below HR1.out HB.out) | (with_reducible refine Kd.C_alloc ?_ _) | (with_reducible refine Kd.C_drewN ?_ _) | (with_reducible refine Kd.C_drew ?_))); (case side4 => exact HC1.out); rintro e w111 ⟨v478, rfl, ho0, hb⟩; have n0_ := Aside0.mk (Kd.R_elder' (by (with_reducible repeat (first | apply Kd.R_alloc | apply Kd.R_drewN | apply Kd.R_drew)); exact HO469.out) (Kd.R_base ho0) hb); have n1_ := Aside0.mk (Kd.R_elder' (by (with_reducible repeat (first | apply Kd.R_alloc | apply Kd.R_drewN | apply Kd.R_drew)); exact HO472.out) (Kd.R_base ho0) hb); have n2_ := Aside0.mk (Kd.R_elder' (by (with_reducible repeat (first | apply Kd.R_alloc | apply Kd.R_drewN | apply Kd.R_drew)); exact HO476.out) (Kd.R_base ho0) hb); have n3_ := Aside0.mk (Kd.R_lower (Kd.R_new' (Kd.R_new' (Kd.R_new' ho0 (Kd.R_lt (by (with_reducible repeat (first | apply Kd.R_alloc | apply Kd.R_drewN | apply Kd.R_drew)); exact HO469.out))) (Kd.R_lt (by (with_reducible repeat (first | apply Kd.R_alloc | apply Kd.R_drewN | apply Kd.R_drew)); exact HO472.out))) (Kd.R_lt (by (with_reducible repeat (first | apply Kd.R_alloc | apply Kd.R_drewN | apply Kd.R_drew)); exact HO476.out))) (below_size (by repeat (first | (with_reducible first | exact HB.out | apply below_alloc | apply pw_below_drewN | apply below_drew1) | exact HB.out)))); have n4_ := Aside0.mk (below_step (by repeat (first | (with_reducible first | exact HB.out | apply below_alloc | apply pw_below_drewN | apply below_drew1) | exact HB.out)) hb); clear HO469; clear HO472; clear HO476; clear HB; have HO469 := n0_; have HO472 := n1_; have HO476 := n2_; have HO479 := n3_; have HB := n4_; clear n0_ n1_ n2_ n3_ n4_; (try clear hb); (try clear hb2); (try clear hk); (try clear hi); (try clear ho0); obtain ⟨Ao112, co112, eo112⟩ := Kd.R_slice HO476.out; subst eo112; obtain ⟨Ao113, co113, eo113⟩ := Kd.R_slice HO479.out; subst eo113; clear A83) | (go_at_call 38; (with_reducible refine (hornbookref3_Same.calls kj14 _ _ t474 _ _ t477 true _ ?side1 ?side2 ?side3 ?side4 A84.out).mono ?_); (case side1 => repeat (first | exact (Kd.R_reads' HO476.out).2.2 | (with_reducible refine Kd.C_alloc ?_ _) | (with_reducible refine Kd.C_drewN ?_ _) | (with_reducible refine Kd.C_drew ?_))); (case side2 => exact (Kd.R_reads' HO476.out).2.1); (case side3 => repeat (first | exact (Kd.R_reads' HO479.out).2.2 | (with_reducible refine Kd.C_alloc ?_ _) | (with_reducible refine Kd.C_drewN ?_ _) | (with_reducible refine Kd.C_drew ?_))); (case side4 => exact (Kd.R_reads' HO479.out).2.1); rintro e w' ⟨rfl, ⟨nd, rfl⟩⟩; clear A84) | (go_at_call 30; (with_reducible refine (uniset_Minus.calls kj14 _ _ l0 _ _ l1 t481 _ ?side1 ?side2 ?side3 ?side4 A86.out).mono ?_); (case side1 => repeat (first | exact (Kd.C_below HR0.out (by repeat (first | (with_reducible first | exact HB.out | apply below_alloc | apply pw_below_drewN | apply below_drew1) | exact HB.out))) | (with_reducible refine Kd.C_alloc ?_ _) | (with_reducible refine Kd.C_drewN ?_ _) | (with_reducible refine Kd.C_drew ?_))); (case side2 => exact HC0.out); (case side3 => repeat (first | exact (Kd.C_below HR1.out (by repeat (first | (with_reducible first | exact HB.out | apply below_alloc | apply pw_below_drewN | apply below_drew1) | exact HB.out))) | (with_reducible refine Kd.C_alloc ?_ _) | (with_reducible refine Kd.C_drewN ?_ _) | (with_reducible refine Kd.C_drew ?_))); (case side4 => exact HC1.out); rintro e w114 ⟨v482, rfl, ho0, hb⟩; have n0_ := Aside0.mk (Kd.R_elder' (by (with_reducible repeat (first | apply Kd.R_alloc | apply Kd.R_drewN | apply Kd.R_drew)); exact HO469.out) (Kd.R_base ho0) hb); have n1_ := Aside0.mk (Kd.R_elder' (by (with_reducible repeat (first | apply Kd.R_alloc | apply Kd.R_drewN | apply Kd.R_drew)); exact HO472.out) (Kd.R_base ho0) hb); have n2_ := Aside0.mk (Kd.R_elder' (by (with_reducible repeat (first | apply Kd.R_alloc | apply Kd.R_drewN | apply Kd.R_drew)); exact HO476.out) (Kd.R_base ho0) hb); have n3_ := Aside0.mk (Kd.R_elder' (by (with_reducible repeat (first | apply Kd.R_alloc | apply Kd.R_drewN | apply Kd.R_drew)); exact HO479.out) (Kd.R_base ho0) hb); have n4_ := Aside0.mk (Kd.R_lower (Kd.R_new' (Kd.R_new' (Kd.R_new' (Kd.R_new' ho0 (Kd.R_lt (by (with_reducible repeat (first | apply Kd.R_alloc | apply Kd.R_drewN | apply Kd.R_drew)); exact HO469.out))) (Kd.R_lt (by (with_reducible repeat (first | apply Kd.R_alloc | apply Kd.R_drewN | apply Kd.R_drew)); exact HO472.out))) (Kd.R_lt (by (with_reducible repeat (first | apply Kd.R_alloc | apply Kd.R_drewN | apply Kd.R_drew)); exact HO476.out))) (Kd.R_lt (by (with_reducible repeat (first | apply Kd.R_alloc | apply Kd.R_drewN | apply Kd.R_drew)); exact HO479.out))) (below_size (by repeat (first | (with_reducible first | exact HB.out | apply below_alloc | apply pw_below_drewN | apply below_drew1) | exact HB.out)))); have n5_ := Aside0.mk (below_step (by repeat (first | (with_reducible first | exact HB.out | apply below_alloc | apply pw_below_drewN | apply below_drew1) | exact HB.out)) hb); clear HO469; clear HO472; clear HO476; clear HO479; clear HB; have HO469 := n0_; have HO472 := n1_; have HO476 := n2_; have HO479 := n3_; have HO483 := n4_; have HB := n5_; clear n0_ n1_ n2_ n3_ n4_ n5_; (try clear hb); (try clear hb2); (try clear hk); (try clear hi); (try clear ho0); clear A86) | (go_at_call 42; (with_reducible refine (hornbookref3_Minus.calls kj14 _ _ l0 _ _ l1 t484 _ ?side1 ?side2 ?side3 ?side4 A87.out).mono ?_); (case side1 => repeat (first | exact (Kd.C_below HR0.out HB.out) | (with_reducible refine Kd.C_alloc ?_ _) | (with_reducible refine Kd.C_drewN ?_ _) | (with_reducible refine Kd.C_drew ?_))); (case side2 => exact HC0.out); (case side3 => repeat (first | exact (Kd.C_below HR1.out HB.out) | (with_reducible refine Kd.C_alloc ?_ _) | (with_reducible refine Kd.C_drewN ?_ _) | (with_reducible refine Kd.C_drew ?_))); (case side4 => exact HC1.out); rintro e w115 ⟨v485, rfl, ho0, hb⟩; have n0_ := Aside0.mk (Kd.R_elder' (by (with_reducible repeat (first | apply Kd.R_alloc | apply Kd.R_drewN | apply Kd.R_drew)); exact HO469.out) (Kd.R_base ho0) hb); have n1_ := Aside0.mk (Kd.R_elder' (by (with_reducible repeat (first | apply Kd.R_alloc | apply Kd.R_drewN | apply Kd.R_drew)); exact HO472.out) (Kd.R_base ho0) hb); have n2_ := Aside0.mk (Kd.R_elder' (by (with_reducible repeat (first | apply Kd.R_alloc | apply Kd.R_drewN | apply Kd.R_drew)); exact HO476.out) (Kd.R_base ho0) hb); have n3_ := Aside0.mk (Kd.R_elder' (by (with_reducible repeat (first | apply Kd.R_alloc | apply Kd.R_drewN | apply Kd.R_drew)); exact HO479.out) (Kd.R_base ho0) hb); have n4_ := Aside0.mk (Kd.R_elder' (by (with_reducible repeat (first | apply Kd.R_alloc | apply Kd.R_drewN | apply Kd.R_drew)); exact HO483.out) (Kd.R_base ho0) hb); have n5_ := Aside0.mk (Kd.R_lower (Kd.R_new' (Kd.R_new' (Kd.R_new' (Kd.R_new' (Kd.R_new' ho0 (Kd.R_lt (by (with_reducible repeat (first | apply Kd.R_alloc | apply Kd.R_drewN | apply Kd.R_drew)); exact HO469.out))) (Kd.R_lt (by (with_reducible repeat (first | apply Kd.R_alloc | apply Kd.R_drewN | apply Kd.R_drew)); exact HO472.out))) (Kd.R_lt (by (with_reducible repeat (first | apply Kd.R_alloc | apply Kd.R_drewN | apply Kd.R_drew)); exact HO476.out))) (Kd.R_lt (by (with_reducible repeat (first | apply Kd.R_alloc | apply Kd.R_drewN | apply Kd.R_drew)); exact HO479.out))) (Kd.R_lt (by (with_reducible repeat (first | apply Kd.R_alloc | apply Kd.R_drewN | apply Kd.R_drew)); exact HO483.out))) (below_size (by repeat (first | (with_reducible first | exact HB.out | apply below_alloc | apply pw_below_drewN | apply below_drew1) | exact HB.out)))); have n6_ := Aside0.mk (below_step (by repeat (first | (with_reducible first | exact HB.out | apply below_alloc | apply pw_below_drewN | apply below_drew1) | exact HB.out)) hb); clear HO469; clear HO472; clear HO476; clear HO479; clear HO483; clear HB; have HO469 := n0_; have HO472 := n1_; have HO476 := n2_; have HO479 := n3_; have HO483 := n4_; have HO486 := n5_; have HB := n6_; clear n0_ n1_ n2_ n3_ n4_ n5_ n6_; (try clear hb); (try clear hb2); (try clear hk); (try clear hi); (try clear ho0); obtain ⟨Ao116, co116, eo116⟩ := Kd.R_slice HO483.out; subst eo116; obtain ⟨Ao117, co117, eo117⟩ := Kd.R_slice HO486.out; subst eo117; clear A87) | (go_at_call 38; (with_reducible refine (hornbookref3_Same.calls kj14 _ _ t481 _ _ t484 true _ ?side1 ?side2 ?side3 ?side4 A88.out).mono ?_); (case side1 => repeat (first | exact (Kd.R_reads' HO483.out).2.2 | (with_reducible refine Kd.C_alloc ?_ _) | (with_reducible refine Kd.C_drewN ?_ _) | (with_reducible refine Kd.C_drew ?_))); (case side2 => exact (Kd.R_reads' HO483.out).2.1); (case side3 => repeat (first | exact (Kd.R_reads' HO486.out).2.2 | (with_reducible refine Kd.C_alloc ?_ _) | (with_reducible refine Kd.C_drewN ?_ _) | (with_reducible refine Kd.C_drew ?_))); (case side4 => exact (Kd.R_reads' HO486.out).2.1); rintro e w' ⟨rfl, ⟨nd, rfl⟩⟩; clear A88) | (go_at_call 25; (with_reducible refine (uniset_Not.calls kj14 _ _ l0 t488 _ ?side1 ?side2 A90.out).mono ?_); (case side1 => repeat (first | exact (Kd.C_below HR0.out (by repeat (first | (with_reducible first | exact HB.out | apply below_alloc | apply pw_below_drewN | apply below_drew1) | exact HB.out))) | (with_reducible refine Kd.C_alloc ?_ _) | (with_reducible refine Kd.C_drewN ?_ _) | (with_reducible refine Kd.C_drew ?_))); (case side2 => exact HC0.out); rintro e w118 ⟨v489, rfl, ho0, hb⟩; have n0_ := Aside0.mk (Kd.R_elder' (by (with_reducible repeat (first | apply Kd.R_alloc | apply Kd.R_drewN | apply Kd.R_drew)); exact HO469.out) (Kd.R_base ho0) hb); have n1_ := Aside0.mk (Kd.R_elder' (by (with_reducible repeat (first | apply Kd.R_alloc | apply Kd.R_drewN | apply Kd.R_drew)); exact HO472.out) (Kd.R_base ho0) hb); have n2_ := Aside0.mk (Kd.R_elder' (by (with_reducible repeat (first | apply Kd.R_alloc | apply Kd.R_drewN | apply Kd.R_drew)); exact HO476.out) (Kd.R_base ho0) hb); have n3_ := Aside0.mk (Kd.R_elder' (by (with_reducible repeat (first | apply Kd.R_alloc | apply Kd.R_drewN | apply Kd.R_drew)); exact HO479.out) (Kd.R_base ho0) hb); have n4_ := Aside0.mk (Kd.R_elder' (by (with_reducible repeat (first | apply Kd.R_alloc | apply Kd.R_drewN | apply Kd.R_drew)); exact HO483.out) (Kd.R_base ho0) hb); have n5_ := Aside0.mk (Kd.R_elder' (by (with_reducible repeat (first | apply Kd.R_alloc | apply Kd.R_drewN | apply Kd.R_drew)); exact HO486.out) (Kd.R_base ho0) hb); have n6_ := Aside0.mk (Kd.R_lower (Kd.R_new' (Kd.R_new' (Kd.R_new' (Kd.R_new' (Kd.R_new' (Kd.R_new' ho0 (Kd.R_lt (by (with_reducible repeat (first | apply Kd.R_alloc | apply Kd.R_drewN | apply Kd.R_drew)); exact HO469.out))) (Kd.R_lt (by (with_reducible repeat (first | apply Kd.R_alloc | apply Kd.R_drewN | apply Kd.R_drew)); exact HO472.out))) (Kd.R_lt (by (with_reducible repeat (first | apply Kd.R_alloc | apply Kd.R_drewN | apply Kd.R_drew)); exact HO476.out))) (Kd.R_lt (by (with_reducible repeat (first | apply Kd.R_alloc | apply Kd.R_drewN | apply Kd.R_drew)); exact HO479.out))) (Kd.R_lt (by (with_reducible repeat (first | apply Kd.R_alloc | apply Kd.R_drewN | apply Kd.R_drew)); exact HO483.out))) (Kd.R_lt (by (with_reducible repeat (first | apply Kd.R_alloc | apply Kd.R_drewN | apply Kd.R_drew)); exact HO486.out))) (below_size (by repeat (first | (with_reducible first | exact HB.out | apply below_alloc | apply pw_below_drewN | apply below_drew1) | exact HB.out)))); have n7_ := Aside0.mk (below_step (by repeat (first | (with_reducible first | exact HB.out | apply below_alloc | apply pw_below_drewN | apply below_drew1) | exact HB.out)) hb); clear HO469; clear HO472; clear HO476; clear HO479; clear HO483; clear HO486; clear HB; have HO469 := n0_; have HO472 := n1_; have HO476 := n2_; have HO479 := n3_; have HO483 := n4_; have HO486 := n5_; have HO490 := n6_; have HB := n7_; clear n0_ n1_ n2_ n3_ n4_ n5_ n6_ n7_; (try clear hb); (try clear hb2); (try clear hk); (try clear hi); (try clear ho0); clear A90) | (go_at_call 43; (with_reducible refine (hornbookref3_Not.calls kj14 _ _ l0 t491 _ ?side1 ?side2 A91.out).mono ?_); (case side1 => repeat (first | exact (Kd.C_below HR0.out HB.out) | (with_reducible refine Kd.C_alloc ?_ _) | (with_reducible refine Kd.C_drewN ?_ _) | (with_reducible refine Kd.C_drew ?_))); (case side2 => exact HC0.out); rintro e w119 ⟨v492, rfl, ho0, hb⟩; have n0_ := Aside0.mk (Kd.R_elder' (by (with_reducible repeat (first | apply Kd.R_alloc | apply Kd.R_drewN | apply Kd.R_drew)); exact HO469.out) (Kd.R_base ho0) hb); have n1_ := Aside0.mk (Kd.R_elder' (by (with_reducible repeat (first | apply Kd.R_alloc | apply Kd.R_drewN | apply Kd.R_drew)); exact HO472.out) (Kd.R_base ho0) hb); have n2_ := Aside0.mk (Kd.R_elder' (by (with_reducible repeat (first | apply Kd.R_alloc | apply Kd.R_drewN | apply Kd.R_drew)); exact HO476.out) (Kd.R_base ho0) hb); have n3_ := Aside0.mk (Kd.R_elder' (by (with_reducible repeat (first | apply Kd.R_alloc | apply Kd.R_drewN | apply Kd.R_drew)); exact HO479.out) (Kd.R_base ho0) hb); have n4_ := Aside0.mk (Kd.R_elder' (by (with_reducible repeat (first | apply Kd.R_alloc | apply Kd.R_drewN | apply Kd.R_drew)); exact HO483.out) (Kd.R_base ho0) hb); have n5_ := Aside0.mk (Kd.R_elder' (by (with_reducible repeat (first | apply Kd.R_alloc | apply Kd.R_drewN | apply Kd.R_drew)); exact HO486.out) (Kd.R_base ho0) hb); have n6_ := Aside0.mk (Kd.R_elder' (by (with_reducible repeat (first | apply Kd.R_alloc | apply Kd.R_drewN | apply Kd.R_drew)); exact HO490.out) (Kd.R_base ho0) hb); have n7_ := Aside0.mk (Kd.R_lower (Kd.R_new' (Kd.R_new' (Kd.R_new' (Kd.R_new' (Kd.R_new' (Kd.R_new' (Kd.R_new' ho0 (Kd.R_lt (by (with_reducible repeat (first | apply Kd.R_alloc | apply Kd.R_drewN | apply Kd.R_drew)); exact HO469.out))) (Kd.R_lt (by (with_reducible repeat (first | apply Kd.R_alloc | apply Kd.R_drewN | apply Kd.R_drew)); exact HO472.out))) (Kd.R_lt (by (with_reducible repeat (first | apply Kd.R_alloc | apply Kd.R_drewN | apply Kd.R_drew)); exact HO476.out))) (Kd.R_lt (by (with_reducible repeat (first | apply Kd.R_alloc | apply Kd.R_drewN | apply Kd.R_drew)); exact HO479.out))) (Kd.R_lt (by (with_reducible repeat (first | apply Kd.R_alloc | apply Kd.R_drewN | apply Kd.R_drew)); exact HO483.out))) (Kd.R_lt (by (with_reducible repeat (first | apply Kd.R_alloc | apply Kd.R_drewN | apply Kd.R_drew)); exact HO486.out))) (Kd.R_lt (by (with_reducible repeat (first | apply Kd.R_alloc | apply Kd.R_drewN | apply Kd.R_drew)); exact HO490.out))) (below_size (by repeat (first | (with_reducible first | exact HB.out | apply below_alloc | apply pw_below_drewN | apply below_drew1) | exact HB.out)))); have n8_ := Aside0.mk (below_step (by repeat (first | (with_reducible first | exact HB.out | apply below_alloc | apply pw_below_drewN | apply below_drew1) | exact HB.out)) hb); clear HO469; clear HO472; clear HO476; clear HO479; clear HO483; clear HO486; clear HO490; clear HB; have HO469 := n0_; have HO472 := n1_; have HO476 := n2_; have HO479 := n3_; have HO483 := n4_; have HO486 := n5_; have HO490 := n6_; have HO493 := n7_; have HB := n8_; clear n0_ n1_ n2_ n3_ n4_ n5_ n6_ n7_ n8_; (try clear hb); (try clear hb2); (try clear hk); (try clear hi); (try clear ho0); obtain ⟨Ao120, co120, eo120⟩ := Kd.R_slice HO490.out; subst eo120; obtain ⟨Ao121, co121, eo121⟩ := Kd.R_slice HO493.out; subst eo121; clear A91) | (go_at_call 38; (with_reducible refine (hornbookref3_Same.calls kj14 _ _ t488 _ _ t491 true _ ?side1 ?side2 ?side3 ?side4 A92.out).mono ?_); (case side1 => repeat (first | exact (Kd.R_reads' HO490.out).2.2 | (with_reducible refine Kd.C_alloc ?_ _) | (with_reducible refine Kd.C_drewN ?_ _) | (with_reducible refine Kd.C_drew ?_))); (case side2 => exact (Kd.R_reads' HO490.out).2.1); (case side3 => repeat (first | exact (Kd.R_reads' HO493.out).2.2 | (with_reducible refine Kd.C_alloc ?_ _) | (with_reducible refine Kd.C_drewN ?_ _) | (with_reducible refine Kd.C_drew ?_))); (case side4 => exact (Kd.R_reads' HO493.out).2.1); rintro e w' ⟨rfl, ⟨nd, rfl⟩⟩; clear A92) | (go_at_call 21; (with_reducible refine (uniset_Has.calls _ _ l0 a2 t495 _ ?side1 ?side2 A94.out).mono ?_); (case side1 => repeat (first | exact (Kd.C_below HR0.out (by repeat (first | (with_reducible first | exact HB.out | apply below_alloc | apply pw_below_drewN | apply below_drew1) | exact HB.out))) | (with_reducible refine Kd.C_alloc ?_ _) | (with_reducible refine Kd.C_drewN ?_ _) | (with_reducible refine Kd.C_drew ?_))); (case side2 => exact HC0.out); rintro e w122 ⟨rfl, hb⟩; have n0_ := Aside0.mk (Kd.R_below (by (with_reducible repeat (first | apply Kd.R_alloc | apply Kd.R_drewN | apply Kd.R_drew)); exact HO469.out) hb); have n1_ := Aside0.mk (Kd.R_below (by (with_reducible repeat (first | apply Kd.R_alloc | apply Kd.R_drewN | apply Kd.R_drew)); exact HO472.out) hb); have n2_ := Aside0.mk (Kd.R_below (by (with_reducible repeat (first | apply Kd.R_alloc | apply Kd.R_drewN | apply Kd.R_drew)); exact HO476.out) hb); have n3_ := Aside0.mk (Kd.R_below (by (with_reducible repeat (first | apply Kd.R_alloc | apply Kd.R_drewN | apply Kd.R_drew)); exact HO479.out) hb); have n4_ := Aside0.mk (Kd.R_below (by (with_reducible repeat (first | apply Kd.R_alloc | apply Kd.R_drewN | apply Kd.R_drew)); exact HO483.out) hb); have n5_ := Aside0.mk (Kd.R_below (by (with_reducible repeat (first | apply Kd.R_alloc | apply Kd.R_drewN | apply Kd.R_drew)); exact HO486.out) hb); have n6_ := Aside0.mk (Kd.R_below (by (with_reducible repeat (first | apply Kd.R_alloc | apply Kd.R_drewN | apply Kd.R_drew)); exact HO490.out) hb); have n7_ := Aside0.mk (Kd.R_below (by (with_reducible repeat (first | apply Kd.R_alloc | apply Kd.R_drewN | apply Kd.R_drew)); exact HO493.out) hb); have n8_ := Aside0.mk (below_step (by repeat (first | (with_reducible first | exact HB.out | apply below_alloc | apply pw_below_drewN | apply below_drew1) | exact HB.out)) hb); clear HO469; clear HO472; clear HO476; clear HO479; clear HO483; clear HO486; clear HO490; clear HO493; clear HB; have HO469 := n0_; have HO472 := n1_; have HO476 := n2_; have HO479 := n3_; have HO483 := n4_; have HO486 := n5_; have HO490 := n6_; have HO493 := n7_; have HB := n8_; clear n0_ n1_ n2_ n3_ n4_ n5_ n6_ n7_ n8_; (try clear hb); (try clear hb2); (try clear hk); (try clear hi); clear A94) | (go_at_call 44; (with_reducible refine (hornbookref3_Has.calls kj14 _ _ l0 a2 t496 _ ?side1 ?side2 A95.out).mono ?_); (case side1 => repeat (first | exact (Kd.C_below HR0.out HB.out) | (with_reducible refine Kd.C_alloc ?_ _) | (with_reducible refine Kd.C_drewN ?_ _) | (with_reducible refine Kd.C_drew ?_))); (case side2 => exact HC0.out); rintro e w123 ⟨rfl, hb⟩; have n0_ := Aside0.mk (Kd.R_below (by (with_reducible repeat (first | apply Kd.R_alloc | apply Kd.R_drewN | apply Kd.R_drew)); exact HO469.out) hb); have n1_ := Aside0.mk (Kd.R_below (by (with_reducible repeat (first | apply Kd.R_alloc | apply Kd.R_drewN | apply Kd.R_drew)); exact HO472.out) hb); have n2_ := Aside0.mk (Kd.R_below (by (with_reducible repeat (first | apply Kd.R_alloc | apply Kd.R_drewN | apply Kd.R_drew)); exact HO476.out) hb); have n3_ := Aside0.mk (Kd.R_below (by (with_reducible repeat (first | apply Kd.R_alloc | apply Kd.R_drewN | apply Kd.R_drew)); exact HO479.out) hb); have n4_ := Aside0.mk (Kd.R_below (by (with_reducible repeat (first | apply Kd.R_alloc | apply Kd.R_drewN | apply Kd.R_drew)); exact HO483.out) hb); have n5_ := Aside0.mk (Kd.R_below (by (with_reducible repeat (first | apply Kd.R_alloc | apply Kd.R_drewN | apply Kd.R_drew)); exact HO486.out) hb); have n6_ := Aside0.mk (Kd.R_below (by (with_reducible repeat (first | apply Kd.R_alloc | apply Kd.R_drewN | apply Kd.R_drew)); exact HO490.out) hb); have n7_ := Aside0.mk (Kd.R_below (by (with_reducible repeat (first | apply Kd.R_alloc | apply Kd.R_drewN | apply Kd.R_drew)); exact HO493.out) hb); have n8_ := Aside0.mk (below_step (by repeat (first | (with_reducible first | exact HB.out | apply below_alloc | apply pw_below_drewN | apply below_drew1) | exact HB.out)) hb); clear HO469; clear HO472; clear HO476; clear HO479; clear HO483; clear HO486; clear HO490; clear HO493; clear HB; have HO469 := n0_; have HO472 := n1_; have HO476 := n2_; have HO479 := n3_; have HO483 := n4_; have HO486 := n5_; have HO490 := n6_; have HO493 := n7_; have HB := n8_; clear n0_ n1_ n2_ n3_ n4_ n5_ n6_ n7_ n8_; (try clear hb); (try clear hb2); (try clear hk); (try clear hi); clear A95) | (go_at_call 22; (with_reducible refine (uniset_Count.calls kj14 _ _ l0 t497 _ ?side1 ?side2 A97.out).mono ?_); (case side1 => repeat (first | exact (Kd.C_below HR0.out HB.out) | (with_reducible refine Kd.C_alloc ?_ _) | (with_reducible refine Kd.C_drewN ?_ _) | (with_reducible refine Kd.C_drew ?_))); (case side2 => exact HC0.out); rintro e w124 ⟨rfl, hb⟩; have n0_ := Aside0.mk (Kd.R_below (by (with_reducible repeat (first | apply Kd.R_alloc | apply Kd.R_drewN | apply Kd.R_drew)); exact HO469.out) hb); have n1_ := Aside0.mk (Kd.R_below (by (with_reducible repeat (first | apply Kd.R_alloc | apply Kd.R_drewN | apply Kd.R_drew)); exact HO472.out) hb); have n2_ := Aside0.mk (Kd.R_below (by (with_reducible repeat (first | apply Kd.R_alloc | apply Kd.R_drewN | apply Kd.R_drew)); exact HO476.out) hb); have n3_ := Aside0.mk (Kd.R_below (by (with_reducible repeat (first | apply Kd.R_alloc | apply Kd.R_drewN | apply Kd.R_drew)); exact HO479.out) hb); have n4_ := Aside0.mk (Kd.R_below (by (with_reducible repeat (first | apply Kd.R_alloc | apply Kd.R_drewN | apply Kd.R_drew)); exact HO483.out) hb); have n5_ := Aside0.mk (Kd.R_below (by (with_reducible repeat (first | apply Kd.R_alloc | apply Kd.R_drewN | apply Kd.R_drew)); exact HO486.out) hb); have n6_ := Aside0.mk (Kd.R_below (by (with_reducible repeat (first | apply Kd.R_alloc | apply Kd.R_drewN | apply Kd.R_drew)); exact HO490.out) hb); have n7_ := Aside0.mk (Kd.R_below (by (with_reducible repeat (first | apply Kd.R_alloc | apply Kd.R_drewN | apply Kd.R_drew)); exact HO493.out) hb); have n8_ := Aside0.mk (below_step (by repeat (first | (with_reducible first | exact HB.out | apply below_alloc | apply pw_below_drewN | apply below_drew1) | exact HB.out)) hb); clear HO469; clear HO472; clear HO476; clear HO479; clear HO483; clear HO486; clear HO490; clear HO493; clear HB; have HO469 := n0_; have HO472 := n1_; have HO476 := n2_; have HO479 := n3_; have HO483 := n4_; have HO486 := n5_; have HO490 := n6_; have HO493 := n7_; have HB := n8_; clear n0_ n1_ n2_ n3_ n4_ n5_ n6_ n7_ n8_; (try clear hb); (try clear hb2); (try clear hk); (try clear hi); clear A97) | (go_at_call 45; (with_reducible refine (hornbookref3_Count.calls kj14 _ _ l0 t498 _ ?side1 ?side2 A98.out).mono ?_); (case side1 => repeat (first | exact (Kd.C_below HR0.out HB.out) | (with_reducible refine Kd.C_alloc ?_ _) | (with_reducible refine Kd.C_drewN ?_ _) | (with_reducible refine Kd.C_drew ?_))); (case side2 => exact HC0.out); rintro e w125 ⟨rfl, hb⟩; have n0_ := Aside0.mk (Kd.R_below (by (with_reducible repeat (first | apply Kd.R_alloc | apply Kd.R_drewN | apply Kd.R_drew)); exact HO469.out) hb); have n1_ := Aside0.mk (Kd.R_below (by (with_reducible repeat (first | apply Kd.R_alloc | apply Kd.R_drewN | apply Kd.R_drew)); exact HO472.out) hb); have n2_ := Aside0.mk (Kd.R_below (by (with_reducible repeat (first | apply Kd.R_alloc | apply Kd.R_drewN | apply Kd.R_drew)); exact HO476.out) hb); have n3_ := Aside0.mk (Kd.R_below (by (with_reducible repeat (first | apply Kd.R_alloc | apply Kd.R_drewN | apply Kd.R_drew)); exact HO479.out) hb); have n4_ := Aside0.mk (Kd.R_below (by (with_reducible repeat (first | apply Kd.R_alloc | apply Kd.R_drewN | apply Kd.R_drew)); exact HO483.out) hb); have n5_ := Aside0.mk (Kd.R_below (by (with_reducible repeat (first | apply Kd.R_alloc | apply Kd.R_drewN | apply Kd.R_drew)); exact HO486.out) hb); have n6_ := Aside0.mk (Kd.R_below (by (with_reducible repeat (first | apply Kd.R_alloc | apply Kd.R_drewN | apply Kd.R_drew)); exact HO490.out) hb); have n7_ := Aside0.mk (Kd.R_below (by (with_reducible repeat (first | apply Kd.R_alloc | apply Kd.R_drewN | apply Kd.R_drew)); exact HO493.out) hb); have n8_ := Aside0.mk (below_step (by repeat (first | (with_reducible first | exact HB.out | apply below_alloc | apply pw_below_drewN | apply below_drew1) | exact HB.out)) hb); clear HO469; clear HO472; clear HO476; clear HO479; clear HO483; clear HO486; clear HO490; clear HO493; clear HB; have HO469 := n0_; have HO472 := n1_; have HO476 := n2_; have HO479 := n3_; have HO483 := n4_; have HO486 := n5_; have HO490 := n6_; have HO493 := n7_; have HB := n8_; clear n0_ n1_ n2_ n3_ n4_ n5_ n6_ n7_ n8_; (try clear hb); (try clear hb2); (try clear hk); (try clear hi); clear A98) | (go_at_call 35; (with_reducible refine (uniset_Same.calls kj14 _ _ l0 _ _ l1 t499 _ ?side1 ?side2 ?side3 ?side4 A100.out).mono ?_); (case side1 => repeat (first | exact (Kd.C_below HR0.out HB.out) | (with_reducible refine Kd.C_alloc ?_ _) | (with_reducible refine Kd.C_drewN ?_ _) | (with_reducible refine Kd.C_drew ?_))); (case side2 => exact HC0.out); (case side3 => repeat (first | exact (Kd.C_below HR1.out HB.out) | (with_reducible refine Kd.C_alloc ?_ _) | (with_reducible refine Kd.C_drewN ?_ _) | (with_reducible refine Kd.C_drew ?_))); (case side4 => exact HC1.out); rintro e w126 ⟨rfl, hb⟩; have n0_ := Aside0.mk (Kd.R_below (by (with_reducible repeat (first | apply Kd.R_alloc | apply Kd.R_drewN | apply Kd.R_drew)); exact HO469.out) hb); have n1_ := Aside0.mk (Kd.R_below (by (with_reducible repeat (first | apply Kd.R_alloc | apply Kd.R_drewN | apply Kd.R_drew)); exact HO472.out) hb); have n2_ := Aside0.mk (Kd.R_below (by (with_reducible repeat (first | apply Kd.R_alloc | apply Kd.R_drewN | apply Kd.R_drew)); exact HO476.out) hb); have n3_ := Aside0.mk (Kd.R_below (by (with_reducible repeat (first | apply Kd.R_alloc | apply Kd.R_drewN | apply Kd.R_drew)); exact HO479.out) hb); have n4_ := Aside0.mk (Kd.R_below (by (with_reducible repeat (first | apply Kd.R_alloc | apply Kd.R_drewN | apply Kd.R_drew)); exact HO483.out) hb); have n5_ := Aside0.mk (Kd.R_below (by (with_reducible repeat (first | apply Kd.R_alloc | apply Kd.R_drewN | apply Kd.R_drew)); exact HO486.out) hb); have n6_ := Aside0.mk (Kd.R_below (by (with_reducible repeat (first | apply Kd.R_alloc | apply Kd.R_drewN | apply Kd.R_drew)); exact HO490.out) hb); have n7_ := Aside0.mk (Kd.R_below (by (with_reducible repeat (first | apply Kd.R_alloc | apply Kd.R_drewN | apply Kd.R_drew)); exact HO493.out) hb); have n8_ := Aside0.mk (below_step (by repeat (first | (with_reducible first | exact HB.out | apply below_alloc | apply pw_below_drewN | apply below_drew1) | exact HB.out)) hb); clear HO469; clear HO472; clear HO476; clear HO479; clear HO483; clear HO486; clear HO490; clear HO493; clear HB; have HO469 := n0_; have HO472 := n1_; have HO476 := n2_; have HO479 := n3_; have HO483 := n4_; have HO486 := n5_; have HO490 := n6_; have HO493 := n7_; have HB := n8_; clear n0_ n1_ n2_ n3_ n4_ n5_ n6_ n7_ n8_; (try clear hb); (try clear hb2); (try clear hk); (try clear hi); clear A100) | (go_at_call 37; (with_reducible refine (hornbookref3_Of.calls kj14 _ _ l0 t500 _ ?side1 ?side2 A101.out).mono ?_); (case side1 => repeat (first | exact (Kd.C_below HR0.out HB.out) | (with_reducible refine Kd.C_alloc ?_ _) | (with_reducible refine Kd.C_drewN ?_ _) | (with_reducible refine Kd.C_drew ?_))); (case side2 => exact HC0.out); rintro e w127 ⟨v501, rfl, ho0, hb⟩; have n0_ := Aside0.mk (Kd.R_elder' (by (with_reducible repeat (first | apply Kd.R_alloc | apply Kd.R_drewN | apply Kd.R_drew)); exact HO469.out) (Kd.R_base ho0) hb); have n1_ := Aside0.mk (Kd.R_elder' (by (with_reducible repeat (first | apply Kd.R_alloc | apply Kd.R_drewN | apply Kd.R_drew)); exact HO472.out) (Kd.R_base ho0) hb); have n2_ := Aside0.mk (Kd.R_elder' (by (with_reducible repeat (first | apply Kd.R_alloc | apply Kd.R_drewN | apply Kd.R_drew)); exact HO476.out) (Kd.R_base ho0) hb); have n3_ := Aside0.mk (Kd.R_elder' (by (with_reducible repeat (first | apply Kd.R_alloc | apply Kd.R_drewN | apply Kd.R_drew)); exact HO479.out) (Kd.R_base ho0) hb); have n4_ := Aside0.mk (Kd.R_elder' (by (with_reducible repeat (first | apply Kd.R_alloc | apply Kd.R_drewN | apply Kd.R_drew)); exact HO483.out) (Kd.R_base ho0) hb); have n5_ := Aside0.mk (Kd.R_elder' (by (with_reducible repeat (first | apply Kd.R_alloc | apply Kd.R_drewN | apply Kd.R_drew)); exact HO486.out) (Kd.R_base ho0) hb); have n6_ := Aside0.mk (Kd.R_elder' (by (with_reducible repeat (first | apply Kd.R_alloc | apply Kd.R_drewN | apply Kd.R_drew)); exact HO490.out) (Kd.R_base ho0) hb); have n7_ := Aside0.mk (Kd.R_elder' (by (with_reducible repeat (first | apply Kd.R_alloc | apply Kd.R_drewN | apply Kd.R_drew)); exact HO493.out) (Kd.R_base ho0) hb); have n8_ := Aside0.mk (Kd.R_lower (Kd.R_new' (Kd.R_new' (Kd.R_new' (Kd.R_new' (Kd.R_new' (Kd.R_new' (Kd.R_new' (Kd.R_new' ho0 (Kd.R_lt (by (with_reducible repeat (first | apply Kd.R_alloc | apply Kd.R_drewN | apply Kd.R_drew)); exact HO469.out))) (Kd.R_lt (by (with_reducible repeat (first | apply Kd.R_alloc | apply Kd.R_drewN | apply Kd.R_drew)); exact HO472.out))) (Kd.R_lt (by (with_reducible repeat (first | apply Kd.R_alloc | apply Kd.R_drewN | apply Kd.R_drew)); exact HO476.out))) (Kd.R_lt (by (with_reducible repeat (first | apply Kd.R_alloc | apply Kd.R_drewN | apply Kd.R_drew)); exact HO479.out))) (Kd.R_lt (by (with_reducible repeat (first | apply Kd.R_alloc | apply Kd.R_drewN | apply Kd.R_drew)); exact HO483.out))) (Kd.R_lt (by (with_reducible repeat (first | apply Kd.R_alloc | apply Kd.R_drewN | apply Kd.R_drew)); exact HO486.out))) (Kd.R_lt (by (with_reducible repeat (first | apply Kd.R_alloc | apply Kd.R_drewN | apply Kd.R_drew)); exact HO490.out))) (Kd.R_lt (by (with_reducible repeat (first | apply Kd.R_alloc | apply Kd.R_drewN | apply Kd.R_drew)); exact HO493.out))) (below_size (by repeat (first | (with_reducible first | exact HB.out | apply below_alloc | apply pw_below_drewN | apply below_drew1) | exact HB.out)))); have n9_ := Aside0.mk (below_step (by repeat (first | (with_reducible first | exact HB.out | apply below_alloc | apply pw_below_drewN | apply below_drew1) | exact HB.out)) hb); clear HO469; clear HO472; clear HO476; clear HO479; clear HO483; clear HO486; clear HO490; clear HO493; clear HB; have HO469 := n0_; have HO472 := n1_; have HO476 := n2_; have HO479 := n3_; have HO483 := n4_; have HO486 := n5_; have HO490 := n6_; have HO493 := n7_; have HO502 := n8_; have HB := n9_; clear n0_ n1_ n2_ n3_ n4_ n5_ n6_ n7_ n8_ n9_; (try clear hb); (try clear hb2); (try clear hk); (try clear hi); (try clear ho0); clear A101) | (go_at_call 37; (with_reducible refine (hornbookref3_Of.calls kj14 _ _ l1 t503 _ ?side1 ?side2 A102.out).mono ?_); (case side1 => repeat (first | exact (Kd.C_below HR1.out HB.out) | (with_reducible refine Kd.C_alloc ?_ _) | (with_reducible refine Kd.C_drewN ?_ _) | (with_reducible refine Kd.C_drew ?_))); (case side2 => exact HC1.out); rintro e w128 ⟨v504, rfl, ho0, hb⟩; have n0_ := Aside0.mk (Kd.R_elder' (by (with_reducible repeat (first | apply Kd.R_alloc | apply Kd.R_drewN | apply Kd.R_drew)); exact HO469.out) (Kd.R_base ho0) hb); have n1_ := Aside0.mk (Kd.R_elder' (by (with_reducible repeat (first | apply Kd.R_alloc | apply Kd.R_drewN | apply Kd.R_drew)); exact HO472.out) (Kd.R_base ho0) hb); have n2_ := Aside0.mk (Kd.R_elder' (by (with_reducible repeat (first | apply Kd.R_alloc | apply Kd.R_drewN | apply Kd.R_drew)); exact HO476.out) (Kd.R_base ho0) hb); have n3_ := Aside0.mk (Kd.R_elder' (by (with_reducible repeat (first | apply Kd.R_alloc | apply Kd.R_drewN | apply Kd.R_drew)); exact HO479.out) (Kd.R_base ho0) hb); have n4_ := Aside0.mk (Kd.R_elder' (by (with_reducible repeat (first | apply Kd.R_alloc | apply Kd.R_drewN | apply Kd.R_drew)); exact HO483.out) (Kd.R_base ho0) hb); have n5_ := Aside0.mk (Kd.R_elder' (by (with_reducible repeat (first | apply Kd.R_alloc | apply Kd.R_drewN | apply Kd.R_drew)); exact HO486.out) (Kd.R_base ho0) hb); have n6_ := Aside0.mk (Kd.R_elder' (by (with_reducible repeat (first | apply Kd.R_alloc | apply Kd.R_drewN | apply Kd.R_drew)); exact HO490.out) (Kd.R_base ho0) hb); have n7_ := Aside0.mk (Kd.R_elder' (by (with_reducible repeat (first | apply Kd.R_alloc | apply Kd.R_drewN | apply Kd.R_drew)); exact HO493.out) (Kd.R_base ho0) hb); have n8_ := Aside0.mk (Kd.R_elder' (by (with_reducible repeat (first | apply Kd.R_alloc | apply Kd.R_drewN | apply Kd.R_drew)); exact HO502.out) (Kd.R_base ho0) hb); have n9_ := Aside0.mk (Kd.R_lower (Kd.R_new' (Kd.R_new' (Kd.R_new' (Kd.R_new' (Kd.R_new' (Kd.R_new' (Kd.R_new' (Kd.R_new' (Kd.R_new' ho0 (Kd.R_lt (by (with_reducible repeat (first | apply Kd.R_alloc | apply Kd.R_drewN | apply Kd.R_drew)); exact HO469.out))) (Kd.R_lt (by (with_reducible repeat (first | apply Kd.R_alloc | apply Kd.R_drewN | apply Kd.R_drew)); exact HO472.out))) (Kd.R_lt (by (with_reducible repeat (first | apply Kd.R_alloc | apply Kd.R_drewN | apply Kd.R_drew)); exact HO476.out))) (Kd.R_lt (by (with_reducible repeat (first | apply Kd.R_alloc | apply Kd.R_drewN | apply Kd.R_drew)); exact HO479.out))) (Kd.R_lt (by (with_reducible repeat (first | apply Kd.R_alloc | apply Kd.R_drewN | apply Kd.R_drew)); exact HO483.out))) (Kd.R_lt (by (with_reducible repeat (first | apply Kd.R_alloc | apply Kd.R_drewN | apply Kd.R_drew)); exact HO486.out))) (Kd.R_lt (by (with_reducible repeat (first | apply Kd.R_alloc | apply Kd.R_drewN | apply Kd.R_drew)); exact HO490.out))) (Kd.R_lt (by (with_reducible repeat (first | apply Kd.R_alloc | apply Kd.R_drewN | apply Kd.R_drew)); exact HO493.out))) (Kd.R_lt (by (with_reducible repeat (first | apply Kd.R_alloc | apply Kd.R_drewN | apply Kd.R_drew)); exact HO502.out))) (below_size (by repeat (first | (with_reducible first | exact HB.out | apply below_alloc | apply pw_below_drewN | apply below_drew1) | exact HB.out)))); have n10_ := Aside0.mk (below_step (by repeat (first | (with_reducible first | exact HB.out | apply below_alloc | apply pw_below_drewN | apply below_drew1) | exact HB.out)) hb); clear HO469; clear HO472; clear HO476; clear HO479; clear HO483; clear HO486; clear HO490; clear HO493; clear HO502; clear HB; have HO469 := n0_; have HO472 := n1_; have HO476 := n2_; have HO479 := n3_; have HO483 := n4_; have HO486 := n5_; have HO490 := n6_; have HO493 := n7_; have HO502 := n8_; have HO505 := n9_; have HB := n10_; clear n0_ n1_ n2_ n3_ n4_ n5_ n6_ n7_ n8_ n9_ n10_; (try clear hb); (try clear hb2); (try clear hk); (try clear hi); (try clear ho0); obtain ⟨Ao129, co129, eo129⟩ := Kd.R_slice HO502.out; subst eo129; obtain ⟨Ao130, co130, eo130⟩ := Kd.R_slice HO505.out; subst eo130; clear A102) | (go_at_call 38; (with_reducible refine (hornbookref3_Same.calls kj14 _ _ t500 _ _ t503 t506 _ ?side1 ?side2 ?side3 ?side4 A103.out).mono ?_); (case side1 => repeat (first | exact (Kd.R_reads' HO502.out).2.2 | (with_reducible refine Kd.C_alloc ?_ _) | (with_reducible refine Kd.C_drewN ?_ _) | (with_reducible refine Kd.C_drew ?_))); (case side2 => exact (Kd.R_reads' HO502.out).2.1); (case side3 => repeat (first | exact (Kd.R_reads' HO505.out).2.2 | (with_reducible refine Kd.C_alloc ?_ _) | (with_reducible refine Kd.C_drewN ?_ _) | (with_reducible refine Kd.C_drew ?_))); (case side4 => exact (Kd.R_reads' HO505.out).2.1); rintro e w' ⟨rfl, ⟨nd, rfl⟩⟩; clear A103))
                go_ret
                exact ⟨by first | rfl | (simp [errW_none, errW_some] <;> rfl) | (simp [*, errW_none, errW_some] <;> rfl), by repeat (first | (with_reducible first | exact HB.out | apply below_alloc | apply pw_below_drewN | apply below_drew1) | exact HB.out)⟩
               ·rw [if_neg c99] at H
                exact absurd H (by simp)
              ·rw [if_neg c96] at H
               exact absurd H (by simp)
             ·replace c93 := Bool.eq_false_iff.mpr c93
              subst c93
              have H1 : (none) = some r := by rw [if_neg (show ¬ (false = true) by decide)] at H; exact H
              clear H
              have H := H1
              clear H1
              exact absurd H (by simp)
            ·replace c89 := Bool.eq_false_iff.mpr c89
             subst c89
             have H1 : (none) = some r := by rw [if_neg (show ¬ (false = true) by decide)] at H; exact H
             clear H
             have H := H1
             clear H1
             exact absurd H (by simp)
           ·replace c85 := Bool.eq_false_iff.mpr c85
            subst c85
            have H1 : (none) = some r := by rw [if_neg (show ¬ (false = true) by decide)] at H; exact H
            clear H
            have H := H1
            clear H1
            exact absurd H (by simp)
          ·replace c81 := Bool.eq_false_iff.mpr c81
           subst c81
           have H1 : (none) = some r := by rw [if_neg (show ¬ (false = true) by decide)] at H; exact H
           clear H
           have H := H1
           clear H1
           exact absurd H (by simp)
         ·rw [if_neg c77] at H
          exact absurd H (by simp)
     ·rw [if_neg c10] at H
      exact absurd H (by simp)
 ·replace c5 := Bool.eq_false_iff.mpr c5
  subst c5
  have H1 : (none) = some r := by rw [if_neg (show ¬ (false = true) by decide)] at H; exact H
  clear H
  have H := H1
  clear H1
  exact absurd H (by simp)

end Go.Proofs.Yteaadpgammbdgaa.PA
