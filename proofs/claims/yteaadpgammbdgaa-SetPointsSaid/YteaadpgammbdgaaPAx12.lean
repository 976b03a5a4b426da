-- Printed for this claim by gp.py (a program of this session's over the kit's print).
import Derived.Test.YteaadpgammbdgaaPAx0
import Derived.Test.YteaadpgammbdgaaPAx1
import Derived.Test.YteaadpgammbdgaaPAx3
import Derived.Test.YteaadpgammbdgaaPAx10
import Derived.Test.YteaadpgammbdgaaPAx11
import Derived.Test.YteaadpgammbdgaaHHas
import Derived.Test.YteaadpgammbdgaaHUnion
namespace Go.Proofs.Yteaadpgammbdgaa.PA
open Go.RowKit Go.Proofs.YteaadpgammbdgaaW.PrintWords Go.Proofs.YteaadpgammbdgaaW.PrintLast Go.Proofs.YteaadpgammbdgaaW.PrintMore
attribute [local go_sem] max2_int min2_int max_two min_two max_three min_three max_four min_four   -- for this text's walks alone
set_option linter.unusedVariables false
set_option linter.unusedSimpArgs false

attribute [local go_sem high] eqA37
/-! ### uniset_Minus: function 30 -/
def uniset_Minus.f (k : Nat) (l0 : List (S37)) (l1 : List (S37)) : Option ((List (S37))) := (uniset_Not.f k l1).bind fun t214 => ((uniset_Inter.f k l0 t214).bind fun t217 => (some t217))
theorem uniset_Minus.mono : ∀ a0 a1 k, LeO (uniset_Minus.f k a0 a1) (uniset_Minus.f (k + 1) a0 a1) := by
  intro a0 a1 k
  unfold uniset_Minus.f
  repeat' first
      | (with_reducible exact uniset_Inter.mono _ _ _)
      | (with_reducible exact uniset_Not.mono _ _)
      | (with_reducible exact LeO.refl _)
      | (with_reducible exact LeO.none _)
      | (with_reducible refine LeO.ite ?_ ?_)
      | (with_reducible refine LeO.bind ?_ (fun _ => ?_))
      | exact uniset_Inter.mono _ _ _
      | exact uniset_Not.mono _ _
      | exact LeO.none _
      | refine LeO.ite ?_ ?_
      | refine LeO.bind ?_ (fun _ => ?_)
set_option maxHeartbeats 8000000 in
set_option maxRecDepth 100000 in
theorem uniset_Minus.calls (k : Nat) (A0 : Option Addr) (c0 : Nat) (l0 : List (S37)) (A1 : Option Addr) (c1 : Nat) (l1 : List (S37)) (r : List (S37)) (w : World) (hr0 : Kd.C k37 w A0 l0.length l0) (hc0 : l0.length ≤ c0) (hr1 : Kd.C k37 w A1 l1.length l1) (hc1 : l1.length ≤ c1) (h : uniset_Minus.f k l0 l1 = some r) :
    Calls Try.prog 30 #[.slice A0 l0.length c0, .slice A1 l1.length c1] w fun e w' => ∃ v0_ : Value, e = .returned (v0_) ∧ Kd.R k37 37 w' w.heap.size (fun _ => True) v0_ r ∧ Below w.heap.size w w' := by
  have HR0 := Aside0.mk hr0
  have HC0 := Aside0.mk hc0
  clear hr0 hc0
  have HR1 := Aside0.mk hr1
  have HC1 := Aside0.mk hc1
  clear hr1 hc1
  have HB := Aside0.mk (Below.refl w.heap.size w)
  have H : ((uniset_Not.f k l1).bind fun t214 => ((uniset_Inter.f k l0 t214).bind fun t217 => (some t217))) = some r := h
  clear h
  replace H := Option.bind_eq_some_iff.mp H
  obtain ⟨t214, A30, H⟩ := H
  replace H : ((uniset_Inter.f k l0 t214).bind fun t217 => (some t217)) = some r := H
  have A3 := Aside0.mk A30
  clear A30
  replace H := Option.bind_eq_some_iff.mp H
  obtain ⟨t217, A40, H⟩ := H
  replace H : (some t217) = some r := H
  have A4 := Aside0.mk A40
  clear A40
  obtain rfl := Option.some.inj H
  go_enter Try.func30, Try.ntmps30
  go_wp2_with (first | ((with_reducible refine gate_callee (f := 25) rfl ?_); refine goesL_ (some 7) rfl rfl Try.func25 (by kernel_rfl) rfl #[.slice A1 l1.length c1] rfl (by (try simp only [List.map_toArray, List.map_cons, List.map_nil]); first | done | rfl | (simp only [List.length_drop, List.length_take]; rfl)) ?_; (with_reducible refine (uniset_Not.calls k _ _ l1 t214 _ ?side1 ?side2 A3.out).mono ?_); (case side1 => repeat (first | exact HR1.out | (with_reducible refine Kd.C_alloc ?_ _) | (with_reducible refine Kd.C_drewN ?_ _) | (with_reducible refine Kd.C_drew ?_))); (case side2 => exact HC1.out); rintro e w5 ⟨v215, rfl, ho0, hb⟩; refine ⟨_, rfl, ?_⟩; have n0_ := Aside0.mk (Kd.R_lower ho0 (below_size (by repeat (first | (with_reducible first | exact HB.out | apply below_alloc | apply pw_below_drewN | apply below_drew1) | exact HB.out)))); have n1_ := Aside0.mk (below_step (by repeat (first | (with_reducible first | exact HB.out | apply below_alloc | apply pw_below_drewN | apply below_drew1) | exact HB.out)) hb); clear HB; have HO216 := n0_; have HB := n1_; clear n0_ n1_; (try clear hb); (try clear hb2); (try clear hk); (try clear hi); (try clear ho0); obtain ⟨Ao6, co6, eo6⟩ := Kd.R_slice HO216.out; subst eo6) | ((with_reducible refine gate_callee (f := 26) rfl ?_); refine goesL_ (some 8) rfl rfl Try.func26 (by kernel_rfl) rfl #[.slice A0 l0.length c0, .slice Ao6 t214.length co6] rfl (by (try simp only [List.map_toArray, List.map_cons, List.map_nil]); first | done | rfl | (simp only [List.length_drop, List.length_take]; rfl)) ?_; (with_reducible refine (uniset_Inter.calls k _ _ l0 _ _ t214 t217 _ ?side1 ?side2 ?side3 ?side4 A4.out).mono ?_); (case side1 => repeat (first | exact (Kd.C_below HR0.out HB.out) | (with_reducible refine Kd.C_alloc ?_ _) | (with_reducible refine Kd.C_drewN ?_ _) | (with_reducible refine Kd.C_drew ?_))); (case side2 => exact HC0.out); (case side3 => repeat (first | exact (Kd.R_reads' HO216.out).2.2 | (with_reducible refine Kd.C_alloc ?_ _) | (with_reducible refine Kd.C_drewN ?_ _) | (with_reducible refine Kd.C_drew ?_))); (case side4 => exact (Kd.R_reads' HO216.out).2.1); rintro e w7 ⟨v218, rfl, ho0, hb⟩; refine ⟨_, rfl, ?_⟩; have n0_ := Aside0.mk (Kd.R_elder' (by (with_reducible repeat (first | apply Kd.R_alloc | apply Kd.R_drewN | apply Kd.R_drew)); exact HO216.out) (Kd.R_base ho0) hb); have n1_ := Aside0.mk (Kd.R_lower (Kd.R_new' ho0 (Kd.R_lt (by (with_reducible repeat (first | apply Kd.R_alloc | apply Kd.R_drewN | apply Kd.R_drew)); exact HO216.out))) (below_size (by repeat (first | (with_reducible first | exact HB.out | apply below_alloc | apply pw_below_drewN | apply below_drew1) | exact HB.out)))); have n2_ := Aside0.mk (below_step (by repeat (first | (with_reducible first | exact HB.out | apply below_alloc | apply pw_below_drewN | apply below_drew1) | exact HB.out)) hb); clear HO216; clear HB; have HO216 := n0_; have HO219 := n1_; have HB := n2_; clear n0_ n1_ n2_; (try clear hb); (try clear hb2); (try clear hk); (try clear hi); (try clear ho0)))
  go_ret
  exact ⟨_, by first | rfl | (simp [errW_none, errW_some] <;> rfl) | (simp [*, errW_none, errW_some] <;> rfl), by (with_reducible repeat (first | apply Kd.R_alloc | apply Kd.R_drewN | apply Kd.R_drew)); exact Kd.R_mono HO219.out (fun _ hk => trivial), by repeat (first | (with_reducible first | exact HB.out | apply below_alloc | apply pw_below_drewN | apply below_drew1) | exact HB.out)⟩

/-! ### hornbooklaw3_SetPoints: function 8 -/
mutual
def hornbooklaw3_SetPoints.j0 : Nat → List (S37) → List (S37) → Int → Bool → Option (Bool)
  | 0, _, _, _, _ => none
  | k + 1, x0, x1, x2, x19 => if x19 = true then (some true) else ((uniset_Has.f x0 x2).bind fun t221 => ((uniset_Has.f x1 x2).bind fun t222 => (if x2 ≥ 0 then (hornbooklaw3_SetPoints.j1 k x0 x1 x2 t221 t222 (decide (x2 ≤ 1114111))) else (hornbooklaw3_SetPoints.j1 k x0 x1 x2 t221 t222 false))))
def hornbooklaw3_SetPoints.j1 : Nat → List (S37) → List (S37) → Int → Bool → Bool → Bool → Option (Bool)
  | 0, _, _, _, _, _, _ => none
  | k + 1, x0, x1, x2, x7, x8, x9 => (uniset_Union.f x0 x1).bind fun t223 => ((uniset_Has.f t223 x2).bind fun t226 => (if x7 = true then (if t226 = true then ((uniset_Inter.f k x0 x1).bind fun t227 => ((uniset_Has.f t227 x2).bind fun t230 => (if (t230 == x8) = true then ((uniset_Minus.f k x0 x1).bind fun t231 => ((uniset_Has.f t231 x2).bind fun t234 => (if (t234 == (!x8)) = true then ((uniset_Not.f k x0).bind fun t235 => ((uniset_Has.f t235 x2).bind fun t238 => (if x9 = true then (if (t238 == (!x7)) = true then (some true) else (none)) else (if t238 = true then (none) else (some (!x7)))))) else (none)))) else (none)))) else (none)) else (if (t226 == x8) = true then ((uniset_Inter.f k x0 x1).bind fun t239 => ((uniset_Has.f t239 x2).bind fun t242 => (if t242 = true then (none) else ((uniset_Minus.f k x0 x1).bind fun t243 => ((uniset_Has.f t243 x2).bind fun t246 => (if t246 = true then (none) else ((uniset_Not.f k x0).bind fun t247 => ((uniset_Has.f t247 x2).bind fun t250 => (if x9 = true then (if (t250 == (!x7)) = true then (some true) else (none)) else (if t250 = true then (none) else (some (!x7)))))))))))) else (none))))
end
def hornbooklaw3_SetPoints.f (k : Nat) (l0 : List (S37)) (l1 : List (S37)) (a2 : Int) : Option (Bool) := (hornbooklaw3_known.f k).bind fun t220 => (if t220 = true then (if (l0.length : Int) > 40 then (hornbooklaw3_SetPoints.j0 k l0 l1 a2 true) else (hornbooklaw3_SetPoints.j0 k l0 l1 a2 (decide ((l1.length : Int) > 40)))) else (none))
theorem hornbooklaw3_SetPoints.mono_l : ∀ k, (∀ y0 y1 y2 y3, LeO (hornbooklaw3_SetPoints.j0 k y0 y1 y2 y3) (hornbooklaw3_SetPoints.j0 (k + 1) y0 y1 y2 y3)) ∧ (∀ y0 y1 y2 y3 y4 y5, LeO (hornbooklaw3_SetPoints.j1 k y0 y1 y2 y3 y4 y5) (hornbooklaw3_SetPoints.j1 (k + 1) y0 y1 y2 y3 y4 y5))
  | 0 => ⟨fun _ _ _ _ r h => by simp [hornbooklaw3_SetPoints.j0] at h, fun _ _ _ _ _ _ r h => by simp [hornbooklaw3_SetPoints.j1] at h⟩
  | k + 1 => by
    obtain ⟨ih0, ih1⟩ := hornbooklaw3_SetPoints.mono_l k
    refine ⟨?_, ?_⟩
    · intro y0 y1 y2 y3
      unfold hornbooklaw3_SetPoints.j0
      repeat' first
      | (with_reducible exact ih0 _ _ _ _)
      | (with_reducible exact ih1 _ _ _ _ _ _)
      | (with_reducible exact hornbooklaw3_known.mono _)
      | (with_reducible exact uniset_Inter.mono _ _ _)
      | (with_reducible exact uniset_Minus.mono _ _ _)
      | (with_reducible exact uniset_Not.mono _ _)
      | (with_reducible exact LeO.refl _)
      | (with_reducible exact LeO.none _)
      | (with_reducible refine LeO.ite ?_ ?_)
      | (with_reducible refine LeO.bind ?_ (fun _ => ?_))
      | exact ih0 _ _ _ _
      | exact ih1 _ _ _ _ _ _
      | exact hornbooklaw3_known.mono _
      | exact uniset_Inter.mono _ _ _
      | exact uniset_Minus.mono _ _ _
      | exact uniset_Not.mono _ _
      | exact LeO.none _
      | refine LeO.ite ?_ ?_
      | refine LeO.bind ?_ (fun _ => ?_)
    · intro y0 y1 y2 y3 y4 y5
      unfold hornbooklaw3_SetPoints.j1
      repeat' first
      | (with_reducible exact ih0 _ _ _ _)
      | (with_reducible exact ih1 _ _ _ _ _ _)
      | (with_reducible exact hornbooklaw3_known.mono _)
      | (with_reducible exact uniset_Inter.mono _ _ _)
      | (with_reducible exact uniset_Minus.mono _ _ _)
      | (with_reducible exact uniset_Not.mono _ _)
      | (with_reducible exact LeO.refl _)
      | (with_reducible exact LeO.none _)
      | (with_reducible refine LeO.ite ?_ ?_)
      | (with_reducible refine LeO.bind ?_ (fun _ => ?_))
      | exact ih0 _ _ _ _
      | exact ih1 _ _ _ _ _ _
      | exact hornbooklaw3_known.mono _
      | exact uniset_Inter.mono _ _ _
      | exact uniset_Minus.mono _ _ _
      | exact uniset_Not.mono _ _
      | exact LeO.none _
      | refine LeO.ite ?_ ?_
      | refine LeO.bind ?_ (fun _ => ?_)
theorem hornbooklaw3_SetPoints.mono : ∀ a0 a1 a2 k, LeO (hornbooklaw3_SetPoints.f k a0 a1 a2) (hornbooklaw3_SetPoints.f (k + 1) a0 a1 a2) := by
  intro a0 a1 a2 k
  obtain ⟨ih0, ih1⟩ := hornbooklaw3_SetPoints.mono_l k
  unfold hornbooklaw3_SetPoints.f
  repeat' first
      | (with_reducible exact ih0 _ _ _ _)
      | (with_reducible exact ih1 _ _ _ _ _ _)
      | (with_reducible exact hornbooklaw3_known.mono _)
      | (with_reducible exact uniset_Inter.mono _ _ _)
      | (with_reducible exact uniset_Minus.mono _ _ _)
      | (with_reducible exact uniset_Not.mono _ _)
      | (with_reducible exact LeO.refl _)
      | (with_reducible exact LeO.none _)
      | (with_reducible refine LeO.ite ?_ ?_)
      | (with_reducible refine LeO.bind ?_ (fun _ => ?_))
      | exact ih0 _ _ _ _
      | exact ih1 _ _ _ _ _ _
      | exact hornbooklaw3_known.mono _
      | exact uniset_Inter.mono _ _ _
      | exact uniset_Minus.mono _ _ _
      | exact uniset_Not.mono _ _
      | exact LeO.none _
      | refine LeO.ite ?_ ?_
      | refine LeO.bind ?_ (fun _ => ?_)
set_option maxHeartbeats 8000000 in
set_option maxRecDepth 100000 in
theorem hornbooklaw3_SetPoints.calls (k : Nat) (A0 : Option Addr) (c0 : Nat) (l0 : List (S37)) (A1 : Option Addr) (c1 : Nat) (l1 : List (S37)) (a2 : Int) (r : Bool) (w : World) (hr0 : Kd.C k37 w A0 l0.length l0) (hc0 : l0.length ≤ c0) (hr1 : Kd.C k37 w A1 l1.length l1) (hc1 : l1.length ≤ c1) (h : hornbooklaw3_SetPoints.f k l0 l1 a2 = some r) :
    Calls Try.prog 8 #[.slice A0 l0.length c0, .slice A1 l1.length c1, .int .i32 a2] w fun e w' => e = .returned (.bool r) ∧ Below w.heap.size w w' := by
  have HR0 := Aside0.mk hr0
  have HC0 := Aside0.mk hc0
  clear hr0 hc0
  have HR1 := Aside0.mk hr1
  have HC1 := Aside0.mk hc1
  clear hr1 hc1
  have HB := Aside0.mk (Below.refl w.heap.size w)
  have H : ((hornbooklaw3_known.f k).bind fun t220 => (if t220 = true then (if (l0.length : Int) > 40 then (hornbooklaw3_SetPoints.j0 k l0 l1 a2 true) else (hornbooklaw3_SetPoints.j0 k l0 l1 a2 (decide ((l1.length : Int) > 40)))) else (none))) = some r := h
  clear h
  replace H := Option.bind_eq_some_iff.mp H
  obtain ⟨t220, A40, H⟩ := H
  replace H : (if t220 = true then (if (l0.length : Int) > 40 then (hornbooklaw3_SetPoints.j0 k l0 l1 a2 true) else (hornbooklaw3_SetPoints.j0 k l0 l1 a2 (decide ((l1.length : Int) > 40)))) else (none)) = some r := H
  have A4 := Aside0.mk A40
  clear A40
  by_cases c5 : t220 = true
  · subst c5
    have H1 : (if (l0.length : Int) > 40 then (hornbooklaw3_SetPoints.j0 k l0 l1 a2 true) else (hornbooklaw3_SetPoints.j0 k l0 l1 a2 (decide ((l1.length : Int) > 40)))) = some r := by rw [if_pos rfl] at H; exact H
    clear H
    have H := H1
    clear H1
    have HC6 := Aside0.mk H
    clear H
    go_enter Try.func8, Try.ntmps8
    go_upto_region 3 with (first | ((with_reducible refine gate_callee (f := 19) rfl ?_); refine goesL_ (some 10) rfl rfl Try.func19 (by kernel_rfl) rfl #[] rfl (by (try simp only [List.map_toArray, List.map_cons, List.map_nil]); first | done | rfl | (simp only [List.length_drop, List.length_take]; rfl)) ?_; (with_reducible refine (hornbooklaw3_known.calls k  true _ A4.out).mono ?_); rintro e w7 ⟨rfl, hb⟩; refine ⟨_, rfl, ?_⟩; have n0_ := Aside0.mk (below_step (by repeat (first | (with_reducible first | exact HB.out | apply below_alloc | apply pw_below_drewN | apply below_drew1) | exact HB.out)) hb); clear HB; have HB := n0_; clear n0_; (try clear hb); (try clear hb2); (try clear hk); (try clear hi)))
    (try simp only [Act.put, List.setIfInBounds_toArray, List.set_cons_zero, List.set_cons_succ])
    go_cut [19] (fun v19 wc => ∃ (kq : Nat) (x19_5 : Bool), v19 = .bool x19_5 ∧ Aside0 (hornbooklaw3_SetPoints.j0 kq l0 l1 a2 x19_5 = some r) ∧ Aside0 (kq ≤ k) ∧ Aside0 (Below w.heap.size w wc))
    case first =>
      have H := HC6.out
      clear HC6
      by_cases c8 : (l0.length : Int) > 40
      · rw [if_pos c8] at H
        have c8b0 : decide (40 < (l0.length : Int)) = true := decide_eq_true c8
        have c8b1 : decide (40 < l0.length) = true := decide_eq_true (by omega)
        clear c8
        (first | rw [c8b0] | (simp only [i64_w, i32_w]; rw [c8b0]) | skip)
        have H' := Aside0.mk H
        clear H
        go_wp2
        go_meet
        case rel => exact ⟨_, (true), (by first | rfl | (simp; done) | (simp [*]; done)), H', ⟨by first | omega | exact Nat.le_refl _⟩, ⟨by repeat (first | (with_reducible first | exact HB.out | apply below_alloc | apply pw_below_drewN | apply below_drew1) | exact HB.out)⟩⟩
      · rw [if_neg c8] at H
        have c8b0 : decide (40 < (l0.length : Int)) = false := decide_eq_false c8
        have c8b1 : decide (40 < l0.length) = false := decide_eq_false (by omega)
        clear c8
        (first | rw [c8b0] | (simp only [i64_w, i32_w]; rw [c8b0]) | skip)
        have H' := Aside0.mk H
        clear H
        go_wp2
        go_meet
        case rel => exact ⟨_, (decide ((l1.length : Int) > 40)), (by first | rfl | (simp; done) | (simp [*]; done)), H', ⟨by first | omega | exact Nat.le_refl _⟩, ⟨by repeat (first | (with_reducible first | exact HB.out | apply below_alloc | apply pw_below_drewN | apply below_drew1) | exact HB.out)⟩⟩
    case rest =>
      clear HC6
      try clear c1
      try clear p2
      try clear c5
      try clear c8
      try clear c8b0
      try clear c8b1
      obtain ⟨kq, x19_5, rfl, HA, HJ5, HB⟩ := hcut
      cases kq with
      | zero => exact absurd HA.out (by simp [hornbooklaw3_SetPoints.j0])
      | succ kj5 =>
        have H := HA.out
        clear HA
        simp only [hornbooklaw3_SetPoints.j0] at H
        by_cases c9 : x19_5 = true
        · subst c9
          have H1 : (some true) = some r := by rw [if_pos rfl] at H; exact H
          clear H
          have H := H1
          clear H1
          obtain rfl := Option.some.inj H
          go_wp2
          go_ret
          exact ⟨by first | rfl | (simp [errW_none, errW_some] <;> rfl) | (simp [*, errW_none, errW_some] <;> rfl), by repeat (first | (with_reducible first | exact HB.out | apply below_alloc | apply pw_below_drewN | apply below_drew1) | exact HB.out)⟩
        · replace c9 := Bool.eq_false_iff.mpr c9
          subst c9
          have H1 : ((uniset_Has.f l0 a2).bind fun t221 => ((uniset_Has.f l1 a2).bind fun t222 => (if a2 ≥ 0 then (hornbooklaw3_SetPoints.j1 kj5 l0 l1 a2 t221 t222 (decide (a2 ≤ 1114111))) else (hornbooklaw3_SetPoints.j1 kj5 l0 l1 a2 t221 t222 false)))) = some r := by rw [if_neg (show ¬ (false = true) by decide)] at H; exact H
          clear H
          have H := H1
          clear H1
          replace H := Option.bind_eq_some_iff.mp H
          obtain ⟨t221, A100, H⟩ := H
          replace H : ((uniset_Has.f l1 a2).bind fun t222 => (if a2 ≥ 0 then (hornbooklaw3_SetPoints.j1 kj5 l0 l1 a2 t221 t222 (decide (a2 ≤ 1114111))) else (hornbooklaw3_SetPoints.j1 kj5 l0 l1 a2 t221 t222 false))) = some r := H
          have A10 := Aside0.mk A100
          clear A100
          replace H := Option.bind_eq_some_iff.mp H
          obtain ⟨t222, A110, H⟩ := H
          replace H : (if a2 ≥ 0 then (hornbooklaw3_SetPoints.j1 kj5 l0 l1 a2 t221 t222 (decide (a2 ≤ 1114111))) else (hornbooklaw3_SetPoints.j1 kj5 l0 l1 a2 t221 t222 false)) = some r := H
          have A11 := Aside0.mk A110
          clear A110
          have HC12 := Aside0.mk H
          clear H
          go_upto_region 6 with (first | ((with_reducible refine gate_callee (f := 21) rfl ?_); refine goesL_ (some 22) rfl rfl Try.func21 (by kernel_rfl) rfl #[.slice A0 l0.length c0, .int .i32 a2] rfl (by (try simp only [List.map_toArray, List.map_cons, List.map_nil]); first | done | rfl | (simp only [List.length_drop, List.length_take]; rfl)) ?_; (with_reducible refine (uniset_Has.calls _ _ l0 a2 t221 _ ?side1 ?side2 A10.out).mono ?_); (case side1 => repeat (first | exact (Kd.C_below HR0.out HB.out) | (with_reducible refine Kd.C_alloc ?_ _) | (with_reducible refine Kd.C_drewN ?_ _) | (with_reducible refine Kd.C_drew ?_))); (case side2 => exact HC0.out); rintro e w13 ⟨rfl, hb⟩; refine ⟨_, rfl, ?_⟩; have n0_ := Aside0.mk (below_step (by repeat (first | (with_reducible first | exact HB.out | apply below_alloc | apply pw_below_drewN | apply below_drew1) | exact HB.out)) hb); clear HB; have HB := n0_; clear n0_; (try clear hb); (try clear hb2); (try clear hk); (try clear hi)) | ((with_reducible refine gate_callee (f := 21) rfl ?_); refine goesL_ (some 25) rfl rfl Try.func21 (by kernel_rfl) rfl #[.slice A1 l1.length c1, .int .i32 a2] rfl (by (try simp only [List.map_toArray, List.map_cons, List.map_nil]); first | done | rfl | (simp only [List.length_drop, List.length_take]; rfl)) ?_; (with_reducible refine (uniset_Has.calls _ _ l1 a2 t222 _ ?side1 ?side2 A11.out).mono ?_); (case side1 => repeat (first | exact (Kd.C_below HR1.out HB.out) | (with_reducible refine Kd.C_alloc ?_ _) | (with_reducible refine Kd.C_drewN ?_ _) | (with_reducible refine Kd.C_drew ?_))); (case side2 => exact HC1.out); rintro e w14 ⟨rfl, hb⟩; refine ⟨_, rfl, ?_⟩; have n0_ := Aside0.mk (below_step (by repeat (first | (with_reducible first | exact HB.out | apply below_alloc | apply pw_below_drewN | apply below_drew1) | exact HB.out)) hb); clear HB; have HB := n0_; clear n0_; (try clear hb); (try clear hb2); (try clear hk); (try clear hi)))
          (try simp only [Act.put, List.setIfInBounds_toArray, List.set_cons_zero, List.set_cons_succ])
          go_cut [9] (fun v9 wc => ∃ (kq : Nat) (x9_11 : Bool), v9 = .bool x9_11 ∧ Aside0 (hornbooklaw3_SetPoints.j1 kq l0 l1 a2 t221 t222 x9_11 = some r) ∧ Aside0 (kq ≤ kj5) ∧ Aside0 (Below w.heap.size w wc))
          case first =>
            have H := HC12.out
            clear HC12
            by_cases c15 : a2 ≥ 0
            · rw [if_pos c15] at H
              have c15b0 : decide (0 ≤ a2) = true := decide_eq_true c15
              clear c15
              (first | rw [c15b0] | (simp only [i64_w, i32_w]; rw [c15b0]) | skip)
              have H' := Aside0.mk H
              clear H
              go_wp2
              go_meet
              case rel => exact ⟨_, (decide (a2 ≤ 1114111)), (by first | rfl | (simp; done) | (simp [*]; done)), H', ⟨by have := HJ5.out; first | omega | exact Nat.le_refl _⟩, ⟨by repeat (first | (with_reducible first | exact HB.out | apply below_alloc | apply pw_below_drewN | apply below_drew1) | exact HB.out)⟩⟩
            · rw [if_neg c15] at H
              have c15b0 : decide (0 ≤ a2) = false := decide_eq_false c15
              clear c15
              (first | rw [c15b0] | (simp only [i64_w, i32_w]; rw [c15b0]) | skip)
              have H' := Aside0.mk H
              clear H
              go_wp2
              go_meet
              case rel => exact ⟨_, (false), (by first | rfl | (simp; done) | (simp [*]; done)), H', ⟨by have := HJ5.out; first | omega | exact Nat.le_refl _⟩, ⟨by repeat (first | (with_reducible first | exact HB.out | apply below_alloc | apply pw_below_drewN | apply below_drew1) | exact HB.out)⟩⟩
          case rest =>
            clear HC12
            try clear c1
            try clear c2
            try clear p2
            try clear c5
            try clear c8
            try clear c8b0
            try clear c8b1
            try clear c9
            try clear c15
            try clear c15b0
            try clear p2
            obtain ⟨kq, x9_11, rfl, HA, HJ11, HB⟩ := hcut
            cases kq with
            | zero => exact absurd HA.out (by simp [hornbooklaw3_SetPoints.j1])
            | succ kj11 =>
              have H := HA.out
              clear HA
              simp only [hornbooklaw3_SetPoints.j1] at H
              replace H := Option.bind_eq_some_iff.mp H
              obtain ⟨t223, A160, H⟩ := H
              replace H : ((uniset_Has.f t223 a2).bind fun t226 => (if t221 = true then (if t226 = true then ((uniset_Inter.f kj11 l0 l1).bind fun t227 => ((uniset_Has.f t227 a2).bind fun t230 => (if (t230 == t222) = true then ((uniset_Minus.f kj11 l0 l1).bind fun t231 => ((uniset_Has.f t231 a2).bind fun t234 => (if (t234 == (!t222)) = true then ((uniset_Not.f kj11 l0).bind fun t235 => ((uniset_Has.f t235 a2).bind fun t238 => (if x9_11 = true then (if (t238 == (!t221)) = true then (some true) else (none)) else (if t238 = true then (none) else (some (!t221)))))) else (none)))) else (none)))) else (none)) else (if (t226 == t222) = true then ((uniset_Inter.f kj11 l0 l1).bind fun t239 => ((uniset_Has.f t239 a2).bind fun t242 => (if t242 = true then (none) else ((uniset_Minus.f kj11 l0 l1).bind fun t243 => ((uniset_Has.f t243 a2).bind fun t246 => (if t246 = true then (none) else ((uniset_Not.f kj11 l0).bind fun t247 => ((uniset_Has.f t247 a2).bind fun t250 => (if x9_11 = true then (if (t250 == (!t221)) = true then (some true) else (none)) else (if t250 = true then (none) else (some (!t221)))))))))))) else (none)))) = some r := H
              have A16 := Aside0.mk A160
              clear A160
              replace H := Option.bind_eq_some_iff.mp H
              obtain ⟨t226, A170, H⟩ := H
              replace H : (if t221 = true then (if t226 = true then ((uniset_Inter.f kj11 l0 l1).bind fun t227 => ((uniset_Has.f t227 a2).bind fun t230 => (if (t230 == t222) = true then ((uniset_Minus.f kj11 l0 l1).bind fun t231 => ((uniset_Has.f t231 a2).bind fun t234 => (if (t234 == (!t222)) = true then ((uniset_Not.f kj11 l0).bind fun t235 => ((uniset_Has.f t235 a2).bind fun t238 => (if x9_11 = true then (if (t238 == (!t221)) = true then (some true) else (none)) else (if t238 = true then (none) else (some (!t221)))))) else (none)))) else (none)))) else (none)) else (if (t226 == t222) = true then ((uniset_Inter.f kj11 l0 l1).bind fun t239 => ((uniset_Has.f t239 a2).bind fun t242 => (if t242 = true then (none) else ((uniset_Minus.f kj11 l0 l1).bind fun t243 => ((uniset_Has.f t243 a2).bind fun t246 => (if t246 = true then (none) else ((uniset_Not.f kj11 l0).bind fun t247 => ((uniset_Has.f t247 a2).bind fun t250 => (if x9_11 = true then (if (t250 == (!t221)) = true then (some true) else (none)) else (if t250 = true then (none) else (some (!t221)))))))))))) else (none))) = some r := H
              have A17 := Aside0.mk A170
              clear A170
              by_cases c18 : t221 = true
              · subst c18
                have H1 : (if t226 = true then ((uniset_Inter.f kj11 l0 l1).bind fun t227 => ((uniset_Has.f t227 a2).bind fun t230 => (if (t230 == t222) = true then ((uniset_Minus.f kj11 l0 l1).bind fun t231 => ((uniset_Has.f t231 a2).bind fun t234 => (if (t234 == (!t222)) = true then ((uniset_Not.f kj11 l0).bind fun t235 => ((uniset_Has.f t235 a2).bind fun t238 => (if x9_11 = true then (if (t238 == (!true)) = true then (some true) else (none)) else (if t238 = true then (none) else (some (!true)))))) else (none)))) else (none)))) else (none)) = some r := by rw [if_pos rfl] at H; exact H
                clear H
                have H := H1
                clear H1
                by_cases c19 : t226 = true
                · subst c19
                  have H1 : ((uniset_Inter.f kj11 l0 l1).bind fun t227 => ((uniset_Has.f t227 a2).bind fun t230 => (if (t230 == t222) = true then ((uniset_Minus.f kj11 l0 l1).bind fun t231 => ((uniset_Has.f t231 a2).bind fun t234 => (if (t234 == (!t222)) = true then ((uniset_Not.f kj11 l0).bind fun t235 => ((uniset_Has.f t235 a2).bind fun t238 => (if x9_11 = true then (if (t238 == (!true)) = true then (some true) else (none)) else (if t238 = true then (none) else (some (!true)))))) else (none)))) else (none)))) = some r := by rw [if_pos rfl] at H; exact H
                  clear H
                  have H := H1
                  clear H1
                  replace H := Option.bind_eq_some_iff.mp H
                  obtain ⟨t227, A200, H⟩ := H
                  replace H : ((uniset_Has.f t227 a2).bind fun t230 => (if (t230 == t222) = true then ((uniset_Minus.f kj11 l0 l1).bind fun t231 => ((uniset_Has.f t231 a2).bind fun t234 => (if (t234 == (!t222)) = true then ((uniset_Not.f kj11 l0).bind fun t235 => ((uniset_Has.f t235 a2).bind fun t238 => (if x9_11 = true then (if (t238 == (!true)) = true then (some true) else (none)) else (if t238 = true then (none) else (some (!true)))))) else (none)))) else (none))) = some r := H
                  have A20 := Aside0.mk A200
                  clear A200
                  replace H := Option.bind_eq_some_iff.mp H
                  obtain ⟨t230, A210, H⟩ := H
                  replace H : (if (t230 == t222) = true then ((uniset_Minus.f kj11 l0 l1).bind fun t231 => ((uniset_Has.f t231 a2).bind fun t234 => (if (t234 == (!t222)) = true then ((uniset_Not.f kj11 l0).bind fun t235 => ((uniset_Has.f t235 a2).bind fun t238 => (if x9_11 = true then (if (t238 == (!true)) = true then (some true) else (none)) else (if t238 = true then (none) else (some (!true)))))) else (none)))) else (none)) = some r := H
                  have A21 := Aside0.mk A210
                  clear A210
                  by_cases c22 : (t230 == t222) = true
                  · rw [if_pos c22] at H
                    have c22b0 : (t230 == t222) = true := c22
                    (try (have c22b1 : decide (t230 = t222) = true := by simpa using c22))
                    (try (have c22b2 : (t230 == t222) = true := by simpa using c22))
                    clear c22
                    replace H := Option.bind_eq_some_iff.mp H
                    obtain ⟨t231, A230, H⟩ := H
                    replace H : ((uniset_Has.f t231 a2).bind fun t234 => (if (t234 == (!t222)) = true then ((uniset_Not.f kj11 l0).bind fun t235 => ((uniset_Has.f t235 a2).bind fun t238 => (if x9_11 = true then (if (t238 == (!true)) = true then (some true) else (none)) else (if t238 = true then (none) else (some (!true)))))) else (none))) = some r := H
                    have A23 := Aside0.mk A230
                    clear A230
                    replace H := Option.bind_eq_some_iff.mp H
                    obtain ⟨t234, A240, H⟩ := H
                    replace H : (if (t234 == (!t222)) = true then ((uniset_Not.f kj11 l0).bind fun t235 => ((uniset_Has.f t235 a2).bind fun t238 => (if x9_11 = true then (if (t238 == (!true)) = true then (some true) else (none)) else (if t238 = true then (none) else (some (!true)))))) else (none)) = some r := H
                    have A24 := Aside0.mk A240
                    clear A240
                    by_cases c25 : (t234 == (!t222)) = true
                    · rw [if_pos c25] at H
                      have c25b0 : (t234 == (!t222)) = true := c25
                      (try (have c25b1 : decide (t234 = (!t222)) = true := by simpa using c25))
                      (try (have c25b2 : (t234 == (!t222)) = true := by simpa using c25))
                      clear c25
                      replace H := Option.bind_eq_some_iff.mp H
                      obtain ⟨t235, A260, H⟩ := H
                      replace H : ((uniset_Has.f t235 a2).bind fun t238 => (if x9_11 = true then (if (t238 == (!true)) = true then (some true) else (none)) else (if t238 = true then (none) else (some (!true))))) = some r := H
                      have A26 := Aside0.mk A260
                      clear A260
                      replace H := Option.bind_eq_some_iff.mp H
                      obtain ⟨t238, A270, H⟩ := H
                      replace H : (if x9_11 = true then (if (t238 == (!true)) = true then (some true) else (none)) else (if t238 = true then (none) else (some (!true)))) = some r := H
                      have A27 := Aside0.mk A270
                      clear A270
                      by_cases c28 : x9_11 = true
                      · subst c28
                        have H1 : (if (t238 == (!true)) = true then (some true) else (none)) = some r := by rw [if_pos rfl] at H; exact H
                        clear H
                        have H := H1
                        clear H1
                        by_cases c29 : (t238 == (!true)) = true
                        · rw [if_pos c29] at H
                          (try (have c29b0 : t238 = false := by simpa using c29))
                          have c29b1 : (t238 == (!true)) = true := c29
                          (try (have c29b2 : decide (t238 = (!true)) = true := by simpa using c29))
                          (try (have c29b3 : (t238 == (!true)) = true := by simpa using c29))
                          clear c29
                          obtain rfl := Option.some.inj H
                          go_wp2_with (first | ((with_reducible refine gate_callee (f := 24) rfl ?_); refine goesL_ (some 34) rfl rfl Try.func24 (by kernel_rfl) rfl #[.slice A0 l0.length c0, .slice A1 l1.length c1] rfl (by (try simp only [List.map_toArray, List.map_cons, List.map_nil]); first | done | rfl | (simp only [List.length_drop, List.length_take]; rfl)) ?_; (with_reducible refine (uniset_Union.calls _ _ l0 _ _ l1 t223 _ ?side1 ?side2 ?side3 ?side4 A16.out).mono ?_); (case side1 => repeat (first | exact (Kd.C_below HR0.out HB.out) | (with_reducible refine Kd.C_alloc ?_ _) | (with_reducible refine Kd.C_drewN ?_ _) | (with_reducible refine Kd.C_drew ?_))); (case side2 => exact HC0.out); (case side3 => repeat (first | exact (Kd.C_below HR1.out HB.out) | (with_reducible refine Kd.C_alloc ?_ _) | (with_reducible refine Kd.C_drewN ?_ _) | (with_reducible refine Kd.C_drew ?_))); (case side4 => exact HC1.out); rintro e w30 ⟨v224, rfl, ho0, hb⟩; refine ⟨_, rfl, ?_⟩; have n0_ := Aside0.mk (Kd.R_lower ho0 (below_size (by repeat (first | (with_reducible first | exact HB.out | apply below_alloc | apply pw_below_drewN | apply below_drew1) | exact HB.out)))); have n1_ := Aside0.mk (below_step (by repeat (first | (with_reducible first | exact HB.out | apply below_alloc | apply pw_below_drewN | apply below_drew1) | exact HB.out)) hb); clear HB; have HO225 := n0_; have HB := n1_; clear n0_ n1_; (try clear hb); (try clear hb2); (try clear hk); (try clear hi); (try clear ho0); obtain ⟨Ao31, co31, eo31⟩ := Kd.R_slice HO225.out; subst eo31) | ((with_reducible refine gate_callee (f := 21) rfl ?_); refine goesL_ (some 36) rfl rfl Try.func21 (by kernel_rfl) rfl #[.slice Ao31 t223.length co31, .int .i32 a2] rfl (by (try simp only [List.map_toArray, List.map_cons, List.map_nil]); first | done | rfl | (simp only [List.length_drop, List.length_take]; rfl)) ?_; (with_reducible refine (uniset_Has.calls _ _ t223 a2 true _ ?side1 ?side2 A17.out).mono ?_); (case side1 => repeat (first | exact (Kd.R_reads' HO225.out).2.2 | (with_reducible refine Kd.C_alloc ?_ _) | (with_reducible refine Kd.C_drewN ?_ _) | (with_reducible refine Kd.C_drew ?_))); (case side2 => exact (Kd.R_reads' HO225.out).2.1); rintro e w32 ⟨rfl, hb⟩; refine ⟨_, rfl, ?_⟩; have n0_ := Aside0.mk (Kd.R_below (by (with_reducible repeat (first | apply Kd.R_alloc | apply Kd.R_drewN | apply Kd.R_drew)); exact HO225.out) hb); have n1_ := Aside0.mk (below_step (by repeat (first | (with_reducible first | exact HB.out | apply below_alloc | apply pw_below_drewN | apply below_drew1) | exact HB.out)) hb); clear HO225; clear HB; have HO225 := n0_; have HB := n1_; clear n0_ n1_; (try clear hb); (try clear hb2); (try clear hk); (try clear hi)) | (go_at_call 26; (with_reducible refine (uniset_Inter.calls kj11 _ _ l0 _ _ l1 t227 _ ?side1 ?side2 ?side3 ?side4 A20.out).mono ?_); (case side1 => repeat (first | exact (Kd.C_below HR0.out HB.out) | (with_reducible refine Kd.C_alloc ?_ _) | (with_reducible refine Kd.C_drewN ?_ _) | (with_reducible refine Kd.C_drew ?_))); (case side2 => exact HC0.out); (case side3 => repeat (first | exact (Kd.C_below HR1.out HB.out) | (with_reducible refine Kd.C_alloc ?_ _) | (with_reducible refine Kd.C_drewN ?_ _) | (with_reducible refine Kd.C_drew ?_))); (case side4 => exact HC1.out); rintro e w33 ⟨v228, rfl, ho0, hb⟩; have n0_ := Aside0.mk (Kd.R_elder' (by (with_reducible repeat (first | apply Kd.R_alloc | apply Kd.R_drewN | apply Kd.R_drew)); exact HO225.out) (Kd.R_base ho0) hb); have n1_ := Aside0.mk (Kd.R_lower (Kd.R_new' ho0 (Kd.R_lt (by (with_reducible repeat (first | apply Kd.R_alloc | apply Kd.R_drewN | apply Kd.R_drew)); exact HO225.out))) (below_size (by repeat (first | (with_reducible first | exact HB.out | apply below_alloc | apply pw_below_drewN | apply below_drew1) | exact HB.out)))); have n2_ := Aside0.mk (below_step (by repeat (first | (with_reducible first | exact HB.out | apply below_alloc | apply pw_below_drewN | apply below_drew1) | exact HB.out)) hb); clear HO225; clear HB; have HO225 := n0_; have HO229 := n1_; have HB := n2_; clear n0_ n1_ n2_; (try clear hb); (try clear hb2); (try clear hk); (try clear hi); (try clear ho0); obtain ⟨Ao34, co34, eo34⟩ := Kd.R_slice HO229.out; subst eo34) | (go_at_call 21; (with_reducible refine (uniset_Has.calls _ _ t227 a2 t230 _ ?side1 ?side2 A21.out).mono ?_); (case side1 => repeat (first | exact (Kd.R_reads' HO229.out).2.2 | (with_reducible refine Kd.C_alloc ?_ _) | (with_reducible refine Kd.C_drewN ?_ _) | (with_reducible refine Kd.C_drew ?_))); (case side2 => exact (Kd.R_reads' HO229.out).2.1); rintro e w35 ⟨rfl, hb⟩; have n0_ := Aside0.mk (Kd.R_below (by (with_reducible repeat (first | apply Kd.R_alloc | apply Kd.R_drewN | apply Kd.R_drew)); exact HO225.out) hb); have n1_ := Aside0.mk (Kd.R_below (by (with_reducible repeat (first | apply Kd.R_alloc | apply Kd.R_drewN | apply Kd.R_drew)); exact HO229.out) hb); have n2_ := Aside0.mk (below_step (by repeat (first | (with_reducible first | exact HB.out | apply below_alloc | apply pw_below_drewN | apply below_drew1) | exact HB.out)) hb); clear HO225; clear HO229; clear HB; have HO225 := n0_; have HO229 := n1_; have HB := n2_; clear n0_ n1_ n2_; (try clear hb); (try clear hb2); (try clear hk); (try clear hi)) | (go_at_call 30; (with_reducible refine (uniset_Minus.calls kj11 _ _ l0 _ _ l1 t231 _ ?side1 ?side2 ?side3 ?side4 A23.out).mono ?_); (case side1 => repeat (first | exact (Kd.C_below HR0.out HB.out) | (with_reducible refine Kd.C_alloc ?_ _) | (with_reducible refine Kd.C_drewN ?_ _) | (with_reducible refine Kd.C_drew ?_))); (case side2 => exact HC0.out); (case side3 => repeat (first | exact (Kd.C_below HR1.out HB.out) | (with_reducible refine Kd.C_alloc ?_ _) | (with_reducible refine Kd.C_drewN ?_ _) | (with_reducible refine Kd.C_drew ?_))); (case side4 => exact HC1.out); rintro e w36 ⟨v232, rfl, ho0, hb⟩; have n0_ := Aside0.mk (Kd.R_elder' (by (with_reducible repeat (first | apply Kd.R_alloc | apply Kd.R_drewN | apply Kd.R_drew)); exact HO225.out) (Kd.R_base ho0) hb); have n1_ := Aside0.mk (Kd.R_elder' (by (with_reducible repeat (first | apply Kd.R_alloc | apply Kd.R_drewN | apply Kd.R_drew)); exact HO229.out) (Kd.R_base ho0) hb); have n2_ := Aside0.mk (Kd.R_lower (Kd.R_new' (Kd.R_new' ho0 (Kd.R_lt (by (with_reducible repeat (first | apply Kd.R_alloc | apply Kd.R_drewN | apply Kd.R_drew)); exact HO225.out))) (Kd.R_lt (by (with_reducible repeat (first | apply Kd.R_alloc | apply Kd.R_drewN | apply Kd.R_drew)); exact HO229.out))) (below_size (by repeat (first | (with_reducible first | exact HB.out | apply below_alloc | apply pw_below_drewN | apply below_drew1) | exact HB.out)))); have n3_ := Aside0.mk (below_step (by repeat (first | (with_reducible first | exact HB.out | apply below_alloc | apply pw_below_drewN | apply below_drew1) | exact HB.out)) hb); clear HO225; clear HO229; clear HB; have HO225 := n0_; have HO229 := n1_; have HO233 := n2_; have HB := n3_; clear n0_ n1_ n2_ n3_; (try clear hb); (try clear hb2); (try clear hk); (try clear hi); (try clear ho0); obtain ⟨Ao37, co37, eo37⟩ := Kd.R_slice HO233.out; subst eo37) | (go_at_call 21; (with_reducible refine (uniset_Has.calls _ _ t231 a2 t234 _ ?side1 ?side2 A24.out).mono ?_); (case side1 => repeat (first | exact (Kd.R_reads' HO233.out).2.2 | (with_reducible refine Kd.C_alloc ?_ _) | (with_reducible refine Kd.C_drewN ?_ _) | (with_reducible refine Kd.C_drew ?_))); (case side2 => exact (Kd.R_reads' HO233.out).2.1); rintro e w38 ⟨rfl, hb⟩; have n0_ := Aside0.mk (Kd.R_below (by (with_reducible repeat (first | apply Kd.R_alloc | apply Kd.R_drewN | apply Kd.R_drew)); exact HO225.out) hb); have n1_ := Aside0.mk (Kd.R_below (by (with_reducible repeat (first | apply Kd.R_alloc | apply Kd.R_drewN | apply Kd.R_drew)); exact HO229.out) hb); have n2_ := Aside0.mk (Kd.R_below (by (with_reducible repeat (first | apply Kd.R_alloc | apply Kd.R_drewN | apply Kd.R_drew)); exact HO233.out) hb); have n3_ := Aside0.mk (below_step (by repeat (first | (with_reducible first | exact HB.out | apply below_alloc | apply pw_below_drewN | apply below_drew1) | exact HB.out)) hb); clear HO225; clear HO229; clear HO233; clear HB; have HO225 := n0_; have HO229 := n1_; have HO233 := n2_; have HB := n3_; clear n0_ n1_ n2_ n3_; (try clear hb); (try clear hb2); (try clear hk); (try clear hi)) | (go_at_call 25; (with_reducible refine (uniset_Not.calls kj11 _ _ l0 t235 _ ?side1 ?side2 A26.out).mono ?_); (case side1 => repeat (first | exact (Kd.C_below HR0.out HB.out) | (with_reducible refine Kd.C_alloc ?_ _) | (with_reducible refine Kd.C_drewN ?_ _) | (with_reducible refine Kd.C_drew ?_))); (case side2 => exact HC0.out); rintro e w39 ⟨v236, rfl, ho0, hb⟩; have n0_ := Aside0.mk (Kd.R_elder' (by (with_reducible repeat (first | apply Kd.R_alloc | apply Kd.R_drewN | apply Kd.R_drew)); exact HO225.out) (Kd.R_base ho0) hb); have n1_ := Aside0.mk (Kd.R_elder' (by (with_reducible repeat (first | apply Kd.R_alloc | apply Kd.R_drewN | apply Kd.R_drew)); exact HO229.out) (Kd.R_base ho0) hb); have n2_ := Aside0.mk (Kd.R_elder' (by (with_reducible repeat (first | apply Kd.R_alloc | apply Kd.R_drewN | apply Kd.R_drew)); exact HO233.out) (Kd.R_base ho0) hb); have n3_ := Aside0.mk (Kd.R_lower (Kd.R_new' (Kd.R_new' (Kd.R_new' ho0 (Kd.R_lt (by (with_reducible repeat (first | apply Kd.R_alloc | apply Kd.R_drewN | apply Kd.R_drew)); exact HO225.out))) (Kd.R_lt (by (with_reducible repeat (first | apply Kd.R_alloc | apply Kd.R_drewN | apply Kd.R_drew)); exact HO229.out))) (Kd.R_lt (by (with_reducible repeat (first | apply Kd.R_alloc | apply Kd.R_drewN | apply Kd.R_drew)); exact HO233.out))) (below_size (by repeat (first | (with_reducible first | exact HB.out | apply below_alloc | apply pw_below_drewN | apply below_drew1) | exact HB.out)))); have n4_ := Aside0.mk (below_step (by repeat (first | (with_reducible first | exact HB.out | apply below_alloc | apply pw_below_drewN | apply below_drew1) | exact HB.out)) hb); clear HO225; clear HO229; clear HO233; clear HB; have HO225 := n0_; have HO229 := n1_; have HO233 := n2_; have HO237 := n3_; have HB := n4_; clear n0_ n1_ n2_ n3_ n4_; (try clear hb); (try clear hb2); (try clear hk); (try clear hi); (try clear ho0); obtain ⟨Ao40, co40, eo40⟩ := Kd.R_slice HO237.out; subst eo40) | (go_at_call 21; (with_reducible refine (uniset_Has.calls _ _ t235 a2 t238 _ ?side1 ?side2 A27.out).mono ?_); (case side1 => repeat (first | exact (Kd.R_reads' HO237.out).2.2 | (with_reducible refine Kd.C_alloc ?_ _) | (with_reducible refine Kd.C_drewN ?_ _) | (with_reducible refine Kd.C_drew ?_))); (case side2 => exact (Kd.R_reads' HO237.out).2.1); rintro e w41 ⟨rfl, hb⟩; have n0_ := Aside0.mk (Kd.R_below (by (with_reducible repeat (first | apply Kd.R_alloc | apply Kd.R_drewN | apply Kd.R_drew)); exact HO225.out) hb); have n1_ := Aside0.mk (Kd.R_below (by (with_reducible repeat (first | apply Kd.R_alloc | apply Kd.R_drewN | apply Kd.R_drew)); exact HO229.out) hb); have n2_ := Aside0.mk (Kd.R_below (by (with_reducible repeat (first | apply Kd.R_alloc | apply Kd.R_drewN | apply Kd.R_drew)); exact HO233.out) hb); have n3_ := Aside0.mk (Kd.R_below (by (with_reducible repeat (first | apply Kd.R_alloc | apply Kd.R_drewN | apply Kd.R_drew)); exact HO237.out) hb); have n4_ := Aside0.mk (below_step (by repeat (first | (with_reducible first | exact HB.out | apply below_alloc | apply pw_below_drewN | apply below_drew1) | exact HB.out)) hb); clear HO225; clear HO229; clear HO233; clear HO237; clear HB; have HO225 := n0_; have HO229 := n1_; have HO233 := n2_; have HO237 := n3_; have HB := n4_; clear n0_ n1_ n2_ n3_ n4_; (try clear hb); (try clear hb2); (try clear hk); (try clear hi)))
                          go_ret
                          exact ⟨by first | rfl | (simp [errW_none, errW_some] <;> rfl) | (simp [*, errW_none, errW_some] <;> rfl), by repeat (first | (with_reducible first | exact HB.out | apply below_alloc | apply pw_below_drewN | apply below_drew1) | exact HB.out)⟩
                        · rw [if_neg c29] at H
                          exact absurd H (by simp)
                      · replace c28 := Bool.eq_false_iff.mpr c28
                        subst c28
                        have H1 : (if t238 = true then (none) else (some (!true))) = some r := by rw [if_neg (show ¬ (false = true) by decide)] at H; exact H
                        clear H
                        have H := H1
                        clear H1
                        by_cases c42 : t238 = true
                        · subst c42
                          have H1 : (none) = some r := by rw [if_pos rfl] at H; exact H
                          clear H
                          have H := H1
                          clear H1
                          exact absurd H (by simp)
                        · replace c42 := Bool.eq_false_iff.mpr c42
                          subst c42
                          have H1 : (some (!true)) = some r := by rw [if_neg (show ¬ (false = true) by decide)] at H; exact H
                          clear H
                          have H := H1
                          clear H1
                          obtain rfl := Option.some.inj H
                          go_wp2_with (first | ((with_reducible refine gate_callee (f := 24) rfl ?_); refine goesL_ (some 34) rfl rfl Try.func24 (by kernel_rfl) rfl #[.slice A0 l0.length c0, .slice A1 l1.length c1] rfl (by (try simp only [List.map_toArray, List.map_cons, List.map_nil]); first | done | rfl | (simp only [List.length_drop, List.length_take]; rfl)) ?_; (with_reducible refine (uniset_Union.calls _ _ l0 _ _ l1 t223 _ ?side1 ?side2 ?side3 ?side4 A16.out).mono ?_); (case side1 => repeat (first | exact (Kd.C_below HR0.out HB.out) | (with_reducible refine Kd.C_alloc ?_ _) | (with_reducible refine Kd.C_drewN ?_ _) | (with_reducible refine Kd.C_drew ?_))); (case side2 => exact HC0.out); (case side3 => repeat (first | exact (Kd.C_below HR1.out HB.out) | (with_reducible refine Kd.C_alloc ?_ _) | (with_reducible refine Kd.C_drewN ?_ _) | (with_reducible refine Kd.C_drew ?_))); (case side4 => exact HC1.out); rintro e w43 ⟨v224, rfl, ho0, hb⟩; refine ⟨_, rfl, ?_⟩; have n0_ := Aside0.mk (Kd.R_lower ho0 (below_size (by repeat (first | (with_reducible first | exact HB.out | apply below_alloc | apply pw_below_drewN | apply below_drew1) | exact HB.out)))); have n1_ := Aside0.mk (below_step (by repeat (first | (with_reducible first | exact HB.out | apply below_alloc | apply pw_below_drewN | apply below_drew1) | exact HB.out)) hb); clear HB; have HO225 := n0_; have HB := n1_; clear n0_ n1_; (try clear hb); (try clear hb2); (try clear hk); (try clear hi); (try clear ho0); obtain ⟨Ao44, co44, eo44⟩ := Kd.R_slice HO225.out; subst eo44) | ((with_reducible refine gate_callee (f := 21) rfl ?_); refine goesL_ (some 36) rfl rfl Try.func21 (by kernel_rfl) rfl #[.slice Ao44 t223.length co44, .int .i32 a2] rfl (by (try simp only [List.map_toArray, List.map_cons, List.map_nil]); first | done | rfl | (simp only [List.length_drop, List.length_take]; rfl)) ?_; (with_reducible refine (uniset_Has.calls _ _ t223 a2 true _ ?side1 ?side2 A17.out).mono ?_); (case side1 => repeat (first | exact (Kd.R_reads' HO225.out).2.2 | (with_reducible refine Kd.C_alloc ?_ _) | (with_reducible refine Kd.C_drewN ?_ _) | (with_reducible refine Kd.C_drew ?_))); (case side2 => exact (Kd.R_reads' HO225.out).2.1); rintro e w45 ⟨rfl, hb⟩; refine ⟨_, rfl, ?_⟩; have n0_ := Aside0.mk (Kd.R_below (by (with_reducible repeat (first | apply Kd.R_alloc | apply Kd.R_drewN | apply Kd.R_drew)); exact HO225.out) hb); have n1_ := Aside0.mk (below_step (by repeat (first | (with_reducible first | exact HB.out | apply below_alloc | apply pw_below_drewN | apply below_drew1) | exact HB.out)) hb); clear HO225; clear HB; have HO225 := n0_; have HB := n1_; clear n0_ n1_; (try clear hb); (try clear hb2); (try clear hk); (try clear hi)) | (go_at_call 26; (with_reducible refine (uniset_Inter.calls kj11 _ _ l0 _ _ l1 t227 _ ?side1 ?side2 ?side3 ?side4 A20.out).mono ?_); (case side1 => repeat (first | exact (Kd.C_below HR0.out HB.out) | (with_reducible refine Kd.C_alloc ?_ _) | (with_reducible refine Kd.C_drewN ?_ _) | (with_reducible refine Kd.C_drew ?_))); (case side2 => exact HC0.out); (case side3 => repeat (first | exact (Kd.C_below HR1.out HB.out) | (with_reducible refine Kd.C_alloc ?_ _) | (with_reducible refine Kd.C_drewN ?_ _) | (with_reducible refine Kd.C_drew ?_))); (case side4 => exact HC1.out); rintro e w46 ⟨v228, rfl, ho0, hb⟩; have n0_ := Aside0.mk (Kd.R_elder' (by (with_reducible repeat (first | apply Kd.R_alloc | apply Kd.R_drewN | apply Kd.R_drew)); exact HO225.out) (Kd.R_base ho0) hb); have n1_ := Aside0.mk (Kd.R_lower (Kd.R_new' ho0 (Kd.R_lt (by (with_reducible repeat (first | apply Kd.R_alloc | apply Kd.R_drewN | apply Kd.R_drew)); exact HO225.out))) (below_size (by repeat (first | (with_reducible first | exact HB.out | apply below_alloc | apply pw_below_drewN | apply below_drew1) | exact HB.out)))); have n2_ := Aside0.mk (below_step (by repeat (first | (with_reducible first | exact HB.out | apply below_alloc | apply pw_below_drewN | apply below_drew1) | exact HB.out)) hb); clear HO225; clear HB; have HO225 := n0_; have HO229 := n1_; have HB := n2_; clear n0_ n1_ n2_; (try clear hb); (try clear hb2); (try clear hk); (try clear hi); (try clear ho0); obtain ⟨Ao47, co47, eo47⟩ := Kd.R_slice HO229.out; subst eo47) | (go_at_call 21; (with_reducible refine (uniset_Has.calls _ _ t227 a2 t230 _ ?side1 ?side2 A21.out).mono ?_); (case side1 => repeat (first | exact (Kd.R_reads' HO229.out).2.2 | (with_reducible refine Kd.C_alloc ?_ _) | (with_reducible refine Kd.C_drewN ?_ _) | (with_reducible refine Kd.C_drew ?_))); (case side2 => exact (Kd.R_reads' HO229.out).2.1); rintro e w48 ⟨rfl, hb⟩; have n0_ := Aside0.mk (Kd.R_below (by (with_reducible repeat (first | apply Kd.R_alloc | apply Kd.R_drewN | apply Kd.R_drew)); exact HO225.out) hb); have n1_ := Aside0.mk (Kd.R_below (by (with_reducible repeat (first | apply Kd.R_alloc | apply Kd.R_drewN | apply Kd.R_drew)); exact HO229.out) hb); have n2_ := Aside0.mk (below_step (by repeat (first | (with_reducible first | exact HB.out | apply below_alloc | apply pw_below_drewN | apply below_drew1) | exact HB.out)) hb); clear HO225; clear HO229; clear HB; have HO225 := n0_; have HO229 := n1_; have HB := n2_; clear n0_ n1_ n2_; (try clear hb); (try clear hb2); (try clear hk); (try clear hi)) | (go_at_call 30; (with_reducible refine (uniset_Minus.calls kj11 _ _ l0 _ _ l1 t231 _ ?side1 ?side2 ?side3 ?side4 A23.out).mono ?_); (case side1 => repeat (first | exact (Kd.C_below HR0.out HB.out) | (with_reducible refine Kd.C_alloc ?_ _) | (with_reducible refine Kd.C_drewN ?_ _) | (with_reducible refine Kd.C_drew ?_))); (case side2 => exact HC0.out); (case side3 => repeat (first | exact (Kd.C_below HR1.out HB.out) | (with_reducible refine Kd.C_alloc ?_ _) | (with_reducible refine Kd.C_drewN ?_ _) | (with_reducible refine Kd.C_drew ?_))); (case side4 => exact HC1.out); rintro e w49 ⟨v232, rfl, ho0, hb⟩; have n0_ := Aside0.mk (Kd.R_elder' (by (with_reducible repeat (first | apply Kd.R_alloc | apply Kd.R_drewN | apply Kd.R_drew)); exact HO225.out) (Kd.R_base ho0) hb); have n1_ := Aside0.mk (Kd.R_elder' (by (with_reducible repeat (first | apply Kd.R_alloc | apply Kd.R_drewN | apply Kd.R_drew)); exact HO229.out) (Kd.R_base ho0) hb); have n2_ := Aside0.mk (Kd.R_lower (Kd.R_new' (Kd.R_new' ho0 (Kd.R_lt (by (with_reducible repeat (first | apply Kd.R_alloc | apply Kd.R_drewN | apply Kd.R_drew)); exact HO225.out))) (Kd.R_lt (by (with_reducible repeat (first | apply Kd.R_alloc | apply Kd.R_drewN | apply Kd.R_drew)); exact HO229.out))) (below_size (by repeat (first | (with_reducible first | exact HB.out | apply below_alloc | apply pw_below_drewN | apply below_drew1) | exact HB.out)))); have n3_ := Aside0.mk (below_step (by repeat (first | (with_reducible first | exact HB.out | apply below_alloc | apply pw_below_drewN | apply below_drew1) | exact HB.out)) hb); clear HO225; clear HO229; clear HB; have HO225 := n0_; have HO229 := n1_; have HO233 := n2_; have HB := n3_; clear n0_ n1_ n2_ n3_; (try clear hb); (try clear hb2); (try clear hk); (try clear hi); (try clear ho0); obtain ⟨Ao50, co50, eo50⟩ := Kd.R_slice HO233.out; subst eo50) | (go_at_call 21; (with_reducible refine (uniset_Has.calls _ _ t231 a2 t234 _ ?side1 ?side2 A24.out).mono ?_); (case side1 => repeat (first | exact (Kd.R_reads' HO233.out).2.2 | (with_reducible refine Kd.C_alloc ?_ _) | (with_reducible refine Kd.C_drewN ?_ _) | (with_reducible refine Kd.C_drew ?_))); (case side2 => exact (Kd.R_reads' HO233.out).2.1); rintro e w51 ⟨rfl, hb⟩; have n0_ := Aside0.mk (Kd.R_below (by (with_reducible repeat (first | apply Kd.R_alloc | apply Kd.R_drewN | apply Kd.R_drew)); exact HO225.out) hb); have n1_ := Aside0.mk (Kd.R_below (by (with_reducible repeat (first | apply Kd.R_alloc | apply Kd.R_drewN | apply Kd.R_drew)); exact HO229.out) hb); have n2_ := Aside0.mk (Kd.R_below (by (with_reducible repeat (first | apply Kd.R_alloc | apply Kd.R_drewN | apply Kd.R_drew)); exact HO233.out) hb); have n3_ := Aside0.mk (below_step (by repeat (first | (with_reducible first | exact HB.out | apply below_alloc | apply pw_below_drewN | apply below_drew1) | exact HB.out)) hb); clear HO225; clear HO229; clear HO233; clear HB; have HO225 := n0_; have HO229 := n1_; have HO233 := n2_; have HB := n3_; clear n0_ n1_ n2_ n3_; (try clear hb); (try clear hb2); (try clear hk); (try clear hi)) | (go_at_call 25; (with_reducible refine (uniset_Not.calls kj11 _ _ l0 t235 _ ?side1 ?side2 A26.out).mono ?_); (case side1 => repeat (first | exact (Kd.C_below HR0.out HB.out) | (with_reducible refine Kd.C_alloc ?_ _) | (with_reducible refine Kd.C_drewN ?_ _) | (with_reducible refine Kd.C_drew ?_))); (case side2 => exact HC0.out); rintro e w52 ⟨v236, rfl, ho0, hb⟩; have n0_ := Aside0.mk (Kd.R_elder' (by (with_reducible repeat (first | apply Kd.R_alloc | apply Kd.R_drewN | apply Kd.R_drew)); exact HO225.out) (Kd.R_base ho0) hb); have n1_ := Aside0.mk (Kd.R_elder' (by (with_reducible repeat (first | apply Kd.R_alloc | apply Kd.R_drewN | apply Kd.R_drew)); exact HO229.out) (Kd.R_base ho0) hb); have n2_ := Aside0.mk (Kd.R_elder' (by (with_reducible repeat (first | apply Kd.R_alloc | apply Kd.R_drewN | apply Kd.R_drew)); exact HO233.out) (Kd.R_base ho0) hb); have n3_ := Aside0.mk (Kd.R_lower (Kd.R_new' (Kd.R_new' (Kd.R_new' ho0 (Kd.R_lt (by (with_reducible repeat (first | apply Kd.R_alloc | apply Kd.R_drewN | apply Kd.R_drew)); exact HO225.out))) (Kd.R_lt (by (with_reducible repeat (first | apply Kd.R_alloc | apply Kd.R_drewN | apply Kd.R_drew)); exact HO229.out))) (Kd.R_lt (by (with_reducible repeat (first | apply Kd.R_alloc | apply Kd.R_drewN | apply Kd.R_drew)); exact HO233.out))) (below_size (by repeat (first | (with_reducible first | exact HB.out | apply below_alloc | apply pw_below_drewN | apply below_drew1) | exact HB.out)))); have n4_ := Aside0.mk (below_step (by repeat (first | (with_reducible first | exact HB.out | apply below_alloc | apply pw_below_drewN | apply below_drew1) | exact HB.out)) hb); clear HO225; clear HO229; clear HO233; clear HB; have HO225 := n0_; have HO229 := n1_; have HO233 := n2_; have HO237 := n3_; have HB := n4_; clear n0_ n1_ n2_ n3_ n4_; (try clear hb); (try clear hb2); (try clear hk); (try clear hi); (try clear ho0); obtain ⟨Ao53, co53, eo53⟩ := Kd.R_slice HO237.out; subst eo53) | (go_at_call 21; (with_reducible refine (uniset_Has.calls _ _ t235 a2 false _ ?side1 ?side2 A27.out).mono ?_); (case side1 => repeat (first | exact (Kd.R_reads' HO237.out).2.2 | (with_reducible refine Kd.C_alloc ?_ _) | (with_reducible refine Kd.C_drewN ?_ _) | (with_reducible refine Kd.C_drew ?_))); (case side2 => exact (Kd.R_reads' HO237.out).2.1); rintro e w54 ⟨rfl, hb⟩; have n0_ := Aside0.mk (Kd.R_below (by (with_reducible repeat (first | apply Kd.R_alloc | apply Kd.R_drewN | apply Kd.R_drew)); exact HO225.out) hb); have n1_ := Aside0.mk (Kd.R_below (by (with_reducible repeat (first | apply Kd.R_alloc | apply Kd.R_drewN | apply Kd.R_drew)); exact HO229.out) hb); have n2_ := Aside0.mk (Kd.R_below (by (with_reducible repeat (first | apply Kd.R_alloc | apply Kd.R_drewN | apply Kd.R_drew)); exact HO233.out) hb); have n3_ := Aside0.mk (Kd.R_below (by (with_reducible repeat (first | apply Kd.R_alloc | apply Kd.R_drewN | apply Kd.R_drew)); exact HO237.out) hb); have n4_ := Aside0.mk (below_step (by repeat (first | (with_reducible first | exact HB.out | apply below_alloc | apply pw_below_drewN | apply below_drew1) | exact HB.out)) hb); clear HO225; clear HO229; clear HO233; clear HO237; clear HB; have HO225 := n0_; have HO229 := n1_; have HO233 := n2_; have HO237 := n3_; have HB := n4_; clear n0_ n1_ n2_ n3_ n4_; (try clear hb); (try clear hb2); (try clear hk); (try clear hi)))
                          go_ret
                          exact ⟨by first | rfl | (simp [errW_none, errW_some] <;> rfl) | (simp [*, errW_none, errW_some] <;> rfl), by repeat (first | (with_reducible first | exact HB.out | apply below_alloc | apply pw_below_drewN | apply below_drew1) | exact HB.out)⟩
                    · rw [if_neg c25] at H
                      exact absurd H (by simp)
                  · rw [if_neg c22] at H
                    exact absurd H (by simp)
                · replace c19 := Bool.eq_false_iff.mpr c19
                  subst c19
                  have H1 : (none) = some r := by rw [if_neg (show ¬ (false = true) by decide)] at H; exact H
                  clear H
                  have H := H1
                  clear H1
                  exact absurd H (by simp)
              · replace c18 := Bool.eq_false_iff.mpr c18
                subst c18
                have H1 : (if (t226 == t222) = true then ((uniset_Inter.f kj11 l0 l1).bind fun t239 => ((uniset_Has.f t239 a2).bind fun t242 => (if t242 = true then (none) else ((uniset_Minus.f kj11 l0 l1).bind fun t243 => ((uniset_Has.f t243 a2).bind fun t246 => (if t246 = true then (none) else ((uniset_Not.f kj11 l0).bind fun t247 => ((uniset_Has.f t247 a2).bind fun t250 => (if x9_11 = true then (if (t250 == (!false)) = true then (some true) else (none)) else (if t250 = true then (none) else (some (!false)))))))))))) else (none)) = some r := by rw [if_neg (show ¬ (false = true) by decide)] at H; exact H
                clear H
                have H := H1
                clear H1
                by_cases c55 : (t226 == t222) = true
                · rw [if_pos c55] at H
                  have c55b0 : (t226 == t222) = true := c55
                  (try (have c55b1 : decide (t226 = t222) = true := by simpa using c55))
                  (try (have c55b2 : (t226 == t222) = true := by simpa using c55))
                  clear c55
                  replace H := Option.bind_eq_some_iff.mp H
                  obtain ⟨t239, A560, H⟩ := H
                  replace H : ((uniset_Has.f t239 a2).bind fun t242 => (if t242 = true then (none) else ((uniset_Minus.f kj11 l0 l1).bind fun t243 => ((uniset_Has.f t243 a2).bind fun t246 => (if t246 = true then (none) else ((uniset_Not.f kj11 l0).bind fun t247 => ((uniset_Has.f t247 a2).bind fun t250 => (if x9_11 = true then (if (t250 == (!false)) = true then (some true) else (none)) else (if t250 = true then (none) else (some (!false))))))))))) = some r := H
                  have A56 := Aside0.mk A560
                  clear A560
                  replace H := Option.bind_eq_some_iff.mp H
                  obtain ⟨t242, A570, H⟩ := H
                  replace H : (if t242 = true then (none) else ((uniset_Minus.f kj11 l0 l1).bind fun t243 => ((uniset_Has.f t243 a2).bind fun t246 => (if t246 = true then (none) else ((uniset_Not.f kj11 l0).bind fun t247 => ((uniset_Has.f t247 a2).bind fun t250 => (if x9_11 = true then (if (t250 == (!false)) = true then (some true) else (none)) else (if t250 = true then (none) else (some (!false)))))))))) = some r := H
                  have A57 := Aside0.mk A570
                  clear A570
                  by_cases c58 : t242 = true
                  · subst c58
                    have H1 : (none) = some r := by rw [if_pos rfl] at H; exact H
                    clear H
                    have H := H1
                    clear H1
                    exact absurd H (by simp)
                  · replace c58 := Bool.eq_false_iff.mpr c58
                    subst c58
                    have H1 : ((uniset_Minus.f kj11 l0 l1).bind fun t243 => ((uniset_Has.f t243 a2).bind fun t246 => (if t246 = true then (none) else ((uniset_Not.f kj11 l0).bind fun t247 => ((uniset_Has.f t247 a2).bind fun t250 => (if x9_11 = true then (if (t250 == (!false)) = true then (some true) else (none)) else (if t250 = true then (none) else (some (!false))))))))) = some r := by rw [if_neg (show ¬ (false = true) by decide)] at H; exact H
                    clear H
                    have H := H1
                    clear H1
                    replace H := Option.bind_eq_some_iff.mp H
                    obtain ⟨t243, A590, H⟩ := H
                    replace H : ((uniset_Has.f t243 a2).bind fun t246 => (if t246 = true then (none) else ((uniset_Not.f kj11 l0).bind fun t247 => ((uniset_Has.f t247 a2).bind fun t250 => (if x9_11 = true then (if (t250 == (!false)) = true then (some true) else (none)) else (if t250 = true then (none) else (some (!false)))))))) = some r := H
                    have A59 := Aside0.mk A590
                    clear A590
                    replace H := Option.bind_eq_some_iff.mp H
                    obtain ⟨t246, A600, H⟩ := H
                    replace H : (if t246 = true then (none) else ((uniset_Not.f kj11 l0).bind fun t247 => ((uniset_Has.f t247 a2).bind fun t250 => (if x9_11 = true then (if (t250 == (!false)) = true then (some true) else (none)) else (if t250 = true then (none) else (some (!false))))))) = some r := H
                    have A60 := Aside0.mk A600
                    clear A600
                    by_cases c61 : t246 = true
                    · subst c61
                      have H1 : (none) = some r := by rw [if_pos rfl] at H; exact H
                      clear H
                      have H := H1
                      clear H1
                      exact absurd H (by simp)
                    · replace c61 := Bool.eq_false_iff.mpr c61
                      subst c61
                      have H1 : ((uniset_Not.f kj11 l0).bind fun t247 => ((uniset_Has.f t247 a2).bind fun t250 => (if x9_11 = true then (if (t250 == (!false)) = true then (some true) else (none)) else (if t250 = true then (none) else (some (!false)))))) = some r := by rw [if_neg (show ¬ (false = true) by decide)] at H; exact H
                      clear H
                      have H := H1
                      clear H1
                      replace H := Option.bind_eq_some_iff.mp H
                      obtain ⟨t247, A620, H⟩ := H
                      replace H : ((uniset_Has.f t247 a2).bind fun t250 => (if x9_11 = true then (if (t250 == (!false)) = true then (some true) else (none)) else (if t250 = true then (none) else (some (!false))))) = some r := H
                      have A62 := Aside0.mk A620
                      clear A620
                      replace H := Option.bind_eq_some_iff.mp H
                      obtain ⟨t250, A630, H⟩ := H
                      replace H : (if x9_11 = true then (if (t250 == (!false)) = true then (some true) else (none)) else (if t250 = true then (none) else (some (!false)))) = some r := H
                      have A63 := Aside0.mk A630
                      clear A630
                      by_cases c64 : x9_11 = true
                      · subst c64
                        have H1 : (if (t250 == (!false)) = true then (some true) else (none)) = some r := by rw [if_pos rfl] at H; exact H
                        clear H
                        have H := H1
                        clear H1
                        by_cases c65 : (t250 == (!false)) = true
                        · rw [if_pos c65] at H
                          (try (have c65b0 : t250 = true := by simpa using c65))
                          have c65b1 : (t250 == (!false)) = true := c65
                          (try (have c65b2 : decide (t250 = (!false)) = true := by simpa using c65))
                          (try (have c65b3 : (t250 == (!false)) = true := by simpa using c65))
                          clear c65
                          obtain rfl := Option.some.inj H
                          go_wp2_with (first | ((with_reducible refine gate_callee (f := 24) rfl ?_); refine goesL_ (some 34) rfl rfl Try.func24 (by kernel_rfl) rfl #[.slice A0 l0.length c0, .slice A1 l1.length c1] rfl (by (try simp only [List.map_toArray, List.map_cons, List.map_nil]); first | done | rfl | (simp only [List.length_drop, List.length_take]; rfl)) ?_; (with_reducible refine (uniset_Union.calls _ _ l0 _ _ l1 t223 _ ?side1 ?side2 ?side3 ?side4 A16.out).mono ?_); (case side1 => repeat (first | exact (Kd.C_below HR0.out HB.out) | (with_reducible refine Kd.C_alloc ?_ _) | (with_reducible refine Kd.C_drewN ?_ _) | (with_reducible refine Kd.C_drew ?_))); (case side2 => exact HC0.out); (case side3 => repeat (first | exact (Kd.C_below HR1.out HB.out) | (with_reducible refine Kd.C_alloc ?_ _) | (with_reducible refine Kd.C_drewN ?_ _) | (with_reducible refine Kd.C_drew ?_))); (case side4 => exact HC1.out); rintro e w66 ⟨v224, rfl, ho0, hb⟩; refine ⟨_, rfl, ?_⟩; have n0_ := Aside0.mk (Kd.R_lower ho0 (below_size (by repeat (first | (with_reducible first | exact HB.out | apply below_alloc | apply pw_below_drewN | apply below_drew1) | exact HB.out)))); have n1_ := Aside0.mk (below_step (by repeat (first | (with_reducible first | exact HB.out | apply below_alloc | apply pw_below_drewN | apply below_drew1) | exact HB.out)) hb); clear HB; have HO225 := n0_; have HB := n1_; clear n0_ n1_; (try clear hb); (try clear hb2); (try clear hk); (try clear hi); (try clear ho0); obtain ⟨Ao67, co67, eo67⟩ := Kd.R_slice HO225.out; subst eo67) | ((with_reducible refine gate_callee (f := 21) rfl ?_); refine goesL_ (some 36) rfl rfl Try.func21 (by kernel_rfl) rfl #[.slice Ao67 t223.length co67, .int .i32 a2] rfl (by (try simp only [List.map_toArray, List.map_cons, List.map_nil]); first | done | rfl | (simp only [List.length_drop, List.length_take]; rfl)) ?_; (with_reducible refine (uniset_Has.calls _ _ t223 a2 t226 _ ?side1 ?side2 A17.out).mono ?_); (case side1 => repeat (first | exact (Kd.R_reads' HO225.out).2.2 | (with_reducible refine Kd.C_alloc ?_ _) | (with_reducible refine Kd.C_drewN ?_ _) | (with_reducible refine Kd.C_drew ?_))); (case side2 => exact (Kd.R_reads' HO225.out).2.1); rintro e w68 ⟨rfl, hb⟩; refine ⟨_, rfl, ?_⟩; have n0_ := Aside0.mk (Kd.R_below (by (with_reducible repeat (first | apply Kd.R_alloc | apply Kd.R_drewN | apply Kd.R_drew)); exact HO225.out) hb); have n1_ := Aside0.mk (below_step (by repeat (first | (with_reducible first | exact HB.out | apply below_alloc | apply pw_below_drewN | apply below_drew1) | exact HB.out)) hb); clear HO225; clear HB; have HO225 := n0_; have HB := n1_; clear n0_ n1_; (try clear hb); (try clear hb2); (try clear hk); (try clear hi)) | (go_at_call 26; (with_reducible refine (uniset_Inter.calls kj11 _ _ l0 _ _ l1 t239 _ ?side1 ?side2 ?side3 ?side4 A56.out).mono ?_); (case side1 => repeat (first | exact (Kd.C_below HR0.out HB.out) | (with_reducible refine Kd.C_alloc ?_ _) | (with_reducible refine Kd.C_drewN ?_ _) | (with_reducible refine Kd.C_drew ?_))); (case side2 => exact HC0.out); (case side3 => repeat (first | exact (Kd.C_below HR1.out HB.out) | (with_reducible refine Kd.C_alloc ?_ _) | (with_reducible refine Kd.C_drewN ?_ _) | (with_reducible refine Kd.C_drew ?_))); (case side4 => exact HC1.out); rintro e w69 ⟨v240, rfl, ho0, hb⟩; have n0_ := Aside0.mk (Kd.R_elder' (by (with_reducible repeat (first | apply Kd.R_alloc | apply Kd.R_drewN | apply Kd.R_drew)); exact HO225.out) (Kd.R_base ho0) hb); have n1_ := Aside0.mk (Kd.R_lower (Kd.R_new' ho0 (Kd.R_lt (by (with_reducible repeat (first | apply Kd.R_alloc | apply Kd.R_drewN | apply Kd.R_drew)); exact HO225.out))) (below_size (by repeat (first | (with_reducible first | exact HB.out | apply below_alloc | apply pw_below_drewN | apply below_drew1) | exact HB.out)))); have n2_ := Aside0.mk (below_step (by repeat (first | (with_reducible first | exact HB.out | apply below_alloc | apply pw_below_drewN | apply below_drew1) | exact HB.out)) hb); clear HO225; clear HB; have HO225 := n0_; have HO241 := n1_; have HB := n2_; clear n0_ n1_ n2_; (try clear hb); (try clear hb2); (try clear hk); (try clear hi); (try clear ho0); obtain ⟨Ao70, co70, eo70⟩ := Kd.R_slice HO241.out; subst eo70) | (go_at_call 21; (with_reducible refine (uniset_Has.calls _ _ t239 a2 false _ ?side1 ?side2 A57.out).mono ?_); (case side1 => repeat (first | exact (Kd.R_reads' HO241.out).2.2 | (with_reducible refine Kd.C_alloc ?_ _) | (with_reducible refine Kd.C_drewN ?_ _) | (with_reducible refine Kd.C_drew ?_))); (case side2 => exact (Kd.R_reads' HO241.out).2.1); rintro e w71 ⟨rfl, hb⟩; have n0_ := Aside0.mk (Kd.R_below (by (with_reducible repeat (first | apply Kd.R_alloc | apply Kd.R_drewN | apply Kd.R_drew)); exact HO225.out) hb); have n1_ := Aside0.mk (Kd.R_below (by (with_reducible repeat (first | apply Kd.R_alloc | apply Kd.R_drewN | apply Kd.R_drew)); exact HO241.out) hb); have n2_ := Aside0.mk (below_step (by repeat (first | (with_reducible first | exact HB.out | apply below_alloc | apply pw_below_drewN | apply below_drew1) | exact HB.out)) hb); clear HO225; clear HO241; clear HB; have HO225 := n0_; have HO241 := n1_; have HB := n2_; clear n0_ n1_ n2_; (try clear hb); (try clear hb2); (try clear hk); (try clear hi)) | (go_at_call 30; (with_reducible refine (uniset_Minus.calls kj11 _ _ l0 _ _ l1 t243 _ ?side1 ?side2 ?side3 ?side4 A59.out).mono ?_); (case side1 => repeat (first | exact (Kd.C_below HR0.out HB.out) | (with_reducible refine Kd.C_alloc ?_ _) | (with_reducible refine Kd.C_drewN ?_ _) | (with_reducible refine Kd.C_drew ?_))); (case side2 => exact HC0.out); (case side3 => repeat (first | exact (Kd.C_below HR1.out HB.out) | (with_reducible refine Kd.C_alloc ?_ _) | (with_reducible refine Kd.C_drewN ?_ _) | (with_reducible refine Kd.C_drew ?_))); (case side4 => exact HC1.out); rintro e w72 ⟨v244, rfl, ho0, hb⟩; have n0_ := Aside0.mk (Kd.R_elder' (by (with_reducible repeat (first | apply Kd.R_alloc | apply Kd.R_drewN | apply Kd.R_drew)); exact HO225.out) (Kd.R_base ho0) hb); have n1_ := Aside0.mk (Kd.R_elder' (by (with_reducible repeat (first | apply Kd.R_alloc | apply Kd.R_drewN | apply Kd.R_drew)); exact HO241.out) (Kd.R_base ho0) hb); have n2_ := Aside0.mk (Kd.R_lower (Kd.R_new' (Kd.R_new' ho0 (Kd.R_lt (by (with_reducible repeat (first | apply Kd.R_alloc | apply Kd.R_drewN | apply Kd.R_drew)); exact HO225.out))) (Kd.R_lt (by (with_reducible repeat (first | apply Kd.R_alloc | apply Kd.R_drewN | apply Kd.R_drew)); exact HO241.out))) (below_size (by repeat (first | (with_reducible first | exact HB.out | apply below_alloc | apply pw_below_drewN | apply below_drew1) | exact HB.out)))); have n3_ := Aside0.mk (below_step (by repeat (first | (with_reducible first | exact HB.out | apply below_alloc | apply pw_below_drewN | apply below_drew1) | exact HB.out)) hb); clear HO225; clear HO241; clear HB; have HO225 := n0_; have HO241 := n1_; have HO245 := n2_; have HB := n3_; clear n0_ n1_ n2_ n3_; (try clear hb); (try clear hb2); (try clear hk); (try clear hi); (try clear ho0); obtain ⟨Ao73, co73, eo73⟩ := Kd.R_slice HO245.out; subst eo73) | (go_at_call 21; (with_reducible refine (uniset_Has.calls _ _ t243 a2 false _ ?side1 ?side2 A60.out).mono ?_); (case side1 => repeat (first | exact (Kd.R_reads' HO245.out).2.2 | (with_reducible refine Kd.C_alloc ?_ _) | (with_reducible refine Kd.C_drewN ?_ _) | (with_reducible refine Kd.C_drew ?_))); (case side2 => exact (Kd.R_reads' HO245.out).2.1); rintro e w74 ⟨rfl, hb⟩; have n0_ := Aside0.mk (Kd.R_below (by (with_reducible repeat (first | apply Kd.R_alloc | apply Kd.R_drewN | apply Kd.R_drew)); exact HO225.out) hb); have n1_ := Aside0.mk (Kd.R_below (by (with_reducible repeat (first | apply Kd.R_alloc | apply Kd.R_drewN | apply Kd.R_drew)); exact HO241.out) hb); have n2_ := Aside0.mk (Kd.R_below (by (with_reducible repeat (first | apply Kd.R_alloc | apply Kd.R_drewN | apply Kd.R_drew)); exact HO245.out) hb); have n3_ := Aside0.mk (below_step (by repeat (first | (with_reducible first | exact HB.out | apply below_alloc | apply pw_below_drewN | apply below_drew1) | exact HB.out)) hb); clear HO225; clear HO241; clear HO245; clear HB; have HO225 := n0_; have HO241 := n1_; have HO245 := n2_; have HB := n3_; clear n0_ n1_ n2_ n3_; (try clear hb); (try clear hb2); (try clear hk); (try clear hi)) | (go_at_call 25; (with_reducible refine (uniset_Not.calls kj11 _ _ l0 t247 _ ?side1 ?side2 A62.out).mono ?_); (case side1 => repeat (first | exact (Kd.C_below HR0.out HB.out) | (with_reducible refine Kd.C_alloc ?_ _) | (with_reducible refine Kd.C_drewN ?_ _) | (with_reducible refine Kd.C_drew ?_))); (case side2 => exact HC0.out); rintro e w75 ⟨v248, rfl, ho0, hb⟩; have n0_ := Aside0.mk (Kd.R_elder' (by (with_reducible repeat (first | apply Kd.R_alloc | apply Kd.R_drewN | apply Kd.R_drew)); exact HO225.out) (Kd.R_base ho0) hb); have n1_ := Aside0.mk (Kd.R_elder' (by (with_reducible repeat (first | apply Kd.R_alloc | apply Kd.R_drewN | apply Kd.R_drew)); exact HO241.out) (Kd.R_base ho0) hb); have n2_ := Aside0.mk (Kd.R_elder' (by (with_reducible repeat (first | apply Kd.R_alloc | apply Kd.R_drewN | apply Kd.R_drew)); exact HO245.out) (Kd.R_base ho0) hb); have n3_ := Aside0.mk (Kd.R_lower (Kd.R_new' (Kd.R_new' (Kd.R_new' ho0 (Kd.R_lt (by (with_reducible repeat (first | apply Kd.R_alloc | apply Kd.R_drewN | apply Kd.R_drew)); exact HO225.out))) (Kd.R_lt (by (with_reducible repeat (first | apply Kd.R_alloc | apply Kd.R_drewN | apply Kd.R_drew)); exact HO241.out))) (Kd.R_lt (by (with_reducible repeat (first | apply Kd.R_alloc | apply Kd.R_drewN | apply Kd.R_drew)); exact HO245.out))) (below_size (by repeat (first | (with_reducible first | exact HB.out | apply below_alloc | apply pw_below_drewN | apply below_drew1) | exact HB.out)))); have n4_ := Aside0.mk (below_step (by repeat (first | (with_reducible first | exact HB.out | apply below_alloc | apply pw_below_drewN | apply below_drew1) | exact HB.out)) hb); clear HO225; clear HO241; clear HO245; clear HB; have HO225 := n0_; have HO241 := n1_; have HO245 := n2_; have HO249 := n3_; have HB := n4_; clear n0_ n1_ n2_ n3_ n4_; (try clear hb); (try clear hb2); (try clear hk); (try clear hi); (try clear ho0); obtain ⟨Ao76, co76, eo76⟩ := Kd.R_slice HO249.out; subst eo76) | (go_at_call 21; (with_reducible refine (uniset_Has.calls _ _ t247 a2 t250 _ ?side1 ?side2 A63.out).mono ?_); (case side1 => repeat (first | exact (Kd.R_reads' HO249.out).2.2 | (with_reducible refine Kd.C_alloc ?_ _) | (with_reducible refine Kd.C_drewN ?_ _) | (with_reducible refine Kd.C_drew ?_))); (case side2 => exact (Kd.R_reads' HO249.out).2.1); rintro e w77 ⟨rfl, hb⟩; have n0_ := Aside0.mk (Kd.R_below (by (with_reducible repeat (first | apply Kd.R_alloc | apply Kd.R_drewN | apply Kd.R_drew)); exact HO225.out) hb); have n1_ := Aside0.mk (Kd.R_below (by (with_reducible repeat (first | apply Kd.R_alloc | apply Kd.R_drewN | apply Kd.R_drew)); exact HO241.out) hb); have n2_ := Aside0.mk (Kd.R_below (by (with_reducible repeat (first | apply Kd.R_alloc | apply Kd.R_drewN | apply Kd.R_drew)); exact HO245.out) hb); have n3_ := Aside0.mk (Kd.R_below (by (with_reducible repeat (first | apply Kd.R_alloc | apply Kd.R_drewN | apply Kd.R_drew)); exact HO249.out) hb); have n4_ := Aside0.mk (below_step (by repeat (first | (with_reducible first | exact HB.out | apply below_alloc | apply pw_below_drewN | apply below_drew1) | exact HB.out)) hb); clear HO225; clear HO241; clear HO245; clear HO249; clear HB; have HO225 := n0_; have HO241 := n1_; have HO245 := n2_; have HO249 := n3_; have HB := n4_; clear n0_ n1_ n2_ n3_ n4_; (try clear hb); (try clear hb2); (try clear hk); (try clear hi)))
                          go_ret
                          exact ⟨by first | rfl | (simp [errW_none, errW_some] <;> rfl) | (simp [*, errW_none, errW_some] <;> rfl), by repeat (first | (with_reducible first | exact HB.out | apply below_alloc | apply pw_below_drewN | apply below_drew1) | exact HB.out)⟩
                        · rw [if_neg c65] at H
                          exact absurd H (by simp)
                      · replace c64 := Bool.eq_false_iff.mpr c64
                        subst c64
                        have H1 : (if t250 = true then (none) else (some (!false))) = some r := by rw [if_neg (show ¬ (false = true) by decide)] at H; exact H
                        clear H
                        have H := H1
                        clear H1
                        by_cases c78 : t250 = true
                        · subst c78
                          have H1 : (none) = some r := by rw [if_pos rfl] at H; exact H
                          clear H
                          have H := H1
                          clear H1
                          exact absurd H (by simp)
                        · replace c78 := Bool.eq_false_iff.mpr c78
                          subst c78
                          have H1 : (some (!false)) = some r := by rw [if_neg (show ¬ (false = true) by decide)] at H; exact H
                          clear H
                          have H := H1
                          clear H1
                          obtain rfl := Option.some.inj H
                          go_wp2_with (first | ((with_reducible refine gate_callee (f := 24) rfl ?_); refine goesL_ (some 34) rfl rfl Try.func24 (by kernel_rfl) rfl #[.slice A0 l0.length c0, .slice A1 l1.length c1] rfl (by (try simp only [List.map_toArray, List.map_cons, List.map_nil]); first | done | rfl | (simp only [List.length_drop, List.length_take]; rfl)) ?_; (with_reducible refine (uniset_Union.calls _ _ l0 _ _ l1 t223 _ ?side1 ?side2 ?side3 ?side4 A16.out).mono ?_); (case side1 => repeat (first | exact (Kd.C_below HR0.out HB.out) | (with_reducible refine Kd.C_alloc ?_ _) | (with_reducible refine Kd.C_drewN ?_ _) | (with_reducible refine Kd.C_drew ?_))); (case side2 => exact HC0.out); (case side3 => repeat (first | exact (Kd.C_below HR1.out HB.out) | (with_reducible refine Kd.C_alloc ?_ _) | (with_reducible refine Kd.C_drewN ?_ _) | (with_reducible refine Kd.C_drew ?_))); (case side4 => exact HC1.out); rintro e w79 ⟨v224, rfl, ho0, hb⟩; refine ⟨_, rfl, ?_⟩; have n0_ := Aside0.mk (Kd.R_lower ho0 (below_size (by repeat (first | (with_reducible first | exact HB.out | apply below_alloc | apply pw_below_drewN | apply below_drew1) | exact HB.out)))); have n1_ := Aside0.mk (below_step (by repeat (first | (with_reducible first | exact HB.out | apply below_alloc | apply pw_below_drewN | apply below_drew1) | exact HB.out)) hb); clear HB; have HO225 := n0_; have HB := n1_; clear n0_ n1_; (try clear hb); (try clear hb2); (try clear hk); (try clear hi); (try clear ho0); obtain ⟨Ao80, co80, eo80⟩ := Kd.R_slice HO225.out; subst eo80) | ((with_reducible refine gate_callee (f := 21) rfl ?_); refine goesL_ (some 36) rfl rfl Try.func21 (by kernel_rfl) rfl #[.slice Ao80 t223.length co80, .int .i32 a2] rfl (by (try simp only [List.map_toArray, List.map_cons, List.map_nil]); first | done | rfl | (simp only [List.length_drop, List.length_take]; rfl)) ?_; (with_reducible refine (uniset_Has.calls _ _ t223 a2 t226 _ ?side1 ?side2 A17.out).mono ?_); (case side1 => repeat (first | exact (Kd.R_reads' HO225.out).2.2 | (with_reducible refine Kd.C_alloc ?_ _) | (with_reducible refine Kd.C_drewN ?_ _) | (with_reducible refine Kd.C_drew ?_))); (case side2 => exact (Kd.R_reads' HO225.out).2.1); rintro e w81 ⟨rfl, hb⟩; refine ⟨_, rfl, ?_⟩; have n0_ := Aside0.mk (Kd.R_below (by (with_reducible repeat (first | apply Kd.R_alloc | apply Kd.R_drewN | apply Kd.R_drew)); exact HO225.out) hb); have n1_ := Aside0.mk (below_step (by repeat (first | (with_reducible first | exact HB.out | apply below_alloc | apply pw_below_drewN | apply below_drew1) | exact HB.out)) hb); clear HO225; clear HB; have HO225 := n0_; have HB := n1_; clear n0_ n1_; (try clear hb); (try clear hb2); (try clear hk); (try clear hi)) | (go_at_call 26; (with_reducible refine (uniset_Inter.calls kj11 _ _ l0 _ _ l1 t239 _ ?side1 ?side2 ?side3 ?side4 A56.out).mono ?_); (case side1 => repeat (first | exact (Kd.C_below HR0.out HB.out) | (with_reducible refine Kd.C_alloc ?_ _) | (with_reducible refine Kd.C_drewN ?_ _) | (with_reducible refine Kd.C_drew ?_))); (case side2 => exact HC0.out); (case side3 => repeat (first | exact (Kd.C_below HR1.out HB.out) | (with_reducible refine Kd.C_alloc ?_ _) | (with_reducible refine Kd.C_drewN ?_ _) | (with_reducible refine Kd.C_drew ?_))); (case side4 => exact HC1.out); rintro e w82 ⟨v240, rfl, ho0, hb⟩; have n0_ := Aside0.mk (Kd.R_elder' (by (with_reducible repeat (first | apply Kd.R_alloc | apply Kd.R_drewN | apply Kd.R_drew)); exact HO225.out) (Kd.R_base ho0) hb); have n1_ := Aside0.mk (Kd.R_lower (Kd.R_new' ho0 (Kd.R_lt (by (with_reducible repeat (first | apply Kd.R_alloc | apply Kd.R_drewN | apply Kd.R_drew)); exact HO225.out))) (below_size (by repeat (first | (with_reducible first | exact HB.out | apply below_alloc | apply pw_below_drewN | apply below_drew1) | exact HB.out)))); have n2_ := Aside0.mk (below_step (by repeat (first | (with_reducible first | exact HB.out | apply below_alloc | apply pw_below_drewN | apply below_drew1) | exact HB.out)) hb); clear HO225; clear HB; have HO225 := n0_; have HO241 := n1_; have HB := n2_; clear n0_ n1_ n2_; (try clear hb); (try clear hb2); (try clear hk); (try clear hi); (try clear ho0); obtain ⟨Ao83, co83, eo83⟩ := Kd.R_slice HO241.out; subst eo83) | (go_at_call 21; (with_reducible refine (uniset_Has.calls _ _ t239 a2 false _ ?side1 ?side2 A57.out).mono ?_); (case side1 => repeat (first | exact (Kd.R_reads' HO241.out).2.2 | (with_reducible refine Kd.C_alloc ?_ _) | (with_reducible refine Kd.C_drewN ?_ _) | (with_reducible refine Kd.C_drew ?_))); (case side2 => exact (Kd.R_reads' HO241.out).2.1); rintro e w84 ⟨rfl, hb⟩; have n0_ := Aside0.mk (Kd.R_below (by (with_reducible repeat (first | apply Kd.R_alloc | apply Kd.R_drewN | apply Kd.R_drew)); exact HO225.out) hb); have n1_ := Aside0.mk (Kd.R_below (by (with_reducible repeat (first | apply Kd.R_alloc | apply Kd.R_drewN | apply Kd.R_drew)); exact HO241.out) hb); have n2_ := Aside0.mk (below_step (by repeat (first | (with_reducible first | exact HB.out | apply below_alloc | apply pw_below_drewN | apply below_drew1) | exact HB.out)) hb); clear HO225; clear HO241; clear HB; have HO225 := n0_; have HO241 := n1_; have HB := n2_; clear n0_ n1_ n2_; (try clear hb); (try clear hb2); (try clear hk); (try clear hi)) | (go_at_call 30; (with_reducible refine (uniset_Minus.calls kj11 _ _ l0 _ _ l1 t243 _ ?side1 ?side2 ?side3 ?side4 A59.out).mono ?_); (case side1 => repeat (first | exact (Kd.C_below HR0.out HB.out) | (with_reducible refine Kd.C_alloc ?_ _) | (with_reducible refine Kd.C_drewN ?_ _) | (with_reducible refine Kd.C_drew ?_))); (case side2 => exact HC0.out); (case side3 => repeat (first | exact (Kd.C_below HR1.out HB.out) | (with_reducible refine Kd.C_alloc ?_ _) | (with_reducible refine Kd.C_drewN ?_ _) | (with_reducible refine Kd.C_drew ?_))); (case side4 => exact HC1.out); rintro e w85 ⟨v244, rfl, ho0, hb⟩; have n0_ := Aside0.mk (Kd.R_elder' (by (with_reducible repeat (first | apply Kd.R_alloc | apply Kd.R_drewN | apply Kd.R_drew)); exact HO225.out) (Kd.R_base ho0) hb); have n1_ := Aside0.mk (Kd.R_elder' (by (with_reducible repeat (first | apply Kd.R_alloc | apply Kd.R_drewN | apply Kd.R_drew)); exact HO241.out) (Kd.R_base ho0) hb); have n2_ := Aside0.mk (Kd.R_lower (Kd.R_new' (Kd.R_new' ho0 (Kd.R_lt (by (with_reducible repeat (first | apply Kd.R_alloc | apply Kd.R_drewN | apply Kd.R_drew)); exact HO225.out))) (Kd.R_lt (by (with_reducible repeat (first | apply Kd.R_alloc | apply Kd.R_drewN | apply Kd.R_drew)); exact HO241.out))) (below_size (by repeat (first | (with_reducible first | exact HB.out | apply below_alloc | apply pw_below_drewN | apply below_drew1) | exact HB.out)))); have n3_ := Aside0.mk (below_step (by repeat (first | (with_reducible first | exact HB.out | apply below_alloc | apply pw_below_drewN | apply below_drew1) | exact HB.out)) hb); clear HO225; clear HO241; clear HB; have HO225 := n0_; have HO241 := n1_; have HO245 := n2_; have HB := n3_; clear n0_ n1_ n2_ n3_; (try clear hb); (try clear hb2); (try clear hk); (try clear hi); (try clear ho0); obtain ⟨Ao86, co86, eo86⟩ := Kd.R_slice HO245.out; subst eo86) | (go_at_call 21; (with_reducible refine (uniset_Has.calls _ _ t243 a2 false _ ?side1 ?side2 A60.out).mono ?_); (case side1 => repeat (first | exact (Kd.R_reads' HO245.out).2.2 | (with_reducible refine Kd.C_alloc ?_ _) | (with_reducible refine Kd.C_drewN ?_ _) | (with_reducible refine Kd.C_drew ?_))); (case side2 => exact (Kd.R_reads' HO245.out).2.1); rintro e w87 ⟨rfl, hb⟩; have n0_ := Aside0.mk (Kd.R_below (by (with_reducible repeat (first | apply Kd.R_alloc | apply Kd.R_drewN | apply Kd.R_drew)); exact HO225.out) hb); have n1_ := Aside0.mk (Kd.R_below (by (with_reducible repeat (first | apply Kd.R_alloc | apply Kd.R_drewN | apply Kd.R_drew)); exact HO241.out) hb); have n2_ := Aside0.mk (Kd.R_below (by (with_reducible repeat (first | apply Kd.R_alloc | apply Kd.R_drewN | apply Kd.R_drew)); exact HO245.out) hb); have n3_ := Aside0.mk (below_step (by repeat (first | (with_reducible first | exact HB.out | apply below_alloc | apply pw_below_drewN | apply below_drew1) | exact HB.out)) hb); clear HO225; clear HO241; clear HO245; clear HB; have HO225 := n0_; have HO241 := n1_; have HO245 := n2_; have HB := n3_; clear n0_ n1_ n2_ n3_; (try clear hb); (try clear hb2); (try clear hk); (try clear hi)) | (go_at_call 25; (with_reducible refine (uniset_Not.calls kj11 _ _ l0 t247 _ ?side1 ?side2 A62.out).mono ?_); (case side1 => repeat (first | exact (Kd.C_below HR0.out HB.out) | (with_reducible refine Kd.C_alloc ?_ _) | (with_reducible refine Kd.C_drewN ?_ _) | (with_reducible refine Kd.C_drew ?_))); (case side2 => exact HC0.out); rintro e w88 ⟨v248, rfl, ho0, hb⟩; have n0_ := Aside0.mk (Kd.R_elder' (by (with_reducible repeat (first | apply Kd.R_alloc | apply Kd.R_drewN | apply Kd.R_drew)); exact HO225.out) (Kd.R_base ho0) hb); have n1_ := Aside0.mk (Kd.R_elder' (by (with_reducible repeat (first | apply Kd.R_alloc | apply Kd.R_drewN | apply Kd.R_drew)); exact HO241.out) (Kd.R_base ho0) hb); have n2_ := Aside0.mk (Kd.R_elder' (by (with_reducible repeat (first | apply Kd.R_alloc | apply Kd.R_drewN | apply Kd.R_drew)); exact HO245.out) (Kd.R_base ho0) hb); have n3_ := Aside0.mk (Kd.R_lower (Kd.R_new' (Kd.R_new' (Kd.R_new' ho0 (Kd.R_lt (by (with_reducible repeat (first | apply Kd.R_alloc | apply Kd.R_drewN | apply Kd.R_drew)); exact HO225.out))) (Kd.R_lt (by (with_reducible repeat (first | apply Kd.R_alloc | apply Kd.R_drewN | apply Kd.R_drew)); exact HO241.out))) (Kd.R_lt (by (with_reducible repeat (first | apply Kd.R_alloc | apply Kd.R_drewN | apply Kd.R_drew)); exact HO245.out))) (below_size (by repeat (first | (with_reducible first | exact HB.out | apply below_alloc | apply pw_below_drewN | apply below_drew1) | exact HB.out)))); have n4_ := Aside0.mk (below_step (by repeat (first | (with_reducible first | exact HB.out | apply below_alloc | apply pw_below_drewN | apply below_drew1) | exact HB.out)) hb); clear HO225; clear HO241; clear HO245; clear HB; have HO225 := n0_; have HO241 := n1_; have HO245 := n2_; have HO249 := n3_; have HB := n4_; clear n0_ n1_ n2_ n3_ n4_; (try clear hb); (try clear hb2); (try clear hk); (try clear hi); (try clear ho0); obtain ⟨Ao89, co89, eo89⟩ := Kd.R_slice HO249.out; subst eo89) | (go_at_call 21; (with_reducible refine (uniset_Has.calls _ _ t247 a2 false _ ?side1 ?side2 A63.out).mono ?_); (case side1 => repeat (first | exact (Kd.R_reads' HO249.out).2.2 | (with_reducible refine Kd.C_alloc ?_ _) | (with_reducible refine Kd.C_drewN ?_ _) | (with_reducible refine Kd.C_drew ?_))); (case side2 => exact (Kd.R_reads' HO249.out).2.1); rintro e w90 ⟨rfl, hb⟩; have n0_ := Aside0.mk (Kd.R_below (by (with_reducible repeat (first | apply Kd.R_alloc | apply Kd.R_drewN | apply Kd.R_drew)); exact HO225.out) hb); have n1_ := Aside0.mk (Kd.R_below (by (with_reducible repeat (first | apply Kd.R_alloc | apply Kd.R_drewN | apply Kd.R_drew)); exact HO241.out) hb); have n2_ := Aside0.mk (Kd.R_below (by (with_reducible repeat (first | apply Kd.R_alloc | apply Kd.R_drewN | apply Kd.R_drew)); exact HO245.out) hb); have n3_ := Aside0.mk (Kd.R_below (by (with_reducible repeat (first | apply Kd.R_alloc | apply Kd.R_drewN | apply Kd.R_drew)); exact HO249.out) hb); have n4_ := Aside0.mk (below_step (by repeat (first | (with_reducible first | exact HB.out | apply below_alloc | apply pw_below_drewN | apply below_drew1) | exact HB.out)) hb); clear HO225; clear HO241; clear HO245; clear HO249; clear HB; have HO225 := n0_; have HO241 := n1_; have HO245 := n2_; have HO249 := n3_; have HB := n4_; clear n0_ n1_ n2_ n3_ n4_; (try clear hb); (try clear hb2); (try clear hk); (try clear hi)))
                          go_ret
                          exact ⟨by first | rfl | (simp [errW_none, errW_some] <;> rfl) | (simp [*, errW_none, errW_some] <;> rfl), by repeat (first | (with_reducible first | exact HB.out | apply below_alloc | apply pw_below_drewN | apply below_drew1) | exact HB.out)⟩
                · rw [if_neg c55] at H
                  exact absurd H (by simp)
  · replace c5 := Bool.eq_false_iff.mpr c5
    subst c5
    have H1 : (none) = some r := by rw [if_neg (show ¬ (false = true) by decide)] at H; exact H
    clear H
    have H := H1
    clear H1
    exact absurd H (by simp)

/-! ### hornbooklaw3_SetLeast: function 9 -/
def hornbooklaw3_SetLeast.f (k : Nat) (l0 : List (S37)) : Option (Bool) := (hornbooklaw3_known.f k).bind fun t255 => (if t255 = true then (if (l0.length : Int) > 40 then (some true) else ((uniset_Least.f l0).bind fun bt256 => ((uniset_Count.f k l0).bind fun t258 => (if bt256.2 = true then ((uniset_Minus.f k l0 (([(⟨bt256.1, bt256.1⟩ : S37)] : List (S37)))).bind fun t265 => ((uniset_Inter.f k l0 (([(⟨0, bt256.1⟩ : S37)] : List (S37)))).bind fun t271 => ((uniset_Has.f l0 bt256.1).bind fun t274 => (if t274 = true then (if (t271.length : Int) = 1 then (if 0 < (t271.length : Int) then (if (((rd_T37 t271 0).f0) == bt256.1 && (((rd_T37 t271 0).f1) == bt256.1)) = true then ((uniset_Count.f k t265).bind fun t276 => (if t276 = (wrap64 (t258 - 1)) then ((uniset_Is.f k t265).bind fun t277 => (if t277 = true then ((uniset_Has.f t265 bt256.1).bind fun t278 => (some (!t278))) else (none))) else (none))) else (none)) else (none)) else (none)) else (none))))) else (if t258 = 0 then (if bt256.1 = 0 then ((uniset_Union.f l0 ([] : List (S37))).bind fun t259 => (some ((t259.length : Int) == 0))) else (none)) else (none)))))) else (none))
theorem hornbooklaw3_SetLeast.mono : ∀ a0 k, LeO (hornbooklaw3_SetLeast.f k a0) (hornbooklaw3_SetLeast.f (k + 1) a0) := by
  intro a0 k
  unfold hornbooklaw3_SetLeast.f
  repeat' first
      | (with_reducible exact hornbooklaw3_known.mono _)
      | (with_reducible exact uniset_Count.mono _ _)
      | (with_reducible exact uniset_Inter.mono _ _ _)
      | (with_reducible exact uniset_Is.mono _ _)
      | (with_reducible exact uniset_Minus.mono _ _ _)
      | (with_reducible exact LeO.refl _)
      | (with_reducible exact LeO.none _)
      | (with_reducible refine LeO.ite ?_ ?_)
      | (with_reducible refine LeO.bind ?_ (fun _ => ?_))
      | exact hornbooklaw3_known.mono _
      | exact uniset_Count.mono _ _
      | exact uniset_Inter.mono _ _ _
      | exact uniset_Is.mono _ _
      | exact uniset_Minus.mono _ _ _
      | exact LeO.none _
      | refine LeO.ite ?_ ?_
      | refine LeO.bind ?_ (fun _ => ?_)
set_option maxHeartbeats 8000000 in
set_option maxRecDepth 100000 in
theorem hornbooklaw3_SetLeast.calls (k : Nat) (A0 : Option Addr) (c0 : Nat) (l0 : List (S37)) (r : Bool) (w : World) (hr0 : Kd.C k37 w A0 l0.length l0) (hc0 : l0.length ≤ c0) (h : hornbooklaw3_SetLeast.f k l0 = some r) :
    Calls Try.prog 9 #[.slice A0 l0.length c0] w fun e w' => e = .returned (.bool r) ∧ Below w.heap.size w w' := by
  have hu37 := Try.underlying37
  have HR0 := Aside0.mk hr0
  have HC0 := Aside0.mk hc0
  clear hr0 hc0
  have HB := Aside0.mk (Below.refl w.heap.size w)
  have H : ((hornbooklaw3_known.f k).bind fun t255 => (if t255 = true then (if (l0.length : Int) > 40 then (some true) else ((uniset_Least.f l0).bind fun bt256 => ((uniset_Count.f k l0).bind fun t258 => (if bt256.2 = true then ((uniset_Minus.f k l0 (([(⟨bt256.1, bt256.1⟩ : S37)] : List (S37)))).bind fun t265 => ((uniset_Inter.f k l0 (([(⟨0, bt256.1⟩ : S37)] : List (S37)))).bind fun t271 => ((uniset_Has.f l0 bt256.1).bind fun t274 => (if t274 = true then (if (t271.length : Int) = 1 then (if 0 < (t271.length : Int) then (if (((rd_T37 t271 0).f0) == bt256.1 && (((rd_T37 t271 0).f1) == bt256.1)) = true then ((uniset_Count.f k t265).bind fun t276 => (if t276 = (wrap64 (t258 - 1)) then ((uniset_Is.f k t265).bind fun t277 => (if t277 = true then ((uniset_Has.f t265 bt256.1).bind fun t278 => (some (!t278))) else (none))) else (none))) else (none)) else (none)) else (none)) else (none))))) else (if t258 = 0 then (if bt256.1 = 0 then ((uniset_Union.f l0 ([] : List (S37))).bind fun t259 => (some ((t259.length : Int) == 0))) else (none)) else (none)))))) else (none))) = some r := h
  clear h
  replace H := Option.bind_eq_some_iff.mp H
  obtain ⟨t255, A20, H⟩ := H
  replace H : (if t255 = true then (if (l0.length : Int) > 40 then (some true) else ((uniset_Least.f l0).bind fun bt256 => ((uniset_Count.f k l0).bind fun t258 => (if bt256.2 = true then ((uniset_Minus.f k l0 (([(⟨bt256.1, bt256.1⟩ : S37)] : List (S37)))).bind fun t265 => ((uniset_Inter.f k l0 (([(⟨0, bt256.1⟩ : S37)] : List (S37)))).bind fun t271 => ((uniset_Has.f l0 bt256.1).bind fun t274 => (if t274 = true then (if (t271.length : Int) = 1 then (if 0 < (t271.length : Int) then (if (((rd_T37 t271 0).f0) == bt256.1 && (((rd_T37 t271 0).f1) == bt256.1)) = true then ((uniset_Count.f k t265).bind fun t276 => (if t276 = (wrap64 (t258 - 1)) then ((uniset_Is.f k t265).bind fun t277 => (if t277 = true then ((uniset_Has.f t265 bt256.1).bind fun t278 => (some (!t278))) else (none))) else (none))) else (none)) else (none)) else (none)) else (none))))) else (if t258 = 0 then (if bt256.1 = 0 then ((uniset_Union.f l0 ([] : List (S37))).bind fun t259 => (some ((t259.length : Int) == 0))) else (none)) else (none)))))) else (none)) = some r := H
  have A2 := Aside0.mk A20
  clear A20
  by_cases c3 : t255 = true
  · subst c3
    have H1 : (if (l0.length : Int) > 40 then (some true) else ((uniset_Least.f l0).bind fun bt256 => ((uniset_Count.f k l0).bind fun t258 => (if bt256.2 = true then ((uniset_Minus.f k l0 (([(⟨bt256.1, bt256.1⟩ : S37)] : List (S37)))).bind fun t265 => ((uniset_Inter.f k l0 (([(⟨0, bt256.1⟩ : S37)] : List (S37)))).bind fun t271 => ((uniset_Has.f l0 bt256.1).bind fun t274 => (if t274 = true then (if (t271.length : Int) = 1 then (if 0 < (t271.length : Int) then (if (((rd_T37 t271 0).f0) == bt256.1 && (((rd_T37 t271 0).f1) == bt256.1)) = true then ((uniset_Count.f k t265).bind fun t276 => (if t276 = (wrap64 (t258 - 1)) then ((uniset_Is.f k t265).bind fun t277 => (if t277 = true then ((uniset_Has.f t265 bt256.1).bind fun t278 => (some (!t278))) else (none))) else (none))) else (none)) else (none)) else (none)) else (none))))) else (if t258 = 0 then (if bt256.1 = 0 then ((uniset_Union.f l0 ([] : List (S37))).bind fun t259 => (some ((t259.length : Int) == 0))) else (none)) else (none)))))) = some r := by rw [if_pos rfl] at H; exact H
    clear H
    have H := H1
    clear H1
    by_cases c4 : (l0.length : Int) > 40
    · rw [if_pos c4] at H
      have c4b0 : decide (40 < (l0.length : Int)) = true := decide_eq_true c4
      have c4b1 : decide (40 < l0.length) = true := decide_eq_true (by omega)
      clear c4
      obtain rfl := Option.some.inj H
      go_enter Try.func9, Try.ntmps9
      go_wp2_with (first | ((with_reducible refine gate_callee (f := 19) rfl ?_); refine goesL_ (some 8) rfl rfl Try.func19 (by kernel_rfl) rfl #[] rfl (by (try simp only [List.map_toArray, List.map_cons, List.map_nil]); first | done | rfl | (simp only [List.length_drop, List.length_take]; rfl)) ?_; (with_reducible refine (hornbooklaw3_known.calls k  true _ A2.out).mono ?_); rintro e w5 ⟨rfl, hb⟩; refine ⟨_, rfl, ?_⟩; have n0_ := Aside0.mk (below_step (by repeat (first | (with_reducible first | exact HB.out | apply below_alloc | apply pw_below_drewN | apply below_drew1) | exact HB.out)) hb); clear HB; have HB := n0_; clear n0_; (try clear hb); (try clear hb2); (try clear hk); (try clear hi)))
      go_ret
      exact ⟨by first | rfl | (simp [errW_none, errW_some] <;> rfl) | (simp [*, errW_none, errW_some] <;> rfl), by repeat (first | (with_reducible first | exact HB.out | apply below_alloc | apply pw_below_drewN | apply below_drew1) | exact HB.out)⟩
    · rw [if_neg c4] at H
      have c4b0 : decide (40 < (l0.length : Int)) = false := decide_eq_false c4
      have c4b1 : decide (40 < l0.length) = false := decide_eq_false (by omega)
      clear c4
      replace H := Option.bind_eq_some_iff.mp H
      obtain ⟨⟨t256, t257⟩, A60, H⟩ := H
      replace H : ((uniset_Count.f k l0).bind fun t258 => (if t257 = true then ((uniset_Minus.f k l0 (([(⟨t256, t256⟩ : S37)] : List (S37)))).bind fun t265 => ((uniset_Inter.f k l0 (([(⟨0, t256⟩ : S37)] : List (S37)))).bind fun t271 => ((uniset_Has.f l0 t256).bind fun t274 => (if t274 = true then (if (t271.length : Int) = 1 then (if 0 < (t271.length : Int) then (if (((rd_T37 t271 0).f0) == t256 && (((rd_T37 t271 0).f1) == t256)) = true then ((uniset_Count.f k t265).bind fun t276 => (if t276 = (wrap64 (t258 - 1)) then ((uniset_Is.f k t265).bind fun t277 => (if t277 = true then ((uniset_Has.f t265 t256).bind fun t278 => (some (!t278))) else (none))) else (none))) else (none)) else (none)) else (none)) else (none))))) else (if t258 = 0 then (if t256 = 0 then ((uniset_Union.f l0 ([] : List (S37))).bind fun t259 => (some ((t259.length : Int) == 0))) else (none)) else (none)))) = some r := H
      have A6 := Aside0.mk A60
      clear A60
      replace H := Option.bind_eq_some_iff.mp H
      obtain ⟨t258, A70, H⟩ := H
      replace H : (if t257 = true then ((uniset_Minus.f k l0 (([(⟨t256, t256⟩ : S37)] : List (S37)))).bind fun t265 => ((uniset_Inter.f k l0 (([(⟨0, t256⟩ : S37)] : List (S37)))).bind fun t271 => ((uniset_Has.f l0 t256).bind fun t274 => (if t274 = true then (if (t271.length : Int) = 1 then (if 0 < (t271.length : Int) then (if (((rd_T37 t271 0).f0) == t256 && (((rd_T37 t271 0).f1) == t256)) = true then ((uniset_Count.f k t265).bind fun t276 => (if t276 = (wrap64 (t258 - 1)) then ((uniset_Is.f k t265).bind fun t277 => (if t277 = true then ((uniset_Has.f t265 t256).bind fun t278 => (some (!t278))) else (none))) else (none))) else (none)) else (none)) else (none)) else (none))))) else (if t258 = 0 then (if t256 = 0 then ((uniset_Union.f l0 ([] : List (S37))).bind fun t259 => (some ((t259.length : Int) == 0))) else (none)) else (none))) = some r := H
      have A7 := Aside0.mk A70
      clear A70
      by_cases c8 : t257 = true
      · subst c8
        have H1 : ((uniset_Minus.f k l0 (([(⟨t256, t256⟩ : S37)] : List (S37)))).bind fun t265 => ((uniset_Inter.f k l0 (([(⟨0, t256⟩ : S37)] : List (S37)))).bind fun t271 => ((uniset_Has.f l0 t256).bind fun t274 => (if t274 = true then (if (t271.length : Int) = 1 then (if 0 < (t271.length : Int) then (if (((rd_T37 t271 0).f0) == t256 && (((rd_T37 t271 0).f1) == t256)) = true then ((uniset_Count.f k t265).bind fun t276 => (if t276 = (wrap64 (t258 - 1)) then ((uniset_Is.f k t265).bind fun t277 => (if t277 = true then ((uniset_Has.f t265 t256).bind fun t278 => (some (!t278))) else (none))) else (none))) else (none)) else (none)) else (none)) else (none))))) = some r := by rw [if_pos rfl] at H; exact H
        clear H
        have H := H1
        clear H1
        obtain ⟨y262, hy262⟩ : ∃ y_ : List (S37), y_ = (([(⟨t256, t256⟩ : S37)] : List (S37))) := ⟨_, rfl⟩
        replace H : ((uniset_Minus.f k l0 y262).bind fun t265 => ((uniset_Inter.f k l0 (([(⟨0, t256⟩ : S37)] : List (S37)))).bind fun t271 => ((uniset_Has.f l0 t256).bind fun t274 => (if t274 = true then (if (t271.length : Int) = 1 then (if 0 < (t271.length : Int) then (if (((rd_T37 t271 0).f0) == t256 && (((rd_T37 t271 0).f1) == t256)) = true then ((uniset_Count.f k t265).bind fun t276 => (if t276 = (wrap64 (t258 - 1)) then ((uniset_Is.f k t265).bind fun t277 => (if t277 = true then ((uniset_Has.f t265 t256).bind fun t278 => (some (!t278))) else (none))) else (none))) else (none)) else (none)) else (none)) else (none))))) = some r := by first | (rw [hy262]; with_reducible exact H) | (have H2_ := (Option.bind_some _ _).symm.trans H; rw [hy262]; with_reducible exact H2_) | (have H2_ := (Option.bind_some _ _).symm.trans H; with_reducible exact H2_) | with_reducible exact H | (rw [hy262]; exact H) | exact H
        have Ny262 := Aside0.mk hy262
        clear hy262
        replace H := Option.bind_eq_some_iff.mp H
        obtain ⟨t265, A90, H⟩ := H
        replace H : ((uniset_Inter.f k l0 (([(⟨0, t256⟩ : S37)] : List (S37)))).bind fun t271 => ((uniset_Has.f l0 t256).bind fun t274 => (if t274 = true then (if (t271.length : Int) = 1 then (if 0 < (t271.length : Int) then (if (((rd_T37 t271 0).f0) == t256 && (((rd_T37 t271 0).f1) == t256)) = true then ((uniset_Count.f k t265).bind fun t276 => (if t276 = (wrap64 (t258 - 1)) then ((uniset_Is.f k t265).bind fun t277 => (if t277 = true then ((uniset_Has.f t265 t256).bind fun t278 => (some (!t278))) else (none))) else (none))) else (none)) else (none)) else (none)) else (none)))) = some r := H
        have A9 := Aside0.mk A90
        clear A90
        obtain ⟨y268, hy268⟩ : ∃ y_ : List (S37), y_ = (([(⟨0, t256⟩ : S37)] : List (S37))) := ⟨_, rfl⟩
        replace H : ((uniset_Inter.f k l0 y268).bind fun t271 => ((uniset_Has.f l0 t256).bind fun t274 => (if t274 = true then (if (t271.length : Int) = 1 then (if 0 < (t271.length : Int) then (if (((rd_T37 t271 0).f0) == t256 && (((rd_T37 t271 0).f1) == t256)) = true then ((uniset_Count.f k t265).bind fun t276 => (if t276 = (wrap64 (t258 - 1)) then ((uniset_Is.f k t265).bind fun t277 => (if t277 = true then ((uniset_Has.f t265 t256).bind fun t278 => (some (!t278))) else (none))) else (none))) else (none)) else (none)) else (none)) else (none)))) = some r := by first | (rw [hy268]; with_reducible exact H) | (have H2_ := (Option.bind_some _ _).symm.trans H; rw [hy268]; with_reducible exact H2_) | (have H2_ := (Option.bind_some _ _).symm.trans H; with_reducible exact H2_) | with_reducible exact H | (rw [hy268]; exact H) | exact H
        have Ny268 := Aside0.mk hy268
        clear hy268
        replace H := Option.bind_eq_some_iff.mp H
        obtain ⟨t271, A100, H⟩ := H
        replace H : ((uniset_Has.f l0 t256).bind fun t274 => (if t274 = true then (if (t271.length : Int) = 1 then (if 0 < (t271.length : Int) then (if (((rd_T37 t271 0).f0) == t256 && (((rd_T37 t271 0).f1) == t256)) = true then ((uniset_Count.f k t265).bind fun t276 => (if t276 = (wrap64 (t258 - 1)) then ((uniset_Is.f k t265).bind fun t277 => (if t277 = true then ((uniset_Has.f t265 t256).bind fun t278 => (some (!t278))) else (none))) else (none))) else (none)) else (none)) else (none)) else (none))) = some r := H
        have A10 := Aside0.mk A100
        clear A100
        replace H := Option.bind_eq_some_iff.mp H
        obtain ⟨t274, A110, H⟩ := H
        replace H : (if t274 = true then (if (t271.length : Int) = 1 then (if 0 < (t271.length : Int) then (if (((rd_T37 t271 0).f0) == t256 && (((rd_T37 t271 0).f1) == t256)) = true then ((uniset_Count.f k t265).bind fun t276 => (if t276 = (wrap64 (t258 - 1)) then ((uniset_Is.f k t265).bind fun t277 => (if t277 = true then ((uniset_Has.f t265 t256).bind fun t278 => (some (!t278))) else (none))) else (none))) else (none)) else (none)) else (none)) else (none)) = some r := H
        have A11 := Aside0.mk A110
        clear A110
        by_cases c12 : t274 = true
        · subst c12
          have H1 : (if (t271.length : Int) = 1 then (if 0 < (t271.length : Int) then (if (((rd_T37 t271 0).f0) == t256 && (((rd_T37 t271 0).f1) == t256)) = true then ((uniset_Count.f k t265).bind fun t276 => (if t276 = (wrap64 (t258 - 1)) then ((uniset_Is.f k t265).bind fun t277 => (if t277 = true then ((uniset_Has.f t265 t256).bind fun t278 => (some (!t278))) else (none))) else (none))) else (none)) else (none)) else (none)) = some r := by rw [if_pos rfl] at H; exact H
          clear H
          have H := H1
          clear H1
          by_cases c13 : (t271.length : Int) = 1
          · rw [if_pos c13] at H
            have c13b0 : ((t271.length : Int) == 1) = true := beq_iff_eq.mpr c13
            have c13b1 : ((t271.length : Int) != 1) = false := bne_eq_false_iff_eq.mpr c13
            clear c13
            by_cases c14 : 0 < (t271.length : Int)
            · rw [if_pos c14] at H
              have c14b0 : decide (0 < (t271.length : Int)) = true := decide_eq_true c14
              have c14b1 : decide (0 < t271.length) = true := decide_eq_true (by omega)
              clear c14
              by_cases c15 : (((rd_T37 t271 0).f0) == t256 && (((rd_T37 t271 0).f1) == t256)) = true
              · rw [if_pos c15] at H
                have c15b0 : (((rd_T37 t271 0).f0) == t256 && (((rd_T37 t271 0).f1) == t256)) = true := c15
                (try (have c15b1 : decide (((rd_T37 t271 0).f0) = t256 && (((rd_T37 t271 0).f1) == t256)) = true := by simpa using c15))
                (try (have c15b2 : (((rd_T37 t271 0).f0) == t256 && (((rd_T37 t271 0).f1) == t256)) = true := by simpa using c15))
                clear c15
                replace H := Option.bind_eq_some_iff.mp H
                obtain ⟨t276, A160, H⟩ := H
                replace H : (if t276 = (wrap64 (t258 - 1)) then ((uniset_Is.f k t265).bind fun t277 => (if t277 = true then ((uniset_Has.f t265 t256).bind fun t278 => (some (!t278))) else (none))) else (none)) = some r := H
                have A16 := Aside0.mk A160
                clear A160
                by_cases c17 : t276 = (wrap64 (t258 - 1))
                · rw [if_pos c17] at H
                  have c17b0 : (t276 == (wrap64 (t258 - 1))) = true := beq_iff_eq.mpr c17
                  have c17b1 : (t276 != (wrap64 (t258 - 1))) = false := bne_eq_false_iff_eq.mpr c17
                  clear c17
                  replace H := Option.bind_eq_some_iff.mp H
                  obtain ⟨t277, A180, H⟩ := H
                  replace H : (if t277 = true then ((uniset_Has.f t265 t256).bind fun t278 => (some (!t278))) else (none)) = some r := H
                  have A18 := Aside0.mk A180
                  clear A180
                  by_cases c19 : t277 = true
                  · subst c19
                    have H1 : ((uniset_Has.f t265 t256).bind fun t278 => (some (!t278))) = some r := by rw [if_pos rfl] at H; exact H
                    clear H
                    have H := H1
                    clear H1
                    replace H := Option.bind_eq_some_iff.mp H
                    obtain ⟨t278, A200, H⟩ := H
                    replace H : (some (!t278)) = some r := H
                    have A20 := Aside0.mk A200
                    clear A200
                    obtain rfl := Option.some.inj H
                    go_enter Try.func9, Try.ntmps9
                    go_wp2_with (first | ((with_reducible refine gate_callee (f := 19) rfl ?_); refine goesL_ (some 8) rfl rfl Try.func19 (by kernel_rfl) rfl #[] rfl (by (try simp only [List.map_toArray, List.map_cons, List.map_nil]); first | done | rfl | (simp only [List.length_drop, List.length_take]; rfl)) ?_; (with_reducible refine (hornbooklaw3_known.calls k  true _ A2.out).mono ?_); rintro e w21 ⟨rfl, hb⟩; refine ⟨_, rfl, ?_⟩; have n0_ := Aside0.mk (below_step (by repeat (first | (with_reducible first | exact HB.out | apply below_alloc | apply pw_below_drewN | apply below_drew1) | exact HB.out)) hb); clear HB; have HB := n0_; clear n0_; (try clear hb); (try clear hb2); (try clear hk); (try clear hi)) | ((with_reducible refine gate_callee (f := 31) rfl ?_); refine goesL_ (some 15) rfl rfl Try.func31 (by kernel_rfl) rfl #[.slice A0 l0.length c0] rfl (by (try simp only [List.map_toArray, List.map_cons, List.map_nil]); first | done | rfl | (simp only [List.length_drop, List.length_take]; rfl)) ?_; (with_reducible refine (uniset_Least.calls _ _ l0 t256 true _ ?side1 ?side2 A6.out).mono ?_); (case side1 => repeat (first | exact (Kd.C_below HR0.out HB.out) | (with_reducible refine Kd.C_alloc ?_ _) | (with_reducible refine Kd.C_drewN ?_ _) | (with_reducible refine Kd.C_drew ?_))); (case side2 => exact HC0.out); rintro e w22 ⟨rfl, hb⟩; refine ⟨_, rfl, ?_⟩; have n0_ := Aside0.mk (below_step (by repeat (first | (with_reducible first | exact HB.out | apply below_alloc | apply pw_below_drewN | apply below_drew1) | exact HB.out)) hb); clear HB; have HB := n0_; clear n0_; (try clear hb); (try clear hb2); (try clear hk); (try clear hi)) | ((with_reducible refine gate_callee (f := 22) rfl ?_); refine goesL_ (some 19) rfl rfl Try.func22 (by kernel_rfl) rfl #[.slice A0 l0.length c0] rfl (by (try simp only [List.map_toArray, List.map_cons, List.map_nil]); first | done | rfl | (simp only [List.length_drop, List.length_take]; rfl)) ?_; (with_reducible refine (uniset_Count.calls k _ _ l0 t258 _ ?side1 ?side2 A7.out).mono ?_); (case side1 => repeat (first | exact (Kd.C_below HR0.out HB.out) | (with_reducible refine Kd.C_alloc ?_ _) | (with_reducible refine Kd.C_drewN ?_ _) | (with_reducible refine Kd.C_drew ?_))); (case side2 => exact HC0.out); rintro e w23 ⟨rfl, hb⟩; refine ⟨_, rfl, ?_⟩; have n0_ := Aside0.mk (below_step (by repeat (first | (with_reducible first | exact HB.out | apply below_alloc | apply pw_below_drewN | apply below_drew1) | exact HB.out)) hb); clear HB; have HB := n0_; clear n0_; (try clear hb); (try clear hb2); (try clear hk); (try clear hi)) | ((with_reducible refine gate_dst (N := 38) rfl ?_); (try (refine gate_guard (by rfl) ?_; dsimp only)); refine Kd.R_lit k37 _ 37 ?hg (N := 38) ?hd (xs := ([(⟨t256, t256⟩ : S37)] : List (S37))) (inner := [.int .i32 t256, .int .i32 t256]) (ok := fun _ => True) (okp := fun _ => True) ?hr ?hp (fun _ hk => hk) trivial (Below.refl _ _) (Nat.le_refl _) (by simp) ?_; (case hd => rfl); (case hg => rfl); (case hr => first | (go_simp; done) | (go_simp; rfl)); (case hp => exact (Reps.c2 (show Kd.M k37 _ _ _ (⟨t256, t256⟩ : S37) [.int .i32 t256, .int .i32 t256] from (k37_mkM _ _ _ (⟨t256, t256⟩ : S37) )) (Reps.none _ _))); intro v263 w24 ho25 hb hg_ hnew_; clear hg_ hnew_; (first | rw [← Ny262.out] at ho25 | (simp only [Int.reduceToNat] at ho25; rw [← Ny262.out] at ho25)); have n0_ := Aside0.mk (Kd.R_lower ho25 (below_size (by repeat (first | (with_reducible first | exact HB.out | apply below_alloc | apply pw_below_drewN | apply below_drew1) | exact HB.out)))); have n1_ := Aside0.mk (below_step (by repeat (first | (with_reducible first | exact HB.out | apply below_alloc | apply pw_below_drewN | apply below_drew1) | exact HB.out)) hb); clear HB; have HO264 := n0_; have HB := n1_; clear n0_ n1_; clear hb ho25; obtain ⟨Ao26, co26, eo26⟩ := Kd.R_slice HO264.out; subst eo26) | ((with_reducible refine gate_callee (f := 30) rfl ?_); refine goesL_ (some 39) rfl rfl Try.func30 (by kernel_rfl) rfl #[.slice A0 l0.length c0, .slice Ao26 y262.length co26] rfl (by (try simp only [List.map_toArray, List.map_cons, List.map_nil]); first | done | rfl | (simp only [List.length_drop, List.length_take]; rfl)) ?_; (with_reducible refine (uniset_Minus.calls k _ _ l0 _ _ y262 t265 _ ?side1 ?side2 ?side3 ?side4 A9.out).mono ?_); (case side1 => repeat (first | exact (Kd.C_below HR0.out HB.out) | (with_reducible refine Kd.C_alloc ?_ _) | (with_reducible refine Kd.C_drewN ?_ _) | (with_reducible refine Kd.C_drew ?_))); (case side2 => exact HC0.out); (case side3 => repeat (first | exact (Kd.R_reads' HO264.out).2.2 | (with_reducible refine Kd.C_alloc ?_ _) | (with_reducible refine Kd.C_drewN ?_ _) | (with_reducible refine Kd.C_drew ?_))); (case side4 => exact (Kd.R_reads' HO264.out).2.1); rintro e w27 ⟨v266, rfl, ho0, hb⟩; refine ⟨_, rfl, ?_⟩; have n0_ := Aside0.mk (Kd.R_elder' (by (with_reducible repeat (first | apply Kd.R_alloc | apply Kd.R_drewN | apply Kd.R_drew)); exact HO264.out) (Kd.R_base ho0) hb); have n1_ := Aside0.mk (Kd.R_lower (Kd.R_new' ho0 (Kd.R_lt (by (with_reducible repeat (first | apply Kd.R_alloc | apply Kd.R_drewN | apply Kd.R_drew)); exact HO264.out))) (below_size (by repeat (first | (with_reducible first | exact HB.out | apply below_alloc | apply pw_below_drewN | apply below_drew1) | exact HB.out)))); have n2_ := Aside0.mk (below_step (by repeat (first | (with_reducible first | exact HB.out | apply below_alloc | apply pw_below_drewN | apply below_drew1) | exact HB.out)) hb); clear HO264; clear HB; have HO264 := n0_; have HO267 := n1_; have HB := n2_; clear n0_ n1_ n2_; (try clear hb); (try clear hb2); (try clear hk); (try clear hi); (try clear ho0)) | ((with_reducible refine gate_dst (N := 43) rfl ?_); (try (refine gate_guard (by rfl) ?_; dsimp only)); refine Kd.R_lit k37 _ 37 ?hg (N := 43) ?hd (xs := ([(⟨0, t256⟩ : S37)] : List (S37))) (inner := [.int .i32 0, .int .i32 t256]) (ok := fun _ => True) (okp := fun _ => True) ?hr ?hp (fun _ hk => hk) trivial (Below.refl _ _) (Nat.le_refl _) (by simp) ?_; (case hd => rfl); (case hg => rfl); (case hr => first | (go_simp; done) | (go_simp; rfl)); (case hp => exact (Reps.c2 (show Kd.M k37 _ _ _ (⟨0, t256⟩ : S37) [.int .i32 0, .int .i32 t256] from (k37_mkM _ _ _ (⟨0, t256⟩ : S37) )) (Reps.none _ _))); intro v269 w28 ho29 hb hg_ hnew_; clear hg_ hnew_; (first | rw [← Ny268.out] at ho29 | (simp only [Int.reduceToNat] at ho29; rw [← Ny268.out] at ho29)); have n0_ := Aside0.mk (Kd.R_elder' (by (with_reducible repeat (first | apply Kd.R_alloc | apply Kd.R_drewN | apply Kd.R_drew)); exact HO264.out) (Kd.R_base ho29) hb); have n1_ := Aside0.mk (Kd.R_elder' (by (with_reducible repeat (first | apply Kd.R_alloc | apply Kd.R_drewN | apply Kd.R_drew)); exact HO267.out) (Kd.R_base ho29) hb); have n2_ := Aside0.mk (Kd.R_lower (Kd.R_new' (Kd.R_new' ho29 (Kd.R_lt (by (with_reducible repeat (first | apply Kd.R_alloc | apply Kd.R_drewN | apply Kd.R_drew)); exact HO264.out))) (Kd.R_lt (by (with_reducible repeat (first | apply Kd.R_alloc | apply Kd.R_drewN | apply Kd.R_drew)); exact HO267.out))) (below_size (by repeat (first | (with_reducible first | exact HB.out | apply below_alloc | apply pw_below_drewN | apply below_drew1) | exact HB.out)))); have n3_ := Aside0.mk (below_step (by repeat (first | (with_reducible first | exact HB.out | apply below_alloc | apply pw_below_drewN | apply below_drew1) | exact HB.out)) hb); clear HO264; clear HO267; clear HB; have HO264 := n0_; have HO267 := n1_; have HO270 := n2_; have HB := n3_; clear n0_ n1_ n2_ n3_; clear hb ho29; obtain ⟨Ao30, co30, eo30⟩ := Kd.R_slice HO270.out; subst eo30) | ((with_reducible refine gate_callee (f := 26) rfl ?_); refine goesL_ (some 44) rfl rfl Try.func26 (by kernel_rfl) rfl #[.slice A0 l0.length c0, .slice Ao30 y268.length co30] rfl (by (try simp only [List.map_toArray, List.map_cons, List.map_nil]); first | done | rfl | (simp only [List.length_drop, List.length_take]; rfl)) ?_; (with_reducible refine (uniset_Inter.calls k _ _ l0 _ _ y268 t271 _ ?side1 ?side2 ?side3 ?side4 A10.out).mono ?_); (case side1 => repeat (first | exact (Kd.C_below HR0.out HB.out) | (with_reducible refine Kd.C_alloc ?_ _) | (with_reducible refine Kd.C_drewN ?_ _) | (with_reducible refine Kd.C_drew ?_))); (case side2 => exact HC0.out); (case side3 => repeat (first | exact (Kd.R_reads' HO270.out).2.2 | (with_reducible refine Kd.C_alloc ?_ _) | (with_reducible refine Kd.C_drewN ?_ _) | (with_reducible refine Kd.C_drew ?_))); (case side4 => exact (Kd.R_reads' HO270.out).2.1); rintro e w31 ⟨v272, rfl, ho0, hb⟩; refine ⟨_, rfl, ?_⟩; have n0_ := Aside0.mk (Kd.R_elder' (by (with_reducible repeat (first | apply Kd.R_alloc | apply Kd.R_drewN | apply Kd.R_drew)); exact HO264.out) (Kd.R_base ho0) hb); have n1_ := Aside0.mk (Kd.R_elder' (by (with_reducible repeat (first | apply Kd.R_alloc | apply Kd.R_drewN | apply Kd.R_drew)); exact HO267.out) (Kd.R_base ho0) hb); have n2_ := Aside0.mk (Kd.R_elder' (by (with_reducible repeat (first | apply Kd.R_alloc | apply Kd.R_drewN | apply Kd.R_drew)); exact HO270.out) (Kd.R_base ho0) hb); have n3_ := Aside0.mk (Kd.R_lower (Kd.R_new' (Kd.R_new' (Kd.R_new' ho0 (Kd.R_lt (by (with_reducible repeat (first | apply Kd.R_alloc | apply Kd.R_drewN | apply Kd.R_drew)); exact HO264.out))) (Kd.R_lt (by (with_reducible repeat (first | apply Kd.R_alloc | apply Kd.R_drewN | apply Kd.R_drew)); exact HO267.out))) (Kd.R_lt (by (with_reducible repeat (first | apply Kd.R_alloc | apply Kd.R_drewN | apply Kd.R_drew)); exact HO270.out))) (below_size (by repeat (first | (with_reducible first | exact HB.out | apply below_alloc | apply pw_below_drewN | apply below_drew1) | exact HB.out)))); have n4_ := Aside0.mk (below_step (by repeat (first | (with_reducible first | exact HB.out | apply below_alloc | apply pw_below_drewN | apply below_drew1) | exact HB.out)) hb); clear HO264; clear HO267; clear HO270; clear HB; have HO264 := n0_; have HO267 := n1_; have HO270 := n2_; have HO273 := n3_; have HB := n4_; clear n0_ n1_ n2_ n3_ n4_; (try clear hb); (try clear hb2); (try clear hk); (try clear hi); (try clear ho0)) | ((with_reducible refine gate_callee (f := 21) rfl ?_); refine goesL_ (some 47) rfl rfl Try.func21 (by kernel_rfl) rfl #[.slice A0 l0.length c0, .int .i32 t256] rfl (by (try simp only [List.map_toArray, List.map_cons, List.map_nil]); first | done | rfl | (simp only [List.length_drop, List.length_take]; rfl)) ?_; (with_reducible refine (uniset_Has.calls _ _ l0 t256 true _ ?side1 ?side2 A11.out).mono ?_); (case side1 => repeat (first | exact (Kd.C_below HR0.out HB.out) | (with_reducible refine Kd.C_alloc ?_ _) | (with_reducible refine Kd.C_drewN ?_ _) | (with_reducible refine Kd.C_drew ?_))); (case side2 => exact HC0.out); rintro e w32 ⟨rfl, hb⟩; refine ⟨_, rfl, ?_⟩; have n0_ := Aside0.mk (Kd.R_below (by (with_reducible repeat (first | apply Kd.R_alloc | apply Kd.R_drewN | apply Kd.R_drew)); exact HO264.out) hb); have n1_ := Aside0.mk (Kd.R_below (by (with_reducible repeat (first | apply Kd.R_alloc | apply Kd.R_drewN | apply Kd.R_drew)); exact HO267.out) hb); have n2_ := Aside0.mk (Kd.R_below (by (with_reducible repeat (first | apply Kd.R_alloc | apply Kd.R_drewN | apply Kd.R_drew)); exact HO270.out) hb); have n3_ := Aside0.mk (Kd.R_below (by (with_reducible repeat (first | apply Kd.R_alloc | apply Kd.R_drewN | apply Kd.R_drew)); exact HO273.out) hb); have n4_ := Aside0.mk (below_step (by repeat (first | (with_reducible first | exact HB.out | apply below_alloc | apply pw_below_drewN | apply below_drew1) | exact HB.out)) hb); clear HO264; clear HO267; clear HO270; clear HO273; clear HB; have HO264 := n0_; have HO267 := n1_; have HO270 := n2_; have HO273 := n3_; have HB := n4_; clear n0_ n1_ n2_ n3_ n4_; (try clear hb); (try clear hb2); (try clear hk); (try clear hi); obtain ⟨Ao33, co33, eo33⟩ := Kd.R_slice HO273.out; subst eo33; have p275 : 0 ≤ (0 : Int) := (by omega); have q275 : 0 < (t271.length : Int) := of_decide_eq_true (by first | (with_reducible assumption) | assumption); obtain ⟨ad275, e275, hx275_0, hx275_1⟩ := at_T37 (Kd.R_reads' HO273.out).2.2 0 p275 q275; cases e275; have qi275 : (0 < t271.length) = True := eq_true (by omega); (try rw [show ((0 : Int)).toNat = 0 from rfl] at hx275_0); (try rw [show 0 * 2 = 0 from rfl] at hx275_0); (try rw [Addr.add_zero'] at hx275_0); (try rw [show ((0 : Int)).toNat = 0 from rfl] at hx275_1); (try rw [show 0 * 2 = 0 from rfl] at hx275_1); (try rw [Addr.add_zero'] at hx275_1); replace p275 := eq_true p275; replace q275 := eq_true q275; obtain ⟨Ao34, co34, eo34⟩ := Kd.R_slice HO267.out; subst eo34) | (go_at_call 22; (with_reducible refine (uniset_Count.calls k _ _ t265 t276 _ ?side1 ?side2 A16.out).mono ?_); (case side1 => repeat (first | exact (Kd.R_reads' HO267.out).2.2 | (with_reducible refine Kd.C_alloc ?_ _) | (with_reducible refine Kd.C_drewN ?_ _) | (with_reducible refine Kd.C_drew ?_))); (case side2 => exact (Kd.R_reads' HO267.out).2.1); rintro e w35 ⟨rfl, hb⟩; have n0_ := Aside0.mk (Kd.R_below (by (with_reducible repeat (first | apply Kd.R_alloc | apply Kd.R_drewN | apply Kd.R_drew)); exact HO264.out) hb); have n1_ := Aside0.mk (Kd.R_below (by (with_reducible repeat (first | apply Kd.R_alloc | apply Kd.R_drewN | apply Kd.R_drew)); exact HO267.out) hb); have n2_ := Aside0.mk (Kd.R_below (by (with_reducible repeat (first | apply Kd.R_alloc | apply Kd.R_drewN | apply Kd.R_drew)); exact HO270.out) hb); have n3_ := Aside0.mk (Kd.R_below (by (with_reducible repeat (first | apply Kd.R_alloc | apply Kd.R_drewN | apply Kd.R_drew)); exact HO273.out) hb); have n4_ := Aside0.mk (below_step (by repeat (first | (with_reducible first | exact HB.out | apply below_alloc | apply pw_below_drewN | apply below_drew1) | exact HB.out)) hb); clear HO264; clear HO267; clear HO270; clear HO273; clear HB; have HO264 := n0_; have HO267 := n1_; have HO270 := n2_; have HO273 := n3_; have HB := n4_; clear n0_ n1_ n2_ n3_ n4_; (try clear hb); (try clear hb2); (try clear hk); (try clear hi)) | (go_at_call 23; (with_reducible refine (uniset_Is.calls k _ _ t265 true _ ?side1 ?side2 A18.out).mono ?_); (case side1 => repeat (first | exact (Kd.R_reads' HO267.out).2.2 | (with_reducible refine Kd.C_alloc ?_ _) | (with_reducible refine Kd.C_drewN ?_ _) | (with_reducible refine Kd.C_drew ?_))); (case side2 => exact (Kd.R_reads' HO267.out).2.1); rintro e w36 ⟨rfl, hb⟩; have n0_ := Aside0.mk (Kd.R_below (by (with_reducible repeat (first | apply Kd.R_alloc | apply Kd.R_drewN | apply Kd.R_drew)); exact HO264.out) hb); have n1_ := Aside0.mk (Kd.R_below (by (with_reducible repeat (first | apply Kd.R_alloc | apply Kd.R_drewN | apply Kd.R_drew)); exact HO267.out) hb); have n2_ := Aside0.mk (Kd.R_below (by (with_reducible repeat (first | apply Kd.R_alloc | apply Kd.R_drewN | apply Kd.R_drew)); exact HO270.out) hb); have n3_ := Aside0.mk (Kd.R_below (by (with_reducible repeat (first | apply Kd.R_alloc | apply Kd.R_drewN | apply Kd.R_drew)); exact HO273.out) hb); have n4_ := Aside0.mk (below_step (by repeat (first | (with_reducible first | exact HB.out | apply below_alloc | apply pw_below_drewN | apply below_drew1) | exact HB.out)) hb); clear HO264; clear HO267; clear HO270; clear HO273; clear HB; have HO264 := n0_; have HO267 := n1_; have HO270 := n2_; have HO273 := n3_; have HB := n4_; clear n0_ n1_ n2_ n3_ n4_; (try clear hb); (try clear hb2); (try clear hk); (try clear hi)) | (go_at_call 21; (with_reducible refine (uniset_Has.calls _ _ t265 t256 t278 _ ?side1 ?side2 A20.out).mono ?_); (case side1 => repeat (first | exact (Kd.R_reads' HO267.out).2.2 | (with_reducible refine Kd.C_alloc ?_ _) | (with_reducible refine Kd.C_drewN ?_ _) | (with_reducible refine Kd.C_drew ?_))); (case side2 => exact (Kd.R_reads' HO267.out).2.1); rintro e w37 ⟨rfl, hb⟩; have n0_ := Aside0.mk (Kd.R_below (by (with_reducible repeat (first | apply Kd.R_alloc | apply Kd.R_drewN | apply Kd.R_drew)); exact HO264.out) hb); have n1_ := Aside0.mk (Kd.R_below (by (with_reducible repeat (first | apply Kd.R_alloc | apply Kd.R_drewN | apply Kd.R_drew)); exact HO267.out) hb); have n2_ := Aside0.mk (Kd.R_below (by (with_reducible repeat (first | apply Kd.R_alloc | apply Kd.R_drewN | apply Kd.R_drew)); exact HO270.out) hb); have n3_ := Aside0.mk (Kd.R_below (by (with_reducible repeat (first | apply Kd.R_alloc | apply Kd.R_drewN | apply Kd.R_drew)); exact HO273.out) hb); have n4_ := Aside0.mk (below_step (by repeat (first | (with_reducible first | exact HB.out | apply below_alloc | apply pw_below_drewN | apply below_drew1) | exact HB.out)) hb); clear HO264; clear HO267; clear HO270; clear HO273; clear HB; have HO264 := n0_; have HO267 := n1_; have HO270 := n2_; have HO273 := n3_; have HB := n4_; clear n0_ n1_ n2_ n3_ n4_; (try clear hb); (try clear hb2); (try clear hk); (try clear hi)))
                    go_ret
                    exact ⟨by first | rfl | (simp [errW_none, errW_some] <;> rfl) | (simp [*, errW_none, errW_some] <;> rfl), by repeat (first | (with_reducible first | exact HB.out | apply below_alloc | apply pw_below_drewN | apply below_drew1) | exact HB.out)⟩
                  · replace c19 := Bool.eq_false_iff.mpr c19
                    subst c19
                    have H1 : (none) = some r := by rw [if_neg (show ¬ (false = true) by decide)] at H; exact H
                    clear H
                    have H := H1
                    clear H1
                    exact absurd H (by simp)
                · rw [if_neg c17] at H
                  exact absurd H (by simp)
              · rw [if_neg c15] at H
                exact absurd H (by simp)
            · rw [if_neg c14] at H
              exact absurd H (by simp)
          · rw [if_neg c13] at H
            exact absurd H (by simp)
        · replace c12 := Bool.eq_false_iff.mpr c12
          subst c12
          have H1 : (none) = some r := by rw [if_neg (show ¬ (false = true) by decide)] at H; exact H
          clear H
          have H := H1
          clear H1
          exact absurd H (by simp)
      · replace c8 := Bool.eq_false_iff.mpr c8
        subst c8
        have H1 : (if t258 = 0 then (if t256 = 0 then ((uniset_Union.f l0 ([] : List (S37))).bind fun t259 => (some ((t259.length : Int) == 0))) else (none)) else (none)) = some r := by rw [if_neg (show ¬ (false = true) by decide)] at H; exact H
        clear H
        have H := H1
        clear H1
        by_cases c38 : t258 = 0
        · rw [if_pos c38] at H
          have c38b0 : (t258 == 0) = true := beq_iff_eq.mpr c38
          have c38b1 : (t258 != 0) = false := bne_eq_false_iff_eq.mpr c38
          clear c38
          by_cases c39 : t256 = 0
          · rw [if_pos c39] at H
            have c39b0 : (t256 == 0) = true := beq_iff_eq.mpr c39
            have c39b1 : (t256 != 0) = false := bne_eq_false_iff_eq.mpr c39
            clear c39
            replace H := Option.bind_eq_some_iff.mp H
            obtain ⟨t259, A400, H⟩ := H
            replace H : (some ((t259.length : Int) == 0)) = some r := H
            have A40 := Aside0.mk A400
            clear A400
            obtain rfl := Option.some.inj H
            go_enter Try.func9, Try.ntmps9
            go_wp2_with (first | ((with_reducible refine gate_callee (f := 19) rfl ?_); refine goesL_ (some 8) rfl rfl Try.func19 (by kernel_rfl) rfl #[] rfl (by (try simp only [List.map_toArray, List.map_cons, List.map_nil]); first | done | rfl | (simp only [List.length_drop, List.length_take]; rfl)) ?_; (with_reducible refine (hornbooklaw3_known.calls k  true _ A2.out).mono ?_); rintro e w41 ⟨rfl, hb⟩; refine ⟨_, rfl, ?_⟩; have n0_ := Aside0.mk (below_step (by repeat (first | (with_reducible first | exact HB.out | apply below_alloc | apply pw_below_drewN | apply below_drew1) | exact HB.out)) hb); clear HB; have HB := n0_; clear n0_; (try clear hb); (try clear hb2); (try clear hk); (try clear hi)) | ((with_reducible refine gate_callee (f := 31) rfl ?_); refine goesL_ (some 15) rfl rfl Try.func31 (by kernel_rfl) rfl #[.slice A0 l0.length c0] rfl (by (try simp only [List.map_toArray, List.map_cons, List.map_nil]); first | done | rfl | (simp only [List.length_drop, List.length_take]; rfl)) ?_; (with_reducible refine (uniset_Least.calls _ _ l0 t256 false _ ?side1 ?side2 A6.out).mono ?_); (case side1 => repeat (first | exact (Kd.C_below HR0.out HB.out) | (with_reducible refine Kd.C_alloc ?_ _) | (with_reducible refine Kd.C_drewN ?_ _) | (with_reducible refine Kd.C_drew ?_))); (case side2 => exact HC0.out); rintro e w42 ⟨rfl, hb⟩; refine ⟨_, rfl, ?_⟩; have n0_ := Aside0.mk (below_step (by repeat (first | (with_reducible first | exact HB.out | apply below_alloc | apply pw_below_drewN | apply below_drew1) | exact HB.out)) hb); clear HB; have HB := n0_; clear n0_; (try clear hb); (try clear hb2); (try clear hk); (try clear hi)) | ((with_reducible refine gate_callee (f := 22) rfl ?_); refine goesL_ (some 19) rfl rfl Try.func22 (by kernel_rfl) rfl #[.slice A0 l0.length c0] rfl (by (try simp only [List.map_toArray, List.map_cons, List.map_nil]); first | done | rfl | (simp only [List.length_drop, List.length_take]; rfl)) ?_; (with_reducible refine (uniset_Count.calls k _ _ l0 t258 _ ?side1 ?side2 A7.out).mono ?_); (case side1 => repeat (first | exact (Kd.C_below HR0.out HB.out) | (with_reducible refine Kd.C_alloc ?_ _) | (with_reducible refine Kd.C_drewN ?_ _) | (with_reducible refine Kd.C_drew ?_))); (case side2 => exact HC0.out); rintro e w43 ⟨rfl, hb⟩; refine ⟨_, rfl, ?_⟩; have n0_ := Aside0.mk (below_step (by repeat (first | (with_reducible first | exact HB.out | apply below_alloc | apply pw_below_drewN | apply below_drew1) | exact HB.out)) hb); clear HB; have HB := n0_; clear n0_; (try clear hb); (try clear hb2); (try clear hk); (try clear hi)) | (go_at_call 24; (refine (uniset_Union.calls _ _ l0 _ _ ([] : List (S37)) t259 _ ?side1 ?side2 ?side3 ?side4 A40.out).mono ?_); (case side1 => repeat (first | exact (Kd.C_below HR0.out HB.out) | (with_reducible refine Kd.C_alloc ?_ _) | (with_reducible refine Kd.C_drewN ?_ _) | (with_reducible refine Kd.C_drew ?_))); (case side2 => exact HC0.out); (case side3 => exact Kd.C_nil _ _); (case side4 => exact Nat.le_refl _); rintro e w44 ⟨v260, rfl, ho0, hb⟩; have n0_ := Aside0.mk (Kd.R_lower ho0 (below_size (by repeat (first | (with_reducible first | exact HB.out | apply below_alloc | apply pw_below_drewN | apply below_drew1) | exact HB.out)))); have n1_ := Aside0.mk (below_step (by repeat (first | (with_reducible first | exact HB.out | apply below_alloc | apply pw_below_drewN | apply below_drew1) | exact HB.out)) hb); clear HB; have HO261 := n0_; have HB := n1_; clear n0_ n1_; (try clear hb); (try clear hb2); (try clear hk); (try clear hi); (try clear ho0); obtain ⟨Ao45, co45, eo45⟩ := Kd.R_slice HO261.out; subst eo45))
            go_ret
            exact ⟨by first | rfl | (simp [errW_none, errW_some] <;> rfl) | (simp [*, errW_none, errW_some] <;> rfl), by repeat (first | (with_reducible first | exact HB.out | apply below_alloc | apply pw_below_drewN | apply below_drew1) | exact HB.out)⟩
          · rw [if_neg c39] at H
            exact absurd H (by simp)
        · rw [if_neg c38] at H
          exact absurd H (by simp)
  · replace c3 := Bool.eq_false_iff.mpr c3
    subst c3
    have H1 : (none) = some r := by rw [if_neg (show ¬ (false = true) by decide)] at H; exact H
    clear H
    have H := H1
    clear H1
    exact absurd H (by simp)

end Go.Proofs.Yteaadpgammbdgaa.PA
