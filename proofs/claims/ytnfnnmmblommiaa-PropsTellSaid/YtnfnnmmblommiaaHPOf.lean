/- props.Of: by hand: the names of those that have a code point. -/
import Derived.Test.YtnfnnmmblommiaaNamed
import Derived.Test.YtnfnnmmblommiaaHHas
namespace Go.Proofs.Ytnfnnmmblommiaa.PA
open Go.RowKit Go.Shelf Go.Proofs.YtnfnnmmblommiaaW.PrintWords Go.Proofs.YtnfnnmmblommiaaW.PrintLast Go.Proofs.YtnfnnmmblommiaaW.PrintMore
attribute [local go_sem] Oper.semAt_some
set_option linter.unusedVariables false
set_option linter.unusedSimpArgs false

def hasName (r : Int) (s : ByteArray) : Bool := hasL (namedL s.toList) r
set_option maxRecDepth 100000 in
set_option maxHeartbeats 4000000 in
theorem of_in (n : Nat) (hn : 3 ≤ n) (r0 : Int) (w : World) :
    CallsIn Fence.wide n Try.prog 18 #[.int .i32 r0] w fun e w' => ∃ v0_ : Value, e = .returned v0_ ∧ Kd.R Kd.string 9 w' w.heap.size (fun _ => True) v0_ (namesL.filter (hasName r0)) ∧ Below w.heap.size w w' := by
  have h1 : 1 ≤ n := by omega
  refine callsIn_of_wp_marks Try.func18 rfl trivial ?_ rfl
  simp only [Try.ntmps18, List.size_toArray, List.length_cons, List.length_nil, Nat.reduceAdd, Nat.reduceSub, Array.replicate_succ, Array.replicate_zero, List.push_toArray, List.append_toArray, List.nil_append, List.cons_append]
  have hnc := fun W => callsIn_wide (n := n - 1) |>.2 (names_calls W)
  gi_wp2_with (refine ⟨trivial, ?_⟩; gi_at_call 36; refine (hnc _).mono ?_; rintro e w2 ⟨rfl, e20⟩; have E2 := Lib.hid e20; clear e20)
  have e2 := E2.out
  clear E2
  obtain ⟨wa, hwa⟩ : ∃ wa, (w.alloc (.cells #[.int .i32 r0] 21)).alloc (.cells #[.slice none 0 0] 23) = wa := ⟨_, rfl⟩
  rw [hwa] at e2
  have hsa : wa.heap.size = w.heap.size + 1 + 1 := by rw [← hwa]; simp
  have hSrc : SrcTx w2 (w.heap.size + 1 + 1 + 1) (w.heap.size + 1 + 1) 0 11 namesL := by rw [← hsa, e2]; exact names_src wa
  have hs2 : w2.heap.size = wa.heap.size + 2 := by rw [e2]; simp
  have hBa : Below w.heap.size w wa := by rw [← hwa]; exact ((Below.refl _ w).alloc (Nat.le_refl _) _).alloc (by simp) _
  have hB0 : Below w.heap.size w w2 := by rw [e2]; exact (hBa.alloc (by omega) _).alloc (by simp; omega) _
  have bO2 : Boxed w2 (w.heap.size + 1) 23 (.slice none 0 0) := by
    have b0 : Boxed wa (w.heap.size + 1) 23 (.slice none 0 0) := by
      rw [← hwa]; have := heap_alloc_new (w.alloc (.cells #[.int .i32 r0] 21)) (.cells #[.slice none 0 0] 23); rw [World.size_alloc] at this; exact this
    rw [e2]; exact (b0.alloc _).alloc _
  have cR2 : w2.cell? ⟨w.heap.size, 0, none⟩ = some (.int .i32 r0) := by
    have c0 : wa.cell? ⟨w.heap.size, 0, none⟩ = some (.int .i32 r0) := by rw [← hwa]; exact cell_old _ (cell_new 0 rfl)
    rw [e2]; exact cell_old _ (cell_old _ c0)
  have hS : ∀ b, ofTx (w.heap.size + 1 + 1 + 1) (w.heap.size + 1 + 1) b → b ≠ w.heap.size + 1 ∧ w.heap.size < b ∧ b < w2.heap.size := by
    intro b hb
    rcases hb with rfl | rfl <;> omega
  clear e2 hwa
  refine wpIn_rangeFunc_ownH rfl h1 (gf := 67) (lb := #[.pointer (some ⟨w.heap.size + 1 + 1 + 1, 0, none⟩)]) rfl trivial (enters_of Try.func67 (by kernel_rfl) rfl)
    (values_stops (n - 1) (by omega) (w.heap.size + 1 + 1 + 1) (w.heap.size + 1 + 1) 0 11 namesL (by decide) w2 hSrc) (fun h k => KeepsOf.trans h k) (keepsOf_b (fun b hb => (hS b hb).2.2)) (Below.refl _ _) (fun _ => rfl)
    (fun pre W => ∃ v, Boxed W (w.heap.size + 1) 23 v ∧ Kd.R Kd.string 9 W w2.heap.size (fun _ => True) v (pre.filter (hasName r0)) ∧ Below w.heap.size w W ∧ w2.heap.size ≤ W.heap.size ∧ W.cell? ⟨w.heap.size, 0, none⟩ = some (.int .i32 r0))
    (fun _ _ _ => False)
    (ownFrom_meek fun pre W W' ⟨v, h1, h2, h3, h4, h5⟩ hm => ⟨v, hm.boxed h1, hm.R h2, hm.below h3 (Nat.le_refl _) (by omega), Nat.le_trans h4 hm.size, hm.cell h5⟩)
    (fun _ _ _ _ _ hs _ _ => hs)
    ⟨.slice none 0 0, bO2, Kd.R_nil _ _ _ _ _, hB0, Nat.le_refl _, cR2⟩
    (fun x a' W => a' = { tmps := #[.int .i32 r0, .pointer (some ⟨w.heap.size, 0, none⟩), .slice none 0 0, .pointer (some ⟨w.heap.size + 1, 0, none⟩), .string x, .func (.func 67) #[] #[.pointer (some ⟨w.heap.size + 1 + 1 + 1, 0, none⟩)], .string x, undef, undef, undef, undef, undef, undef, undef, undef, undef], defers := [] })
    (fun x a' => ownFrom_meek fun _ W W' e hm => e)
    ?assign ?body ?done ?stop
  case assign =>
    rintro l pre x W K hI hK
    gi_wp2
    exact hK _ _ (KeepsOthers.refl _ |>.from _) (KeepsOf.refl _ _) hI rfl
  case body =>
    rintro l pre x a' W hl ⟨r, hr⟩ ⟨v, hv, hR, hB, hle, hcr⟩ rfl hlt
    have hlen : pre.length < 11 := hlt
    have hlenf : (pre.filter (hasName r0)).length ≤ pre.length := List.length_filter_le _ _
    obtain ⟨k, hk⟩ := (named_ev x).get
    have hfil : (pre ++ [x]).filter (hasName r0) = pre.filter (hasName r0) ++ (if hasL (namedL x.toList) r0 = true then [x] else []) := by
      rw [List.filter_append]; congr 1; simp [List.filter, hasName]; split <;> simp_all
    generalize namedL x.toList = lx at hk hfil
    have hc := hv.cell
    have HN := Lib.hid (fun W => callsIn_wide (n := n - 1 - 1 - 1) |>.2 (props_named.calls k x lx W hk))
    have HH := Lib.hid (fun W A c hr hc0 => callsIn_wide (n := n - 1 - 1 - 1) |>.2 (uniset_Has.calls A c lx r0 (hasL lx r0) W hr hc0 rfl))
    have HV := Lib.hid hv
    have HRR := Lib.hid hR
    have HB := Lib.hid hB
    have HF := Lib.hid hfil
    have HLE := Lib.hid hle
    have hlW : l < W.heap.size := (Array.getElem?_eq_some_iff.1 hr).1
    have HS := Lib.hid hS
    clear hv hR hB hr hS hk hfil
    have HC0 := Lib.hid hc
    clear hc
    have hcrd : W.drew.cell? ⟨w.heap.size, 0, none⟩ = some (.int .i32 r0) := by first | exact hcr | (simpa using hcr)
    have arm1 : ∀ w1, Below W.heap.size W w1 → w1.cell? ⟨w.heap.size, 0, none⟩ = some (.int .i32 r0) := fun w1 hb => cell_b hb hcr
    clear hcr
    have hd : 1 ≤ n - 1 - 1 := by omega
    have hmx : Try.prog.follows .mixedOrders = true := by kernel_rfl
    have hf37 : Fence.wide.fn 37 := trivial
    have hf20 : Fence.wide.fn 20 := trivial
    generalize hasL lx r0 = bq at HH HF
    cases bq
    · gi_wp2
      gi_region_with_o (first | (gi_at_call 37; refine ((HN.out _).inRound l).mono ?_; rintro e w1 ⟨v1, rfl, hR1, hB1⟩; have hB1' : Below W.heap.size W w1 := (by first | exact hB1 | exact below_t (below_d (Below.refl _ _) _) hB1 | exact below_t (below_drew1 (Below.refl _ _)) hB1); obtain ⟨A, c, rfl, hlc, hC⟩ := Kd.R_reads hR1; have hc1 := arm1 _ hB1'; have K1 := Lib.hid hC; have K2 := Lib.hid hlc; have K3 := Lib.hid hB1'; clear hC hlc hB1 hB1' hR1) | (gi_at_call 20; refine ((HH.out _ _ _ (by first | exact K1.out | exact Kd.C_drewN K1.out _ | exact Kd.C_drew K1.out) K2.out).inRound l).mono ?_; rintro e w3 ⟨rfl, hB3⟩; have K4 := Lib.hid (show Below W.heap.size W w3 from by first | exact below_t K3.out hB3 | exact below_t (below_d K3.out _) hB3 | exact below_t (below_drew1 K3.out) hB3); have hc3 := arm1 _ K4.out; clear hB3))
      all_goals gi_wp2
      all_goals (
        have hb3 := K4.out
        refine ⟨KeepsFrom.of_grownBy (row := none) ⟨hb3.os, hb3.tape, hb3.output, hb3.size, fun k hk _ => hb3.block k hk⟩ (fun j hj => by cases hj), KeepsOf.of_below hb3 (fun b hb => Nat.lt_of_lt_of_le (HS.out b hb).2.2 hle), v, (hb3.block _ (Nat.lt_of_lt_of_le (by omega) hle)).trans HV.out, ?_, HB.out.trans (hb3.mono HB.out.size), Nat.le_trans hle hb3.size, hc3⟩
        rw [HF.out, if_neg (by decide), List.append_nil]
        exact Kd.R_below HRR.out hb3)
    · gi_wp2
      gi_region_with_o (first | (gi_at_call 37; refine ((HN.out _).inRound l).mono ?_; rintro e w1 ⟨v1, rfl, hR1, hB1⟩; have hB1' : Below W.heap.size W w1 := (by first | exact hB1 | exact below_t (below_d (Below.refl _ _) _) hB1 | exact below_t (below_drew1 (Below.refl _ _)) hB1); obtain ⟨A, c, rfl, hlc, hC⟩ := Kd.R_reads hR1; have hc1 := arm1 _ hB1'; have K1 := Lib.hid hC; have K2 := Lib.hid hlc; have K3 := Lib.hid hB1'; clear hC hlc hB1 hB1' hR1) | (gi_at_call 20; refine ((HH.out _ _ _ (by first | exact K1.out | exact Kd.C_drewN K1.out _ | exact Kd.C_drew K1.out) K2.out).inRound l).mono ?_; rintro e w3 ⟨rfl, hB3⟩; have K4 := Lib.hid (show Below W.heap.size W w3 from by first | exact below_t K3.out hB3 | exact below_t (below_d K3.out _) hB3 | exact below_t (below_drew1 K3.out) hB3); have hc3 := arm1 _ K4.out; clear hB3))
      all_goals (
        have hb3 := K4.out
        have hR3 := Lib.hid (Kd.R_below HRR.out hb3)
        have hV3 := Lib.hid (show Boxed _ (w.heap.size + 1) 23 v from (hb3.block _ (Nat.lt_of_lt_of_le (by omega) hle)).trans HV.out)
        have hcb := hV3.out.cell
        have hle3 : w2.heap.size ≤ _ := Nat.le_trans hle hb3.size
        have HLE3 := Lib.hid hle3
        have HB3 := Lib.hid hb3
        clear hb3
        gi_wp2_with (gi_at_builtin; go_loud (refine R_appendIn Kd.string w2.heap.size rfl (.tmp 11) (.tmp 13) 23 9 (.string ⟨#[]⟩) 16 rfl Try.underlying23 info9 rfl (by decide) (by omega) v (pre.filter (hasName r0)) x [.string x] (fun _ => True) (fun _ => False) rfl rfl rfl (fun _ hk => hk.elim) (fun _ _ => trivial) hR3.out hle3 (by omega) ?_); intro v1 w9 ho hg hat; obtain ⟨A1, c1, e1⟩ := Kd.R_slice ho; rw [show (pre.filter (hasName r0) ++ [x]).length = (pre.filter (hasName r0)).length + 1 by simp] at e1; subst e1; obtain ⟨q1, q2, q3, q4, q5, q6⟩ := collected (B := w2.heap.size) (S := ofTx (w.heap.size + 1 + 1 + 1) (w.heap.size + 1 + 1)) hV3.out hR3.out ho hg (by decide) (fun b hb => ⟨(HS.out b hb).2.2, Nat.lt_of_lt_of_le (HS.out b hb).2.2 hle3, (HS.out b hb).1⟩); have Q2 := Lib.hid q2; have Q3 := Lib.hid q3; have Q4 := Lib.hid q4; have Q5 := Lib.hid q5; have Q6 := Lib.hid q6; have hcq := q1.cell; have hfq := q1.frozen; clear q1 q2 q3 q4 q5 q6 ho hg hat)
        refine ⟨(KeepsFrom.of_grownBy (row := none) ⟨HB3.out.os, HB3.out.tape, HB3.out.output, HB3.out.size, fun k hk _ => HB3.out.block k hk⟩ (fun j hj => by cases hj)).trans Q4.out, (KeepsOf.of_below HB3.out (fun b hb => Nat.lt_of_lt_of_le (HS.out b hb).2.2 hle)).trans Q5.out, _, Q2.out, ?_, HB.out.trans ((HB3.out.mono HB.out.size).trans (Q6.out _ (by omega) (by omega) (Nat.le_trans HB.out.size HB3.out.size))), Nat.le_trans hle3 Q5.out.size, ?_⟩
        · rw [HF.out]; first | (rw [if_pos rfl]; exact Q3.out) | (rw [if_pos trivial]; exact Q3.out)
        · exact ((Q6.out (w.heap.size + 1) (by omega) (Nat.le_refl _) (by omega)).cell (p := ⟨w.heap.size, 0, none⟩) (Nat.lt_succ_self _)).trans hc3)
  case done =>
    rintro D ys W hD rfl ⟨v, hv, hR, hB, hle, hcr⟩ hK
    have hc := hv.cell
    gi_wp2
    refine ⟨by simp, .inl ⟨_, _, rfl, run_takeDeferred hK, ?_⟩⟩
    exact ⟨_, results_tmp rfl _ _ _, v, rfl, Kd.R_lower (Meek.R (meek_putObj _ hD hK rfl) hR) (by omega), hB.trans (belowK_b (w := w) (Nat.le_refl _) W D _ _ (by omega) hK rfl rfl)⟩
  case stop =>
    rintro D c pre W _ _ h _
    exact h.elim

def props_Of.f (a0 : Int) : Option (List ByteArray) := some (namesL.filter (hasName a0))
theorem props_Of.calls (a0 : Int) (r : List ByteArray) (w : World) (h : props_Of.f a0 = some r) :
    Calls Try.prog 18 #[.int .i32 a0] w fun e w' => ∃ v0_ : Value, e = .returned (v0_) ∧ Kd.R Kd.string 9 w' w.heap.size (fun _ => True) v0_ r ∧ Below w.heap.size w w' := by
  obtain rfl := Option.some.inj h
  exact callsIn_wide.1 (of_in 3 (by omega) a0 w)
end Go.Proofs.Ytnfnnmmblommiaa.PA
