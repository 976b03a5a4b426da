/- uniset.set: by hand: the canonical list. -/
import Derived.Test.YtnfnnmmblommiaaHJoined
import Derived.Test.YtnfnnmmblommiaaHSort
namespace Go.Proofs.Ytnfnnmmblommiaa.PA
open Go.RowKit Go.Shelf Go.Proofs.YtnfnnmmblommiaaW.PrintWords Go.Proofs.YtnfnnmmblommiaaW.PrintLast Go.Proofs.YtnfnnmmblommiaaW.PrintMore
attribute [local go_sem] Oper.semAt_some
set_option linter.unusedVariables false
set_option linter.unusedSimpArgs false

def toRgW (x : Sp) : Rg := ⟨x.f0, wrap32 (x.f1 - 1)⟩
theorem toRgW_eq {x : Sp} (h : okSp x) : toRgW x = toRg x := by
  unfold okSp at h
  unfold toRgW toRg
  congr 1
  unfold wrap32; omega
theorem joinW (l : List Rg) (d : List Sp) (hd : d.Perm (spans l)) (hs : d.Pairwise (fun x y => x.f0 ≤ y.f0)) : (joinL d).map toRgW = norm l := by
  rw [← join_norm l d hd hs]
  refine List.map_congr_left fun x hx => toRgW_eq ?_
  have hok : ∀ x ∈ d, okSp x := fun x hx => spans_ok (hd.mem_iff.1 hx)
  cases d with
  | nil => simp [joinL] at hx
  | cons s r => exact eat_ok r s (hok s (List.mem_cons_self ..)) (fun y hy => ⟨List.rel_of_pairwise_cons hs hy, hok y (List.mem_cons_of_mem _ hy)⟩) (List.Pairwise.of_cons hs) x hx

theorem joined_calls (A : Option Addr) (m c : Nat) (w : World) : Calls Try.prog 61 #[.slice A m c] w fun e w' => e = .returned (.func (.func 68) #[] #[.pointer (some ⟨w.heap.size, 0, none⟩)]) ∧ w' = w.alloc (.cells #[.slice A m c] 96) := by
  go_enter Try.func61, Try.ntmps61
  go_wp2
  go_ret
  exact ⟨rfl, rfl⟩

set_option maxRecDepth 100000 in
set_option maxHeartbeats 4000000 in
theorem set_in (n : Nat) (hn : 3 ≤ n) (A0 : Option Addr) (c0 : Nat) (l0 : List Rg) (w : World) (hr0 : Kd.C k41 w A0 l0.length l0) (hc0 : l0.length ≤ c0) (hlen : l0.length < 1099511627776) :
    CallsIn Fence.wide n Try.prog 48 #[.slice A0 l0.length c0] w fun e w' => ∃ v0_ : Value, e = .returned v0_ ∧ Kd.R k41 41 w' w.heap.size (fun _ => True) v0_ (norm l0) ∧ Below w.heap.size w w' := by
  have h1 : 1 ≤ n := by omega
  have hu := Try.underlying41
  have hu2 := Try.underlying99
  have HR := Lib.hid hr0
  have HC := Lib.hid hc0
  clear hr0 hc0
  refine callsIn_of_wp_marks Try.func48 rfl trivial ?_ rfl
  simp only [Try.ntmps48, List.size_toArray, List.length_cons, List.length_nil, Nat.reduceAdd, Nat.reduceSub, Array.replicate_succ, Array.replicate_zero, List.push_toArray, List.append_toArray, List.nil_append, List.cons_append]
  have hsc := fun W hr => callsIn_wide (n := n - 1) |>.2 (sorted_calls A0 c0 l0 W hr HC.out hlen)
  have hjc := fun A m c W => callsIn_wide (n := n - 1) |>.2 (joined_calls A m c W)
  gi_wp2_with (first | (refine ⟨trivial, ?_⟩; gi_at_call 62; refine (hsc _ (Kd.C_alloc HR.out _)).mono ?_; rintro e w1 ⟨v, d, rfl, hR, hB, hp, hs⟩; obtain ⟨A, c, rfl, hlc, hC⟩ := Kd.R_reads hR; have H1 := Lib.hid hR; have H2 := Lib.hid hB; have H3 := Lib.hid hp; have H4 := Lib.hid hs; have H5 := Lib.hid hC; clear hR hB hp hs hlc hC) | (refine ⟨trivial, ?_⟩; gi_at_call 61; refine (hjc _ _ _ _).mono ?_; rintro e w2 ⟨rfl, rfl⟩))
  rw [World.size_alloc] at H1
  have hS : ∀ b, ofSp w1.heap.size A b → b ≠ w.heap.size ∧ w.heap.size < b ∧ b < (w1.alloc (.cells #[.slice A d.length c] 96)).heap.size := by
    intro b hb
    have hsz := H2.out.size
    simp at hsz
    rcases hb with rfl | ⟨a, ha, rfl⟩
    · simp; omega
    · subst ha
      obtain ⟨inner, ho⟩ := Kd.R_own H1.out
      have h1 := own_base ho a.block rfl
      have h2 := own_lt ho a.block rfl
      simp; omega
  have bO : Boxed w1 w.heap.size 26 (.slice none 0 0) := (H2.out.block _ (by simp)).trans (heap_alloc_new w _)
  have hB0 : Below w.heap.size w (w1.alloc (.cells #[.slice A d.length c] 96)) := ((Below.refl _ w).alloc (Nat.le_refl _) _).trans ((H2.out.mono (by simp)).alloc (by have := H2.out.size; simp at this; omega) _)
  have hSrc : SrcSp (w1.alloc (.cells #[.slice A d.length c] 96)) w1.heap.size A c d := ⟨cell_new 0 rfl, Kd.C_alloc H5.out _⟩
  have hsz : w.heap.size < (w1.alloc (.cells #[.slice A d.length c] 96)).heap.size := by have := H2.out.size; simp at this; simp; omega
  obtain ⟨W0, hW0⟩ : ∃ W0, w1.alloc (.cells #[.slice A d.length c] 96) = W0 := ⟨_, rfl⟩
  have bO2 : Boxed W0 w.heap.size 26 (.slice none 0 0) := by rw [← hW0]; exact bO.alloc _
  rw [hW0] at hS hB0 hSrc hsz ⊢
  have hd : d.length < 1099511627776 := by
    have := H3.out.length_eq
    have := spans_length l0
    omega
  clear hW0 bO
  refine wpIn_rangeFunc_ownH rfl h1 (gf := 68) (lb := #[.pointer (some ⟨w1.heap.size, 0, none⟩)]) rfl trivial (enters_of Try.func68 (by kernel_rfl) rfl)
    (joined_stops (n - 1) (by omega) w1.heap.size A c d (by omega) W0 hSrc) (fun h k => KeepsOf.trans h k) (keepsOf_b (fun b hb => (hS b hb).2.2)) (Below.refl _ _) (fun _ => rfl)
    (fun pre W => ∃ v, Boxed W w.heap.size 26 v ∧ Kd.R k41 41 W W0.heap.size (fun _ => True) v (pre.map toRgW) ∧ Below w.heap.size w W ∧ W0.heap.size ≤ W.heap.size)
    (fun _ _ _ => False)
    (ownFrom_meek fun pre W W' ⟨v, h1, h2, h3, h4⟩ hm => ⟨v, hm.boxed h1, hm.R h2, hm.below h3 (Nat.le_refl _) (by omega), Nat.le_trans h4 hm.size⟩)
    (fun _ _ _ _ _ hs _ _ => hs)
    ⟨.slice none 0 0, bO2, Kd.R_nil _ _ _ _ _, hB0, Nat.le_refl _⟩
    (fun x a' W => ∃ B4, W0.heap.size ≤ B4 ∧ W.heap[B4]? = some (.cells #[.int .i32 x.f0, .int .i32 x.f1] 99 (0, 0)) ∧ a' = { tmps := #[.slice A0 l0.length c0, undef, .slice none 0 0, .pointer (some ⟨w.heap.size, 0, none⟩), .pointer (some ⟨B4, 0, none⟩), .slice A0 l0.length c0, .slice A d.length c, .func (.func 68) #[] #[.pointer (some ⟨w1.heap.size, 0, none⟩)], .agg #[.int .i32 x.f0, .int .i32 x.f1], undef, undef, undef, undef, undef, undef, undef, undef, undef, undef], defers := [] })
    (fun x a' => ownFrom_meek fun _ W W' ⟨B4, h, hc, e⟩ hm => ⟨B4, h, hm.cells _ _ _ _ hc, e⟩)
    ?assign ?body ?done ?stop
  case assign =>
    rintro l pre x W K ⟨v, hv, hR, hB, hle⟩ hK
    gi_wp2
    exact hK _ _ ((KeepsOthers.alloc _ _).from _) (KeepsOf.of_below ((Below.refl _ W).alloc (Nat.le_refl _) _) (fun b hb => Nat.lt_of_lt_of_le (hS b hb).2.2 hle)) ⟨v, hv.alloc _, Kd.R_alloc hR _, hB.alloc hB.size _, by simp; omega⟩ ⟨W.heap.size, hle, heap_alloc_new W _, rfl⟩
  case body =>
    rintro l pre x a' W hl ⟨r, hr⟩ ⟨v, hv, hR, hB, hle⟩ ⟨B4, hB4, b4, rfl⟩ hlt
    have hc := hv.cell
    have hc0 : W.cell? ⟨B4, 0, none⟩ = some (.int .i32 x.f0) := by unfold World.cell?; simp only [b4]; rfl
    have hc1 : W.cell? ⟨B4, 1, none⟩ = some (.int .i32 x.f1) := by unfold World.cell?; simp only [b4]; rfl
    have HV := Lib.hid hv
    have HRR := Lib.hid hR
    have HB := Lib.hid hB
    have hlW : l < W.heap.size := (Array.getElem?_eq_some_iff.1 hr).1
    have HS := Lib.hid hS
    clear hv hR hB b4 hr hS
    gi_wp2_with (gi_at_builtin; go_loud (refine R_appendIn k41 W0.heap.size rfl (.tmp 9) (.tmp 16) 26 41 (.agg #[(.int .i32 0), (.int .i32 0)]) 8 rfl Try.underlying26 info41 rfl (by decide) (by omega) v (pre.map toRgW) (toRgW x) [.int .i32 x.f0, .int .i32 (wrap32 (x.f1 - 1))] (fun _ => True) (fun _ => False) rfl rfl ?aP (fun _ hk => hk.elim) (fun _ _ => trivial) HRR.out ?aS ?aL ?_); (case aP => exact k41_mkM _ _ _ (toRgW x)); (case aS => exact hle); (case aL => rw [List.length_map]; omega); intro v1 w9 ho hg hat; obtain ⟨A1, c1, e1⟩ := Kd.R_slice ho; rw [show (pre.map toRgW ++ [toRgW x]).length = pre.length + 1 by simp] at e1; subst e1; obtain ⟨q1, q2, q3, q4, q5, q6⟩ := collected (B := W0.heap.size) (S := ofSp w1.heap.size A) HV.out HRR.out ho hg (by decide) (fun b hb => ⟨(HS.out b hb).2.2, Nat.lt_of_lt_of_le (HS.out b hb).2.2 hle, (HS.out b hb).1⟩); have hcq := q1.cell; have hfq := q1.frozen; have Q2 := Lib.hid q2; have Q3 := Lib.hid q3; have Q4 := Lib.hid q4; have Q5 := Lib.hid q5; have Q6 := Lib.hid q6; clear q1 q2 q3 q4 q5 q6 ho hg hat)
    exact ⟨Q4.out, Q5.out, ⟨_, Q2.out, by simpa using Q3.out, HB.out.trans (Q6.out _ (by omega) (Nat.le_refl _) HB.out.size), Nat.le_trans hle Q5.out.size⟩⟩
  case done =>
    rintro D ys W hD rfl ⟨v, hv, hR, hB, hle⟩ hK
    have hc := hv.cell
    gi_wp2
    refine ⟨by simp, .inl ⟨_, _, rfl, run_takeDeferred hK, ?_⟩⟩
    have e : (joinL d).map toRgW = norm l0 := joinW l0 d H3.out H4.out
    rw [e] at hR
    exact ⟨_, results_tmp rfl _ _ _, v, rfl, Kd.R_lower (Meek.R (meek_putObj _ hD hK rfl) hR) (by omega), hB.trans (belowK_b (w := w) (Nat.le_refl _) W D _ _ (by omega) hK rfl rfl)⟩
  case stop =>
    rintro D c pre W _ _ h _
    exact h.elim

/-- The length of a list of ranges that the program's own sets are told at. -/
def uniset_set.f (l0 : List S41) : Option (List S41) := if l0.length < 1099511627776 then some (norm l0) else none
theorem uniset_set.calls (A0 : Option Addr) (c0 : Nat) (l0 : List S41) (r : List S41) (w : World) (hr0 : Kd.C k41 w A0 l0.length l0) (hc0 : l0.length ≤ c0) (h : uniset_set.f l0 = some r) :
    Calls Try.prog 48 #[.slice A0 l0.length c0] w fun e w' => ∃ v0_ : Value, e = .returned (v0_) ∧ Kd.R k41 41 w' w.heap.size (fun _ => True) v0_ r ∧ Below w.heap.size w w' := by
  unfold uniset_set.f at h
  split at h
  · rename_i hlt
    obtain rfl := Option.some.inj h
    exact callsIn_wide.1 (set_in 3 (by omega) A0 c0 l0 w hr0 hc0 hlt)
  · cases h
end Go.Proofs.Ytnfnnmmblommiaa.PA
