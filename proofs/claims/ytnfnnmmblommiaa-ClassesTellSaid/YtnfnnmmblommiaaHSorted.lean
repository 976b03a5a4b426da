/- uniset.right, in its own words. uniset.sorted, its loop: by hand: the spans of the right ranges, in the order in which they came. -/
import Derived.Test.YtnfnnmmblommiaaPAx2
import Derived.Test.YtnfnnmmblommiaaMath
import Derived.Test.YtnfnnmmblommiaaMem
namespace Go.Proofs.Ytnfnnmmblommiaa.PA
open Go.RowKit Go.Proofs.YtnfnnmmblommiaaW.PrintWords Go.Proofs.YtnfnnmmblommiaaW.PrintLast Go.Proofs.YtnfnnmmblommiaaW.PrintMore
set_option linter.unusedVariables false
set_option linter.unusedSimpArgs false

theorem right_good (a b : Int) : uniset_right.f a b = some (good ⟨a, b⟩) := by
  unfold uniset_right.f good
  by_cases h1 : a ≥ 0
  · by_cases h2 : a ≤ b
    · have h1' : 0 ≤ a := h1
      simp [h1', h2]
    · simp [h2]
  · have h1' : ¬ 0 ≤ a := h1
    simp [h1']
theorem right_calls (x : Rg) (w : World) : Calls Try.prog 43 #[.agg #[.int .i32 x.f0, .int .i32 x.f1]] w fun e w' => e = .returned (.bool (good x)) ∧ Below w.heap.size w w' :=
  uniset_right.calls x.f0 x.f1 (good x) w (right_good x.f0 x.f1)

end Go.Proofs.Ytnfnnmmblommiaa.PA
namespace Go.Proofs.Ytnfnnmmblommiaa.PA
open Go.RowKit Go.Proofs.YtnfnnmmblommiaaW.PrintWords Go.Proofs.YtnfnnmmblommiaaW.PrintLast Go.Proofs.YtnfnnmmblommiaaW.PrintMore
set_option linter.unusedVariables false
set_option linter.unusedSimpArgs false

abbrev Sp := S99
def spans (l : List Rg) : List Sp := (l.filter good).map fun x => ⟨x.f0, x.f1 + 1⟩
theorem spans_append (a b : List Rg) : spans (a ++ b) = spans a ++ spans b := by simp [spans]
theorem spans_length (l : List Rg) : (spans l).length ≤ l.length := by simp [spans]; exact List.length_filter_le _ _
theorem take_rd (l : List Rg) (i : Nat) (h : i < l.length) : l.take (i + 1) = l.take i ++ [rd_T41 l (i : Int)] := by
  rw [List.take_succ_eq_append_getElem h]; simp [rd_T41, h]
theorem spans_yes (l : List Rg) (i : Nat) (h : i < l.length) (hg : good (rd_T41 l (i : Int)) = true) : spans (l.take (i + 1)) = spans (l.take i) ++ [⟨(rd_T41 l (i : Int)).f0, (rd_T41 l (i : Int)).f1 + 1⟩] := by
  rw [take_rd l i h, spans_append]; simp [spans, hg]
theorem spans_no (l : List Rg) (i : Nat) (h : i < l.length) (hg : good (rd_T41 l (i : Int)) = false) : spans (l.take (i + 1)) = spans (l.take i) := by
  rw [take_rd l i h, spans_append]; simp [spans, hg]

set_option maxHeartbeats 2000000 in
set_option maxRecDepth 100000 in
theorem sorted_walk (A0 : Option Addr) (c0 : Nat) (l0 : List Rg) (w : World) (hr0 : Kd.C k41 w A0 l0.length l0) (hc0 : l0.length ≤ c0) (hn : l0.length < 1099511627776)
    (R : World → Value → List Sp → World → Prop)
    (hsort : ∀ (v : Value) (W : World), Kd.R k99 99 W w.heap.size (fun _ => True) v (spans l0) → Below w.heap.size w W →
      Calls Try.prog 69 #[v, .func (.func 70) #[] #[]] W fun e w' => e = .returned (.tuple #[]) ∧ ∃ d, Kd.R k99 99 w' w.heap.size (fun _ => True) v d ∧ Below w.heap.size w w' ∧ R W v d w') :
    Calls Try.prog 62 #[.slice A0 l0.length c0] w fun e w' => ∃ v W d, e = .returned v ∧ Kd.R k99 99 w' w.heap.size (fun _ => True) v d ∧ Below w.heap.size w w' ∧ R W v d w' := by
  have HR := Lib.hid hr0
  have HC := Lib.hid hc0
  have HS := Lib.hid hsort
  clear hr0 hc0 hsort
  have hu := Try.underlying41
  have hu2 := Try.underlying99
  go_enter Try.func62, Try.ntmps62
  go_wp2
  go_loopw [3, 8] (fun v i wr => ∃ k : Nat, k ≤ l0.length ∧ i = .int .i64 k ∧ Hid (Kd.R k99 99 wr w.heap.size (fun _ => True) v (spans (l0.take k))) ∧ Hid (Below w.heap.size w wr)) (fun _ i _ => l0.length - (intOf i).toNat)
  case atStart => exact ⟨0, Nat.zero_le _, rfl, Kd.R_nil _ _ _ _ _, Below.refl _ _⟩
  case round =>
    obtain ⟨k, hk, rfl, HO, HB⟩ := hrel
    by_cases hlt : k < l0.length
    · obtain ⟨ad, rfl, hx0, hx1⟩ := at_T41 (Kd.C_below HR.out HB.out) (k : Int) (by omega) (by omega)
      obtain ⟨x, hx⟩ : ∃ x, rd_T41 l0 (k : Int) = x := ⟨_, rfl⟩
      rw [hx] at hx0 hx1
      simp only [Int.toNat_natCast] at hx0 hx1
      have hr := right_calls x
      cases hg : good x with
      | false =>
        have HN := Lib.hid (spans_no l0 k hlt (by rw [hx]; exact hg))
        rw [hg] at hr
        clear hx hg
        go_wp2_with (go_at_call 43; refine (hr _).mono ?_; rintro e w' ⟨rfl, hb⟩)
        go_roundw
        case rel => exact ⟨k + 1, by omega, by go_num, by rw [HN.out]; exact Kd.R_below HO.out (below_a hb), HB.out.trans ((below_a hb).mono HB.out.size)⟩
        case measure => simp [intOf]; omega
      | true =>
        have HN := Lib.hid (spans_yes l0 k hlt (by rw [hx]; exact hg))
        have hgg := good_iff.1 hg
        rw [hx] at HN
        rw [hg] at hr
        clear hx hg
        go_wp2_with (first | (go_at_call 43; refine (hr _).mono ?_; rintro e w' ⟨rfl, hb⟩; have c0 := cell_b hb (cell_new 0 rfl); have c1 := cell_b hb (cell_new 1 rfl); have HB2 := Lib.hid (below_t HB.out (below_a hb)); have HO2 := Lib.hid (Kd.R_below HO.out (below_a hb)); clear hb) | (at_builtin; refine Kd.R_append k99 (w0 := w) w.heap.size rfl (.tmp 14) (.tmp 21) 96 99 (.agg #[(.int .i32 0), (.int .i32 0)]) 8 rfl Try.underlying96 info99 rfl (by decide) (by omega) u3 (spans (l0.take k)) (⟨x.f0, x.f1 + 1⟩ : Sp) [.int .i32 x.f0, .int .i32 (x.f1 + 1)] (fun _ => True) (fun _ => False) rfl rfl ?aP (fun _ hk => hk.elim) (fun _ _ => trivial) HO2.out HB2.out ?aS ?aL ?_; (case aP => exact k99_mkM _ _ _ (⟨x.f0, x.f1 + 1⟩ : Sp)); (case aS => exact HB2.out.size); (case aL => have := spans_length (l0.take k); have := List.length_take_le k l0; omega); intro v9 w9 ho hb hg hat; have HO3 := Lib.hid ho; have HB3 := Lib.hid hb; clear ho hb hg hat))
        go_roundw
        case rel => exact ⟨k + 1, by omega, by go_num, by rw [HN.out]; exact HO3.out, HB3.out⟩
        case measure => simp [intOf]; omega
    · obtain rfl : k = l0.length := by omega
      have HE := Lib.hid (List.take_length (l := l0))
      have HO1 : Hid (Kd.R k99 99 wr w.heap.size (fun _ => True) u3 (spans l0)) := by have := HO.out; rw [HE.out] at this; exact this
      go_wp2_with (go_at_call 69; refine (HS.out _ _ HO1.out HB.out).mono ?_; rintro e w' ⟨rfl, d, hd, hb, hR⟩; have HD := Lib.hid hd; have HB2 := Lib.hid hb; have HRR := Lib.hid hR; clear hd hb hR)
      go_ret
      exact ⟨_, _, d, rfl, HD.out, HB2.out, HRR.out⟩
end Go.Proofs.Ytnfnnmmblommiaa.PA
