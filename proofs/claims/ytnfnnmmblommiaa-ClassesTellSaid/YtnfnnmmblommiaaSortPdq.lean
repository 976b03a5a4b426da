/- slices.Sort at int32, by hand: pdqsort: its rounds and its recursion (printed by gpdq.py). -/
import Derived.Test.YtnfnnmmblommiaaSortSift
import Derived.Test.YtnfnnmmblommiaaSortPiv
import Derived.Test.YtnfnnmmblommiaaSortPI
import Derived.Test.YtnfnnmmblommiaaSortPart
import Derived.Test.YtnfnnmmblommiaaSortBP
import Derived.Sort.Walk13
import Derived.Sort.AssemblyPlain
import Derived.Deep.Cut
namespace Go.Proofs.Ytnfnnmmblommiaa.PA
open Go.RowKit Go.Shelf Go.Lib Go.Sort
set_option linter.unusedVariables false
set_option linter.unusedSimpArgs false

theorem swoInt : SWO ltInt where
  irrefl x := by simp [ltInt]
  trans x y z h1 h2 := by simp [ltInt] at *; omega
  ntrans x y z h1 h2 := by simp [ltInt] at *; omega
set_option maxRecDepth 1000000 in
set_option maxHeartbeats 16000000 in
theorem pdq_walk (blk off cap : Nat) (d0 : Array Int) (w0 : World) (R0 : Row1 enc32 w0 blk off d0) :
    ∀ (N a b limit : Nat) (d : Array Int) (w : World), b - a < N → d0.size = d.size → SW enc32 w0 blk off d w → a ≤ b → b ≤ d.size → d.size < 1152921504606846976 → limit < 1152921504606846976 → Go.Sort.Below ltInt a b d →
    Calls Try.prog 73 #[.slice (some ⟨blk, off, none⟩) d.size cap, .int .i64 a, .int .i64 b, .int .i64 limit] w fun e w' => e = .returned (.tuple #[]) ∧ SW enc32 w0 blk off (pdq ltInt d a b limit true true) w' := by
  have HR := Lib.hid R0
  clear R0
  intro N
  induction N with
  | zero => intro _ _ _ _ _ h; exact absurd h (Nat.not_lt_zero _)
  | succ N ih =>
    intro a b limit d w hN hs S hab hb hsz hlimit hBel0
    have IH := Lib.hid ih
    have S0 := Lib.hid S
    clear ih S
    go_enter Try.func73, Try.ntmps73
    go_wp2
    go_loopg [1, 2, 3, 8, 9] (b - a) (fun kx s1 s2 s3 s8 s9 wr => ∃ (a' b' lim : Nat) (wb wp : Bool) (dk : Array Int), s1 = .int .i64 a' ∧ s2 = .int .i64 b' ∧ s3 = .int .i64 lim ∧ s8 = .bool wb ∧ s9 = .bool wp ∧
      a' ≤ b' ∧ b' ≤ d.size ∧ b' - a' ≤ kx ∧ kx ≤ b - a ∧ lim ≤ limit ∧ dk.size = d.size ∧ Go.Sort.Below ltInt a' b' dk ∧ Hid (SW enc32 w0 blk off dk wr) ∧ Hid (pdq ltInt dk a' b' lim wb wp = pdq ltInt d a b limit true true))
    case atStart => exact ⟨a, b, limit, true, true, d, rfl, rfl, rfl, rfl, rfl, hab, hb, Nat.le_refl _, Nat.le_refl _, Nat.le_refl _, rfl, hBel0, S0, Lib.hid rfl⟩
    case round =>
      clear S0
      obtain ⟨a', b', lim, wb, wp, dk, rfl, rfl, rfl, rfl, rfl, hab', hb', hkx, hkN, hlim, hds, hBel, S1, A⟩ := hrel
      by_cases h12 : b' - a' ≤ 12
      · have h12z : (b' : Int) - (a' : Int) ≤ 12 := by omega
        have hc := ins_walk blk off cap a' b' d0 dk w0 wr HR.out (by omega) S1.out hab' (by omega) (by omega)
        rw [hds] at hc
        have HC := Lib.hid hc
        clear hc
        go_wp2_with fail
        refine HC.out.mono ?_
        rintro e w1 ⟨rfl, hw1⟩
        have HW1 := Lib.hid hw1
        clear HC hw1
        go_wp2_with fail
        (try simp only [Exit.inBlock, Exit.then]); refine bodyPost_ret (results_none rfl _ _ _) rfl ?_
        refine ⟨rfl, ?_⟩
        rw [← A.out, pdq_small h12]
        exact HW1.out
      · have h12z : ¬ ((b' : Int) - (a' : Int) ≤ 12) := by omega
        by_cases hl0 : lim = 0
        · subst hl0
          have hc := heap_walk blk off cap a' b' d0 dk w0 wr HR.out (by omega) S1.out (by omega) (by omega) (by omega)
          rw [hds] at hc
          have HC := Lib.hid hc
          clear hc
          go_wp2_with fail
          refine HC.out.mono ?_
          rintro e w1 ⟨rfl, hw1⟩
          have HW1 := Lib.hid hw1
          clear HC hw1
          go_wp2_with fail
          (try simp only [Exit.inBlock, Exit.then]); refine bodyPost_ret (results_none rfl _ _ _) rfl ?_
          refine ⟨rfl, ?_⟩
          rw [← A.out, pdq_heap h12 rfl]
          exact HW1.out
        · have hl0z : ¬ ((lim : Int) = 0) := by omega
          obtain ⟨s1, B1, hc1, s2, B2, hpv, s3, B3⟩ := rd_facts (lt := ltInt) (limit := lim) (wb := wb) (wp := wp) swoInt partialInsertionSort_holds reverseRange_holds (show a' < b' by omega) (show b' ≤ dk.size by omega) hBel
          -- 'if !wasBalanced': the ways meet
          go_upto_if 35 with fail
          go_cut [3] from 19 (fun s3 wc => s3 = .int .i64 (rd ltInt dk a' b' lim wb wp).lim ∧ Hid (SW enc32 w0 blk off (rd ltInt dk a' b' lim wb wp).d1 wc))
          case first =>
            cases wb
            · have hc := bp_walk blk off cap a' b' d0 dk w0 wr HR.out (by omega) S1.out hab' (by omega) (by omega)
              rw [hds] at hc
              go_wp2_with fail
              refine hc.mono ?_
              rintro e w1 ⟨rfl, hw1⟩
              have HW1 := Lib.hid hw1
              clear hc hw1
              go_wp2_with fail
              go_meet
              case rel =>
                refine ⟨?_, HW1⟩
                show Value.int .i64 ((lim : Int) - 1) = Value.int .i64 ((lim - 1 : Nat) : Int)
                congr 1
                omega
            · go_wp2_with fail
              go_meet
              case rel => exact ⟨rfl, S1⟩
          case rest =>
            clear S1
            obtain ⟨rfl, S1⟩ := hcut
            have hc17 : Calls Try.prog 80 #[.slice (some ⟨blk, off, none⟩) d.size cap, .int .i64 a', .int .i64 b'] wc (Piv w0 blk off (rd ltInt dk a' b' lim wb wp).d1 (rd ltInt dk a' b' lim wb wp).c.1 (hintCode (rd ltInt dk a' b' lim wb wp).c.2)) := by
              have h := pivot_walk blk off cap a' b' d0 (rd ltInt dk a' b' lim wb wp).d1 w0 wc HR.out (by omega) S1.out (by omega) (by omega) (by omega)
              rw [show (rd ltInt dk a' b' lim wb wp).d1.size = d.size from s1.trans hds] at h
              exact h
            go_upto_if 50 with (go_at_call 80; refine hc17.mono ?_; rintro e w2 ⟨rfl, hAt2⟩)
            have S2 := Lib.hid hAt2
            clear hAt2 hc17 S1
            go_cut [11, 12] from 19 (fun s11 s12 wc => s11 = .int .i64 (rd ltInt dk a' b' lim wb wp).pivot ∧ s12 = .int .i64 (hintCode (rd ltInt dk a' b' lim wb wp).hint) ∧ Hid (SW enc32 w0 blk off (rd ltInt dk a' b' lim wb wp).d2 wc))
            case first =>
              by_cases hh : (rd ltInt dk a' b' lim wb wp).c.2 = .decreasing
              · have hcode : hintCode (rd ltInt dk a' b' lim wb wp).c.2 = 2 := by rw [hh]; rfl
                obtain ⟨e2, epv, eht⟩ := rd_dec hh
                have hc18 := rev_walk blk off cap a' b' d0 (rd ltInt dk a' b' lim wb wp).d1 w0 w2 HR.out (by omega) S2.out hab' (by omega) (by omega)
                rw [show (rd ltInt dk a' b' lim wb wp).d1.size = d.size from s1.trans hds] at hc18
                go_wp2_with (go_at_call 81; refine hc18.mono ?_; rintro e w3 ⟨rfl, hw3⟩)
                go_meet
                case rel =>
                  refine ⟨?_, by rw [eht]; rfl, Lib.hid (by rw [e2]; exact hw3)⟩
                  rw [epv]
                  congr 1
                  omega
              · have hcode : ¬ (hintCode (rd ltInt dk a' b' lim wb wp).c.2 = 2) := fun h => hh (hintCode_two h)
                obtain ⟨e2, epv, eht⟩ := rd_not hh
                go_wp2_with fail
                go_meet
                case rel => exact ⟨by rw [epv], by rw [eht], Lib.hid (by rw [e2]; exact S2.out)⟩
            case rest =>
              clear S2
              obtain ⟨rfl, rfl, S3⟩ := hcut
              go_upto_region 15 with fail
              go_cut [12, 68] from 19 (fun s12 s68 wx => s12 = .int .i64 (hintCode (rd ltInt dk a' b' lim wb wp).hint) ∧ s68 = .bool (wb && wp && decide ((rd ltInt dk a' b' lim wb wp).hint = .increasing)) ∧ wx = wc)
              case first =>
                cases wb <;> cases wp <;> cases hh3 : (rd ltInt dk a' b' lim _ _).hint <;>
                  (have hcode3 := congrArg hintCode hh3
                   simp only [hintCode] at hcode3
                   go_wp2_with fail
                   go_meet
                   exact ⟨by simp [hh3, hintCode], by simp [hh3, hintCode], rfl⟩)
              case rest =>
                obtain ⟨rfl, rfl, rfl⟩ := hcut
                go_upto_if 68 with fail
                go_cut [] from 19 (fun wx => (rd ltInt dk a' b' lim wb wp).pi.2 = false ∧ Hid (SW enc32 w0 blk off (rd ltInt dk a' b' lim wb wp).pi.1 wx))
                case first =>
                  cases h68 : (wb && wp && decide ((rd ltInt dk a' b' lim wb wp).hint = .increasing))
                  · have epi := rd_pi_no h68
                    go_wp2_with fail
                    go_meet
                    case rel => exact ⟨by rw [epi], Lib.hid (by rw [epi]; exact S3.out)⟩
                  · have epi := rd_pi_yes h68
                    have hc19 := pi_walk blk off cap a' b' d0 (rd ltInt dk a' b' lim wb wp).d2 w0 wc HR.out (by omega) S3.out (by omega) (by omega) (by omega)
                    rw [show (rd ltInt dk a' b' lim wb wp).d2.size = d.size from s2.trans hds, ← epi] at hc19
                    go_wp2_with (go_at_call 82; refine hc19.mono ?_; rintro e w4 ⟨rfl, hw4⟩)
                    all_goals first
                      | (have hp2 : (rd ltInt dk a' b' lim wb wp).pi.2 = false := by rw [epi]; assumption
                         go_meet
                         exact ⟨hp2, Lib.hid hw4⟩)
                      | (have hp2 : (rd ltInt dk a' b' lim wb wp).pi.2 = true := by rw [epi]; assumption
                         (try simp only [Exit.inBlock, Exit.then]); refine bodyPost_ret (results_none rfl _ _ _) rfl ?_
                         refine ⟨rfl, ?_⟩
                         rw [← A.out, pdq_done h12 hl0 hp2]
                         exact hw4)
                case rest =>
                  clear S3
                  obtain ⟨hp2, S5⟩ := hcut
                  have HP2 := Lib.hid hp2
                  clear hp2
                  go_upto_region 17 with fail
                  go_cut [11, 87] from 19 (fun s11 s87 wx => s11 = .int .i64 (rd ltInt dk a' b' lim wb wp).pivot ∧ s87 = .bool (decide (a' > 0) && !ltInt (rd ltInt dk a' b' lim wb wp).pi.1[a' - 1]! (rd ltInt dk a' b' lim wb wp).pi.1[(rd ltInt dk a' b' lim wb wp).pivot]!) ∧ Hid (SW enc32 w0 blk off (rd ltInt dk a' b' lim wb wp).pi.1 wx))
                  case first =>
                    rcases Nat.eq_zero_or_pos a' with ha0 | ha0
                    · have ha0z : decide ((a' : Int) > 0) = false := decide_eq_false (by omega)
                      go_quiet (fail)
                      go_wp2_with fail
                      go_meet
                      case rel => exact ⟨rfl, by simp [ha0], Lib.hid (S5.out.drewN nq)⟩
                    · have ha0z : decide ((a' : Int) > 0) = true := decide_eq_true (by omega)
                      have X := xch S5.out HR.out (by omega) (i := a' - 1) (j := (rd ltInt dk a' b' lim wb wp).pivot) (by omega) (by omega)
                      have ci := X.ci
                      have cj := X.cj
                      clear X
                      have HL := Lib.hid (fun n => less_calls (rd ltInt dk a' b' lim wb wp).pi.1[a' - 1]! (rd ltInt dk a' b' lim wb wp).pi.1[(rd ltInt dk a' b' lim wb wp).pivot]! (wc.drewN n))
                      obtain ⟨x, hx⟩ : ∃ x, x = (rd ltInt dk a' b' lim wb wp).pi.1[a' - 1]! := ⟨_, rfl⟩
                      obtain ⟨y, hy⟩ : ∃ y, y = (rd ltInt dk a' b' lim wb wp).pi.1[(rd ltInt dk a' b' lim wb wp).pivot]! := ⟨_, rfl⟩
                      rw [← hx] at ci
                      rw [← hy] at cj
                      have hl1 : ltInt (rd ltInt dk a' b' lim wb wp).pi.1[a' - 1]! (rd ltInt dk a' b' lim wb wp).pi.1[(rd ltInt dk a' b' lim wb wp).pivot]! = ltInt x y := by rw [hx, hy]
                      have HL' : Hid (∀ n, Calls Try.prog 83 #[.int .i32 x, .int .i32 y] (wc.drewN n) fun e w' => e = .returned (.bool (ltInt x y)) ∧ w' = (wc.drewN n)) := Lib.hid (by rw [hx, hy]; exact HL.out)
                      have f1 : (0 : Int) ≤ ((rd ltInt dk a' b' lim wb wp).pivot : Int) := by omega
                      have f2 : ((rd ltInt dk a' b' lim wb wp).pivot : Int) < (d.size : Int) := by omega
                      have f3 : (1 : Int) ≤ (a' : Int) := by omega
                      have f4 : (a' : Int) - 1 < (d.size : Int) := by omega
                      have f5 : (0 : Int) ≤ (a' : Int) - 1 := by omega
                      have f6 : IntKind.i64.wrap ((a' : Int) - 1) = (a' : Int) - 1 := IntWalk.i64_in _ (by omega)
                      have f7 : ((a' : Int) - 1).toNat = a' - 1 := by omega
                      have HL1 := Lib.hid hl1
                      clear HL hx hy hl1
                      cases hl : ltInt x y
                      all_goals
                        rw [hl] at HL'
                        go_quiet ((go_at_call 83; exact Calls.quiet_of_same (HL'.out _)))
                        go_wp2_with fail
                        go_meet
                        case rel => exact ⟨rfl, by rw [HL1.out, hl]; simp [ha0], Lib.hid (S5.out.drewN nq)⟩
                  case rest =>
                    clear S5
                    obtain ⟨rfl, rfl, S6⟩ := hcut
                    cases h87 : (decide (a' > 0) && !ltInt (rd ltInt dk a' b' lim wb wp).pi.1[a' - 1]! (rd ltInt dk a' b' lim wb wp).pi.1[(rd ltInt dk a' b' lim wb wp).pivot]!)
                    · obtain ⟨mid, ap, d4, hx⟩ : ∃ mid ap d4, partition ltInt (rd ltInt dk a' b' lim wb wp).pi.1 a' b' (rd ltInt dk a' b' lim wb wp).pivot = (mid, ap, d4) := ⟨(partition ltInt (rd ltInt dk a' b' lim wb wp).pi.1 a' b' (rd ltInt dk a' b' lim wb wp).pivot).1, (partition ltInt (rd ltInt dk a' b' lim wb wp).pi.1 a' b' (rd ltInt dk a' b' lim wb wp).pivot).2.1, (partition ltInt (rd ltInt dk a' b' lim wb wp).pi.1 a' b' (rd ltInt dk a' b' lim wb wp).pivot).2.2, rfl⟩
                      obtain ⟨r1, r2, r3, r4, r5, r6, r7⟩ := round_part swoInt (partition_holds ltInt) hpv.1 hpv.2 (show b' ≤ (rd ltInt dk a' b' lim wb wp).pi.1.size by omega) B3 hx
                      have hc22 := part_walk blk off cap a' b' (rd ltInt dk a' b' lim wb wp).pivot d0 (rd ltInt dk a' b' lim wb wp).pi.1 w0 wc HR.out (by omega) S6.out hpv.1 hpv.2 (by omega) (by omega)
                      rw [hx, show (rd ltInt dk a' b' lim wb wp).pi.1.size = d.size from s3.trans hds] at hc22
                      have X := Lib.hid hx
                      have H87 := Lib.hid h87
                      clear hx
                      go_upto_if 113 with (go_at_call 85; refine hc22.mono ?_; rintro e w7 ⟨rfl, hAt7⟩)
                      have S7 := Lib.hid hAt7
                      clear hAt7 hc22 S6
                      have hs4 : d4.size = d.size := r3.trans (s3.trans hds)
                      by_cases h4 : mid - a' < b' - mid
                      · have h4z : (mid : Int) - (a' : Int) < (b' : Int) - (mid : Int) := by omega
                        have hih := IH.out a' mid (rd ltInt dk a' b' lim wb wp).lim d4 w7 (by omega) (by omega) S7.out (by omega) (by omega) (by omega) (Nat.lt_of_le_of_lt (Nat.le_trans rd_lim_le hlim) hlimit) r4
                        rw [hs4] at hih
                        obtain ⟨pL, sL⟩ := pdq_sorts ltInt swoInt d4 a' mid (rd ltInt dk a' b' lim wb wp).lim true true (by omega) (by omega) r4
                        go_wp2_with (go_at_call 73; refine hih.mono ?_; rintro e w8 ⟨rfl, hw8⟩)
                        go_roundg (b' - (mid + 1))
                        case measure => omega
                        case rel =>
                          refine ⟨mid + 1, b', (rd ltInt dk a' b' lim wb wp).lim, decide (mid - a' ≥ (b' - a') / 8), ap, pdq ltInt d4 a' mid (rd ltInt dk a' b' lim wb wp).lim true true, by simp, rfl, rfl, ?_, rfl, by omega, by omega, Nat.le_refl _, by omega, Nat.le_trans rd_lim_le hlim, by rw [pL.1, hs4], (r6 _ pL sL).1, Lib.hid hw8, Lib.hid ?_⟩
                          · exact congrArg Value.bool (eighth (by omega) (by omega))
                          · have hx := X.out
                            rw [← A.out, pdq_left h12 hl0 HP2.out H87.out (by rw [hx]; exact ⟨r1, r2⟩) (by rw [hx]; exact h4), hx]
                      · have h4z : ¬ ((mid : Int) - (a' : Int) < (b' : Int) - (mid : Int)) := by omega
                        have hih := IH.out (mid + 1) b' (rd ltInt dk a' b' lim wb wp).lim d4 w7 (by omega) (by omega) S7.out (by omega) (by omega) (by omega) (Nat.lt_of_le_of_lt (Nat.le_trans rd_lim_le hlim) hlimit) r5
                        rw [show ((mid + 1 : Nat) : Int) = (mid : Int) + 1 by omega, hs4] at hih
                        obtain ⟨pL, sL⟩ := pdq_sorts ltInt swoInt d4 (mid + 1) b' (rd ltInt dk a' b' lim wb wp).lim true true (by omega) (by omega) r5
                        go_wp2_with (go_at_call 73; refine hih.mono ?_; rintro e w8 ⟨rfl, hw8⟩)
                        go_roundg (mid - a')
                        case measure => omega
                        case rel =>
                          refine ⟨a', mid, (rd ltInt dk a' b' lim wb wp).lim, decide (b' - mid ≥ (b' - a') / 8), ap, pdq ltInt d4 (mid + 1) b' (rd ltInt dk a' b' lim wb wp).lim true true, rfl, rfl, rfl, ?_, rfl, by omega, by omega, Nat.le_refl _, by omega, Nat.le_trans rd_lim_le hlim, by rw [pL.1, hs4], (r7 _ pL sL).1, Lib.hid hw8, Lib.hid ?_⟩
                          · exact congrArg Value.bool (eighth (by omega) (by omega))
                          · have hx := X.out
                            rw [← A.out, pdq_right h12 hl0 HP2.out H87.out (by rw [hx]; exact ⟨r1, r2⟩) (by rw [hx]; exact h4), hx]
                    · have h87' := h87
                      simp only [Bool.and_eq_true, decide_eq_true_eq, Bool.not_eq_true'] at h87'
                      obtain ⟨mid, d4, hx⟩ : ∃ mid d4, partitionEqual ltInt (rd ltInt dk a' b' lim wb wp).pi.1 a' b' (rd ltInt dk a' b' lim wb wp).pivot = (mid, d4) := ⟨(partitionEqual ltInt (rd ltInt dk a' b' lim wb wp).pi.1 a' b' (rd ltInt dk a' b' lim wb wp).pivot).1, (partitionEqual ltInt (rd ltInt dk a' b' lim wb wp).pi.1 a' b' (rd ltInt dk a' b' lim wb wp).pivot).2, rfl⟩
                      obtain ⟨r1, r2, r3, r4, _⟩ := round_eq swoInt (partitionEqual_holds ltInt) h87'.1 hpv.1 hpv.2 (show b' ≤ (rd ltInt dk a' b' lim wb wp).pi.1.size by omega) B3 h87'.2 hx
                      have hc21 := eqpart_walk blk off cap a' b' (rd ltInt dk a' b' lim wb wp).pivot d0 (rd ltInt dk a' b' lim wb wp).pi.1 w0 wc HR.out (by omega) S6.out hpv.1 hpv.2 (by omega) (by omega)
                      rw [hx, show (rd ltInt dk a' b' lim wb wp).pi.1.size = d.size from s3.trans hds] at hc21
                      have X := Lib.hid hx
                      have H87 := Lib.hid h87
                      clear hx h87'
                      go_wp2_with (go_at_call 84; refine hc21.mono ?_; rintro e w7 ⟨rfl, hw7⟩)
                      go_roundg (b' - mid)
                      case measure => omega
                      case rel =>
                        have hx := X.out
                        exact ⟨mid, b', (rd ltInt dk a' b' lim wb wp).lim, wb, wp, d4, rfl, rfl, rfl, rfl, rfl, r2, hb', Nat.le_refl _, by omega, Nat.le_trans rd_lim_le hlim, by rw [r3, s3, hds], r4, Lib.hid hw7, Lib.hid (by rw [← A.out, pdq_eq h12 hl0 HP2.out H87.out (by rw [hx]; exact ⟨r1, r2⟩), hx])⟩
end Go.Proofs.Ytnfnnmmblommiaa.PA
