/- slices.Sort at int32, by hand: partialInsertionSort (printed by gsort.py). -/
import Derived.Test.YtnfnnmmblommiaaSortRev
import Derived.Sort.WalkA6
namespace Go.Proofs.Ytnfnnmmblommiaa.PA
open Go.RowKit Go.Shelf Go.Lib Go.Sort
set_option linter.unusedVariables false
set_option linter.unusedSimpArgs false

set_option maxRecDepth 100000 in
set_option maxHeartbeats 16000000 in
theorem pi_walk (blk off cap a b : Nat) (d0 d : Array Int) (w0 w : World) (R : Row1 enc32 w0 blk off d0) (hs : d0.size = d.size) (S : SW enc32 w0 blk off d w) (hab : a < b) (hb : b ≤ d.size) (hsz : d.size < 1152921504606846976) :
    Calls Try.prog 82 #[.slice (some ⟨blk, off, none⟩) d.size cap, .int .i64 a, .int .i64 b] w fun e w' => e = .returned (.bool (partialInsertionSort ltInt d a b).2) ∧ SW enc32 w0 blk off (partialInsertionSort ltInt d a b).1 w' := by
  have S0 := Lib.hid S
  have HR := Lib.hid R
  clear S R
  go_enter Try.func82, Try.ntmps82
  go_wp2
  go_loopg [7, 8] 5 (fun g vi vs wr => ∃ (i s : Nat) (dk : Array Int), vi = .int .i64 i ∧ vs = .int .i64 s ∧ s ≤ 5 ∧ 5 - s ≤ g ∧ a < i ∧ i ≤ b ∧ dk.size = d.size ∧ Hid (SW enc32 w0 blk off dk wr) ∧ Hid (partialIns ltInt a b (5 - s) i dk = partialInsertionSort ltInt d a b))
  case atStart => exact ⟨a + 1, 0, d, by go_num, rfl, by omega, by omega, by omega, by omega, rfl, S0, Lib.hid rfl⟩
  case round =>
    clear S0
    obtain ⟨i, s, dk, rfl, rfl, hs5, hg, hai, hib, hsk, S1, HO⟩ := hrel
    by_cases h5 : s < 5
    · have h5z : (s : Int) < 5 := by omega
      go_wp2
      go_loopg [7] (b - i) (fun g2 vi wq => ∃ (k : Nat), vi = .int .i64 k ∧ i ≤ k ∧ k ≤ b ∧ b - k ≤ g2 ∧ Hid (SW enc32 w0 blk off dk wq) ∧ Hid (scanSorted ltInt dk b k = scanSorted ltInt dk b i))
      case atStart => exact ⟨i, rfl, Nat.le_refl _, hib, Nat.le_refl _, S1, Lib.hid rfl⟩
      case round =>
        clear S1
        obtain ⟨k, rfl, hik, hkb, hg2, S1, HSc⟩ := hrel
        by_cases hkb' : k < b
        · have gk1 : decide ((k : Int) < (b : Int)) = true := decide_eq_true (by omega)
          cases hd : ltInt dk[k]! dk[k - 1]! with
          | false =>
            have HN := Lib.hid ((scanSorted_go ltInt dk b k hkb' hd).symm.trans HSc.out)
            clear HSc
            have X := xch S1.out HR.out (by omega) (i := k) (j := k - 1) (by omega) (by omega)
            have ci := X.ci
            have cj := X.cj
            clear X
            have fp0 : (0 : Int) ≤ (k : Int) := by omega
            have fq0 : (k : Int) < (d.size : Int) := by omega
            have fp1 : (0 : Int) ≤ (k : Int) - 1 := by omega
            have fq1 : (k : Int) - 1 < (d.size : Int) := by omega
            have fr1 : IntKind.i64.wrap ((k : Int) - 1) = (k : Int) - 1 := IntWalk.i64_in _ (by omega)
            have fs1 : ((k : Int) - 1).toNat = k - 1 := by omega
            have HL := Lib.hid (fun n => less_calls dk[k]! dk[k - 1]! (wr.drewN n))
            rw [hd] at HL
            generalize dk[k]! = x at ci HL
            generalize dk[k - 1]! = y at cj HL
            clear hd
            go_wp2
            go_quiet ((go_at_call 83; exact Calls.quiet_of_same (HL.out _)))
            have S2 := Lib.hid (S1.out.drewN nq)
            clear HL ci cj S1 fr1 fs1
            generalize wr.drewN nq = w2 at S2 ⊢
            go_wp2
            go_roundg (b - (k + 1))
            case measure => omega
            case rel => exact ⟨k + 1, by go_num, by omega, by omega, Nat.le_refl _, S2, HN⟩
          | true =>
            have HK : Hid (scanSorted ltInt dk b i = k) := Lib.hid (by rw [← HSc.out, scanSorted_stop ltInt dk b k (Or.inr hd)])
            have hkne : ((k : Int) == (b : Int)) = false := beq_eq_false_iff_ne.2 (by omega)
            clear HSc
            have X := xch S1.out HR.out (by omega) (i := k) (j := k - 1) (by omega) (by omega)
            have ci := X.ci
            have cj := X.cj
            clear X
            have fp0 : (0 : Int) ≤ (k : Int) := by omega
            have fq0 : (k : Int) < (d.size : Int) := by omega
            have fp1 : (0 : Int) ≤ (k : Int) - 1 := by omega
            have fq1 : (k : Int) - 1 < (d.size : Int) := by omega
            have fr1 : IntKind.i64.wrap ((k : Int) - 1) = (k : Int) - 1 := IntWalk.i64_in _ (by omega)
            have fs1 : ((k : Int) - 1).toNat = k - 1 := by omega
            have HL := Lib.hid (fun n => less_calls dk[k]! dk[k - 1]! (wr.drewN n))
            rw [hd] at HL
            generalize dk[k]! = x at ci HL
            generalize dk[k - 1]! = y at cj HL
            clear hd
            go_wp2
            go_quiet ((go_at_call 83; exact Calls.quiet_of_same (HL.out _)))
            have S2 := Lib.hid (S1.out.drewN nq)
            clear HL ci cj S1 fr1 fs1
            generalize wr.drewN nq = w2 at S2 ⊢
            clear gk1
            by_cases h50 : b - a < 50
            · have h50z : (b : Int) - (a : Int) < 50 := by omega
              have HV := Lib.hid (show partialInsertionSort ltInt d a b = (dk, false) by rw [← HO.out, pi_short ltInt a b s i dk h5 (by rw [HK.out]; omega) h50])
              clear HO HK
              go_wp2
              go_ret
              rw [HV.out]
              exact ⟨rfl, S2.out⟩
            · have h50z : ¬ ((b : Int) - (a : Int) < 50) := by omega
              have PG0 := Lib.hid (pi_go ltInt a b s i k dk h5 HK.out (by omega) h50)
              have hsx : (swp dk k (k - 1)).size = d.size := by rw [size_swp]; exact hsk
              clear HK
              obtain ⟨ci, cj, fi, fj, ⟨u, c2⟩, SX⟩ := xch S2.out HR.out (by omega) (i := k) (j := k - 1) (by omega) (by omega)
              have S3 := Lib.hid SX
              clear SX S2
              generalize dk[k]! = x at ci c2 S3
              generalize dk[k - 1]! = y at cj c2 S3
              have fp0 : (0 : Int) ≤ (k : Int) := by omega
              have fq0 : (k : Int) < (d.size : Int) := by omega
              have fp1 : (0 : Int) ≤ (k : Int) - 1 := by omega
              have fq1 : (k : Int) - 1 < (d.size : Int) := by omega
              have fr1 : IntKind.i64.wrap ((k : Int) - 1) = (k : Int) - 1 := IntWalk.i64_in _ (by omega)
              have fs1 : ((k : Int) - 1).toNat = k - 1 := by omega
              go_wp2
              go_big_region
              generalize ((w2.setCell ⟨blk, off + k, none⟩ (.int .i32 y)).setCell ⟨blk, off + (k - 1), none⟩ (.int .i32 x)).drew = w3 at S3 ⊢
              clear ci cj fi fj c2 fr1 fs1
              clear hkne h50z
              generalize swp dk k (k - 1) = dx at S3 PG0 hsx
              by_cases hka : k - a ≥ 2
              · have hkaz : (2 : Int) ≤ (k : Int) - (a : Int) := by omega
                go_wp2
                go_loopg [9] (k - 1) (fun g3 vj wq => ∃ (j : Nat) (dj : Array Int), vj = .int .i64 j ∧ j ≤ k - 1 ∧ j ≤ g3 ∧ dj.size = d.size ∧ Hid (SW enc32 w0 blk off dj wq) ∧ Hid (shiftDown ltInt j dj = shiftDown ltInt (k - 1) dx))
                case atStart => exact ⟨k - 1, dx, by first | go_num | (congr 1; omega), Nat.le_refl _, Nat.le_refl _, hsx, S3, Lib.hid rfl⟩
                case round =>
                  clear S3
                  obtain ⟨j, dj, rfl, hjk, hg3, hsj, SD, HD⟩ := hrel
                  by_cases hj1 : 1 ≤ j
                  · have hj1z : (1 : Int) ≤ (j : Int) := by omega
                    cases hd : ltInt dj[j]! dj[j - 1]! with
                    | true =>
                      have HN := Lib.hid ((shiftDown_go ltInt j dj hj1 hd).symm.trans HD.out)
                      clear HD
                      go_wp2
                      have X := xch SD.out HR.out (by omega) (i := j) (j := j - 1) (by omega) (by omega)
                      have ci := X.ci
                      have cj := X.cj
                      clear X
                      have fp0 : (0 : Int) ≤ (j : Int) := by omega
                      have fq0 : (j : Int) < (d.size : Int) := by omega
                      have fp1 : (0 : Int) ≤ (j : Int) - 1 := by omega
                      have fq1 : (j : Int) - 1 < (d.size : Int) := by omega
                      have fr1 : IntKind.i64.wrap ((j : Int) - 1) = (j : Int) - 1 := IntWalk.i64_in _ (by omega)
                      have fs1 : ((j : Int) - 1).toNat = j - 1 := by omega
                      have HL := Lib.hid (fun n => less_calls dj[j]! dj[j - 1]! (wr.drewN n))
                      rw [hd] at HL
                      generalize dj[j]! = x at ci HL
                      generalize dj[j - 1]! = y at cj HL
                      clear hd
                      go_wp2
                      go_quiet ((go_at_call 83; exact Calls.quiet_of_same (HL.out _)))
                      have SD1 := Lib.hid (SD.out.drewN nq)
                      clear HL ci cj SD fr1 fs1
                      generalize wr.drewN nq = w2 at SD1 ⊢
                      obtain ⟨ci, cj, fi, fj, ⟨u, c2⟩, SX⟩ := xch SD1.out HR.out (by omega) (i := j) (j := j - 1) (by omega) (by omega)
                      have SX1 := Lib.hid SX
                      clear SX SD1
                      generalize dj[j]! = x at ci c2 SX1
                      generalize dj[j - 1]! = y at cj c2 SX1
                      have fp0 : (0 : Int) ≤ (j : Int) := by omega
                      have fq0 : (j : Int) < (d.size : Int) := by omega
                      have fp1 : (0 : Int) ≤ (j : Int) - 1 := by omega
                      have fq1 : (j : Int) - 1 < (d.size : Int) := by omega
                      have fr1 : IntKind.i64.wrap ((j : Int) - 1) = (j : Int) - 1 := IntWalk.i64_in _ (by omega)
                      have fs1 : ((j : Int) - 1).toNat = j - 1 := by omega
                      go_wp2
                      go_big_region
                      generalize ((w2.setCell ⟨blk, off + j, none⟩ (.int .i32 y)).setCell ⟨blk, off + (j - 1), none⟩ (.int .i32 x)).drew = w3 at SX1 ⊢
                      clear ci cj fi fj c2 fr1 fs1
                      go_wp2
                      go_roundg (j - 1)
                      case measure => omega
                      case rel => exact ⟨j - 1, swp dj j (j - 1), by first | go_num | (congr 1; omega), by omega, Nat.le_refl _, by rw [size_swp]; exact hsj, SX1, HN⟩
                    | false =>
                      have HF : Hid (fixDown ltInt a k dx = dj) := Lib.hid (by unfold fixDown; rw [if_pos hka, ← HD.out, shiftDown_stop ltInt j dj (Or.inr hd)])
                      clear HD
                      go_wp2
                      have X := xch SD.out HR.out (by omega) (i := j) (j := j - 1) (by omega) (by omega)
                      have ci := X.ci
                      have cj := X.cj
                      clear X
                      have fp0 : (0 : Int) ≤ (j : Int) := by omega
                      have fq0 : (j : Int) < (d.size : Int) := by omega
                      have fp1 : (0 : Int) ≤ (j : Int) - 1 := by omega
                      have fq1 : (j : Int) - 1 < (d.size : Int) := by omega
                      have fr1 : IntKind.i64.wrap ((j : Int) - 1) = (j : Int) - 1 := IntWalk.i64_in _ (by omega)
                      have fs1 : ((j : Int) - 1).toNat = j - 1 := by omega
                      have HL := Lib.hid (fun n => less_calls dj[j]! dj[j - 1]! (wr.drewN n))
                      rw [hd] at HL
                      generalize dj[j]! = x at ci HL
                      generalize dj[j - 1]! = y at cj HL
                      clear hd
                      go_wp2
                      go_quiet ((go_at_call 83; exact Calls.quiet_of_same (HL.out _)))
                      have SD1 := Lib.hid (SD.out.drewN nq)
                      clear HL ci cj SD fr1 fs1
                      generalize wr.drewN nq = w2 at SD1 ⊢
                      have PG1 := PG0.out
                      rw [HF.out] at PG1
                      have PG := Lib.hid PG1
                      clear PG0 PG1 HF
                      by_cases hbk : b - k ≥ 2
                      · have hbkz : (2 : Int) ≤ (b : Int) - (k : Int) := by omega
                        go_wp2
                        go_loopg [10] (b - (k + 1)) (fun g4 vj wq => ∃ (ju : Nat) (du : Array Int), vj = .int .i64 ju ∧ k + 1 ≤ ju ∧ ju ≤ b ∧ b - ju ≤ g4 ∧ du.size = d.size ∧ Hid (SW enc32 w0 blk off du wq) ∧ Hid (shiftUp ltInt b ju du = shiftUp ltInt b (k + 1) dj))
                        case atStart => exact ⟨k + 1, dj, by go_num, Nat.le_refl _, by omega, Nat.le_refl _, hsj, SD1, Lib.hid rfl⟩
                        case round =>
                          clear SD1
                          obtain ⟨ju, du, rfl, hkj, hjb, hg4, hsu, SU, HU⟩ := hrel
                          by_cases hjb' : ju < b
                          · have hjz : (ju : Int) < (b : Int) := by omega
                            cases hd : ltInt du[ju]! du[ju - 1]! with
                            | true =>
                              have HN := Lib.hid ((shiftUp_go ltInt b ju du hjb' hd).symm.trans HU.out)
                              clear HU
                              go_wp2
                              have X := xch SU.out HR.out (by omega) (i := ju) (j := ju - 1) (by omega) (by omega)
                              have ci := X.ci
                              have cj := X.cj
                              clear X
                              have fp0 : (0 : Int) ≤ (ju : Int) := by omega
                              have fq0 : (ju : Int) < (d.size : Int) := by omega
                              have fp1 : (0 : Int) ≤ (ju : Int) - 1 := by omega
                              have fq1 : (ju : Int) - 1 < (d.size : Int) := by omega
                              have fr1 : IntKind.i64.wrap ((ju : Int) - 1) = (ju : Int) - 1 := IntWalk.i64_in _ (by omega)
                              have fs1 : ((ju : Int) - 1).toNat = ju - 1 := by omega
                              have HL := Lib.hid (fun n => less_calls du[ju]! du[ju - 1]! (wr.drewN n))
                              rw [hd] at HL
                              generalize du[ju]! = x at ci HL
                              generalize du[ju - 1]! = y at cj HL
                              clear hd
                              go_wp2
                              go_quiet ((go_at_call 83; exact Calls.quiet_of_same (HL.out _)))
                              have SU1 := Lib.hid (SU.out.drewN nq)
                              clear HL ci cj SU fr1 fs1
                              generalize wr.drewN nq = w2 at SU1 ⊢
                              obtain ⟨ci, cj, fi, fj, ⟨u, c2⟩, SX⟩ := xch SU1.out HR.out (by omega) (i := ju) (j := ju - 1) (by omega) (by omega)
                              have SX1 := Lib.hid SX
                              clear SX SU1
                              generalize du[ju]! = x at ci c2 SX1
                              generalize du[ju - 1]! = y at cj c2 SX1
                              have fp0 : (0 : Int) ≤ (ju : Int) := by omega
                              have fq0 : (ju : Int) < (d.size : Int) := by omega
                              have fp1 : (0 : Int) ≤ (ju : Int) - 1 := by omega
                              have fq1 : (ju : Int) - 1 < (d.size : Int) := by omega
                              have fr1 : IntKind.i64.wrap ((ju : Int) - 1) = (ju : Int) - 1 := IntWalk.i64_in _ (by omega)
                              have fs1 : ((ju : Int) - 1).toNat = ju - 1 := by omega
                              go_wp2
                              go_big_region
                              generalize ((w2.setCell ⟨blk, off + ju, none⟩ (.int .i32 y)).setCell ⟨blk, off + (ju - 1), none⟩ (.int .i32 x)).drew = w3 at SX1 ⊢
                              clear ci cj fi fj c2 fr1 fs1
                              go_wp2
                              go_roundg (b - (ju + 1))
                              case measure => omega
                              case rel => exact ⟨ju + 1, swp du ju (ju - 1), by go_num, by omega, by omega, Nat.le_refl _, by rw [size_swp]; exact hsu, SX1, HN⟩
                            | false =>
                              have HF : Hid (fixUp ltInt b k dj = du) := Lib.hid (by unfold fixUp; rw [if_pos hbk, ← HU.out, shiftUp_stop ltInt b ju du (Or.inr hd)])
                              clear HU
                              go_wp2
                              have X := xch SU.out HR.out (by omega) (i := ju) (j := ju - 1) (by omega) (by omega)
                              have ci := X.ci
                              have cj := X.cj
                              clear X
                              have fp0 : (0 : Int) ≤ (ju : Int) := by omega
                              have fq0 : (ju : Int) < (d.size : Int) := by omega
                              have fp1 : (0 : Int) ≤ (ju : Int) - 1 := by omega
                              have fq1 : (ju : Int) - 1 < (d.size : Int) := by omega
                              have fr1 : IntKind.i64.wrap ((ju : Int) - 1) = (ju : Int) - 1 := IntWalk.i64_in _ (by omega)
                              have fs1 : ((ju : Int) - 1).toNat = ju - 1 := by omega
                              have HL := Lib.hid (fun n => less_calls du[ju]! du[ju - 1]! (wr.drewN n))
                              rw [hd] at HL
                              generalize du[ju]! = x at ci HL
                              generalize du[ju - 1]! = y at cj HL
                              clear hd
                              go_wp2
                              go_quiet ((go_at_call 83; exact Calls.quiet_of_same (HL.out _)))
                              have SU1 := Lib.hid (SU.out.drewN nq)
                              clear HL ci cj SU fr1 fs1
                              generalize wr.drewN nq = w2 at SU1 ⊢
                              go_wp2
                              go_roundg (5 - (s + 1))
                              case measure => omega
                              case rel => exact ⟨k, s + 1, du, rfl, by first | go_num | (congr 1; omega), by omega, Nat.le_refl _, by omega, by omega, hsu, SU1, Lib.hid (by rw [← HO.out, PG.out, HF.out])⟩
                          · have hjz : ¬ (ju : Int) < (b : Int) := by omega
                            have HF : Hid (fixUp ltInt b k dj = du) := Lib.hid (by unfold fixUp; rw [if_pos hbk, ← HU.out, shiftUp_stop ltInt b ju du (Or.inl hjb')])
                            clear HU
                            go_wp2
                            go_roundg (5 - (s + 1))
                            case measure => omega
                            case rel => exact ⟨k, s + 1, du, rfl, by first | go_num | (congr 1; omega), by omega, Nat.le_refl _, by omega, by omega, hsu, SU, Lib.hid (by rw [← HO.out, PG.out, HF.out])⟩
                      · have hbkz : ¬ (2 : Int) ≤ (b : Int) - (k : Int) := by omega
                        have HF : Hid (fixUp ltInt b k dj = dj) := Lib.hid (by unfold fixUp; rw [if_neg hbk])
                        go_wp2
                        go_roundg (5 - (s + 1))
                        case measure => omega
                        case rel => exact ⟨k, s + 1, dj, rfl, by first | go_num | (congr 1; omega), by omega, Nat.le_refl _, by omega, by omega, hsj, SD1, Lib.hid (by rw [← HO.out, PG.out, HF.out])⟩
                  · have hj1z : ¬ (1 : Int) ≤ (j : Int) := by omega
                    have HF : Hid (fixDown ltInt a k dx = dj) := Lib.hid (by unfold fixDown; rw [if_pos hka, ← HD.out, shiftDown_stop ltInt j dj (Or.inl (by omega))])
                    clear HD
                    have PG1 := PG0.out
                    rw [HF.out] at PG1
                    have PG := Lib.hid PG1
                    clear PG0 PG1 HF
                    by_cases hbk : b - k ≥ 2
                    · have hbkz : (2 : Int) ≤ (b : Int) - (k : Int) := by omega
                      go_wp2
                      go_loopg [10] (b - (k + 1)) (fun g4 vj wq => ∃ (ju : Nat) (du : Array Int), vj = .int .i64 ju ∧ k + 1 ≤ ju ∧ ju ≤ b ∧ b - ju ≤ g4 ∧ du.size = d.size ∧ Hid (SW enc32 w0 blk off du wq) ∧ Hid (shiftUp ltInt b ju du = shiftUp ltInt b (k + 1) dj))
                      case atStart => exact ⟨k + 1, dj, by go_num, Nat.le_refl _, by omega, Nat.le_refl _, hsj, SD, Lib.hid rfl⟩
                      case round =>
                        clear SD
                        obtain ⟨ju, du, rfl, hkj, hjb, hg4, hsu, SU, HU⟩ := hrel
                        by_cases hjb' : ju < b
                        · have hjz : (ju : Int) < (b : Int) := by omega
                          cases hd : ltInt du[ju]! du[ju - 1]! with
                          | true =>
                            have HN := Lib.hid ((shiftUp_go ltInt b ju du hjb' hd).symm.trans HU.out)
                            clear HU
                            go_wp2
                            have X := xch SU.out HR.out (by omega) (i := ju) (j := ju - 1) (by omega) (by omega)
                            have ci := X.ci
                            have cj := X.cj
                            clear X
                            have fp0 : (0 : Int) ≤ (ju : Int) := by omega
                            have fq0 : (ju : Int) < (d.size : Int) := by omega
                            have fp1 : (0 : Int) ≤ (ju : Int) - 1 := by omega
                            have fq1 : (ju : Int) - 1 < (d.size : Int) := by omega
                            have fr1 : IntKind.i64.wrap ((ju : Int) - 1) = (ju : Int) - 1 := IntWalk.i64_in _ (by omega)
                            have fs1 : ((ju : Int) - 1).toNat = ju - 1 := by omega
                            have HL := Lib.hid (fun n => less_calls du[ju]! du[ju - 1]! (wr.drewN n))
                            rw [hd] at HL
                            generalize du[ju]! = x at ci HL
                            generalize du[ju - 1]! = y at cj HL
                            clear hd
                            go_wp2
                            go_quiet ((go_at_call 83; exact Calls.quiet_of_same (HL.out _)))
                            have SU1 := Lib.hid (SU.out.drewN nq)
                            clear HL ci cj SU fr1 fs1
                            generalize wr.drewN nq = w2 at SU1 ⊢
                            obtain ⟨ci, cj, fi, fj, ⟨u, c2⟩, SX⟩ := xch SU1.out HR.out (by omega) (i := ju) (j := ju - 1) (by omega) (by omega)
                            have SX1 := Lib.hid SX
                            clear SX SU1
                            generalize du[ju]! = x at ci c2 SX1
                            generalize du[ju - 1]! = y at cj c2 SX1
                            have fp0 : (0 : Int) ≤ (ju : Int) := by omega
                            have fq0 : (ju : Int) < (d.size : Int) := by omega
                            have fp1 : (0 : Int) ≤ (ju : Int) - 1 := by omega
                            have fq1 : (ju : Int) - 1 < (d.size : Int) := by omega
                            have fr1 : IntKind.i64.wrap ((ju : Int) - 1) = (ju : Int) - 1 := IntWalk.i64_in _ (by omega)
                            have fs1 : ((ju : Int) - 1).toNat = ju - 1 := by omega
                            go_wp2
                            go_big_region
                            generalize ((w2.setCell ⟨blk, off + ju, none⟩ (.int .i32 y)).setCell ⟨blk, off + (ju - 1), none⟩ (.int .i32 x)).drew = w3 at SX1 ⊢
                            clear ci cj fi fj c2 fr1 fs1
                            go_wp2
                            go_roundg (b - (ju + 1))
                            case measure => omega
                            case rel => exact ⟨ju + 1, swp du ju (ju - 1), by go_num, by omega, by omega, Nat.le_refl _, by rw [size_swp]; exact hsu, SX1, HN⟩
                          | false =>
                            have HF : Hid (fixUp ltInt b k dj = du) := Lib.hid (by unfold fixUp; rw [if_pos hbk, ← HU.out, shiftUp_stop ltInt b ju du (Or.inr hd)])
                            clear HU
                            go_wp2
                            have X := xch SU.out HR.out (by omega) (i := ju) (j := ju - 1) (by omega) (by omega)
                            have ci := X.ci
                            have cj := X.cj
                            clear X
                            have fp0 : (0 : Int) ≤ (ju : Int) := by omega
                            have fq0 : (ju : Int) < (d.size : Int) := by omega
                            have fp1 : (0 : Int) ≤ (ju : Int) - 1 := by omega
                            have fq1 : (ju : Int) - 1 < (d.size : Int) := by omega
                            have fr1 : IntKind.i64.wrap ((ju : Int) - 1) = (ju : Int) - 1 := IntWalk.i64_in _ (by omega)
                            have fs1 : ((ju : Int) - 1).toNat = ju - 1 := by omega
                            have HL := Lib.hid (fun n => less_calls du[ju]! du[ju - 1]! (wr.drewN n))
                            rw [hd] at HL
                            generalize du[ju]! = x at ci HL
                            generalize du[ju - 1]! = y at cj HL
                            clear hd
                            go_wp2
                            go_quiet ((go_at_call 83; exact Calls.quiet_of_same (HL.out _)))
                            have SU1 := Lib.hid (SU.out.drewN nq)
                            clear HL ci cj SU fr1 fs1
                            generalize wr.drewN nq = w2 at SU1 ⊢
                            go_wp2
                            go_roundg (5 - (s + 1))
                            case measure => omega
                            case rel => exact ⟨k, s + 1, du, rfl, by first | go_num | (congr 1; omega), by omega, Nat.le_refl _, by omega, by omega, hsu, SU1, Lib.hid (by rw [← HO.out, PG.out, HF.out])⟩
                        · have hjz : ¬ (ju : Int) < (b : Int) := by omega
                          have HF : Hid (fixUp ltInt b k dj = du) := Lib.hid (by unfold fixUp; rw [if_pos hbk, ← HU.out, shiftUp_stop ltInt b ju du (Or.inl hjb')])
                          clear HU
                          go_wp2
                          go_roundg (5 - (s + 1))
                          case measure => omega
                          case rel => exact ⟨k, s + 1, du, rfl, by first | go_num | (congr 1; omega), by omega, Nat.le_refl _, by omega, by omega, hsu, SU, Lib.hid (by rw [← HO.out, PG.out, HF.out])⟩
                    · have hbkz : ¬ (2 : Int) ≤ (b : Int) - (k : Int) := by omega
                      have HF : Hid (fixUp ltInt b k dj = dj) := Lib.hid (by unfold fixUp; rw [if_neg hbk])
                      go_wp2
                      go_roundg (5 - (s + 1))
                      case measure => omega
                      case rel => exact ⟨k, s + 1, dj, rfl, by first | go_num | (congr 1; omega), by omega, Nat.le_refl _, by omega, by omega, hsj, SD, Lib.hid (by rw [← HO.out, PG.out, HF.out])⟩
              · have hkaz : ¬ (2 : Int) ≤ (k : Int) - (a : Int) := by omega
                have HF : Hid (fixDown ltInt a k dx = dx) := Lib.hid (by unfold fixDown; rw [if_neg hka])
                have PG1 := PG0.out
                rw [HF.out] at PG1
                have PG := Lib.hid PG1
                clear PG0 PG1 HF
                by_cases hbk : b - k ≥ 2
                · have hbkz : (2 : Int) ≤ (b : Int) - (k : Int) := by omega
                  go_wp2
                  go_loopg [10] (b - (k + 1)) (fun g4 vj wq => ∃ (ju : Nat) (du : Array Int), vj = .int .i64 ju ∧ k + 1 ≤ ju ∧ ju ≤ b ∧ b - ju ≤ g4 ∧ du.size = d.size ∧ Hid (SW enc32 w0 blk off du wq) ∧ Hid (shiftUp ltInt b ju du = shiftUp ltInt b (k + 1) dx))
                  case atStart => exact ⟨k + 1, dx, by go_num, Nat.le_refl _, by omega, Nat.le_refl _, hsx, S3, Lib.hid rfl⟩
                  case round =>
                    clear S3
                    obtain ⟨ju, du, rfl, hkj, hjb, hg4, hsu, SU, HU⟩ := hrel
                    by_cases hjb' : ju < b
                    · have hjz : (ju : Int) < (b : Int) := by omega
                      cases hd : ltInt du[ju]! du[ju - 1]! with
                      | true =>
                        have HN := Lib.hid ((shiftUp_go ltInt b ju du hjb' hd).symm.trans HU.out)
                        clear HU
                        go_wp2
                        have X := xch SU.out HR.out (by omega) (i := ju) (j := ju - 1) (by omega) (by omega)
                        have ci := X.ci
                        have cj := X.cj
                        clear X
                        have fp0 : (0 : Int) ≤ (ju : Int) := by omega
                        have fq0 : (ju : Int) < (d.size : Int) := by omega
                        have fp1 : (0 : Int) ≤ (ju : Int) - 1 := by omega
                        have fq1 : (ju : Int) - 1 < (d.size : Int) := by omega
                        have fr1 : IntKind.i64.wrap ((ju : Int) - 1) = (ju : Int) - 1 := IntWalk.i64_in _ (by omega)
                        have fs1 : ((ju : Int) - 1).toNat = ju - 1 := by omega
                        have HL := Lib.hid (fun n => less_calls du[ju]! du[ju - 1]! (wr.drewN n))
                        rw [hd] at HL
                        generalize du[ju]! = x at ci HL
                        generalize du[ju - 1]! = y at cj HL
                        clear hd
                        go_wp2
                        go_quiet ((go_at_call 83; exact Calls.quiet_of_same (HL.out _)))
                        have SU1 := Lib.hid (SU.out.drewN nq)
                        clear HL ci cj SU fr1 fs1
                        generalize wr.drewN nq = w2 at SU1 ⊢
                        obtain ⟨ci, cj, fi, fj, ⟨u, c2⟩, SX⟩ := xch SU1.out HR.out (by omega) (i := ju) (j := ju - 1) (by omega) (by omega)
                        have SX1 := Lib.hid SX
                        clear SX SU1
                        generalize du[ju]! = x at ci c2 SX1
                        generalize du[ju - 1]! = y at cj c2 SX1
                        have fp0 : (0 : Int) ≤ (ju : Int) := by omega
                        have fq0 : (ju : Int) < (d.size : Int) := by omega
                        have fp1 : (0 : Int) ≤ (ju : Int) - 1 := by omega
                        have fq1 : (ju : Int) - 1 < (d.size : Int) := by omega
                        have fr1 : IntKind.i64.wrap ((ju : Int) - 1) = (ju : Int) - 1 := IntWalk.i64_in _ (by omega)
                        have fs1 : ((ju : Int) - 1).toNat = ju - 1 := by omega
                        go_wp2
                        go_big_region
                        generalize ((w2.setCell ⟨blk, off + ju, none⟩ (.int .i32 y)).setCell ⟨blk, off + (ju - 1), none⟩ (.int .i32 x)).drew = w3 at SX1 ⊢
                        clear ci cj fi fj c2 fr1 fs1
                        go_wp2
                        go_roundg (b - (ju + 1))
                        case measure => omega
                        case rel => exact ⟨ju + 1, swp du ju (ju - 1), by go_num, by omega, by omega, Nat.le_refl _, by rw [size_swp]; exact hsu, SX1, HN⟩
                      | false =>
                        have HF : Hid (fixUp ltInt b k dx = du) := Lib.hid (by unfold fixUp; rw [if_pos hbk, ← HU.out, shiftUp_stop ltInt b ju du (Or.inr hd)])
                        clear HU
                        go_wp2
                        have X := xch SU.out HR.out (by omega) (i := ju) (j := ju - 1) (by omega) (by omega)
                        have ci := X.ci
                        have cj := X.cj
                        clear X
                        have fp0 : (0 : Int) ≤ (ju : Int) := by omega
                        have fq0 : (ju : Int) < (d.size : Int) := by omega
                        have fp1 : (0 : Int) ≤ (ju : Int) - 1 := by omega
                        have fq1 : (ju : Int) - 1 < (d.size : Int) := by omega
                        have fr1 : IntKind.i64.wrap ((ju : Int) - 1) = (ju : Int) - 1 := IntWalk.i64_in _ (by omega)
                        have fs1 : ((ju : Int) - 1).toNat = ju - 1 := by omega
                        have HL := Lib.hid (fun n => less_calls du[ju]! du[ju - 1]! (wr.drewN n))
                        rw [hd] at HL
                        generalize du[ju]! = x at ci HL
                        generalize du[ju - 1]! = y at cj HL
                        clear hd
                        go_wp2
                        go_quiet ((go_at_call 83; exact Calls.quiet_of_same (HL.out _)))
                        have SU1 := Lib.hid (SU.out.drewN nq)
                        clear HL ci cj SU fr1 fs1
                        generalize wr.drewN nq = w2 at SU1 ⊢
                        go_wp2
                        go_roundg (5 - (s + 1))
                        case measure => omega
                        case rel => exact ⟨k, s + 1, du, rfl, by first | go_num | (congr 1; omega), by omega, Nat.le_refl _, by omega, by omega, hsu, SU1, Lib.hid (by rw [← HO.out, PG.out, HF.out])⟩
                    · have hjz : ¬ (ju : Int) < (b : Int) := by omega
                      have HF : Hid (fixUp ltInt b k dx = du) := Lib.hid (by unfold fixUp; rw [if_pos hbk, ← HU.out, shiftUp_stop ltInt b ju du (Or.inl hjb')])
                      clear HU
                      go_wp2
                      go_roundg (5 - (s + 1))
                      case measure => omega
                      case rel => exact ⟨k, s + 1, du, rfl, by first | go_num | (congr 1; omega), by omega, Nat.le_refl _, by omega, by omega, hsu, SU, Lib.hid (by rw [← HO.out, PG.out, HF.out])⟩
                · have hbkz : ¬ (2 : Int) ≤ (b : Int) - (k : Int) := by omega
                  have HF : Hid (fixUp ltInt b k dx = dx) := Lib.hid (by unfold fixUp; rw [if_neg hbk])
                  go_wp2
                  go_roundg (5 - (s + 1))
                  case measure => omega
                  case rel => exact ⟨k, s + 1, dx, rfl, by first | go_num | (congr 1; omega), by omega, Nat.le_refl _, by omega, by omega, hsx, S3, Lib.hid (by rw [← HO.out, PG.out, HF.out])⟩
        · obtain rfl : k = b := by omega
          have gk1 : decide ((k : Int) < (k : Int)) = false := decide_eq_false (by omega)
          have HV := Lib.hid (show partialInsertionSort ltInt d a k = (dk, true) by rw [← HO.out, pi_true ltInt a k s i dk h5 (by rw [← HSc.out, scanSorted_stop ltInt dk k k (Or.inl (by omega))])])
          clear HO HSc
          go_wp2
          go_quiet (fail)
          have S2 := Lib.hid (S1.out.drewN nq)
          clear S1
          generalize wr.drewN nq = w2 at S2 ⊢
          clear gk1
          go_wp2
          go_ret
          rw [HV.out]
          exact ⟨rfl, S2.out⟩
    · obtain rfl : s = 5 := by omega
      have HV := Lib.hid (show partialInsertionSort ltInt d a b = (dk, false) by rw [← HO.out, pi_end])
      clear HO
      go_wp2
      go_ret
      rw [HV.out]
      exact ⟨rfl, S1.out⟩
end Go.Proofs.Ytnfnnmmblommiaa.PA
