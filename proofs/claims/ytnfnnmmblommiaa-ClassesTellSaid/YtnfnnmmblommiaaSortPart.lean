/- slices.Sort at int32, by hand: partitionEqual (printed by gsort.py). slices.Sort at int32, by hand: partition (printed by gsort.py). -/
import Derived.Test.YtnfnnmmblommiaaSortRev
import Derived.Sort.WalkC
import Derived.Sort.WalkC4
namespace Go.Proofs.Ytnfnnmmblommiaa.PA
open Go.RowKit Go.Shelf Go.Lib Go.Sort
set_option linter.unusedVariables false
set_option linter.unusedSimpArgs false

set_option maxRecDepth 100000 in
set_option maxHeartbeats 8000000 in
theorem eqpart_walk (blk off cap a b pivot : Nat) (d0 d : Array Int) (w0 w : World) (R : Row1 enc32 w0 blk off d0) (hs : d0.size = d.size) (S : SW enc32 w0 blk off d w) (hap : a ≤ pivot) (hpb : pivot < b) (hb : b ≤ d.size) (hsz : d.size < 1152921504606846976) :
    Calls Try.prog 84 #[.slice (some ⟨blk, off, none⟩) d.size cap, .int .i64 a, .int .i64 b, .int .i64 pivot] w fun e w' => e = .returned (.int .i64 (partitionEqual ltInt d a b pivot).1) ∧ SW enc32 w0 blk off (partitionEqual ltInt d a b pivot).2 w' := by
  have S0 := Lib.hid S
  have HR := Lib.hid R
  clear S R
  go_enter Try.func84, Try.ntmps84
  obtain ⟨ci, cj, fi, fj, ⟨u, c2⟩, SX⟩ := xch S0.out HR.out (by omega) (i := a) (j := pivot) (by omega) (by omega)
  have S1 := Lib.hid SX
  clear SX S0
  generalize d[a]! = x at ci c2 S1
  generalize d[pivot]! = y at cj c2 S1
  have fp0 : (0 : Int) ≤ (a : Int) := by omega
  have fq0 : (a : Int) < (d.size : Int) := by omega
  have fp1 : (0 : Int) ≤ (pivot : Int) := by omega
  have fq1 : (pivot : Int) < (d.size : Int) := by omega
  go_wp2
  go_big_region
  generalize ((w.setCell ⟨blk, off + a, none⟩ (.int .i32 y)).setCell ⟨blk, off + pivot, none⟩ (.int .i32 x)).drew = w1 at S1 ⊢
  clear ci cj fi fj c2 
  go_wp2
  go_loopg [9, 10] (b - 1 + 1 - (a + 1)) (fun g vi vj wr => ∃ (i j : Nat) (dk : Array Int), vi = .int .i64 i ∧ vj = .int .i64 j ∧ a < i ∧ i ≤ j + 1 ∧ j < b ∧ j + 1 - i ≤ g ∧ dk.size = d.size ∧ Hid (SW enc32 w0 blk off dk wr) ∧ Hid (partEqLoop ltInt a i j dk = partEqLoop ltInt a (a + 1) (b - 1) (swp d a pivot)))
  case atStart => exact ⟨a + 1, b - 1, swp d a pivot, by go_num, by first | go_num | (congr 1; omega), by omega, by omega, by omega, by omega, size_swp _ _ _, S1, Lib.hid rfl⟩
  case round =>
    clear S1
    obtain ⟨i, j, dk, rfl, rfl, hai, hij, hjb, hg, hsk, S1, AE⟩ := hrel
    go_wp2
    go_loopg [9] (j + 1 - i) (fun h1 vi wq => ∃ (p1 : Nat), vi = .int .i64 p1 ∧ i ≤ p1 ∧ p1 ≤ j + 1 ∧ j + 1 - p1 ≤ h1 ∧ Hid (SW enc32 w0 blk off dk wq) ∧ Hid (scanUp (fun x => !ltInt dk[a]! x) dk j p1 = scanUp (fun x => !ltInt dk[a]! x) dk j i))
    case atStart => exact ⟨i, by first | rfl | go_num, Nat.le_refl _, by omega, Nat.le_refl _, S1, Lib.hid rfl⟩
    case round =>
      clear S1
      obtain ⟨p1, rfl, hip1, hpj1, hpg1, SU1, HU1⟩ := hrel
      by_cases hle1 : p1 ≤ j
      · have gu : decide ((p1 : Int) ≤ (j : Int)) = true := decide_eq_true (by omega)
        cases hd : ltInt dk[a]! dk[p1]! with
        | false =>
          have HN := Lib.hid ((scanUp_go (fun x => !ltInt dk[a]! x) dk j p1 hle1 (by simp [hd])).symm.trans HU1.out)
          clear HU1
          have X := xch SU1.out HR.out (by omega) (i := a) (j := p1) (by omega) (by omega)
          have ci := X.ci
          have cj := X.cj
          clear X
          have fp0 : (0 : Int) ≤ (a : Int) := by omega
          have fq0 : (a : Int) < (d.size : Int) := by omega
          have fp1 : (0 : Int) ≤ (p1 : Int) := by omega
          have fq1 : (p1 : Int) < (d.size : Int) := by omega
          have HL := Lib.hid (fun n => less_calls dk[a]! dk[p1]! (wr.drewN n))
          rw [hd] at HL
          generalize dk[a]! = x at ci HL
          generalize dk[p1]! = y at cj HL
          clear hd
          go_wp2
          go_quiet ((go_at_call 83; exact Calls.quiet_of_same (HL.out _)))
          have SV1 := Lib.hid (SU1.out.drewN nq)
          clear HL ci cj SU1 
          generalize wr.drewN nq = w2 at SV1 ⊢
          go_wp2
          go_roundg (j - p1)
          case measure => omega
          case rel => exact ⟨p1 + 1, by go_num, by omega, by omega, by omega, SV1, HN⟩
        | true =>
          have HI1 := Lib.hid ((scanUp_end (fun x => !ltInt dk[a]! x) dk j p1 (Or.inr (by simp [hd]))).symm.trans HU1.out)
          clear HU1
          have X := xch SU1.out HR.out (by omega) (i := a) (j := p1) (by omega) (by omega)
          have ci := X.ci
          have cj := X.cj
          clear X
          have fp0 : (0 : Int) ≤ (a : Int) := by omega
          have fq0 : (a : Int) < (d.size : Int) := by omega
          have fp1 : (0 : Int) ≤ (p1 : Int) := by omega
          have fq1 : (p1 : Int) < (d.size : Int) := by omega
          have HL := Lib.hid (fun n => less_calls dk[a]! dk[p1]! (wr.drewN n))
          rw [hd] at HL
          generalize dk[a]! = x at ci HL
          generalize dk[p1]! = y at cj HL
          clear hd
          go_wp2
          go_quiet ((go_at_call 83; exact Calls.quiet_of_same (HL.out _)))
          have SV1 := Lib.hid (SU1.out.drewN nq)
          clear HL ci cj SU1 
          generalize wr.drewN nq = w2 at SV1 ⊢
          clear gu
          go_wp2
          go_loopg [10] j (fun g1 vj wq => ∃ (q1 : Nat), vj = .int .i64 q1 ∧ q1 ≤ j ∧ q1 ≤ g1 ∧ p1 ≤ q1 + 1 ∧ Hid (SW enc32 w0 blk off dk wq) ∧ Hid (scanDown (fun x => ltInt dk[a]! x) dk p1 q1 = scanDown (fun x => ltInt dk[a]! x) dk p1 j))
          case atStart => exact ⟨j, by first | rfl | go_num, Nat.le_refl _, Nat.le_refl _, by omega, SV1, Lib.hid rfl⟩
          case round =>
            clear SV1
            obtain ⟨q1, rfl, hq1, hqg1, hpq1, SD1, HD1⟩ := hrel
            by_cases hl21 : p1 ≤ q1
            · have gd : decide ((p1 : Int) ≤ (q1 : Int)) = true := decide_eq_true (by omega)
              cases hd : ltInt dk[a]! dk[q1]! with
              | true =>
                have HN := Lib.hid ((scanDown_go (fun x => ltInt dk[a]! x) dk p1 q1 hl21 (by omega) (by simp [hd])).symm.trans HD1.out)
                clear HD1
                have X := xch SD1.out HR.out (by omega) (i := a) (j := q1) (by omega) (by omega)
                have ci := X.ci
                have cj := X.cj
                clear X
                have fp0 : (0 : Int) ≤ (a : Int) := by omega
                have fq0 : (a : Int) < (d.size : Int) := by omega
                have fp1 : (0 : Int) ≤ (q1 : Int) := by omega
                have fq1 : (q1 : Int) < (d.size : Int) := by omega
                have HL := Lib.hid (fun n => less_calls dk[a]! dk[q1]! (wr.drewN n))
                rw [hd] at HL
                generalize dk[a]! = x at ci HL
                generalize dk[q1]! = y at cj HL
                clear hd
                go_wp2
                go_quiet ((go_at_call 83; exact Calls.quiet_of_same (HL.out _)))
                have SE1 := Lib.hid (SD1.out.drewN nq)
                clear HL ci cj SD1 
                generalize wr.drewN nq = w2 at SE1 ⊢
                go_wp2
                go_roundg (q1 - 1)
                case measure => omega
                case rel => exact ⟨q1 - 1, by first | go_num | (congr 1; omega), by omega, Nat.le_refl _, by omega, SE1, HN⟩
              | false =>
                have HJ1 := Lib.hid ((scanDown_end (fun x => ltInt dk[a]! x) dk p1 q1 (Or.inr (by simp [hd]))).symm.trans HD1.out)
                clear HD1
                have hlt1 := scans_lt ltInt a i j dk (by omega) HI1.out HJ1.out hl21
                have X := xch SD1.out HR.out (by omega) (i := a) (j := q1) (by omega) (by omega)
                have ci := X.ci
                have cj := X.cj
                clear X
                have fp0 : (0 : Int) ≤ (a : Int) := by omega
                have fq0 : (a : Int) < (d.size : Int) := by omega
                have fp1 : (0 : Int) ≤ (q1 : Int) := by omega
                have fq1 : (q1 : Int) < (d.size : Int) := by omega
                have HL := Lib.hid (fun n => less_calls dk[a]! dk[q1]! (wr.drewN n))
                rw [hd] at HL
                generalize dk[a]! = x at ci HL
                generalize dk[q1]! = y at cj HL
                clear hd
                go_wp2
                go_quiet ((go_at_call 83; exact Calls.quiet_of_same (HL.out _)))
                have SE1 := Lib.hid (SD1.out.drewN nq)
                clear HL ci cj SD1 
                generalize wr.drewN nq = w2 at SE1 ⊢
                obtain ⟨ci, cj, fi, fj, ⟨u, c2⟩, SX⟩ := xch SE1.out HR.out (by omega) (i := p1) (j := q1) (by omega) (by omega)
                have SF1 := Lib.hid SX
                clear SX SE1
                generalize dk[p1]! = x at ci c2 SF1
                generalize dk[q1]! = y at cj c2 SF1
                have fp0 : (0 : Int) ≤ (p1 : Int) := by omega
                have fq0 : (p1 : Int) < (d.size : Int) := by omega
                have fp1 : (0 : Int) ≤ (q1 : Int) := by omega
                have fq1 : (q1 : Int) < (d.size : Int) := by omega
                go_wp2
                go_big_region
                generalize ((w2.setCell ⟨blk, off + p1, none⟩ (.int .i32 y)).setCell ⟨blk, off + q1, none⟩ (.int .i32 x)).drew = w3 at SF1 ⊢
                clear ci cj fi fj c2 
                go_wp2
                go_roundg (j + 1 - i - 1)
                case measure => omega
                case rel => exact ⟨p1 + 1, q1 - 1, swp dk p1 q1, by go_num, by first | go_num | (congr 1; omega), by omega, by omega, by omega, by omega, by rw [size_swp]; exact hsk, SF1, Lib.hid (by rw [← AE.out]; exact (partEq_go ltInt a i j dk HI1.out HJ1.out (by omega)).symm)⟩
            · have gd : decide ((p1 : Int) ≤ (q1 : Int)) = false := decide_eq_false (by omega)
              have HJ1 := Lib.hid ((scanDown_end (fun x => ltInt dk[a]! x) dk p1 q1 (Or.inl hl21)).symm.trans HD1.out)
              clear HD1
              go_wp2
              go_quiet (fail)
              have SE1 := Lib.hid (SD1.out.drewN nq)
              clear SD1
              generalize wr.drewN nq = w2 at SE1 ⊢
              clear gd
              go_wp2
              go_ret
              have e := partEq_break ltInt a i j dk HI1.out HJ1.out (by omega)
              refine ⟨?_, ?_⟩
              · unfold partitionEqual; rw [← AE.out, e]; rfl
              · unfold partitionEqual; rw [← AE.out, e]; exact SE1.out
      · have gu : decide ((p1 : Int) ≤ (j : Int)) = false := decide_eq_false (by omega)
        have HI1 := Lib.hid ((scanUp_end (fun x => !ltInt dk[a]! x) dk j p1 (Or.inl hle1)).symm.trans HU1.out)
        clear HU1
        go_wp2
        go_quiet (fail)
        have SV1 := Lib.hid (SU1.out.drewN nq)
        clear SU1
        generalize wr.drewN nq = w2 at SV1 ⊢
        clear gu
        go_wp2
        go_loopg [10] j (fun g1 vj wq => ∃ (q1 : Nat), vj = .int .i64 q1 ∧ q1 ≤ j ∧ q1 ≤ g1 ∧ p1 ≤ q1 + 1 ∧ Hid (SW enc32 w0 blk off dk wq) ∧ Hid (scanDown (fun x => ltInt dk[a]! x) dk p1 q1 = scanDown (fun x => ltInt dk[a]! x) dk p1 j))
        case atStart => exact ⟨j, by first | rfl | go_num, Nat.le_refl _, Nat.le_refl _, by omega, SV1, Lib.hid rfl⟩
        case round =>
          clear SV1
          obtain ⟨q1, rfl, hq1, hqg1, hpq1, SD1, HD1⟩ := hrel
          by_cases hl21 : p1 ≤ q1
          · exfalso; omega
          · have gd : decide ((p1 : Int) ≤ (q1 : Int)) = false := decide_eq_false (by omega)
            have HJ1 := Lib.hid ((scanDown_end (fun x => ltInt dk[a]! x) dk p1 q1 (Or.inl hl21)).symm.trans HD1.out)
            clear HD1
            go_wp2
            go_quiet (fail)
            have SE1 := Lib.hid (SD1.out.drewN nq)
            clear SD1
            generalize wr.drewN nq = w2 at SE1 ⊢
            clear gd
            go_wp2
            go_ret
            have e := partEq_break ltInt a i j dk HI1.out HJ1.out (by omega)
            refine ⟨?_, ?_⟩
            · unfold partitionEqual; rw [← AE.out, e]; rfl
            · unfold partitionEqual; rw [← AE.out, e]; exact SE1.out
end Go.Proofs.Ytnfnnmmblommiaa.PA
namespace Go.Proofs.Ytnfnnmmblommiaa.PA
open Go.RowKit Go.Shelf Go.Lib Go.Sort
set_option linter.unusedVariables false
set_option linter.unusedSimpArgs false

set_option maxRecDepth 100000 in
set_option maxHeartbeats 8000000 in
theorem part_walk (blk off cap a b pivot : Nat) (d0 d : Array Int) (w0 w : World) (R : Row1 enc32 w0 blk off d0) (hs : d0.size = d.size) (S : SW enc32 w0 blk off d w) (hap : a ≤ pivot) (hpb : pivot < b) (hb : b ≤ d.size) (hsz : d.size < 1152921504606846976) :
    Calls Try.prog 85 #[.slice (some ⟨blk, off, none⟩) d.size cap, .int .i64 a, .int .i64 b, .int .i64 pivot] w fun e w' => e = .returned (.tuple #[.int .i64 (partition ltInt d a b pivot).1, .bool (partition ltInt d a b pivot).2.1]) ∧ SW enc32 w0 blk off (partition ltInt d a b pivot).2.2 w' := by
  have S0 := Lib.hid S
  have HR := Lib.hid R
  clear S R
  go_enter Try.func85, Try.ntmps85
  obtain ⟨ci, cj, fi, fj, ⟨u, c2⟩, SX⟩ := xch S0.out HR.out (by omega) (i := a) (j := pivot) (by omega) (by omega)
  have S1 := Lib.hid SX
  clear SX S0
  generalize d[a]! = x at ci c2 S1
  generalize d[pivot]! = y at cj c2 S1
  have fp0 : (0 : Int) ≤ (a : Int) := by omega
  have fq0 : (a : Int) < (d.size : Int) := by omega
  have fp1 : (0 : Int) ≤ (pivot : Int) := by omega
  have fq1 : (pivot : Int) < (d.size : Int) := by omega
  go_wp2
  go_big_region
  generalize ((w.setCell ⟨blk, off + a, none⟩ (.int .i32 y)).setCell ⟨blk, off + pivot, none⟩ (.int .i32 x)).drew = w1 at S1 ⊢
  clear ci cj fi fj c2 
  obtain ⟨i, hi⟩ : ∃ i : Nat, i = a + 1 := ⟨_, rfl⟩
  obtain ⟨j, hj⟩ : ∃ j : Nat, j = b - 1 := ⟨_, rfl⟩
  obtain ⟨dk, hdk⟩ : ∃ dk : Array Int, dk = swp d a pivot := ⟨_, rfl⟩
  rw [← hdk] at S1
  have hsk : dk.size = d.size := by rw [hdk]; exact size_swp _ _ _
  have hai : a < i := by omega
  have hij : i ≤ j + 1 := by omega
  have hjb : j < b := by omega
  have Hi := Lib.hid hi
  have Hj := Lib.hid hj
  have Hdk := Lib.hid hdk
  have zi : (a : Int) + 1 = (i : Int) := by omega
  have zj : (b : Int) - 1 = (j : Int) := by omega
  clear hi hj hdk
  go_wp2
  clear zi zj
  go_loopg [10] (j + 1 - i) (fun h1 vi wq => ∃ (p1 : Nat), vi = .int .i64 p1 ∧ i ≤ p1 ∧ p1 ≤ j + 1 ∧ j + 1 - p1 ≤ h1 ∧ Hid (SW enc32 w0 blk off dk wq) ∧ Hid (scanUp (fun x => ltInt x dk[a]!) dk j p1 = scanUp (fun x => ltInt x dk[a]!) dk j i))
  case atStart => exact ⟨i, by first | rfl | go_num, Nat.le_refl _, by omega, Nat.le_refl _, S1, Lib.hid rfl⟩
  case round =>
    clear S1
    obtain ⟨p1, rfl, hip1, hpj1, hpg1, SU1, HU1⟩ := hrel
    by_cases hle1 : p1 ≤ j
    · have gu : decide ((p1 : Int) ≤ (j : Int)) = true := decide_eq_true (by omega)
      cases hd : ltInt dk[p1]! dk[a]! with
      | true =>
        have HN := Lib.hid ((scanUp_go (fun x => ltInt x dk[a]!) dk j p1 hle1 (by simp [hd])).symm.trans HU1.out)
        clear HU1
        have X := xch SU1.out HR.out (by omega) (i := p1) (j := a) (by omega) (by omega)
        have ci := X.ci
        have cj := X.cj
        clear X
        have fp0 : (0 : Int) ≤ (p1 : Int) := by omega
        have fq0 : (p1 : Int) < (d.size : Int) := by omega
        have fp1 : (0 : Int) ≤ (a : Int) := by omega
        have fq1 : (a : Int) < (d.size : Int) := by omega
        have HL := Lib.hid (fun n => less_calls dk[p1]! dk[a]! (wr.drewN n))
        rw [hd] at HL
        generalize dk[p1]! = x at ci HL
        generalize dk[a]! = y at cj HL
        clear hd
        go_wp2
        go_quiet ((go_at_call 83; exact Calls.quiet_of_same (HL.out _)))
        have SV1 := Lib.hid (SU1.out.drewN nq)
        clear HL ci cj SU1 
        generalize wr.drewN nq = w2 at SV1 ⊢
        go_wp2
        go_roundg (j - p1)
        case measure => omega
        case rel => exact ⟨p1 + 1, by go_num, by omega, by omega, by omega, SV1, HN⟩
      | false =>
        have HI1 := Lib.hid ((scanUp_end (fun x => ltInt x dk[a]!) dk j p1 (Or.inr (by simp [hd]))).symm.trans HU1.out)
        clear HU1
        have X := xch SU1.out HR.out (by omega) (i := p1) (j := a) (by omega) (by omega)
        have ci := X.ci
        have cj := X.cj
        clear X
        have fp0 : (0 : Int) ≤ (p1 : Int) := by omega
        have fq0 : (p1 : Int) < (d.size : Int) := by omega
        have fp1 : (0 : Int) ≤ (a : Int) := by omega
        have fq1 : (a : Int) < (d.size : Int) := by omega
        have HL := Lib.hid (fun n => less_calls dk[p1]! dk[a]! (wr.drewN n))
        rw [hd] at HL
        generalize dk[p1]! = x at ci HL
        generalize dk[a]! = y at cj HL
        clear hd
        go_wp2
        go_quiet ((go_at_call 83; exact Calls.quiet_of_same (HL.out _)))
        have SV1 := Lib.hid (SU1.out.drewN nq)
        clear HL ci cj SU1 
        generalize wr.drewN nq = w2 at SV1 ⊢
        clear gu
        go_wp2
        go_loopg [11] j (fun g1 vj wq => ∃ (q1 : Nat), vj = .int .i64 q1 ∧ q1 ≤ j ∧ q1 ≤ g1 ∧ p1 ≤ q1 + 1 ∧ Hid (SW enc32 w0 blk off dk wq) ∧ Hid (scanDown (fun x => !ltInt x dk[a]!) dk p1 q1 = scanDown (fun x => !ltInt x dk[a]!) dk p1 j))
        case atStart => exact ⟨j, by first | rfl | go_num, Nat.le_refl _, Nat.le_refl _, by omega, SV1, Lib.hid rfl⟩
        case round =>
          clear SV1
          obtain ⟨q1, rfl, hq1, hqg1, hpq1, SD1, HD1⟩ := hrel
          by_cases hl21 : p1 ≤ q1
          · have gd : decide ((p1 : Int) ≤ (q1 : Int)) = true := decide_eq_true (by omega)
            cases hd : ltInt dk[q1]! dk[a]! with
            | false =>
              have HN := Lib.hid ((scanDown_go (fun x => !ltInt x dk[a]!) dk p1 q1 hl21 (by omega) (by simp [hd])).symm.trans HD1.out)
              clear HD1
              have X := xch SD1.out HR.out (by omega) (i := q1) (j := a) (by omega) (by omega)
              have ci := X.ci
              have cj := X.cj
              clear X
              have fp0 : (0 : Int) ≤ (q1 : Int) := by omega
              have fq0 : (q1 : Int) < (d.size : Int) := by omega
              have fp1 : (0 : Int) ≤ (a : Int) := by omega
              have fq1 : (a : Int) < (d.size : Int) := by omega
              have HL := Lib.hid (fun n => less_calls dk[q1]! dk[a]! (wr.drewN n))
              rw [hd] at HL
              generalize dk[q1]! = x at ci HL
              generalize dk[a]! = y at cj HL
              clear hd
              go_wp2
              go_quiet ((go_at_call 83; exact Calls.quiet_of_same (HL.out _)))
              have SE1 := Lib.hid (SD1.out.drewN nq)
              clear HL ci cj SD1 
              generalize wr.drewN nq = w2 at SE1 ⊢
              go_wp2
              go_roundg (q1 - 1)
              case measure => omega
              case rel => exact ⟨q1 - 1, by first | go_num | (congr 1; omega), by omega, Nat.le_refl _, by omega, SE1, HN⟩
            | true =>
              have HJ1 := Lib.hid ((scanDown_end (fun x => !ltInt x dk[a]!) dk p1 q1 (Or.inr (by simp [hd]))).symm.trans HD1.out)
              clear HD1
              have hlt1 := part_scans_lt ltInt a i j dk (by omega) HI1.out HJ1.out hl21
              have X := xch SD1.out HR.out (by omega) (i := q1) (j := a) (by omega) (by omega)
              have ci := X.ci
              have cj := X.cj
              clear X
              have fp0 : (0 : Int) ≤ (q1 : Int) := by omega
              have fq0 : (q1 : Int) < (d.size : Int) := by omega
              have fp1 : (0 : Int) ≤ (a : Int) := by omega
              have fq1 : (a : Int) < (d.size : Int) := by omega
              have HL := Lib.hid (fun n => less_calls dk[q1]! dk[a]! (wr.drewN n))
              rw [hd] at HL
              generalize dk[q1]! = x at ci HL
              generalize dk[a]! = y at cj HL
              clear hd
              go_wp2
              go_quiet ((go_at_call 83; exact Calls.quiet_of_same (HL.out _)))
              have SE1 := Lib.hid (SD1.out.drewN nq)
              clear HL ci cj SD1 
              generalize wr.drewN nq = w2 at SE1 ⊢
              have gt1 : decide (q1 < p1) = false := decide_eq_false (by omega)
              have gz1 : decide ((q1 : Int) < (p1 : Int)) = false := decide_eq_false (by omega)
              obtain ⟨ci, cj, fi, fj, ⟨u, c2⟩, SX⟩ := xch SE1.out HR.out (by omega) (i := p1) (j := q1) (by omega) (by omega)
              have SF1 := Lib.hid SX
              clear SX SE1
              generalize dk[p1]! = x at ci c2 SF1
              generalize dk[q1]! = y at cj c2 SF1
              have fp0 : (0 : Int) ≤ (p1 : Int) := by omega
              have fq0 : (p1 : Int) < (d.size : Int) := by omega
              have fp1 : (0 : Int) ≤ (q1 : Int) := by omega
              have fq1 : (q1 : Int) < (d.size : Int) := by omega
              go_wp2
              go_big_region
              generalize ((w2.setCell ⟨blk, off + p1, none⟩ (.int .i32 y)).setCell ⟨blk, off + q1, none⟩ (.int .i32 x)).drew = w3 at SF1 ⊢
              clear ci cj fi fj c2 
              clear gt1 gz1
              have PF : Hid (partition ltInt d a b pivot = ((partLoop ltInt a (p1 + 1) (q1 - 1) (swp dk p1 q1)).1, false, swp (partLoop ltInt a (p1 + 1) (q1 - 1) (swp dk p1 q1)).2 (partLoop ltInt a (p1 + 1) (q1 - 1) (swp dk p1 q1)).1 a)) := Lib.hid (part_first_go ltInt d a b pivot Hi.out Hj.out Hdk.out HI1.out HJ1.out (by omega))
              have hszx : (swp dk p1 q1).size = d.size := by rw [size_swp]; exact hsk
              obtain ⟨I0, hI0⟩ : ∃ I0 : Nat, I0 = p1 + 1 := ⟨_, rfl⟩
              obtain ⟨J0, hJ0⟩ : ∃ J0 : Nat, J0 = q1 - 1 := ⟨_, rfl⟩
              have zI0 : (p1 : Int) + 1 = (I0 : Int) := by omega
              have zJ0 : (q1 : Int) - 1 = (J0 : Int) := by omega
              rw [← hI0, ← hJ0] at PF
              have k1 : a < I0 := by omega
              have k2 : I0 ≤ J0 + 1 := by omega
              have k3 : J0 < b := by omega
              generalize swp dk p1 q1 = D0 at PF SF1 hszx
              clear HI1 HJ1 Hi Hj Hdk hlt1 hI0 hJ0
              go_wp2
              go_loopg [10, 11] (J0 + 1 - I0) (fun g vi vj wr => ∃ (i2 j2 : Nat) (dk2 : Array Int), vi = .int .i64 i2 ∧ vj = .int .i64 j2 ∧ a < i2 ∧ i2 ≤ j2 + 1 ∧ j2 < b ∧ j2 + 1 - i2 ≤ g ∧ dk2.size = d.size ∧ Hid (SW enc32 w0 blk off dk2 wr) ∧ Hid (partLoop ltInt a i2 j2 dk2 = partLoop ltInt a I0 J0 D0))
              case atStart => exact ⟨I0, J0, D0, by first | rfl | go_num | (congr 1; omega), by first | rfl | go_num | (congr 1; omega), k1, k2, k3, Nat.le_refl _, hszx, SF1, Lib.hid rfl⟩
              case round =>
                clear SF1 zI0 zJ0
                obtain ⟨i2, j2, dk2, rfl, rfl, hai2, hij2, hjb2, hg2, hsk2, T1, AE⟩ := hrel
                go_wp2
                go_loopg [10] (j2 + 1 - i2) (fun h2 vi wq => ∃ (p2 : Nat), vi = .int .i64 p2 ∧ i2 ≤ p2 ∧ p2 ≤ j2 + 1 ∧ j2 + 1 - p2 ≤ h2 ∧ Hid (SW enc32 w0 blk off dk2 wq) ∧ Hid (scanUp (fun x => ltInt x dk2[a]!) dk2 j2 p2 = scanUp (fun x => ltInt x dk2[a]!) dk2 j2 i2))
                case atStart => exact ⟨i2, by first | rfl | go_num, Nat.le_refl _, by omega, Nat.le_refl _, T1, Lib.hid rfl⟩
                case round =>
                  clear T1
                  obtain ⟨p2, rfl, hip2, hpj2, hpg2, SU2, HU2⟩ := hrel
                  by_cases hle2 : p2 ≤ j2
                  · have gu : decide ((p2 : Int) ≤ (j2 : Int)) = true := decide_eq_true (by omega)
                    cases hd : ltInt dk2[p2]! dk2[a]! with
                    | true =>
                      have HN := Lib.hid ((scanUp_go (fun x => ltInt x dk2[a]!) dk2 j2 p2 hle2 (by simp [hd])).symm.trans HU2.out)
                      clear HU2
                      have X := xch SU2.out HR.out (by omega) (i := p2) (j := a) (by omega) (by omega)
                      have ci := X.ci
                      have cj := X.cj
                      clear X
                      have fp0 : (0 : Int) ≤ (p2 : Int) := by omega
                      have fq0 : (p2 : Int) < (d.size : Int) := by omega
                      have fp1 : (0 : Int) ≤ (a : Int) := by omega
                      have fq1 : (a : Int) < (d.size : Int) := by omega
                      have HL := Lib.hid (fun n => less_calls dk2[p2]! dk2[a]! (wr.drewN n))
                      rw [hd] at HL
                      generalize dk2[p2]! = x at ci HL
                      generalize dk2[a]! = y at cj HL
                      clear hd
                      go_wp2
                      go_quiet ((go_at_call 83; exact Calls.quiet_of_same (HL.out _)))
                      have SV2 := Lib.hid (SU2.out.drewN nq)
                      clear HL ci cj SU2 
                      generalize wr.drewN nq = w2 at SV2 ⊢
                      go_wp2
                      go_roundg (j2 - p2)
                      case measure => omega
                      case rel => exact ⟨p2 + 1, by go_num, by omega, by omega, by omega, SV2, HN⟩
                    | false =>
                      have HI2 := Lib.hid ((scanUp_end (fun x => ltInt x dk2[a]!) dk2 j2 p2 (Or.inr (by simp [hd]))).symm.trans HU2.out)
                      clear HU2
                      have X := xch SU2.out HR.out (by omega) (i := p2) (j := a) (by omega) (by omega)
                      have ci := X.ci
                      have cj := X.cj
                      clear X
                      have fp0 : (0 : Int) ≤ (p2 : Int) := by omega
                      have fq0 : (p2 : Int) < (d.size : Int) := by omega
                      have fp1 : (0 : Int) ≤ (a : Int) := by omega
                      have fq1 : (a : Int) < (d.size : Int) := by omega
                      have HL := Lib.hid (fun n => less_calls dk2[p2]! dk2[a]! (wr.drewN n))
                      rw [hd] at HL
                      generalize dk2[p2]! = x at ci HL
                      generalize dk2[a]! = y at cj HL
                      clear hd
                      go_wp2
                      go_quiet ((go_at_call 83; exact Calls.quiet_of_same (HL.out _)))
                      have SV2 := Lib.hid (SU2.out.drewN nq)
                      clear HL ci cj SU2 
                      generalize wr.drewN nq = w2 at SV2 ⊢
                      clear gu
                      go_wp2
                      go_loopg [11] j2 (fun g2 vj wq => ∃ (q2 : Nat), vj = .int .i64 q2 ∧ q2 ≤ j2 ∧ q2 ≤ g2 ∧ p2 ≤ q2 + 1 ∧ Hid (SW enc32 w0 blk off dk2 wq) ∧ Hid (scanDown (fun x => !ltInt x dk2[a]!) dk2 p2 q2 = scanDown (fun x => !ltInt x dk2[a]!) dk2 p2 j2))
                      case atStart => exact ⟨j2, by first | rfl | go_num, Nat.le_refl _, Nat.le_refl _, by omega, SV2, Lib.hid rfl⟩
                      case round =>
                        clear SV2
                        obtain ⟨q2, rfl, hq2, hqg2, hpq2, SD2, HD2⟩ := hrel
                        by_cases hl22 : p2 ≤ q2
                        · have gd : decide ((p2 : Int) ≤ (q2 : Int)) = true := decide_eq_true (by omega)
                          cases hd : ltInt dk2[q2]! dk2[a]! with
                          | false =>
                            have HN := Lib.hid ((scanDown_go (fun x => !ltInt x dk2[a]!) dk2 p2 q2 hl22 (by omega) (by simp [hd])).symm.trans HD2.out)
                            clear HD2
                            have X := xch SD2.out HR.out (by omega) (i := q2) (j := a) (by omega) (by omega)
                            have ci := X.ci
                            have cj := X.cj
                            clear X
                            have fp0 : (0 : Int) ≤ (q2 : Int) := by omega
                            have fq0 : (q2 : Int) < (d.size : Int) := by omega
                            have fp1 : (0 : Int) ≤ (a : Int) := by omega
                            have fq1 : (a : Int) < (d.size : Int) := by omega
                            have HL := Lib.hid (fun n => less_calls dk2[q2]! dk2[a]! (wr.drewN n))
                            rw [hd] at HL
                            generalize dk2[q2]! = x at ci HL
                            generalize dk2[a]! = y at cj HL
                            clear hd
                            go_wp2
                            go_quiet ((go_at_call 83; exact Calls.quiet_of_same (HL.out _)))
                            have SE2 := Lib.hid (SD2.out.drewN nq)
                            clear HL ci cj SD2 
                            generalize wr.drewN nq = w2 at SE2 ⊢
                            go_wp2
                            go_roundg (q2 - 1)
                            case measure => omega
                            case rel => exact ⟨q2 - 1, by first | go_num | (congr 1; omega), by omega, Nat.le_refl _, by omega, SE2, HN⟩
                          | true =>
                            have HJ2 := Lib.hid ((scanDown_end (fun x => !ltInt x dk2[a]!) dk2 p2 q2 (Or.inr (by simp [hd]))).symm.trans HD2.out)
                            clear HD2
                            have hlt2 := part_scans_lt ltInt a i2 j2 dk2 (by omega) HI2.out HJ2.out hl22
                            have X := xch SD2.out HR.out (by omega) (i := q2) (j := a) (by omega) (by omega)
                            have ci := X.ci
                            have cj := X.cj
                            clear X
                            have fp0 : (0 : Int) ≤ (q2 : Int) := by omega
                            have fq0 : (q2 : Int) < (d.size : Int) := by omega
                            have fp1 : (0 : Int) ≤ (a : Int) := by omega
                            have fq1 : (a : Int) < (d.size : Int) := by omega
                            have HL := Lib.hid (fun n => less_calls dk2[q2]! dk2[a]! (wr.drewN n))
                            rw [hd] at HL
                            generalize dk2[q2]! = x at ci HL
                            generalize dk2[a]! = y at cj HL
                            clear hd
                            go_wp2
                            go_quiet ((go_at_call 83; exact Calls.quiet_of_same (HL.out _)))
                            have SE2 := Lib.hid (SD2.out.drewN nq)
                            clear HL ci cj SD2 
                            generalize wr.drewN nq = w2 at SE2 ⊢
                            obtain ⟨ci, cj, fi, fj, ⟨u, c2⟩, SX⟩ := xch SE2.out HR.out (by omega) (i := p2) (j := q2) (by omega) (by omega)
                            have SF2 := Lib.hid SX
                            clear SX SE2
                            generalize dk2[p2]! = x at ci c2 SF2
                            generalize dk2[q2]! = y at cj c2 SF2
                            have fp0 : (0 : Int) ≤ (p2 : Int) := by omega
                            have fq0 : (p2 : Int) < (d.size : Int) := by omega
                            have fp1 : (0 : Int) ≤ (q2 : Int) := by omega
                            have fq1 : (q2 : Int) < (d.size : Int) := by omega
                            go_wp2
                            go_big_region
                            generalize ((w2.setCell ⟨blk, off + p2, none⟩ (.int .i32 y)).setCell ⟨blk, off + q2, none⟩ (.int .i32 x)).drew = w3 at SF2 ⊢
                            clear ci cj fi fj c2 
                            go_wp2
                            go_roundg (j2 + 1 - i2 - 1)
                            case measure => omega
                            case rel => exact ⟨p2 + 1, q2 - 1, swp dk2 p2 q2, by go_num, by first | go_num | (congr 1; omega), by omega, by omega, by omega, by omega, by rw [size_swp]; exact hsk2, SF2, Lib.hid (by rw [← AE.out]; exact (part_go ltInt a i2 j2 dk2 HI2.out HJ2.out (by omega)).symm)⟩
                        · have gd : decide ((p2 : Int) ≤ (q2 : Int)) = false := decide_eq_false (by omega)
                          have HJ2 := Lib.hid ((scanDown_end (fun x => !ltInt x dk2[a]!) dk2 p2 q2 (Or.inl hl22)).symm.trans HD2.out)
                          clear HD2
                          go_wp2
                          go_quiet (fail)
                          have SE2 := Lib.hid (SD2.out.drewN nq)
                          clear SD2
                          generalize wr.drewN nq = w2 at SE2 ⊢
                          clear gd
                          have gt2 : decide (q2 < p2) = true := decide_eq_true (by omega)
                          have gz2 : decide ((q2 : Int) < (p2 : Int)) = true := decide_eq_true (by omega)
                          obtain ⟨ci, cj, fi, fj, ⟨u, c2⟩, SX⟩ := xch SE2.out HR.out (by omega) (i := q2) (j := a) (by omega) (by omega)
                          have SF2 := Lib.hid SX
                          clear SX SE2
                          generalize dk2[q2]! = x at ci c2 SF2
                          generalize dk2[a]! = y at cj c2 SF2
                          have fp0 : (0 : Int) ≤ (q2 : Int) := by omega
                          have fq0 : (q2 : Int) < (d.size : Int) := by omega
                          have fp1 : (0 : Int) ≤ (a : Int) := by omega
                          have fq1 : (a : Int) < (d.size : Int) := by omega
                          go_wp2
                          go_big_region
                          generalize ((w2.setCell ⟨blk, off + q2, none⟩ (.int .i32 y)).setCell ⟨blk, off + a, none⟩ (.int .i32 x)).drew = w3 at SF2 ⊢
                          clear ci cj fi fj c2 
                          go_wp2
                          go_ret2
                          have e := part_break ltInt a i2 j2 dk2 HI2.out HJ2.out (by omega)
                          rw [PF.out, ← AE.out, e]
                          exact ⟨rfl, SF2.out⟩
                  · have gu : decide ((p2 : Int) ≤ (j2 : Int)) = false := decide_eq_false (by omega)
                    have HI2 := Lib.hid ((scanUp_end (fun x => ltInt x dk2[a]!) dk2 j2 p2 (Or.inl hle2)).symm.trans HU2.out)
                    clear HU2
                    go_wp2
                    go_quiet (fail)
                    have SV2 := Lib.hid (SU2.out.drewN nq)
                    clear SU2
                    generalize wr.drewN nq = w2 at SV2 ⊢
                    clear gu
                    go_wp2
                    go_loopg [11] j2 (fun g2 vj wq => ∃ (q2 : Nat), vj = .int .i64 q2 ∧ q2 ≤ j2 ∧ q2 ≤ g2 ∧ p2 ≤ q2 + 1 ∧ Hid (SW enc32 w0 blk off dk2 wq) ∧ Hid (scanDown (fun x => !ltInt x dk2[a]!) dk2 p2 q2 = scanDown (fun x => !ltInt x dk2[a]!) dk2 p2 j2))
                    case atStart => exact ⟨j2, by first | rfl | go_num, Nat.le_refl _, Nat.le_refl _, by omega, SV2, Lib.hid rfl⟩
                    case round =>
                      clear SV2
                      obtain ⟨q2, rfl, hq2, hqg2, hpq2, SD2, HD2⟩ := hrel
                      by_cases hl22 : p2 ≤ q2
                      · exfalso; omega
                      · have gd : decide ((p2 : Int) ≤ (q2 : Int)) = false := decide_eq_false (by omega)
                        have HJ2 := Lib.hid ((scanDown_end (fun x => !ltInt x dk2[a]!) dk2 p2 q2 (Or.inl hl22)).symm.trans HD2.out)
                        clear HD2
                        go_wp2
                        go_quiet (fail)
                        have SE2 := Lib.hid (SD2.out.drewN nq)
                        clear SD2
                        generalize wr.drewN nq = w2 at SE2 ⊢
                        clear gd
                        have gt2 : decide (q2 < p2) = true := decide_eq_true (by omega)
                        have gz2 : decide ((q2 : Int) < (p2 : Int)) = true := decide_eq_true (by omega)
                        obtain ⟨ci, cj, fi, fj, ⟨u, c2⟩, SX⟩ := xch SE2.out HR.out (by omega) (i := q2) (j := a) (by omega) (by omega)
                        have SF2 := Lib.hid SX
                        clear SX SE2
                        generalize dk2[q2]! = x at ci c2 SF2
                        generalize dk2[a]! = y at cj c2 SF2
                        have fp0 : (0 : Int) ≤ (q2 : Int) := by omega
                        have fq0 : (q2 : Int) < (d.size : Int) := by omega
                        have fp1 : (0 : Int) ≤ (a : Int) := by omega
                        have fq1 : (a : Int) < (d.size : Int) := by omega
                        go_wp2
                        go_big_region
                        generalize ((w2.setCell ⟨blk, off + q2, none⟩ (.int .i32 y)).setCell ⟨blk, off + a, none⟩ (.int .i32 x)).drew = w3 at SF2 ⊢
                        clear ci cj fi fj c2 
                        go_wp2
                        go_ret2
                        have e := part_break ltInt a i2 j2 dk2 HI2.out HJ2.out (by omega)
                        rw [PF.out, ← AE.out, e]
                        exact ⟨rfl, SF2.out⟩
          · have gd : decide ((p1 : Int) ≤ (q1 : Int)) = false := decide_eq_false (by omega)
            have HJ1 := Lib.hid ((scanDown_end (fun x => !ltInt x dk[a]!) dk p1 q1 (Or.inl hl21)).symm.trans HD1.out)
            clear HD1
            go_wp2
            go_quiet (fail)
            have SE1 := Lib.hid (SD1.out.drewN nq)
            clear SD1
            generalize wr.drewN nq = w2 at SE1 ⊢
            clear gd
            have gt1 : decide (q1 < p1) = true := decide_eq_true (by omega)
            have gz1 : decide ((q1 : Int) < (p1 : Int)) = true := decide_eq_true (by omega)
            obtain ⟨ci, cj, fi, fj, ⟨u, c2⟩, SX⟩ := xch SE1.out HR.out (by omega) (i := q1) (j := a) (by omega) (by omega)
            have SF1 := Lib.hid SX
            clear SX SE1
            generalize dk[q1]! = x at ci c2 SF1
            generalize dk[a]! = y at cj c2 SF1
            have fp0 : (0 : Int) ≤ (q1 : Int) := by omega
            have fq0 : (q1 : Int) < (d.size : Int) := by omega
            have fp1 : (0 : Int) ≤ (a : Int) := by omega
            have fq1 : (a : Int) < (d.size : Int) := by omega
            go_wp2
            go_big_region
            generalize ((w2.setCell ⟨blk, off + q1, none⟩ (.int .i32 y)).setCell ⟨blk, off + a, none⟩ (.int .i32 x)).drew = w3 at SF1 ⊢
            clear ci cj fi fj c2 
            go_wp2
            go_ret2
            have e := part_first_break ltInt d a b pivot Hi.out Hj.out Hdk.out HI1.out HJ1.out (by omega)
            rw [e]
            exact ⟨rfl, SF1.out⟩
    · have gu : decide ((p1 : Int) ≤ (j : Int)) = false := decide_eq_false (by omega)
      have HI1 := Lib.hid ((scanUp_end (fun x => ltInt x dk[a]!) dk j p1 (Or.inl hle1)).symm.trans HU1.out)
      clear HU1
      go_wp2
      go_quiet (fail)
      have SV1 := Lib.hid (SU1.out.drewN nq)
      clear SU1
      generalize wr.drewN nq = w2 at SV1 ⊢
      clear gu
      go_wp2
      go_loopg [11] j (fun g1 vj wq => ∃ (q1 : Nat), vj = .int .i64 q1 ∧ q1 ≤ j ∧ q1 ≤ g1 ∧ p1 ≤ q1 + 1 ∧ Hid (SW enc32 w0 blk off dk wq) ∧ Hid (scanDown (fun x => !ltInt x dk[a]!) dk p1 q1 = scanDown (fun x => !ltInt x dk[a]!) dk p1 j))
      case atStart => exact ⟨j, by first | rfl | go_num, Nat.le_refl _, Nat.le_refl _, by omega, SV1, Lib.hid rfl⟩
      case round =>
        clear SV1
        obtain ⟨q1, rfl, hq1, hqg1, hpq1, SD1, HD1⟩ := hrel
        by_cases hl21 : p1 ≤ q1
        · exfalso; omega
        · have gd : decide ((p1 : Int) ≤ (q1 : Int)) = false := decide_eq_false (by omega)
          have HJ1 := Lib.hid ((scanDown_end (fun x => !ltInt x dk[a]!) dk p1 q1 (Or.inl hl21)).symm.trans HD1.out)
          clear HD1
          go_wp2
          go_quiet (fail)
          have SE1 := Lib.hid (SD1.out.drewN nq)
          clear SD1
          generalize wr.drewN nq = w2 at SE1 ⊢
          clear gd
          have gt1 : decide (q1 < p1) = true := decide_eq_true (by omega)
          have gz1 : decide ((q1 : Int) < (p1 : Int)) = true := decide_eq_true (by omega)
          obtain ⟨ci, cj, fi, fj, ⟨u, c2⟩, SX⟩ := xch SE1.out HR.out (by omega) (i := q1) (j := a) (by omega) (by omega)
          have SF1 := Lib.hid SX
          clear SX SE1
          generalize dk[q1]! = x at ci c2 SF1
          generalize dk[a]! = y at cj c2 SF1
          have fp0 : (0 : Int) ≤ (q1 : Int) := by omega
          have fq0 : (q1 : Int) < (d.size : Int) := by omega
          have fp1 : (0 : Int) ≤ (a : Int) := by omega
          have fq1 : (a : Int) < (d.size : Int) := by omega
          go_wp2
          go_big_region
          generalize ((w2.setCell ⟨blk, off + q1, none⟩ (.int .i32 y)).setCell ⟨blk, off + a, none⟩ (.int .i32 x)).drew = w3 at SF1 ⊢
          clear ci cj fi fj c2 
          go_wp2
          go_ret2
          have e := part_first_break ltInt d a b pivot Hi.out Hj.out Hdk.out HI1.out HJ1.out (by omega)
          rw [e]
          exact ⟨rfl, SF1.out⟩
end Go.Proofs.Ytnfnnmmblommiaa.PA
