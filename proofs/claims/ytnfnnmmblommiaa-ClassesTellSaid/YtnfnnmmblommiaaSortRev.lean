/- slices.Sort at int32, by hand, to the kit's plain twins: a row of the call's own; what an exchange leaves; reverseRange. slices.Sort at int32, by hand: cmp.Less, insertionSort. -/
import Derived.Test.YtnfnnmmblommiaaPAx0
import Derived.Shelf.SlSortCmp.Kit1
import Derived.BigRegion
import Derived.Deep.LoopGhost
import Derived.Deep.QuietTactic
import Derived.IntWalk
import Derived.Lib.Hide
import Derived.Sort.WalkA
import Derived.BigQuiet
namespace Go.Proofs.Ytnfnnmmblommiaa.PA
open Go.RowKit Go.Shelf Go.Lib Go.Sort
set_option linter.unusedVariables false
set_option linter.unusedSimpArgs false

abbrev enc32 : Int → Value := Value.int .i32
/-- What an exchange asks, and leaves. -/
structure Xch (w0 : World) (blk off : Nat) (dk : Array Int) (i j : Nat) (W : World) (x y : Int) : Prop where
  ci : W.cell? ⟨blk, off + i, none⟩ = some (.int .i32 x)
  cj : W.cell? ⟨blk, off + j, none⟩ = some (.int .i32 y)
  fi : W.frozen? ⟨blk, off + i, none⟩ = false
  fj : W.frozen? ⟨blk, off + j, none⟩ = false
  c2 : ∃ u, (W.setCell ⟨blk, off + i, none⟩ (.int .i32 y)).cell? ⟨blk, off + j, none⟩ = some u
  out : SW enc32 w0 blk off (swp dk i j) ((W.setCell ⟨blk, off + i, none⟩ (.int .i32 y)).setCell ⟨blk, off + j, none⟩ (.int .i32 x)).drew
theorem xch {w0 W : World} {blk off : Nat} {d0 dk : Array Int} (S : SW enc32 w0 blk off dk W) (R : Row1 enc32 w0 blk off d0) (hs : dk.size = d0.size) {i j : Nat} (hi : i < dk.size) (hj : j < dk.size) : Xch w0 blk off dk i j W dk[i]! dk[j]! :=
  ⟨S.c1 R hs i hi, S.c1 R hs j hj, S.f1 R hs i hi, S.f1 R hs j hj, S.c2 R hs i j hi hj _, S.swapped R i j hi hj⟩
set_option maxRecDepth 100000 in
set_option maxHeartbeats 4000000 in
theorem rev_walk (blk off cap a b : Nat) (d0 d : Array Int) (w0 w : World) (R : Row1 enc32 w0 blk off d0) (hs : d0.size = d.size) (S : SW enc32 w0 blk off d w) (hab : a ≤ b) (hb : b ≤ d.size) (hsz : d.size < 4611686018427387904) :
    Calls Try.prog 81 #[.slice (some ⟨blk, off, none⟩) d.size cap, .int .i64 a, .int .i64 b] w fun e w' => e = .returned (.tuple #[]) ∧ SW enc32 w0 blk off (reverseRange d a b) w' := by
  have S0 := Lib.hid S
  have HR := Lib.hid R
  clear S R
  go_enter Try.func81, Try.ntmps81
  go_wp2
  go_loopg [6, 7] (b + 1) (fun g vi vj wr => ∃ (i j1 : Nat) (dk : Array Int), vi = .int .i64 i ∧ vj = .int .i64 ((j1 : Int) - 1) ∧ j1 ≤ b ∧ j1 ≤ g + i ∧ dk.size = d.size ∧ Hid (SW enc32 w0 blk off dk wr) ∧ Hid (reverseLoop i (j1 - 1) dk = reverseRange d a b))
  case atStart => exact ⟨a, b, d, rfl, by go_num, Nat.le_refl _, by omega, rfl, S0, Lib.hid rfl⟩
  case round =>
    clear S0
    obtain ⟨i, j1, dk, rfl, rfl, hj1, hg, hsk, S1, HE⟩ := hrel
    by_cases hlt : i + 1 < j1
    · obtain ⟨j, rfl⟩ : ∃ j, j1 = j + 1 := ⟨j1 - 1, by omega⟩
      have X := xch S1.out HR.out (by omega) (i := i) (j := j) (by omega) (by omega)
      have HX := Lib.hid X.out
      obtain ⟨ci, cj, fi, fj, ⟨u, c2⟩, _⟩ := X
      generalize dk[i]! = x at ci cj fi fj c2 HX
      generalize dk[j]! = y at ci cj fi fj c2 HX
      have hw : (((j + 1 : Nat) : Int) - 1) = (j : Int) := by omega
      have b1 : (i : Int) < (j : Int) := by omega
      have b2 : (i : Int) < (d.size : Int) := by omega
      have b3 : (j : Int) < (d.size : Int) := by omega
      have b4 : (0 : Int) ≤ (i : Int) := by omega
      have b5 : (0 : Int) ≤ (j : Int) := by omega
      rw [hw]
      clear hw
      go_wp2
      go_big_region
      have SX := HX
      generalize ((wr.setCell ⟨blk, off + i, none⟩ (.int .i32 y)).setCell ⟨blk, off + j, none⟩ (.int .i32 x)).drew = w3 at SX ⊢
      clear HX ci cj fi fj c2 S1
      go_wp2
      go_roundg (gk - 1)
      case measure => omega
      case rel => exact ⟨i + 1, j, swp dk i j, by go_num, by go_num, by omega, by omega, by rw [size_swp]; exact hsk, SX, Lib.hid (by rw [← HE.out, reverseLoop.eq_1 i, if_pos (by omega), Nat.add_sub_cancel])⟩
    · have hstop : reverseRange d a b = dk := by
        rw [← HE.out, reverseLoop, if_neg (by omega)]
      have hlt2 : decide ((i : Int) < (j1 : Int) - 1) = false := decide_eq_false (by omega)
      have HS := Lib.hid hstop
      clear hstop HE
      go_wp2
      go_end0
      exact ⟨rfl, by rw [HS.out]; exact S1.out⟩
end Go.Proofs.Ytnfnnmmblommiaa.PA
namespace Go.Proofs.Ytnfnnmmblommiaa.PA
open Go.RowKit Go.Shelf Go.Lib Go.Sort
set_option linter.unusedVariables false
set_option linter.unusedSimpArgs false

set_option maxHeartbeats 1000000 in
theorem less_calls (x y : Int) (W : World) : Calls Try.prog 83 #[.int .i32 x, .int .i32 y] W fun e w' => e = .returned (.bool (ltInt x y)) ∧ w' = W := by
  unfold ltInt
  go_enter Try.func83, Try.ntmps83
  go_wp2
  go_ret
  exact ⟨rfl, rfl⟩
set_option maxRecDepth 100000 in
set_option maxHeartbeats 4000000 in
theorem ins_walk (blk off cap a b : Nat) (d0 d : Array Int) (w0 w : World) (R : Row1 enc32 w0 blk off d0) (hs : d0.size = d.size) (S : SW enc32 w0 blk off d w) (hab : a ≤ b) (hb : b ≤ d.size) (hsz : d.size < 4611686018427387904) :
    Calls Try.prog 77 #[.slice (some ⟨blk, off, none⟩) d.size cap, .int .i64 a, .int .i64 b] w fun e w' => e = .returned (.tuple #[]) ∧ SW enc32 w0 blk off (insertionSort ltInt d a b) w' := by
  have S0 := Lib.hid S
  have HR := Lib.hid R
  clear S R
  go_enter Try.func77, Try.ntmps77
  go_wp2
  go_loopg [6] (b - a) (fun g vi wr => ∃ (i : Nat) (dk : Array Int), vi = .int .i64 i ∧ a < i ∧ i ≤ b + 1 ∧ b + 1 - i ≤ g + 1 ∧ dk.size = d.size ∧ Hid (SW enc32 w0 blk off dk wr) ∧ Hid (insOuter ltInt a b i dk = insertionSort ltInt d a b))
  case atStart => exact ⟨a + 1, d, by go_num, by omega, by omega, by omega, rfl, S0, Lib.hid rfl⟩
  case round =>
    clear S0
    obtain ⟨i, dk, rfl, hai, hib, hg, hsk, S1, HO⟩ := hrel
    by_cases hlt : i < b
    · have hltz : (i : Int) < (b : Int) := by omega
      go_wp2
      obtain ⟨wo, rfl⟩ : ∃ wo : World, wo = wr := ⟨_, rfl⟩
      go_loopg [7] i (fun g2 vj wr => ∃ (j : Nat) (dj : Array Int), vj = .int .i64 j ∧ a ≤ j ∧ j ≤ i ∧ j ≤ g2 ∧ dj.size = d.size ∧ Hid (SW enc32 w0 blk off dj wr) ∧ Hid (insInner ltInt a j dj = insInner ltInt a i dk))
      case atStart => exact ⟨i, dk, rfl, by omega, Nat.le_refl _, Nat.le_refl _, hsk, S1, Lib.hid rfl⟩
      case round =>
        clear S1
        obtain ⟨j, dj, rfl, haj, hji, hg2, hsj, SJ, HI⟩ := hrel
        have out : (j ≤ a ∨ ltInt dj[j]! dj[j - 1]! = false) → insOuter ltInt a b (i + 1) dj = insertionSort ltInt d a b := fun h => by
          rw [← HO.out, insOuter_go _ _ _ _ _ hlt, ← HI.out, insInner_stop _ _ _ _ h]
        by_cases hja : a < j
        · have X := xch SJ.out HR.out (by omega) (i := j) (j := j - 1) (by omega) (by omega)
          have ci := X.ci
          have cj := X.cj
          have go := fun h => insInner_go ltInt a j dj hja h
          clear X
          have hb1 : decide ((a : Int) < (j : Int)) = true := decide_eq_true (by omega)
          have e0 : (1 : Int) ≤ (j : Int) := by omega
          have e1 : (0 : Int) ≤ (j : Int) - 1 := by omega
          have e2 : (j : Int) - 1 < (d.size : Int) := by omega
          have e3 : (j : Int) < (d.size : Int) := by omega
          have e4 : IntKind.i64.wrap ((j : Int) - 1) = (j : Int) - 1 := IntWalk.i64_in _ (by omega)
          have e5 : ((j : Int) - 1).toNat = j - 1 := by omega
          have e6 : (0 : Int) ≤ (j : Int) := by omega
          cases hl : ltInt dj[j]! dj[j - 1]! with
          | true =>
            have HG := Lib.hid (go hl)
            have HL := Lib.hid (fun n => less_calls dj[j]! dj[j - 1]! (wr.drewN n))
            rw [hl] at HL
            generalize dj[j]! = x at ci HL
            generalize dj[j - 1]! = y at cj HL
            clear out go hl
            go_wp2
            go_quiet ((go_at_call 83; exact Calls.quiet_of_same (HL.out _)))
            have S2 := Lib.hid (SJ.out.drewN nq)
            clear HL ci cj SJ
            generalize wr.drewN nq = w2 at S2 ⊢
            obtain ⟨ci, cj, fi, fj, ⟨u, c2⟩, SX⟩ := xch S2.out HR.out (by omega) (i := j) (j := j - 1) (by omega) (by omega)
            have HX := Lib.hid SX
            clear SX S2
            generalize dj[j]! = x at ci c2 HX
            generalize dj[j - 1]! = y at cj c2 HX
            go_wp2
            go_big_region
            generalize ((w2.setCell ⟨blk, off + j, none⟩ (.int .i32 y)).setCell ⟨blk, off + (j - 1), none⟩ (.int .i32 x)).drew = w3 at HX ⊢
            clear ci cj fi fj c2 e4 e5
            go_wp2
            go_roundg (j - 1)
            case measure => omega
            case rel => exact ⟨j - 1, swp dj j (j - 1), by first | go_num | (congr 1; omega), by omega, by omega, Nat.le_refl _, by rw [size_swp]; exact hsj, HX, Lib.hid (by rw [← HI.out, HG.out])⟩
          | false =>
            have HOUT := Lib.hid (out (.inr hl))
            have HL := Lib.hid (fun n => less_calls dj[j]! dj[j - 1]! (wr.drewN n))
            rw [hl] at HL
            generalize dj[j]! = x at ci HL
            generalize dj[j - 1]! = y at cj HL
            clear out go hl
            go_wp2
            go_quiet ((go_at_call 83; exact Calls.quiet_of_same (HL.out _)))
            have S2 := Lib.hid (SJ.out.drewN nq)
            clear HL ci cj SJ e4 e5
            go_wp2
            go_roundg (b - (i + 1))
            case measure => omega
            case rel => exact ⟨i + 1, dj, by go_num, by omega, by omega, by omega, hsj, S2, HOUT⟩
        · have hb1 : decide ((a : Int) < (j : Int)) = false := decide_eq_false (by omega)
          have HOUT := Lib.hid (out (.inl (by omega)))
          clear out
          go_wp2
          go_quiet (fail)
          have S2 := Lib.hid (SJ.out.drewN nq)
          clear SJ
          go_wp2
          go_roundg (b - (i + 1))
          case measure => omega
          case rel => exact ⟨i + 1, dj, by go_num, by omega, by omega, by omega, hsj, S2, HOUT⟩
    · have hltz : decide ((i : Int) < (b : Int)) = false := decide_eq_false (by omega)
      have HS := Lib.hid (show insertionSort ltInt d a b = dk by rw [← HO.out, insOuter_stop _ _ _ _ _ hlt])
      clear HO
      go_wp2
      go_end0
      exact ⟨rfl, by rw [HS.out]; exact S1.out⟩
end Go.Proofs.Ytnfnnmmblommiaa.PA
