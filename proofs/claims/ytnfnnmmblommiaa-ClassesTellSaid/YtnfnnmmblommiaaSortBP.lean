/- slices.Sort at int32, by hand: breakPatterns (printed by gbp.py). -/
import Derived.Test.YtnfnnmmblommiaaSortRev
import Derived.Test.YtnfnnmmblommiaaSShelf
import Derived.Sort.Walk7
import Derived.Shelf.SlSortCmp.Xorshift
namespace Go.Proofs.Ytnfnnmmblommiaa.PA
open Go.RowKit Go.Shelf Go.Lib Go.Sort
set_option linter.unusedVariables false
set_option linter.unusedSimpArgs false

theorem npow_calls (n : Nat) (hn : n < 4611686018427387904) (w : World) : Calls Try.prog 97 #[.int .i64 n] w fun e w' => e = .returned (.int .u64 ((1 <<< bitsLen n : Nat) : Int)) ∧ w' = w :=
  AnyF.nextPowerOfTwo Try.npow n hn w
theorem next_calls (rb X : Nat) (hX : X < 18446744073709551616) (w : World) (hc : w.cell? ⟨rb, 0, none⟩ = some (.int .u64 X)) (hf : w.frozen? ⟨rb, 0, none⟩ = false) :
    Calls Try.prog 98 #[.pointer (some ⟨rb, 0, none⟩)] w fun e w' => e = .returned (.int .u64 (xorNextN X : Nat)) ∧ w' = (w.setCell ⟨rb, 0, none⟩ (.int .u64 (xorNextN X : Nat))).drewN 3 :=
  AnyF.xorshift_Next Try.xsNext rb 0 X hX w hc hf
set_option maxRecDepth 100000 in
set_option maxHeartbeats 8000000 in
theorem bp_go (blk off cap a L : Nat) (d0 d : Array Int) (w0 w : World) (R : Row1 enc32 w0 blk off d0) (hs : d0.size = d.size) (S : SW enc32 w0 blk off d w) (hb : a + L ≤ d.size) (hsz : d.size < 1152921504606846976) (h8 : 8 ≤ L) :
    Calls Try.prog 79 #[.slice (some ⟨blk, off, none⟩) d.size cap, .int .i64 a, .int .i64 ((a + L : Nat) : Int)] w fun e w' => e = .returned (.tuple #[]) ∧ SW enc32 w0 blk off (breakPatterns d a (a + L)) w' := by
  rw [breakPatterns_eq d a L h8]
  obtain ⟨M, hM⟩ : ∃ M : Nat, M = 1 <<< bitsLen L := ⟨_, rfl⟩
  have hM1 : 1 ≤ M := by rw [hM, Nat.one_shiftLeft]; exact Nat.two_pow_pos _
  have hM2 : M ≤ 2 * L := by rw [hM, Nat.one_shiftLeft]; exact two_pow_bitsLen_le (by omega)
  have HNP : Hid (∀ w, Calls Try.prog 97 #[.int .i64 (L : Int)] w fun e w' => e = .returned (.int .u64 (M : Int)) ∧ w' = w) := Lib.hid (by rw [hM]; exact fun w => npow_calls L (by omega) w)
  rw [← hM]
  clear hM
  have hLz : ((a : Int) + (L : Int) - (a : Int)) = (L : Int) := by omega
  have h8z : (8 : Int) ≤ (L : Int) := by omega
  have hne : w.heap.size ≠ blk := by have := S.lt R.hblk; omega
  have hle0 : w0.heap.size ≤ w.heap.size := S.le
  have S0 := Lib.hid S
  have HR := Lib.hid R
  clear S R
  go_enter Try.func79, Try.ntmps79
  go_wp2_with fail
  refine (HNP.out _).mono ?_
  rintro e w' ⟨rfl, rfl⟩
  go_wp2
  go_loopg [9] 3 (fun g vi wr => ∃ (t : Nat) (r : UInt64) (dk : Array Int), vi = .int .i64 ((a : Int) + (L : Int) / 4 * 2 - 1 + (t : Int)) ∧ t ≤ 3 ∧ 3 - t ≤ g ∧ dk.size = d.size ∧ Hid (SW enc32 w0 blk off dk wr) ∧
      wr.cell? ⟨w.heap.size, 0, none⟩ = some (.int .u64 (r.toNat : Int)) ∧ wr.frozen? ⟨w.heap.size, 0, none⟩ = false ∧
      Hid (bpRest a L M (a + L / 4 * 2 - 1) (3 - t) t (r, dk) = bpRest a L M (a + L / 4 * 2 - 1) 3 0 (UInt64.ofNat L, d)))
  case atStart =>
    refine ⟨0, UInt64.ofNat L, d, by simp, by omega, by omega, rfl, Lib.hid (S0.out.alloc _), ?_, by simp, Lib.hid rfl⟩
    rw [show (UInt64.ofNat L).toNat = L from by simp; omega]
    simp
  case round =>
    clear S0
    obtain ⟨t, r, dk, rfl, ht, hg, hds, S1, cR, fR, HRS⟩ := hrel
    by_cases ht3 : t < 3
    · have hle : (a : Int) + (L : Int) / 4 * 2 - 1 + (t : Int) ≤ (a : Int) + (L : Int) / 4 * 2 + 1 := by omega
      obtain ⟨R0, hRr⟩ : ∃ R0 : Nat, R0 = r.toNat := ⟨_, rfl⟩
      have lR : R0 < 18446744073709551616 := by rw [hRr]; exact r.toNat_lt
      obtain ⟨R', hR'⟩ : ∃ R' : Nat, R' = xorNextN R0 := ⟨_, rfl⟩
      have lR' : R' < 18446744073709551616 := by rw [hR']; exact xorNextN_lt R0 lR
      obtain ⟨O, hO⟩ : ∃ O : Nat, O = R' &&& (M - 1) := ⟨_, rfl⟩
      have lO : O ≤ M - 1 := by rw [hO]; exact Nat.and_le_right
      have eAnd : bits .and .u64 (R' : Int) ((M : Int) - 1) = (O : Int) := by
        rw [show ((M : Int) - 1) = ((M - 1 : Nat) : Int) by omega, bits_and_u64_nat _ _ lR' (by omega), hO]
      have HN : Hid (R' = (xorNext r).toNat ∧ O = (xorNext r).toNat &&& (M - 1)) := Lib.hid (by
        have e : R' = (xorNext r).toNat := by rw [hR', hRr, xorNext_toNat]
        exact ⟨e, by rw [hO, e]⟩)
      rw [← hRr] at cR
      have HNX : Hid (Calls Try.prog 98 #[.pointer (some ⟨w.heap.size, 0, none⟩)] wr fun e w' => e = .returned (.int .u64 (R' : Int)) ∧ w' = (wr.setCell ⟨w.heap.size, 0, none⟩ (.int .u64 (R' : Int))).drewN 3) := Lib.hid (by
        rw [hR']; exact next_calls _ R0 lR wr cR fR)
      clear hRr hR' hO
      have HW2 : Hid (∀ w2 : World, w2 = (wr.setCell ⟨w.heap.size, 0, none⟩ (.int .u64 (R' : Int))).drewN 3 → SW enc32 w0 blk off dk w2 ∧ w2.cell? ⟨w.heap.size, 0, none⟩ = some (.int .u64 (R' : Int)) ∧ w2.frozen? ⟨w.heap.size, 0, none⟩ = false) := Lib.hid (by
        rintro w2 rfl
        exact ⟨(S1.out.setCell_new w.heap.size 0 (.int .u64 (R' : Int)) hle0).drewN 3, by rw [World.cell?_drewN]; exact World.cell?_setCell_same _ _ _ cR, by rw [World.frozen?_drewN]; simpa using fR⟩)
      clear cR fR S1
      by_cases hLO : L ≤ O
      · have hLOz : (L : Int) ≤ (O : Int) := by omega
        go_wp2_with fail
        refine HNX.out.mono ?_
        rintro e w2 ⟨rfl, hw2⟩
        obtain ⟨S2, cR2, fR2⟩ := HW2.out w2 hw2
        have S2' := Lib.hid S2
        clear S2 hw2 HW2 HNX
        obtain ⟨iN, hiN⟩ : ∃ q, q = a + L / 4 * 2 - 1 + t := ⟨_, rfl⟩
        obtain ⟨jN, hjN⟩ : ∃ q, q = a + (O - L) := ⟨_, rfl⟩
        obtain ⟨ci, cj, fi, fj, ⟨u, c2⟩, SX⟩ := xch S2'.out HR.out (by omega) (i := iN) (j := jN) (by omega) (by omega)
        have S3 := Lib.hid SX
        have HST := Lib.hid (bp_step a L M (a + L / 4 * 2 - 1) t r dk (O - L) ht3 (by rw [← HN.out.2, if_pos (by omega)]))
        have HIJ := Lib.hid (And.intro hiN hjN)
        clear SX S2'
        generalize dk[iN]! = x at ci c2 S3
        generalize dk[jN]! = y at cj c2 S3
        have e1 : ((a : Int) + (L : Int) / 4 * 2 - 1 + (t : Int)).toNat = iN := by omega
        have e2 : ((a : Int) + ((O : Int) - (L : Int))).toNat = jN := by omega
        have e3 : IntKind.i64.wrap ((a : Int) + (L : Int) / 4 * 2 - 1 + (t : Int)) = (a : Int) + (L : Int) / 4 * 2 - 1 + (t : Int) := IntWalk.i64_in _ (by omega)
        have e4 : IntKind.i64.wrap ((a : Int) + ((O : Int) - (L : Int))) = (a : Int) + ((O : Int) - (L : Int)) := IntWalk.i64_in _ (by omega)
        have f1 : (0 : Int) ≤ (a : Int) + (L : Int) / 4 * 2 - 1 + (t : Int) := by omega
        have f2 : (a : Int) + (L : Int) / 4 * 2 - 1 + (t : Int) < (d.size : Int) := by omega
        have f3 : (0 : Int) ≤ (a : Int) + ((O : Int) - (L : Int)) := by omega
        have f4 : (a : Int) + ((O : Int) - (L : Int)) < (d.size : Int) := by omega
        clear hiN hjN
        have k1 := Lib.hid (box_kept_swap1 (W := w2) (blk := blk) hne cR2 fR2 (off + iN) (off + jN) (.int .i32 y) (.int .i32 x))
        go_wp2
        go_big_region
        generalize ((w2.setCell ⟨blk, off + iN, none⟩ (.int .i32 y)).setCell ⟨blk, off + jN, none⟩ (.int .i32 x)).drew = w3 at S3 k1 ⊢
        clear ci cj fi fj c2 e1 e2 e3 e4
        go_wp2
        go_roundg (3 - (t + 1))
        case measure => omega
        case rel =>
          have hij := HIJ.out
          refine ⟨t + 1, xorNext r, swp dk iN jN, by congr 1; push_cast; omega, by omega, Nat.le_refl _, by rw [size_swp]; exact hds, S3, by rw [← HN.out.1]; exact k1.out.1, k1.out.2, Lib.hid ?_⟩
          rw [← HRS.out, HST.out, hij.1, hij.2]
      · have hLOz : ¬ (L : Int) ≤ (O : Int) := by omega
        go_wp2_with fail
        refine HNX.out.mono ?_
        rintro e w2 ⟨rfl, hw2⟩
        obtain ⟨S2, cR2, fR2⟩ := HW2.out w2 hw2
        have S2' := Lib.hid S2
        clear S2 hw2 HW2 HNX
        obtain ⟨iN, hiN⟩ : ∃ q, q = a + L / 4 * 2 - 1 + t := ⟨_, rfl⟩
        obtain ⟨jN, hjN⟩ : ∃ q, q = a + O := ⟨_, rfl⟩
        obtain ⟨ci, cj, fi, fj, ⟨u, c2⟩, SX⟩ := xch S2'.out HR.out (by omega) (i := iN) (j := jN) (by omega) (by omega)
        have S3 := Lib.hid SX
        have HST := Lib.hid (bp_step a L M (a + L / 4 * 2 - 1) t r dk (O) ht3 (by rw [← HN.out.2, if_neg (by omega)]))
        have HIJ := Lib.hid (And.intro hiN hjN)
        clear SX S2'
        generalize dk[iN]! = x at ci c2 S3
        generalize dk[jN]! = y at cj c2 S3
        have e1 : ((a : Int) + (L : Int) / 4 * 2 - 1 + (t : Int)).toNat = iN := by omega
        have e2 : ((a : Int) + (O : Int)).toNat = jN := by omega
        have e3 : IntKind.i64.wrap ((a : Int) + (L : Int) / 4 * 2 - 1 + (t : Int)) = (a : Int) + (L : Int) / 4 * 2 - 1 + (t : Int) := IntWalk.i64_in _ (by omega)
        have e4 : IntKind.i64.wrap ((a : Int) + (O : Int)) = (a : Int) + (O : Int) := IntWalk.i64_in _ (by omega)
        have f1 : (0 : Int) ≤ (a : Int) + (L : Int) / 4 * 2 - 1 + (t : Int) := by omega
        have f2 : (a : Int) + (L : Int) / 4 * 2 - 1 + (t : Int) < (d.size : Int) := by omega
        have f3 : (0 : Int) ≤ (a : Int) + (O : Int) := by omega
        have f4 : (a : Int) + (O : Int) < (d.size : Int) := by omega
        clear hiN hjN
        have k1 := Lib.hid (box_kept_swap1 (W := w2) (blk := blk) hne cR2 fR2 (off + iN) (off + jN) (.int .i32 y) (.int .i32 x))
        go_wp2
        go_big_region
        generalize ((w2.setCell ⟨blk, off + iN, none⟩ (.int .i32 y)).setCell ⟨blk, off + jN, none⟩ (.int .i32 x)).drew = w3 at S3 k1 ⊢
        clear ci cj fi fj c2 e1 e2 e3 e4
        go_wp2
        go_roundg (3 - (t + 1))
        case measure => omega
        case rel =>
          have hij := HIJ.out
          refine ⟨t + 1, xorNext r, swp dk iN jN, by congr 1; push_cast; omega, by omega, Nat.le_refl _, by rw [size_swp]; exact hds, S3, by rw [← HN.out.1]; exact k1.out.1, k1.out.2, Lib.hid ?_⟩
          rw [← HRS.out, HST.out, hij.1, hij.2]
    · obtain rfl : t = 3 := by omega
      have hle : ¬ ((a : Int) + (L : Int) / 4 * 2 - 1 + ((3 : Nat) : Int) ≤ (a : Int) + (L : Int) / 4 * 2 + 1) := by omega
      go_wp2
      go_end0
      refine ⟨rfl, ?_⟩
      rw [← HRS.out]
      exact S1.out
set_option maxRecDepth 100000 in
set_option maxHeartbeats 2000000 in
theorem bp_walk (blk off cap a b : Nat) (d0 d : Array Int) (w0 w : World) (R : Row1 enc32 w0 blk off d0) (hs : d0.size = d.size) (S : SW enc32 w0 blk off d w) (hab : a ≤ b) (hb : b ≤ d.size) (hsz : d.size < 1152921504606846976) :
    Calls Try.prog 79 #[.slice (some ⟨blk, off, none⟩) d.size cap, .int .i64 a, .int .i64 b] w fun e w' => e = .returned (.tuple #[]) ∧ SW enc32 w0 blk off (breakPatterns d a b) w' := by
  obtain ⟨L, rfl⟩ : ∃ L, b = a + L := ⟨b - a, by omega⟩
  by_cases h8 : 8 ≤ L
  · exact bp_go blk off cap a L d0 d w0 w R hs S hb hsz h8
  · have hv : breakPatterns d a (a + L) = d := by unfold breakPatterns; simp only [Nat.add_sub_cancel_left]; rw [if_neg h8]
    rw [hv]
    have hLz : ((a : Int) + (L : Int) - (a : Int)) = (L : Int) := by omega
    have h8z : ¬ (8 : Int) ≤ (L : Int) := by omega
    have S0 := Lib.hid S
    clear S R
    go_enter Try.func79, Try.ntmps79
    go_wp2
    go_end0
    exact ⟨rfl, S0.out⟩
end Go.Proofs.Ytnfnnmmblommiaa.PA
