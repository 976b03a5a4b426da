/- slices.Sort at int32, by hand: siftDown. slices.Sort at int32, by hand: heapSort. -/
import Derived.Test.YtnfnnmmblommiaaSortRev
import Derived.Deep.DeepCutAuto
namespace Go.Proofs.Ytnfnnmmblommiaa.PA
open Go.RowKit Go.Shelf Go.Lib Go.Sort
set_option linter.unusedVariables false
set_option linter.unusedSimpArgs false

def siftCh (hi first root : Nat) (d : Array Int) : Nat := if 2 * root + 2 < hi && ltInt d[first + (2 * root + 1)]! d[first + (2 * root + 1) + 1]! then 2 * root + 2 else 2 * root + 1
theorem sift_step (hi first root : Nat) (d : Array Int) (h : 2 * root + 1 < hi) : siftDown ltInt hi first root d = (if ltInt d[first + root]! d[first + siftCh hi first root d]! = true then siftDown ltInt hi first (siftCh hi first root d) (swp d (first + root) (first + siftCh hi first root d)) else d) := by
  rw [siftDown, dif_neg (by omega)]
  cases hp : (decide (2 * root + 2 < hi) && ltInt d[first + (2 * root + 1)]! d[first + (2 * root + 1) + 1]!) with
  | true =>
    have hlt : 2 * root + 2 < hi := by simp at hp; exact hp.1
    have e : siftCh hi first root d = 2 * root + 2 := by unfold siftCh; rw [if_pos hp]
    rw [e]
    cases hl : ltInt d[first + root]! d[first + (2 * root + 2)]! <;> simp [hlt]
  | false =>
    have e : siftCh hi first root d = 2 * root + 1 := by unfold siftCh; rw [if_neg (by rw [hp]; simp)]
    rw [e]
    cases hl : ltInt d[first + root]! d[first + (2 * root + 1)]! <;> simp
theorem sift_end (hi first root : Nat) (d : Array Int) (h : hi ≤ 2 * root + 1) : siftDown ltInt hi first root d = d := by rw [siftDown, dif_pos (by omega)]
theorem sift_lt (hi first root : Nat) (d : Array Int) (h : 2 * root + 1 < hi) : root < siftCh hi first root d ∧ siftCh hi first root d < hi := by
  unfold siftCh
  split
  · rename_i q; simp at q; omega
  · omega
set_option maxRecDepth 100000 in
set_option maxHeartbeats 4000000 in
theorem sift_walk (blk off cap lo hi first : Nat) (d0 d : Array Int) (w0 w : World) (R : Row1 enc32 w0 blk off d0) (hs : d0.size = d.size) (S : SW enc32 w0 blk off d w) (hb : first + hi ≤ d.size) (hsz : d.size < 1152921504606846976) (hlo : lo ≤ d.size) :
    Calls Try.prog 96 #[.slice (some ⟨blk, off, none⟩) d.size cap, .int .i64 lo, .int .i64 hi, .int .i64 first] w fun e w' => e = .returned (.tuple #[]) ∧ SW enc32 w0 blk off (siftDown ltInt hi first lo d) w' := by
  have S0 := Lib.hid S
  have HR := Lib.hid R
  clear S R
  go_enter Try.func96, Try.ntmps96
  go_wp2
  go_loopg [8] (hi + 1) (fun g vi wr => ∃ (r : Nat) (dk : Array Int), vi = .int .i64 r ∧ r ≤ d.size ∧ hi ≤ g + r ∧ dk.size = d.size ∧ Hid (SW enc32 w0 blk off dk wr) ∧ Hid (siftDown ltInt hi first r dk = siftDown ltInt hi first lo d))
  case atStart => exact ⟨lo, d, rfl, hlo, by omega, rfl, S0, Lib.hid rfl⟩
  case round =>
    clear S0
    obtain ⟨r, dk, rfl, hrs, hg, hsk, S1, HE⟩ := hrel
    by_cases hlt : 2 * r + 1 < hi
    · have hstep := sift_step hi first r dk hlt
      have hch := sift_lt hi first r dk hlt
      have h1 : decide ((hi : Int) ≤ 2 * (r : Int) + 1) = false := decide_eq_false (by omega)
      have h2 : ¬ (hi : Int) ≤ 2 * (r : Int) + 1 := by omega
      have hst := Lib.hid hstep
      clear hstep
      go_upto_region 3 with (fail)
      go_cut [36] (fun s36 wx => s36 = .bool (decide (2 * r + 2 < hi) && ltInt dk[first + (2 * r + 1)]! dk[first + (2 * r + 1) + 1]!) ∧ Hid (SW enc32 w0 blk off dk wx))
      case first =>
        by_cases hq : 2 * r + 2 < hi
        · have X := xch S1.out HR.out (by omega) (i := first + (2 * r + 1)) (j := first + (2 * r + 1) + 1) (by omega) (by omega)
          have ci := X.ci
          have cj := X.cj
          have HL := Lib.hid (fun n => less_calls dk[first + (2 * r + 1)]! dk[first + (2 * r + 1) + 1]! (wr.drewN n))
          have hb := Lib.hid (show (decide (2 * r + 2 < hi) && ltInt dk[first + (2 * r + 1)]! dk[first + (2 * r + 1) + 1]!) = ltInt dk[first + (2 * r + 1)]! dk[first + (2 * r + 1) + 1]! by rw [decide_eq_true hq, Bool.true_and])
          clear X
          obtain ⟨bb, hbb⟩ : ∃ bb, bb = ltInt dk[first + (2 * r + 1)]! dk[first + (2 * r + 1) + 1]! := ⟨_, rfl⟩
          rw [← hbb] at HL
          have HBB := Lib.hid hbb
          clear hbb
          generalize dk[first + (2 * r + 1)]! = x at ci HL
          generalize dk[first + (2 * r + 1) + 1]! = y at cj HL
          have f1 : (2 * (r : Int) + 1 + 1 < (hi : Int)) := by omega
          have f2 : decide (2 * (r : Int) + 1 + 1 < (hi : Int)) = true := decide_eq_true f1
          have f3 : (0 : Int) ≤ (first : Int) + (2 * (r : Int) + 1) := by omega
          have f4 : (first : Int) + (2 * (r : Int) + 1) < (d.size : Int) := by omega
          have f5 : (0 : Int) ≤ (first : Int) + (2 * (r : Int) + 1) + 1 := by omega
          have f6 : (first : Int) + (2 * (r : Int) + 1) + 1 < (d.size : Int) := by omega
          have f7 : ((first : Int) + (2 * (r : Int) + 1)).toNat = first + (2 * r + 1) := by omega
          have f8 : ((first : Int) + (2 * (r : Int) + 1) + 1).toNat = first + (2 * r + 1) + 1 := by omega
          have f9 : IntKind.i64.wrap ((first : Int) + (2 * (r : Int) + 1)) = (first : Int) + (2 * (r : Int) + 1) := IntWalk.i64_in _ (by omega)
          have f10 : IntKind.i64.wrap ((first : Int) + (2 * (r : Int) + 1) + 1) = (first : Int) + (2 * (r : Int) + 1) + 1 := IntWalk.i64_in _ (by omega)
          have f11 : IntKind.i64.wrap (2 * (r : Int) + 1 + 1) = 2 * (r : Int) + 1 + 1 := IntWalk.i64_in _ (by omega)
          go_wp2
          go_quiet ((go_at_call 83; exact Calls.quiet_of_same (HL.out _)))
          have S2 := Lib.hid (S1.out.drewN nq)
          go_wp2
          go_meet
          case rel => exact ⟨by rw [hb.out, HBB.out], S2⟩
        · have f2 : decide (2 * (r : Int) + 1 + 1 < (hi : Int)) = false := decide_eq_false (by omega)
          have f11 : IntKind.i64.wrap (2 * (r : Int) + 1 + 1) = 2 * (r : Int) + 1 + 1 := IntWalk.i64_in _ (by omega)
          have hb := Lib.hid (show (decide (2 * r + 2 < hi) && ltInt dk[first + (2 * r + 1)]! dk[first + (2 * r + 1) + 1]!) = false by rw [decide_eq_false hq, Bool.false_and])
          go_wp2
          go_quiet (fail)
          have S2 := Lib.hid (S1.out.drewN nq)
          go_wp2
          go_meet
          case rel => exact ⟨by rw [hb.out], S2⟩
      case rest =>
        obtain ⟨rfl, S2⟩ := hcut
        clear S1
        have f11 : IntKind.i64.wrap (2 * (r : Int) + 1 + 1) = 2 * (r : Int) + 1 + 1 := IntWalk.i64_in _ (by omega)
        go_upto_if 36 with (fail)
        go_cut [9] (fun s9 wx => s9 = .int .i64 ((siftCh hi first r dk : Nat) : Int) ∧ Hid (SW enc32 w0 blk off dk wx))
        case first =>
          have hcd : siftCh hi first r dk = if (decide (2 * r + 2 < hi) && ltInt dk[first + (2 * r + 1)]! dk[first + (2 * r + 1) + 1]!) = true then 2 * r + 2 else 2 * r + 1 := rfl
          cases hb : (decide (2 * r + 2 < hi) && ltInt dk[first + (2 * r + 1)]! dk[first + (2 * r + 1) + 1]!) with
          | true =>
            rw [hb, if_pos rfl] at hcd
            have HC := Lib.hid hcd
            clear hcd hb
            go_wp2
            go_meet
            case rel => exact ⟨by rw [HC.out]; go_num, S2⟩
          | false =>
            rw [hb, if_neg (by simp)] at hcd
            have HC := Lib.hid hcd
            clear hcd hb
            go_wp2
            go_meet
            case rel => exact ⟨by rw [HC.out]; go_num, S2⟩
        case rest =>
          obtain ⟨rfl, S3⟩ := hcut
          clear S2 f11
          generalize siftCh hi first r dk = ch at hch hst ⊢
          have X := xch S3.out HR.out (by omega) (i := first + r) (j := first + ch) (by omega) (by omega)
          have ci := X.ci
          have cj := X.cj
          clear X
          have f3 : (0 : Int) ≤ (first : Int) + (r : Int) := by omega
          have f4 : (first : Int) + (r : Int) < (d.size : Int) := by omega
          have f5 : (0 : Int) ≤ (first : Int) + (ch : Int) := by omega
          have f6 : (first : Int) + (ch : Int) < (d.size : Int) := by omega
          have f7 : ((first : Int) + (r : Int)).toNat = first + r := by omega
          have f8 : ((first : Int) + (ch : Int)).toNat = first + ch := by omega
          have f9 : IntKind.i64.wrap ((first : Int) + (r : Int)) = (first : Int) + (r : Int) := IntWalk.i64_in _ (by omega)
          have f10 : IntKind.i64.wrap ((first : Int) + (ch : Int)) = (first : Int) + (ch : Int) := IntWalk.i64_in _ (by omega)
          have hst2 := hst.out
          cases hl : ltInt dk[first + r]! dk[first + ch]! with
          | true =>
            rw [hl, if_pos rfl] at hst2
            have HT := Lib.hid hst2
            have HL := Lib.hid (fun n => less_calls dk[first + r]! dk[first + ch]! (wc.drewN n))
            rw [hl] at HL
            generalize dk[first + r]! = x at ci HL
            generalize dk[first + ch]! = y at cj HL
            clear hst2 hl hst
            go_wp2
            go_quiet ((go_at_call 83; exact Calls.quiet_of_same (HL.out _)))
            have S4 := Lib.hid (S3.out.drewN nq)
            clear HL ci cj S3
            generalize wc.drewN nq = w2 at S4 ⊢
            obtain ⟨ci, cj, fi, fj, ⟨u, c2⟩, SX⟩ := xch S4.out HR.out (by omega) (i := first + r) (j := first + ch) (by omega) (by omega)
            have HX := Lib.hid SX
            clear SX S4
            generalize dk[first + r]! = x at ci c2 HX
            generalize dk[first + ch]! = y at cj c2 HX
            go_wp2
            go_big_region
            generalize ((w2.setCell ⟨blk, off + (first + r), none⟩ (.int .i32 y)).setCell ⟨blk, off + (first + ch), none⟩ (.int .i32 x)).drew = w3 at HX ⊢
            clear ci cj fi fj c2 f7 f8 f9 f10
            go_wp2
            go_roundg (gk - 1)
            case measure => omega
            case rel => exact ⟨ch, swp dk (first + r) (first + ch), rfl, by omega, by omega, by rw [size_swp]; exact hsk, HX, Lib.hid (by rw [← HE.out, HT.out])⟩
          | false =>
            rw [hl, if_neg (by simp)] at hst2
            have HT := Lib.hid (show siftDown ltInt hi first lo d = dk by rw [← HE.out, hst2])
            have HL := Lib.hid (fun n => less_calls dk[first + r]! dk[first + ch]! (wc.drewN n))
            rw [hl] at HL
            generalize dk[first + r]! = x at ci HL
            generalize dk[first + ch]! = y at cj HL
            clear hst2 hl hst HE
            go_wp2
            go_quiet ((go_at_call 83; exact Calls.quiet_of_same (HL.out _)))
            have S4 := Lib.hid (S3.out.drewN nq)
            clear HL ci cj S3
            go_wp2
            (try simp only [Exit.inBlock, Exit.then])
            refine bodyPost_ret (results_none rfl _ _ _) rfl ?_
            exact ⟨rfl, by rw [HT.out]; exact S4.out⟩
    · have h1 : decide ((hi : Int) ≤ 2 * (r : Int) + 1) = true := decide_eq_true (by omega)
      have HS := Lib.hid (show siftDown ltInt hi first lo d = dk by rw [← HE.out, sift_end _ _ _ _ (by omega)])
      clear HE
      go_wp2
      go_end0
      exact ⟨rfl, by rw [HS.out]; exact S1.out⟩
end Go.Proofs.Ytnfnnmmblommiaa.PA
namespace Go.Proofs.Ytnfnnmmblommiaa.PA
open Go.RowKit Go.Shelf Go.Lib Go.Sort
set_option linter.unusedVariables false
set_option linter.unusedSimpArgs false

theorem size_sift (hi first : Nat) : ∀ (n root : Nat) (d : Array Int), hi - root ≤ n → (siftDown ltInt hi first root d).size = d.size
  | 0, root, d, h => by rw [sift_end _ _ _ _ (by omega)]
  | n + 1, root, d, h => by
    by_cases hlt : 2 * root + 1 < hi
    · have hch := sift_lt hi first root d hlt
      rw [sift_step hi first root d hlt]
      split
      · rw [size_sift hi first n _ _ (by omega), size_swp]
      · rfl
    · rw [sift_end _ _ _ _ (by omega)]
set_option maxRecDepth 100000 in
set_option maxHeartbeats 4000000 in
theorem heap_walk (blk off cap a b : Nat) (d0 d : Array Int) (w0 w : World) (R : Row1 enc32 w0 blk off d0) (hs : d0.size = d.size) (S : SW enc32 w0 blk off d w) (hab : a < b) (hb : b ≤ d.size) (hsz : d.size < 1152921504606846976) :
    Calls Try.prog 78 #[.slice (some ⟨blk, off, none⟩) d.size cap, .int .i64 a, .int .i64 b] w fun e w' => e = .returned (.tuple #[]) ∧ SW enc32 w0 blk off (heapSort ltInt d a b) w' := by
  have S0 := Lib.hid S
  have HR := Lib.hid R
  obtain ⟨n, hn⟩ : ∃ n, b = a + n := ⟨b - a, by omega⟩
  have hbn : (b : Int) - (a : Int) = (n : Int) := by omega
  have f0 : ((n : Int) - 1) / 2 = (((n - 1) / 2 : Nat) : Int) := by omega
  have HN := Lib.hid hn
  have hnpos : (1 : Int) ≤ (n : Int) := by omega
  have hnU : (n : Int) ≤ 1152921504606846976 := by omega
  clear S R hn
  go_enter Try.func78, Try.ntmps78
  go_wp2
  clear hbn f0
  go_loopg [9] (n + 1) (fun g vi wr => ∃ (k : Nat) (dk : Array Int), vi = .int .i64 ((k : Int) - 1) ∧ k ≤ g ∧ k ≤ n ∧ dk.size = d.size ∧ Hid (SW enc32 w0 blk off dk wr) ∧ Hid (heapPop ltInt a n (heapBuild ltInt n a k dk) = heapSort ltInt d a b))
  case atStart => exact ⟨(n - 1) / 2 + 1, d, by first | go_num | (congr 1; omega), by have := HN.out; omega, by have := HN.out; omega, rfl, S0, Lib.hid (by unfold heapSort; rw [HN.out, Nat.add_sub_cancel_left])⟩
  case round =>
    clear S0
    obtain ⟨k, dk, rfl, hkg, hkn, hsk, S1, HE⟩ := hrel
    cases k with
    | succ k =>
      have h1 : (((k + 1 : Nat) : Int) - 1) = (k : Int) := by omega
      rw [h1]
      have h2 : (0 : Int) ≤ (k : Int) := by omega
      have h3 : (k : Int) ≤ 1152921504606846976 := by omega
      have HC := Lib.hid (sift_walk blk off cap k n a d0 dk w0 wr HR.out (by have := HN.out; omega) S1.out (by have := HN.out; omega) (by have := HN.out; omega) (by have := HN.out; omega))
      rw [hsk] at HC
      clear h1 S1
      go_wp2_with fail
      refine HC.out.mono ?_
      rintro e w2 ⟨rfl, SX⟩
      have S2 := Lib.hid SX
      clear SX HC
      go_wp2
      go_roundg (gk - 1)
      case measure => have := HN.out; omega
      case rel => exact ⟨k, siftDown ltInt n a k dk, by go_num, by have := HN.out; omega, by have := HN.out; omega, by rw [size_sift n a _ _ _ (Nat.le_refl _)]; exact hsk, S2, Lib.hid (by rw [← HE.out, heapBuild])⟩
    | zero =>
      have HE2 := Lib.hid (show heapPop ltInt a n dk = heapSort ltInt d a b from HE.out)
      clear HE
      go_wp2
      go_loopg [10] (n + 1) (fun g vi wr => ∃ (k : Nat) (dk : Array Int), vi = .int .i64 ((k : Int) - 1) ∧ k ≤ g ∧ k ≤ n ∧ dk.size = d.size ∧ Hid (SW enc32 w0 blk off dk wr) ∧ Hid (heapPop ltInt a k dk = heapSort ltInt d a b))
      case atStart => exact ⟨n, dk, by go_num, by have := HN.out; omega, by have := HN.out; omega, hsk, S1, HE2⟩
      case round =>
        clear S1 HE2
        obtain ⟨k, dj, rfl, hkg2, hkn2, hsj, S1, HE⟩ := hrel
        cases k with
        | succ k =>
          have hbn2 := HN.out
          have h1 : (((k + 1 : Nat) : Int) - 1) = (k : Int) := by omega
          rw [h1]
          have h2 : (0 : Int) ≤ (k : Int) := by omega
          have h3 : (k : Int) ≤ 1152921504606846976 := by omega
          obtain ⟨ci, cj, fi, fj, ⟨u, c2⟩, SX⟩ := xch S1.out HR.out (by omega) (i := a) (j := a + k) (by omega) (by omega)
          have HX := Lib.hid SX
          clear SX S1
          generalize dj[a]! = x at ci c2 HX
          generalize dj[a + k]! = y at cj c2 HX
          have f1 : (0 : Int) ≤ (a : Int) + (k : Int) := by omega
          have f2 : (a : Int) + (k : Int) < (d.size : Int) := by omega
          have f3 : ((a : Int) + (k : Int)).toNat = a + k := by omega
          have f4 : (0 : Int) ≤ (a : Int) := by omega
          have f5 : (a : Int) < (d.size : Int) := by omega
          have f6 : IntKind.i64.wrap ((a : Int) + (k : Int)) = (a : Int) + (k : Int) := IntWalk.i64_in _ (by omega)
          clear h1 hbn2
          go_wp2
          go_big_region
          generalize ((wr.setCell ⟨blk, off + a, none⟩ (.int .i32 y)).setCell ⟨blk, off + (a + k), none⟩ (.int .i32 x)).drew = w3 at HX ⊢
          clear ci cj fi fj c2 f3 f6
          have hsw : (swp dj a (a + k)).size = d.size := by rw [size_swp]; exact hsj
          have HC := Lib.hid (sift_walk blk off cap 0 k a d0 (swp dj a (a + k)) w0 w3 HR.out (by have := HN.out; omega) HX.out (by have := HN.out; omega) (by have := HN.out; omega) (by have := HN.out; omega))
          rw [hsw] at HC
          have HSW := Lib.hid hsw
          clear HX hsw
          go_wp2_with fail
          refine HC.out.mono ?_
          rintro e w2 ⟨rfl, SX⟩
          have S2 := Lib.hid SX
          clear SX HC
          go_wp2
          go_roundg (gk - 1)
          case measure => have := HN.out; omega
          case rel => exact ⟨k, siftDown ltInt k a 0 (swp dj a (a + k)), by go_num, by have := HN.out; omega, by have := HN.out; omega, by rw [size_sift k a _ _ _ (Nat.le_refl _)]; exact HSW.out, S2, Lib.hid (by rw [← HE.out, heapPop])⟩
        | zero =>
          have HE2 := Lib.hid (show dj = heapSort ltInt d a b from HE.out)
          clear HE
          go_wp2
          go_end0
          exact ⟨rfl, by rw [← HE2.out]; exact S1.out⟩
end Go.Proofs.Ytnfnnmmblommiaa.PA
