/- slices.Sort at int32, by hand: order2, median, medianAdjacent, choosePivot. slices.Sort at int32, by hand: choosePivot. -/
import Derived.Test.YtnfnnmmblommiaaSortRev
import Derived.Sort.LotD4
namespace Go.Proofs.Ytnfnnmmblommiaa.PA
open Go.RowKit Go.Shelf Go.Lib Go.Sort
set_option linter.unusedVariables false
set_option linter.unusedSimpArgs false

theorem Cnt1.drewN {w0 W : World} {blk off c s : Nat} {dk : Array Int} (h : Cnt1 enc32 w0 blk off dk c s W) (n : Nat) : Cnt1 enc32 w0 blk off dk c s (W.drewN n) := by
  have := h.grown n #[]
  rwa [Go.Sort.grow_empty] at this
def Two (w0 : World) (blk off : Nat) (dk : Array Int) (c : Nat) (r : Nat × Nat × Nat) (e : Ending) (w' : World) : Prop :=
  e = .returned (.tuple #[.int .i64 r.1, .int .i64 r.2.1]) ∧ Cnt1 enc32 w0 blk off dk c r.2.2 w'
set_option maxRecDepth 100000 in
set_option maxHeartbeats 4000000 in
theorem order2_walk (blk off cap a b c s : Nat) (d0 d : Array Int) (w0 w : World) (R : Row1 enc32 w0 blk off d0) (hs : d0.size = d.size) (S : Cnt1 enc32 w0 blk off d c s w) (ha : a < d.size) (hb : b < d.size) (hsz : d.size < 1152921504606846976) (hs2 : s < 1000) :
    Calls Try.prog 104 #[.slice (some ⟨blk, off, none⟩) d.size cap, .int .i64 a, .int .i64 b, .pointer (some ⟨c, 0, none⟩)] w (Two w0 blk off d c (order2 ltInt d a b s)) := by
  have X := xch S.1 R (by omega) (i := b) (j := a) (by omega) (by omega)
  have ci := X.ci
  have cj := X.cj
  clear X
  have e1 : (a : Int) < (d.size : Int) := by omega
  have e2 : (b : Int) < (d.size : Int) := by omega
  have e3 : (0 : Int) ≤ (a : Int) := by omega
  have e4 : (0 : Int) ≤ (b : Int) := by omega
  have HL := Lib.hid (fun n => less_calls d[b]! d[a]! (w.drewN n))
  have HS := Lib.hid S
  have HO : Hid (order2 ltInt d a b s = if ltInt d[b]! d[a]! then (b, a, s + 1) else (a, b, s)) := Lib.hid rfl
  clear S R
  generalize d[b]! = x at ci HL HO
  generalize d[a]! = y at cj HL HO
  cases hl : ltInt x y with
  | true =>
    rw [hl] at HL HO
    clear hl
    go_enter Try.func104, Try.ntmps104
    go_wp2
    go_quiet ((go_at_call 83; exact Calls.quiet_of_same (HL.out _)))
    have S2 := Lib.hid (Cnt1.drewN HS.out nq)
    clear HS HL ci cj
    generalize w.drewN nq = w2 at S2 ⊢
    have c1 := S2.out.2.1
    have c2 := S2.out.2.2.1
    have HB := Lib.hid (S2.out.bump (s + 1))
    go_wp2
    clear c1 c2
    go_ret2
    unfold Two
    rw [HO.out]
    exact ⟨rfl, by have := HB.out; simpa using this⟩
  | false =>
    rw [hl] at HL HO
    clear hl
    go_enter Try.func104, Try.ntmps104
    go_wp2
    go_quiet ((go_at_call 83; exact Calls.quiet_of_same (HL.out _)))
    have S2 := Lib.hid (Cnt1.drewN HS.out nq)
    clear HS HL ci cj
    go_wp2
    go_ret2
    unfold Two
    rw [HO.out]
    exact ⟨rfl, S2.out⟩
def One (w0 : World) (blk off : Nat) (dk : Array Int) (c : Nat) (r : Nat × Nat) (e : Ending) (w' : World) : Prop :=
  e = .returned (.int .i64 r.1) ∧ Cnt1 enc32 w0 blk off dk c r.2 w'
theorem order2_lt (d : Array Int) {a b s n m : Nat} (ha : a < n) (hb : b < n) (hs : s < m) : (order2 ltInt d a b s).1 < n ∧ (order2 ltInt d a b s).2.1 < n ∧ (order2 ltInt d a b s).2.2 < m + 1 := by
  unfold order2
  split
  · exact ⟨hb, ha, by show s + 1 < m + 1; omega⟩
  · exact ⟨ha, hb, by show s < m + 1; omega⟩
set_option maxRecDepth 100000 in
set_option maxHeartbeats 4000000 in
theorem median_walk (blk off cap a b m c s : Nat) (d0 d : Array Int) (w0 w : World) (R : Row1 enc32 w0 blk off d0) (hs : d0.size = d.size) (S : Cnt1 enc32 w0 blk off d c s w) (ha : a < d.size) (hb : b < d.size) (hm : m < d.size) (hsz : d.size < 1152921504606846976) (hs2 : s < 900) :
    Calls Try.prog 100 #[.slice (some ⟨blk, off, none⟩) d.size cap, .int .i64 a, .int .i64 b, .int .i64 m, .pointer (some ⟨c, 0, none⟩)] w (One w0 blk off d c (median ltInt d a b m s)) := by
  have HR := Lib.hid R
  have h1 := Lib.hid (order2_walk blk off cap a b c s d0 d w0 w R hs S ha hb hsz (by omega))
  have l1 := order2_lt d ha hb hs2
  have HM : Hid (median ltInt d a b m s = ((order2 ltInt d (order2 ltInt d a b s).1 (order2 ltInt d (order2 ltInt d a b s).2.1 m (order2 ltInt d a b s).2.2).1 (order2 ltInt d (order2 ltInt d a b s).2.1 m (order2 ltInt d a b s).2.2).2.2).2.1, (order2 ltInt d (order2 ltInt d a b s).1 (order2 ltInt d (order2 ltInt d a b s).2.1 m (order2 ltInt d a b s).2.2).1 (order2 ltInt d (order2 ltInt d a b s).2.1 m (order2 ltInt d a b s).2.2).2.2).2.2)) := Lib.hid rfl
  generalize order2 ltInt d a b s = r1 at h1 l1 HM
  clear R S
  go_enter Try.func100, Try.ntmps100
  go_wp2_with fail
  refine h1.out.mono ?_
  rintro e w1 ⟨rfl, S1⟩
  have h2 := Lib.hid (order2_walk blk off cap r1.2.1 m c r1.2.2 d0 d w0 w1 HR.out hs S1 l1.2.1 hm hsz (by omega))
  have l2 := order2_lt d l1.2.1 hm l1.2.2
  generalize order2 ltInt d r1.2.1 m r1.2.2 = r2 at h2 l2 HM
  clear h1 S1
  go_wp2_with fail
  refine h2.out.mono ?_
  rintro e w2 ⟨rfl, S2⟩
  have h3 := Lib.hid (order2_walk blk off cap r1.1 r2.1 c r2.2.2 d0 d w0 w2 HR.out hs S2 l1.1 l2.1 hsz (by omega))
  generalize order2 ltInt d r1.1 r2.1 r2.2.2 = r3 at h3 HM
  clear h2 S2
  go_wp2_with fail
  refine h3.out.mono ?_
  rintro e w3 ⟨rfl, S3⟩
  have S4 := Lib.hid S3
  clear h3 S3
  go_wp2
  go_ret
  unfold One
  rw [HM.out]
  exact ⟨rfl, S4.out⟩
set_option maxRecDepth 100000 in
set_option maxHeartbeats 4000000 in
theorem adj_walk (blk off cap a c s : Nat) (d0 d : Array Int) (w0 w : World) (R : Row1 enc32 w0 blk off d0) (hs : d0.size = d.size) (S : Cnt1 enc32 w0 blk off d c s w) (ha : 1 ≤ a) (hb : a + 1 < d.size) (hsz : d.size < 1152921504606846976) (hs2 : s < 900) :
    Calls Try.prog 99 #[.slice (some ⟨blk, off, none⟩) d.size cap, .int .i64 a, .pointer (some ⟨c, 0, none⟩)] w (One w0 blk off d c (medianAdjacent ltInt d a s)) := by
  have h1 := median_walk blk off cap (a - 1) a (a + 1) c s d0 d w0 w R hs S (by omega) (by omega) hb hsz hs2
  rw [show (((a - 1 : Nat)) : Int) = (a : Int) - 1 by omega, show (((a + 1 : Nat)) : Int) = (a : Int) + 1 by omega] at h1
  have HM : Hid (medianAdjacent ltInt d a s = median ltInt d (a - 1) a (a + 1) s) := Lib.hid rfl
  generalize median ltInt d (a - 1) a (a + 1) s = r at h1 HM
  have H1 := Lib.hid h1
  have b1 : (1 : Int) ≤ (a : Int) := by omega
  have b2 : (a : Int) < 1152921504606846976 := by omega
  clear h1 R S
  go_enter Try.func99, Try.ntmps99
  go_wp2_with fail
  refine H1.out.mono ?_
  rintro e w3 ⟨rfl, S3⟩
  have S4 := Lib.hid S3
  clear H1 S3
  go_wp2
  go_ret
  unfold One
  rw [HM.out]
  exact ⟨rfl, S4.out⟩
end Go.Proofs.Ytnfnnmmblommiaa.PA
namespace Go.Proofs.Ytnfnnmmblommiaa.PA
open Go.RowKit Go.Shelf Go.Lib Go.Sort
set_option linter.unusedVariables false
set_option linter.unusedSimpArgs false

theorem hint_eq (s : Nat) (c0 c12 : Bool) (h0 : ((s : Int) == 0) = c0) (h12 : ((s : Int) == 12) = c12) : hintCode (hintOf s) = if c0 then 1 else if c12 then 2 else 0 := by
  subst h0; subst h12
  unfold hintOf
  by_cases e : s = 0
  · subst e; rfl
  · by_cases e2 : s = 12
    · subst e2; rfl
    · have h1 : ((s : Int) == 0) = false := beq_eq_false_iff_ne.2 (by omega)
      have h2 : ((s : Int) == 12) = false := beq_eq_false_iff_ne.2 (by omega)
      simp [e, e2, h1, h2, hintCode]
def Piv (w0 : World) (blk off : Nat) (d : Array Int) (p : Nat) (hc : Int) (e : Ending) (w' : World) : Prop :=
  e = .returned (.tuple #[.int .i64 p, .int .i64 hc]) ∧ SW enc32 w0 blk off d w'
set_option maxRecDepth 100000 in
set_option maxHeartbeats 4000000 in
theorem pivot_walk (blk off cap a b : Nat) (d0 d : Array Int) (w0 w : World) (R : Row1 enc32 w0 blk off d0) (hs : d0.size = d.size) (S : SW enc32 w0 blk off d w) (hab : a < b) (hb : b ≤ d.size) (hsz : d.size < 1152921504606846976) :
    Calls Try.prog 80 #[.slice (some ⟨blk, off, none⟩) d.size cap, .int .i64 a, .int .i64 b] w (Piv w0 blk off d (choosePivot ltInt d a b).1 (hintCode (choosePivot ltInt d a b).2)) := by
  have C0 := Lib.hid (Cnt1.start S 3)
  have MA := Lib.hid (fun (W : World) (x s : Nat) (C' : Cnt1 enc32 w0 blk off d w.heap.size s W) (h1 : 1 ≤ x) (h2 : x + 1 < d.size) (h3 : s < 900) => adj_walk blk off cap x w.heap.size s d0 d w0 W R hs C' h1 h2 hsz h3)
  have MD := Lib.hid (fun (W : World) (x y z s : Nat) (C' : Cnt1 enc32 w0 blk off d w.heap.size s W) (hx : x < d.size) (hy : y < d.size) (hz : z < d.size) (h3 : s < 900) => median_walk blk off cap x y z w.heap.size s d0 d w0 W R hs C' hx hy hz hsz h3)
  rw [choosePivot_eq]
  obtain ⟨I, hI⟩ : ∃ I : Nat, I = a + (b - a) / 4 * 1 := ⟨_, rfl⟩
  obtain ⟨J, hJ⟩ : ∃ J : Nat, J = a + (b - a) / 4 * 2 := ⟨_, rfl⟩
  obtain ⟨K, hK⟩ : ∃ K : Nat, K = a + (b - a) / 4 * 3 := ⟨_, rfl⟩
  have eI : ((a : Int) + ((b : Int) - (a : Int)) / 4) = (I : Int) := by omega
  have eJ : ((a : Int) + ((b : Int) - (a : Int)) / 4 * 2) = (J : Int) := by omega
  have eK : ((a : Int) + ((b : Int) - (a : Int)) / 4 * 3) = (K : Int) := by omega
  clear S R
  by_cases h8 : b - a ≥ 8
  · have h8z : (8 : Int) ≤ (b : Int) - (a : Int) := by omega
    by_cases h50 : b - a ≥ 50
    · have h50z : (50 : Int) ≤ (b : Int) - (a : Int) := by omega
      have HP : Hid (rawPivot ltInt d a b = median ltInt d (medianAdjacent ltInt d I 0).1 (medianAdjacent ltInt d J (medianAdjacent ltInt d I 0).2).1 (medianAdjacent ltInt d K (medianAdjacent ltInt d J (medianAdjacent ltInt d I 0).2).2).1 (medianAdjacent ltInt d K (medianAdjacent ltInt d J (medianAdjacent ltInt d I 0).2).2).2) := Lib.hid (by
        simp only [rawPivot, if_pos h8, if_pos h50, ← hI, ← hJ, ← hK])
      have m1 := medianAdjacent_mem ltInt d I 0
      have n1 := medianAdjacent_count ltInt d I 0
      have H1 := Lib.hid (MA.out _ I 0 C0.out (by omega) (by omega) (by omega))
      generalize medianAdjacent ltInt d I 0 = r1 at m1 n1 H1 HP
      have m2 := medianAdjacent_mem ltInt d J r1.2
      have n2 := medianAdjacent_count ltInt d J r1.2
      have H2 := Lib.hid (fun W C' => MA.out W J r1.2 C' (by omega) (by omega) (by omega))
      generalize medianAdjacent ltInt d J r1.2 = r2 at m2 n2 H2 HP
      have m3 := medianAdjacent_mem ltInt d K r2.2
      have n3 := medianAdjacent_count ltInt d K r2.2
      have H3 := Lib.hid (fun W C' => MA.out W K r2.2 C' (by omega) (by omega) (by omega))
      generalize medianAdjacent ltInt d K r2.2 = r3 at m3 n3 H3 HP
      have H4 := Lib.hid (fun W C' => MD.out W r1.1 r2.1 r3.1 r3.2 C' (by omega) (by omega) (by omega) (by omega))
      have n4 := median_count ltInt d r1.1 r2.1 r3.1 r3.2
      generalize median ltInt d r1.1 r2.1 r3.1 r3.2 = r4 at H4 n4 HP
      rw [HP.out]
      clear m1 m2 m3 hI hJ hK HP MA MD
      have HH := Lib.hid (hint_eq r4.2)
      generalize hintCode (hintOf r4.2) = hc at HH ⊢
      go_enter Try.func80, Try.ntmps80
      go_wp2_with fail
      refine H1.out.mono ?_
      rintro e w1 ⟨rfl, S1⟩
      have S1' := Lib.hid S1
      clear S1
      go_wp2_with fail
      refine (H2.out _ S1'.out).mono ?_
      rintro e w2 ⟨rfl, S2⟩
      have S2' := Lib.hid S2
      clear S2 S1'
      go_wp2_with fail
      refine (H3.out _ S2'.out).mono ?_
      rintro e w3 ⟨rfl, S3⟩
      have S3' := Lib.hid S3
      clear S3 S2'
      go_wp2_with fail
      refine (H4.out _ S3'.out).mono ?_
      rintro e w4 ⟨rfl, S4⟩
      have c1 := S4.2.1
      have S4' := Lib.hid S4
      clear S4 S3' H1 H2 H3 H4 eI eJ eK
      cases h0 : ((r4.2 : Int) == 0) <;> cases h12 : ((r4.2 : Int) == 12) <;>
        (have HV := Lib.hid (HH.out _ _ h0 h12)
         go_wp2
         go_ret2
         unfold Piv
         rw [HV.out]
         exact ⟨rfl, S4'.out.1⟩)
    · have h50z : ¬ (50 : Int) ≤ (b : Int) - (a : Int) := by omega
      have HP : Hid (rawPivot ltInt d a b = median ltInt d I J K 0) := Lib.hid (by simp only [rawPivot, if_pos h8, if_neg h50, ← hI, ← hJ, ← hK])
      have H4 := Lib.hid (MD.out _ I J K 0 C0.out (by omega) (by omega) (by omega) (by omega))
      have n4 := median_count ltInt d I J K 0
      generalize median ltInt d I J K 0 = r4 at H4 n4 HP
      rw [HP.out]
      clear hI hJ hK HP MA MD
      have HH := Lib.hid (hint_eq r4.2)
      generalize hintCode (hintOf r4.2) = hc at HH ⊢
      go_enter Try.func80, Try.ntmps80
      go_wp2_with fail
      refine H4.out.mono ?_
      rintro e w4 ⟨rfl, S4⟩
      have c1 := S4.2.1
      have S4' := Lib.hid S4
      clear S4 H4 eI eJ eK
      cases h0 : ((r4.2 : Int) == 0) <;> cases h12 : ((r4.2 : Int) == 12) <;>
        (have HV := Lib.hid (HH.out _ _ h0 h12)
         go_wp2
         go_ret2
         unfold Piv
         rw [HV.out]
         exact ⟨rfl, S4'.out.1⟩)
  · have h8z : ¬ (8 : Int) ≤ (b : Int) - (a : Int) := by omega
    have HP : Hid (rawPivot ltInt d a b = (J, 0)) := Lib.hid (by simp only [rawPivot, if_neg h8, ← hJ])
    rw [HP.out]
    clear HP MA MD hI hJ hK
    go_enter Try.func80, Try.ntmps80
    go_wp2
    go_ret2
    exact ⟨rfl, C0.out.1⟩
end Go.Proofs.Ytnfnnmmblommiaa.PA
