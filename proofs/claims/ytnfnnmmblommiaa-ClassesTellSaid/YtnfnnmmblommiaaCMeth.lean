/- The methods of classes.Classes, by hand: Len, Sets, Of. The methods of classes.Classes, by hand: Of, In. The methods of classes.Classes, by hand: Set. -/
import Derived.Test.YtnfnnmmblommiaaCut
namespace Go.Proofs.Ytnfnnmmblommiaa.PA
open Go.RowKit Go.Shelf Go.Proofs.YtnfnnmmblommiaaW.PrintWords Go.Proofs.YtnfnnmmblommiaaW.PrintLast Go.Proofs.YtnfnnmmblommiaaW.PrintMore
set_option linter.unusedVariables false
set_option linter.unusedSimpArgs false

section
variable {W : World} {g : Nat} {n : Int} {ps : List Pc} {ms : List Int}
theorem ClsAt.open_ (h : ClsAt W g n ps ms) : ∃ A1 c1 A2 c2, W.cell? ⟨g, 0, none⟩ = some (.int .i64 n) ∧ W.cell? ⟨g, 1, none⟩ = some (.slice A1 ps.length c1) ∧ W.cell? ⟨g, 2, none⟩ = some (.slice A2 ms.length c2) ∧ Kd.C k83 W A1 ps.length ps ∧ Kd.C (Kd.int .u64) W A2 ms.length ms ∧ ps.length ≤ c1 ∧ ms.length ≤ c2 := by
  obtain ⟨vp, vm, h1, h2, h3⟩ := h.at_
  obtain ⟨A1, c1, rfl, l1, r1⟩ := Kd.R_reads h2
  obtain ⟨A2, c2, rfl, l2, r2⟩ := Kd.R_reads h3
  exact ⟨A1, c1, A2, c2, (blk_cell h1 0).trans rfl, (blk_cell h1 1).trans rfl, (blk_cell h1 2).trans rfl, r1, r2, l1, l2⟩
end
set_option maxHeartbeats 1000000 in
theorem len_calls {W : World} {g : Nat} {n : Int} {ps : List Pc} {ms : List Int} (h : ClsAt W g n ps ms) : Calls Try.prog 26 #[.pointer (some ⟨g, 0, none⟩)] W fun e w' => e = .returned (.int .i64 (ms.length : Int)) ∧ w' = W := by
  obtain ⟨A1, c1, A2, c2, h0, h1, h2, _⟩ := h.open_
  clear h
  go_enter Try.func26, Try.ntmps26
  go_wp2
  go_ret
  exact ⟨rfl, rfl⟩
set_option maxHeartbeats 1000000 in
theorem sets_calls {W : World} {g : Nat} {n : Int} {ps : List Pc} {ms : List Int} (h : ClsAt W g n ps ms) : Calls Try.prog 27 #[.pointer (some ⟨g, 0, none⟩)] W fun e w' => e = .returned (.int .i64 n) ∧ w' = W := by
  obtain ⟨A1, c1, A2, c2, h0, h1, h2, _⟩ := h.open_
  clear h
  go_enter Try.func27, Try.ntmps27
  go_wp2
  go_ret
  exact ⟨rfl, rfl⟩
set_option maxHeartbeats 1000000 in
theorem of1_calls (lo c r : Int) (W : World) (h1 : -2147483648 ≤ lo) (h2 : lo ≤ 2147483647) (h3 : -2147483648 ≤ r) (h4 : r ≤ 2147483647) :
    Calls Try.prog 55 #[.agg #[.int .i32 lo, .int .i64 c], .int .i32 r] W fun e w' => e = .returned (.int .i64 (lo - r)) ∧ Below W.heap.size W w' := by
  go_enter Try.func55, Try.ntmps55
  go_wp2
  go_ret
  exact ⟨rfl, (Below.refl _ W).alloc (Nat.le_refl _) _⟩
/-- The places are in order. -/
def Inc (ps : List Pc) : Prop := ps.Pairwise (fun a b => a.f0 < b.f0)
theorem Inc.lt {ps : List Pc} (h : Inc ps) {i j : Nat} (hij : i < j) (hj : j < ps.length) : (rd_T83 ps (i : Int)).f0 < (rd_T83 ps (j : Int)).f0 := by
  have := List.pairwise_iff_getElem.1 h i j (by omega) hj hij
  unfold rd_T83
  simp [show i < ps.length by omega, hj]
  exact this
def Bs (ps : List Pc) (r : Int) (W : World) (e : Ending) (w' : World) : Prop :=
  ∃ i : Nat, i ≤ ps.length ∧ (∀ x : Nat, x < i → (rd_T83 ps (x : Int)).f0 < r) ∧ (∀ x : Nat, i ≤ x → x < ps.length → r ≤ (rd_T83 ps (x : Int)).f0) ∧ e = .returned (.tuple #[.int .i64 i, .bool (decide (i < ps.length) && decide ((rd_T83 ps (i : Int)).f0 = r))]) ∧ Below W.heap.size W w'
set_option maxRecDepth 100000 in
set_option maxHeartbeats 4000000 in
theorem bs_calls (A : Option Addr) (c : Nat) (ps : List Pc) (r : Int) (W : World) (hr : Kd.C k83 W A ps.length ps) (hi : Inc ps) (hl : ps.length < 1000000000) (h3 : -2147483648 ≤ r) (h4 : r ≤ 2147483647) (hb : ∀ p ∈ ps, 0 ≤ p.f0 ∧ p.f0 ≤ 1114111) :
    Calls Try.prog 54 #[.slice A ps.length c, .int .i32 r, .func (.func 55) #[] #[]] W (Bs ps r W) := by
  have hu2 := Try.underlying83
  have HR := Lib.hid hr
  have HI := Lib.hid hi
  have HB := Lib.hid hb
  clear hr hi hb
  go_enter Try.func54, Try.ntmps54
  go_wp2
  go_loopg [9, 10] ps.length (fun gk vi vj wr => ∃ i j : Nat, vi = .int .i64 i ∧ vj = .int .i64 j ∧ i ≤ j ∧ j ≤ ps.length ∧ j - i ≤ gk ∧ Hid (∀ x : Nat, x < i → (rd_T83 ps (x : Int)).f0 < r) ∧ Hid (∀ x : Nat, j ≤ x → x < ps.length → r ≤ (rd_T83 ps (x : Int)).f0) ∧ Hid (Below W.heap.size W wr))
  case atStart => exact ⟨0, ps.length, rfl, rfl, Nat.zero_le _, Nat.le_refl _, by omega, Lib.hid (fun x h => absurd h (Nat.not_lt_zero _)), Lib.hid (fun x h1 h2 => by omega), Lib.hid (Below.refl _ _)⟩
  case round =>
    obtain ⟨i, j, rfl, rfl, hij, hj, hg, HL, HG, HW⟩ := hrel
    have hCr := Kd.C_below HR.out HW.out
    by_cases hlt : i < j
    · obtain ⟨h, hh⟩ : ∃ h : Nat, h = (i + j) / 2 := ⟨_, rfl⟩
      have hz : ((i : Int) + (j : Int)) / 2 = (h : Int) := by omega
      have hih : i ≤ h := by omega
      have hhj : h < j := by omega
      obtain ⟨ad, rfl, hx0, hx1⟩ := at_T83 hCr (h : Int) (by omega) (by omega)
      have hbd := HB.out (rd_T83 ps (h : Int)) (by unfold rd_T83; simp [show h < ps.length by omega])
      have HLT := Lib.hid (fun x (hx : x < h) => HI.out.lt hx (show h < ps.length by omega))
      have HGT := Lib.hid (fun x (hx : h < x) (hx2 : x < ps.length) => HI.out.lt hx hx2)
      have HP : Hid (∀ p, p = rd_T83 ps (h : Int) → True) := Lib.hid (fun _ _ => trivial)
      obtain ⟨p, hp⟩ : ∃ p, p = rd_T83 ps (h : Int) := ⟨_, rfl⟩
      rw [← hp] at hx0 hx1 hbd HLT HGT
      have HPP := Lib.hid hp
      simp only [Int.toNat_natCast] at hx0 hx1
      have HC := Lib.hid (fun W' => of1_calls p.f0 p.f1 r W' (by omega) (by omega) h3 h4)
      clear hp HP hh hCr
      go_wp2_with fail
      refine (HC.out _).mono ?_
      rintro e w2 ⟨rfl, hb2⟩
      have HW2 := Lib.hid (HW.out.trans (hb2.mono HW.out.size))
      clear hb2 HC hx0 hx1
      by_cases hc : p.f0 < r
      · have hc0 : p.f0 - r < 0 := by omega
        go_wp2
        go_roundg (j - (h + 1))
        case measure => omega
        case rel =>
          refine ⟨h + 1, j, by go_num, rfl, by omega, hj, Nat.le_refl _, Lib.hid (fun x hx => ?_), HG, HW2⟩
          rcases Nat.lt_or_ge x h with h5 | h5
          · have := HLT.out x h5; omega
          · have : x = h := by omega
            rw [this, ← HPP.out]; exact hc
      · have hc0 : ¬ p.f0 - r < 0 := by omega
        go_wp2
        go_roundg (h - i)
        case measure => omega
        case rel =>
          refine ⟨i, h, rfl, rfl, hih, by omega, Nat.le_refl _, HL, Lib.hid (fun x hx hx2 => ?_), HW2⟩
          rcases Nat.lt_or_ge h x with h5 | h5
          · have := HGT.out x h5 hx2; omega
          · have : x = h := by omega
            rw [this, ← HPP.out]; omega
    · obtain rfl : i = j := by omega
      by_cases hin : i < ps.length
      · obtain ⟨ad, rfl, hx0, hx1⟩ := at_T83 hCr (i : Int) (by omega) (by omega)
        have hbd := HB.out (rd_T83 ps (i : Int)) (by unfold rd_T83; simp [hin])
        have HD : Hid (Bs ps r W (.returned (.tuple #[.int .i64 i, .bool (decide (i < ps.length) && decide ((rd_T83 ps (i : Int)).f0 = r))])) wr → True) := Lib.hid (fun _ => trivial)
        obtain ⟨p, hp⟩ : ∃ p, p = rd_T83 ps (i : Int) := ⟨_, rfl⟩
        have HPP := Lib.hid hp
        rw [← hp] at hx0 hx1 hbd
        simp only [Int.toNat_natCast] at hx0 hx1
        have HC := Lib.hid (fun W' => of1_calls p.f0 p.f1 r W' (by omega) (by omega) h3 h4)
        have hd1 : decide ((i : Int) < (ps.length : Int)) = true := decide_eq_true (by omega)
        clear hp HD hCr
        go_wp2_with fail
        refine (HC.out _).mono ?_
        rintro e w2 ⟨rfl, hb2⟩
        have HW2 := Lib.hid (HW.out.trans (hb2.mono HW.out.size))
        clear hb2 HC hx0 hx1
        go_wp2
        go_ret2
        refine ⟨i, hj, HL.out, HG.out, ?_, HW2.out⟩
        rw [← HPP.out]
        have e : (p.f0 - r == 0) = decide (p.f0 = r) := by rw [Bool.eq_iff_iff]; simp; omega
        simp [hin, e]
      · have hd1 : decide ((i : Int) < (ps.length : Int)) = false := decide_eq_false (by omega)
        clear hCr
        go_wp2
        go_ret2
        refine ⟨i, hj, HL.out, HG.out, ?_, HW.out⟩
        simp [hin]
end Go.Proofs.Ytnfnnmmblommiaa.PA
namespace Go.Proofs.Ytnfnnmmblommiaa.PA
open Go.RowKit Go.Shelf Go.Proofs.YtnfnnmmblommiaaW.PrintWords Go.Proofs.YtnfnnmmblommiaaW.PrintLast Go.Proofs.YtnfnnmmblommiaaW.PrintMore
set_option linter.unusedVariables false
set_option linter.unusedSimpArgs false

/-- The piece that a code point lies in. -/
structure PieceAt (ps : List Pc) (r : Int) (q : Nat) : Prop where
  lt : q < ps.length
  lo : (rd_T83 ps (q : Int)).f0 ≤ r
  hi : ∀ x : Nat, q < x → x < ps.length → r < (rd_T83 ps (x : Int)).f0
theorem PieceAt.unique {ps : List Pc} (hi : Inc ps) {r : Int} {q q' : Nat} (h : PieceAt ps r q) (h' : PieceAt ps r q') : q = q' := by
  rcases Nat.lt_trichotomy q q' with e | e | e
  · have := h.hi q' e h'.lt; have := h'.lo; omega
  · exact e
  · have := h'.hi q e h.lt; have := h.lo; omega
def OfAt (ps : List Pc) (r : Int) (W : World) (e : Ending) (w' : World) : Prop :=
  ∃ v : Int, e = .returned (.int .i64 v) ∧ (r < 0 ∨ r > 1114111 → v = -1) ∧ (0 ≤ r → r ≤ 1114111 → ∃ q, PieceAt ps r q ∧ v = (rd_T83 ps (q : Int)).f1) ∧ Below W.heap.size W w'
set_option maxRecDepth 100000 in
set_option maxHeartbeats 4000000 in
theorem of_calls {W : World} {g : Nat} {n : Int} {ps : List Pc} {ms : List Int} (h : ClsAt W g n ps ms) (r : Int) (h3 : -2147483648 ≤ r) (h4 : r ≤ 2147483647) (hi : Inc ps) (hl : ps.length < 1000000000) (hb : ∀ p ∈ ps, 0 ≤ p.f0 ∧ p.f0 ≤ 1114111) (h0 : 0 < ps.length) (hz : (rd_T83 ps ((0 : Nat) : Int)).f0 = 0) :
    Calls Try.prog 25 #[.pointer (some ⟨g, 0, none⟩), .int .i32 r] W (OfAt ps r W) := by
  have hu := Try.underlying73
  have hu2 := Try.underlying83
  obtain ⟨A1, c1, A2, c2, k0, k1, k2, k3, k4, l1, l2⟩ := h.open_
  have HB := Lib.hid (bs_calls A1 c1 ps r W k3 hi hl h3 h4 hb)
  have HC := Lib.hid k3
  have H0 := Lib.hid hz
  have HI := Lib.hid hi
  clear h k0 k2 k3 k4 hi hb hz
  by_cases hneg : r < 0
  · go_enter Try.func25, Try.ntmps25
    go_wp2
    go_ret
    exact ⟨-1, rfl, fun _ => rfl, fun h => by omega, Below.refl _ _⟩
  · by_cases hbig : r > 1114111
    · have hd0 : decide (r < 0) = false := decide_eq_false hneg
      go_enter Try.func25, Try.ntmps25
      go_wp2
      go_ret
      exact ⟨-1, rfl, fun _ => rfl, fun _ h => by omega, Below.refl _ _⟩
    · have hd0 : decide (r < 0) = false := decide_eq_false hneg
      have hd1 : ¬ (1114111 : Int) < r := by omega
      go_enter Try.func25, Try.ntmps25
      go_wp2_with fail
      refine HB.out.mono ?_
      rintro e w2 ⟨i, hil, hL, hG, rfl, hb2⟩
      have k1' := pw_cell_below hb2 k1
      have HB2 := Lib.hid hb2
      have HL := Lib.hid hL
      have HG := Lib.hid hG
      have hC2 := Kd.C_below HC.out hb2
      clear hb2 hL hG HB
      by_cases hth : i < ps.length ∧ (rd_T83 ps (i : Int)).f0 = r
      · have hv : (decide (i < ps.length) && decide ((rd_T83 ps (i : Int)).f0 = r)) = true := by simp [hth.1, hth.2]
        rw [hv]
        obtain ⟨ad, rfl, hx0, hx1⟩ := at_T83 hC2 (i : Int) (by omega) (by omega)
        simp only [Int.toNat_natCast] at hx1
        have HTH := Lib.hid hth
        have hil2 := hth.1
        generalize hf : (rd_T83 ps (i : Int)).f1 = f at hx1
        have HF := Lib.hid hf
        clear hv hth hx0 hC2 hf
        go_wp2
        go_ret
        refine ⟨_, rfl, fun h => by omega, fun _ _ => ⟨i, ⟨HTH.out.1, by rw [HTH.out.2]; exact Int.le_refl _, fun x h5 h6 => ?_⟩, HF.out.symm⟩, HB2.out⟩
        have h7 := HI.out.lt h5 h6
        rw [HTH.out.2] at h7
        exact h7
      · have hv : (decide (i < ps.length) && decide ((rd_T83 ps (i : Int)).f0 = r)) = false := by
          by_cases h1 : i < ps.length
          · simp [h1]; exact fun h2 => hth ⟨h1, h2⟩
          · simp [h1]
        rw [hv]
        have hi0 : 0 < i := by
          rcases Nat.eq_zero_or_pos i with e | e
          · subst e
            have h7 := HG.out 0 (Nat.le_refl _) h0
            rw [H0.out] at h7
            exact absurd ⟨h0, by rw [H0.out]; omega⟩ hth
          · exact e
        obtain ⟨j, rfl⟩ : ∃ j, i = j + 1 := ⟨i - 1, by omega⟩
        obtain ⟨ad, rfl, hx0, hx1⟩ := at_T83 hC2 (j : Int) (by omega) (by omega)
        simp only [Int.toNat_natCast] at hx1
        generalize hf : (rd_T83 ps (j : Int)).f1 = f at hx1
        have HF := Lib.hid hf
        have HTH := Lib.hid hth
        have hz1 : (((j + 1 : Nat)) : Int) - 1 = (j : Int) := by omega
        clear hv hth hx0 hC2 hf
        go_wp2
        go_ret
        refine ⟨_, rfl, fun h => by omega, fun _ _ => ⟨j, ⟨by omega, by have := HL.out j (by omega); omega, fun x h5 h6 => ?_⟩, HF.out.symm⟩, HB2.out⟩
        have h7 := HG.out x (by omega) h6
        rcases Nat.lt_or_ge (j + 1) x with h8 | h8
        · have h9 := HI.out.lt h8 h6
          have h10 := HG.out (j + 1) (Nat.le_refl _) (by omega)
          omega
        · obtain rfl : x = j + 1 := by omega
          have : (rd_T83 ps ((j + 1 : Nat) : Int)).f0 ≠ r := fun h9 => HTH.out ⟨h6, h9⟩
          omega
theorem bit_eq (x q : Nat) (hx : x < 18446744073709551616) : (bits BinOp.and IntKind.u64 ((x : Int) / 2 ^ q) 1 == 1) = x.testBit q := by
  have e1 : ((x : Int) / 2 ^ q) = ((x / 2 ^ q : Nat) : Int) := by simp
  have hlt : x / 2 ^ q < 18446744073709551616 := Nat.lt_of_le_of_lt (Nat.div_le_self _ _) hx
  rw [e1, show (1 : Int) = ((1 : Nat) : Int) by rfl, bits_and_u64_nat _ _ hlt (by omega)]
  rw [Nat.testBit_eq_decide_div_mod_eq, Nat.and_one_is_mod, Bool.eq_iff_iff]
  simp
  omega
/-- Whether a class is one of a set's. -/
def inC (n : Int) (ms : List Int) (c s : Int) : Bool := decide (0 ≤ c) && decide (c < (ms.length : Int)) && decide (0 ≤ s) && decide (s < n) && (rd ms c).toNat.testBit s.toNat
set_option maxRecDepth 100000 in
set_option maxHeartbeats 4000000 in
theorem in_calls {W : World} {g : Nat} {n : Int} {ps : List Pc} {ms : List Int} (h : ClsAt W g n ps ms) (c s : Int) (hn : n ≤ 64) (hm : ∀ m ∈ ms, 0 ≤ m ∧ m < 18446744073709551616) (hl : ms.length < 1000000000) :
    Calls Try.prog 32 #[.pointer (some ⟨g, 0, none⟩), .int .i64 c, .int .i64 s] W fun e w' => e = .returned (.bool (inC n ms c s)) ∧ w' = W := by
  have hu := Try.underlying73
  have HL := Lib.hid (fun W' hW' => len_calls (W := W') (g := g) (n := n) (ps := ps) (ms := ms) hW')
  obtain ⟨A1, c1, A2, c2, k0, k1, k2, k3, k4, l1, l2⟩ := h.open_
  have HH := Lib.hid h
  unfold inC
  clear h k1 k3
  by_cases e1 : 0 ≤ c
  · by_cases e2 : c < (ms.length : Int)
    · by_cases e3 : 0 ≤ s
      · by_cases e4 : s < n
        · obtain ⟨ad, rfl, hx⟩ := Kd.at_int k4 c e1 e2
          have hmem := hm (rd ms c) (by
            have hlt : c.toNat < ms.length := by omega
            unfold rd
            simp [hlt])
          obtain ⟨x, hx0⟩ : ∃ x : Nat, rd ms c = (x : Int) := ⟨(rd ms c).toNat, by omega⟩
          rw [hx0] at hx hmem ⊢
          obtain ⟨q, rfl⟩ : ∃ q : Nat, s = (q : Int) := ⟨s.toNat, by omega⟩
          have hg1 : decide (0 ≤ c) = true := decide_eq_true e1
          have hg2 : decide (c < (ms.length : Int)) = true := decide_eq_true e2
          have hg3 : decide (0 ≤ (q : Int)) = true := decide_eq_true e3
          have hg4 : decide ((q : Int) < n) = true := decide_eq_true e4
          clear k4 hx0
          go_enter Try.func32, Try.ntmps32
          go_wp2_with fail
          refine (HL.out _ HH.out).mono ?_
          rintro e w1 ⟨rfl, rfl⟩
          go_wp2
          go_ret
          have hb := bit_eq x q (by omega)
          have hv : (decide (0 ≤ c) && decide (c < (ms.length : Int)) && decide (0 ≤ (q : Int)) && decide ((q : Int) < n) && ((x : Int)).toNat.testBit ((q : Int)).toNat) = (bits BinOp.and IntKind.u64 ((x : Int) / 2 ^ q) 1 == 1) := by
            rw [hb, hg1, hg2, hg3, hg4, Int.toNat_natCast, Int.toNat_natCast]; rfl
          rw [hv]
          exact ⟨rfl, rfl⟩
        · have hg1 : decide (0 ≤ c) = true := decide_eq_true e1
          have hg2 : decide (c < (ms.length : Int)) = true := decide_eq_true e2
          have hg3 : decide (0 ≤ s) = true := decide_eq_true e3
          have hg4 : decide (s < n) = false := decide_eq_false e4
          clear k4
          go_enter Try.func32, Try.ntmps32
          go_wp2_with fail
          refine (HL.out _ HH.out).mono ?_
          rintro e w1 ⟨rfl, rfl⟩
          go_wp2
          go_ret
          rw [show (decide (0 ≤ c) && decide (c < (ms.length : Int)) && decide (0 ≤ s) && decide (s < n) && (rd ms c).toNat.testBit s.toNat) = false by rw [hg4]; simp]
          exact ⟨rfl, rfl⟩
      · have hg1 : decide (0 ≤ c) = true := decide_eq_true e1
        have hg2 : decide (c < (ms.length : Int)) = true := decide_eq_true e2
        have hg3 : decide (0 ≤ s) = false := decide_eq_false e3
        clear k4
        go_enter Try.func32, Try.ntmps32
        go_wp2_with fail
        refine (HL.out _ HH.out).mono ?_
        rintro e w1 ⟨rfl, rfl⟩
        go_wp2
        go_ret
        rw [show (decide (0 ≤ c) && decide (c < (ms.length : Int)) && decide (0 ≤ s) && decide (s < n) && (rd ms c).toNat.testBit s.toNat) = false by rw [hg3]; simp]
        exact ⟨rfl, rfl⟩
    · have hg1 : decide (0 ≤ c) = true := decide_eq_true e1
      have hg2 : decide (c < (ms.length : Int)) = false := decide_eq_false e2
      clear k4
      go_enter Try.func32, Try.ntmps32
      go_wp2_with fail
      refine (HL.out _ HH.out).mono ?_
      rintro e w1 ⟨rfl, rfl⟩
      go_wp2
      go_ret
      rw [show (decide (0 ≤ c) && decide (c < (ms.length : Int)) && decide (0 ≤ s) && decide (s < n) && (rd ms c).toNat.testBit s.toNat) = false by rw [hg2]; simp]
      exact ⟨rfl, rfl⟩
  · have hg1 : decide (0 ≤ c) = false := decide_eq_false e1
    clear k4
    go_enter Try.func32, Try.ntmps32
    go_wp2
    go_ret
    exact ⟨rfl, rfl⟩
end Go.Proofs.Ytnfnnmmblommiaa.PA
namespace Go.Proofs.Ytnfnnmmblommiaa.PA
open Go.RowKit Go.Shelf Go.Proofs.YtnfnnmmblommiaaW.PrintWords Go.Proofs.YtnfnnmmblommiaaW.PrintLast Go.Proofs.YtnfnnmmblommiaaW.PrintMore
set_option linter.unusedVariables false
set_option linter.unusedSimpArgs false

theorem infoRg : (Try.prog.info? 41).map (fun i => (i.zero, i.size, i.bytes)) = some (some (.agg #[.int .i32 0, .int .i32 0]), 2, 8) := by kernel_rfl
/-- Where a piece ends. -/
def hiOf (ps : List Pc) (i : Nat) : Int := if i + 1 < ps.length then (rd_T83 ps ((i + 1 : Nat) : Int)).f0 - 1 else 1114111
/-- The pieces of a class among the first i. -/
def rawSet (ps : List Pc) (c : Int) : Nat → List Rg
  | 0 => []
  | i + 1 => if (rd_T83 ps (i : Int)).f1 = c then rawSet ps c i ++ [⟨(rd_T83 ps (i : Int)).f0, hiOf ps i⟩] else rawSet ps c i
theorem rawSet_length (ps : List Pc) (c : Int) : ∀ i, (rawSet ps c i).length ≤ i
  | 0 => Nat.le_refl _
  | i + 1 => by
    have := rawSet_length ps c i
    unfold rawSet
    split
    · simp; omega
    · omega
def setC (ps : List Pc) (c : Int) : List Rg := norm (rawSet ps c ps.length ++ [])
set_option maxRecDepth 100000 in
set_option maxHeartbeats 8000000 in
theorem set_calls {W : World} {g : Nat} {n : Int} {ps : List Pc} {ms : List Int} (h : ClsAt W g n ps ms) (c : Int) (hl : ps.length < 1000000000) (hb : ∀ p ∈ ps, 0 ≤ p.f0 ∧ p.f0 ≤ 1114111) :
    Calls Try.prog 31 #[.pointer (some ⟨g, 0, none⟩), .int .i64 c] W fun e w' => ∃ v, e = .returned v ∧ Kd.R k41 41 w' W.heap.size (fun _ => True) v (setC ps c) ∧ Below W.heap.size W w' := by
  have hu := Try.underlying73
  have hu2 := Try.underlying83
  have hu3 := Try.underlying41
  obtain ⟨A1, c1, A2, c2, k0, k1, k2, k3, k4, l1, l2⟩ := h.open_
  have HC := Lib.hid k3
  have HB := Lib.hid hb
  have HK1 := Lib.hid k1
  clear h k0 k2 k3 k4 hb
  go_enter Try.func31, Try.ntmps31
  go_wp2
  clear k1
  go_loopg [5, 14] ps.length (fun gk v5 vi wr => ∃ i : Nat, vi = .int .i64 i ∧ i ≤ ps.length ∧ ps.length - i ≤ gk ∧ Hid (Kd.R k41 41 wr W.heap.size (fun _ => True) v5 (rawSet ps c i)) ∧ Hid (Below W.heap.size W wr))
  case atStart => exact ⟨0, rfl, Nat.zero_le _, by omega, Lib.hid (Kd.R_nil _ _ _ _ _), Lib.hid (Below.refl _ _)⟩
  case round =>
    rename_i v5 vi
    obtain ⟨i, rfl, hi, hg, HO, HW⟩ := hrel
    by_cases hlt : i < ps.length
    · have hCr := Kd.C_below HC.out HW.out
      obtain ⟨ad, rfl, hx0, hx1⟩ := at_T83 hCr (i : Int) (by omega) (by omega)
      have HST : Hid (rawSet ps c (i + 1) = if (rd_T83 ps (i : Int)).f1 = c then rawSet ps c i ++ [⟨(rd_T83 ps (i : Int)).f0, hiOf ps i⟩] else rawSet ps c i) := Lib.hid rfl
      generalize rd_T83 ps (i : Int) = p at hx0 hx1 HST
      simp only [Int.toNat_natCast] at hx0 hx1
      have hrl := rawSet_length ps c i
      have hk1 := pw_cell_below HW.out HK1.out
      obtain ⟨w2, hw2⟩ : ∃ w2, wr.alloc (.cells #[.int .i32 p.f0, .int .i64 p.f1] 83) = w2 := ⟨_, rfl⟩
      have hb2 : Below wr.heap.size wr w2 := by rw [← hw2]; exact (Below.refl _ wr).alloc (Nat.le_refl _) _
      have ho2 : w2.heap[wr.heap.size]? = some (.cells #[.int .i32 p.f0, .int .i64 p.f1] 83) := by rw [← hw2]; exact heap_alloc_new wr _
      have h20 : w2.cell? ⟨wr.heap.size, 0, none⟩ = some (.int .i32 p.f0) := (blk_cell ho2 0).trans rfl
      have h21 : w2.cell? ⟨wr.heap.size, 1, none⟩ = some (.int .i64 p.f1) := (blk_cell ho2 1).trans rfl
      have hk2 := pw_cell_below hb2 hk1
      have HO2 := Lib.hid (Kd.R_below HO.out hb2)
      have HW2 := Lib.hid (HW.out.trans (hb2.mono HW.out.size))
      have hC2 := Kd.C_below hCr hb2
      generalize rawSet ps c i = raw at HO HO2 HST hrl
      obtain ⟨A5, c5, rfl⟩ := Kd.R_slice HO2.out
      clear ho2 hb2 hCr HO
      by_cases hn : i + 1 < ps.length
      · obtain ⟨ad', e', hy0, hy1⟩ := at_T83 hC2 ((i + 1 : Nat) : Int) (by omega) (by omega)
        cases e'
        have hbd := HB.out (rd_T83 ps ((i + 1 : Nat) : Int)) (by unfold rd_T83; simp [hn])
        have HHI : Hid (hiOf ps i = (rd_T83 ps ((i + 1 : Nat) : Int)).f0 - 1) := Lib.hid (by unfold hiOf; rw [if_pos hn])
        generalize rd_T83 ps ((i + 1 : Nat) : Int) = p2 at hy0 hbd HHI hy1
        simp only [Int.toNat_natCast] at hy0
        have HST2 := HST.out
        rw [HHI.out] at HST2
        have HS3 := Lib.hid HST2
        clear HST2 HST
        have hnz : (i : Int) + 1 < (ps.length : Int) := by omega
        clear hy1 hC2
        have bge := HW2.out.size
        by_cases hcls : p.f1 = c
        · have HSY : Hid (rawSet ps c (i + 1) = raw ++ [⟨p.f0, p2.f0 - 1⟩]) := Lib.hid (by rw [HS3.out, if_pos hcls])
          have hcb : (p.f1 == c) = true := by simp [hcls]
          clear hcls
          go_wp2_with (at_builtin; (refine Kd.R_append k41 (W := w2) W.heap.size rfl (.tmp 41) (.tmp 46) 26 41 (.agg #[.int .i32 0, .int .i32 0]) 8 rfl Try.underlying26 infoRg rfl (by decide) (by omega) (.slice A5 raw.length c5) raw ⟨p.f0, p2.f0 - 1⟩ [.int .i32 p.f0, .int .i32 (p2.f0 - 1)] (fun _ => True) (fun _ => False) rfl rfl ?aP (fun _ hk => hk.elim) (fun _ _ => trivial) HO2.out HW2.out bge ?aL ?_); (case aP => exact k41_mkM _ _ _ ⟨p.f0, p2.f0 - 1⟩); (case aL => omega); intro v1 w9 ho hbl hgr hat; obtain ⟨A7, c7, e7⟩ := Kd.R_slice ho; generalize (raw ++ [(⟨p.f0, p2.f0 - 1⟩ : Rg)]).length = n7 at e7; subst e7; have HO9 := Lib.hid ho; have HW9 := Lib.hid hbl; clear ho hbl hgr hat)
          go_roundg (ps.length - (i + 1))
          case measure => omega
          case rel => exact ⟨i + 1, by go_num, by omega, Nat.le_refl _, Lib.hid (by rw [HSY.out]; exact HO9.out), HW9⟩
        · have HSY : Hid (rawSet ps c (i + 1) = raw) := Lib.hid (by rw [HS3.out, if_neg hcls])
          have hcb : (p.f1 == c) = false := beq_eq_false_iff_ne.2 hcls
          clear hcls
          go_wp2
          go_roundg (ps.length - (i + 1))
          case measure => omega
          case rel => exact ⟨i + 1, by go_num, by omega, Nat.le_refl _, Lib.hid (by rw [HSY.out]; exact HO2.out), HW2⟩
      · have HHI : Hid (hiOf ps i = 1114111) := Lib.hid (by unfold hiOf; rw [if_neg hn])
        have HST2 := HST.out
        rw [HHI.out] at HST2
        have hnz : ¬ (i : Int) + 1 < (ps.length : Int) := by omega
        have HS3 := Lib.hid HST2
        clear HST2 HST hC2
        have bge := HW2.out.size
        by_cases hcls : p.f1 = c
        · have HSY : Hid (rawSet ps c (i + 1) = raw ++ [⟨p.f0, 1114111⟩]) := Lib.hid (by rw [HS3.out, if_pos hcls])
          have hcb : (p.f1 == c) = true := by simp [hcls]
          clear hcls
          go_wp2_with (at_builtin; (refine Kd.R_append k41 (W := w2) W.heap.size rfl (.tmp 41) (.tmp 46) 26 41 (.agg #[.int .i32 0, .int .i32 0]) 8 rfl Try.underlying26 infoRg rfl (by decide) (by omega) (.slice A5 raw.length c5) raw ⟨p.f0, 1114111⟩ [.int .i32 p.f0, .int .i32 (1114111)] (fun _ => True) (fun _ => False) rfl rfl ?aP (fun _ hk => hk.elim) (fun _ _ => trivial) HO2.out HW2.out bge ?aL ?_); (case aP => exact k41_mkM _ _ _ ⟨p.f0, 1114111⟩); (case aL => omega); intro v1 w9 ho hbl hgr hat; obtain ⟨A7, c7, e7⟩ := Kd.R_slice ho; generalize (raw ++ [(⟨p.f0, 1114111⟩ : Rg)]).length = n7 at e7; subst e7; have HO9 := Lib.hid ho; have HW9 := Lib.hid hbl; clear ho hbl hgr hat)
          go_roundg (ps.length - (i + 1))
          case measure => omega
          case rel => exact ⟨i + 1, by go_num, by omega, Nat.le_refl _, Lib.hid (by rw [HSY.out]; exact HO9.out), HW9⟩
        · have HSY : Hid (rawSet ps c (i + 1) = raw) := Lib.hid (by rw [HS3.out, if_neg hcls])
          have hcb : (p.f1 == c) = false := beq_eq_false_iff_ne.2 hcls
          clear hcls
          go_wp2
          go_roundg (ps.length - (i + 1))
          case measure => omega
          case rel => exact ⟨i + 1, by go_num, by omega, Nat.le_refl _, Lib.hid (by rw [HSY.out]; exact HO2.out), HW2⟩
    · obtain rfl : i = ps.length := by omega
      have hrl := rawSet_length ps c ps.length
      obtain ⟨A5, c5, rfl, l5, r5⟩ := Kd.R_reads HO.out
      have HU := Lib.hid (uniset_Union.calls A5 c5 (rawSet ps c ps.length) none 0 [] (setC ps c) wr r5 l5 (Kd.R_reads' (Kd.R_nil k41 41 wr 0 (fun _ => True))).2.2 (Nat.le_refl _) (by unfold uniset_Union.f setC; rw [if_pos (by simp; omega)]))
      clear r5 l5
      go_wp2_with fail
      refine HU.out.mono ?_
      rintro e w2 ⟨v, rfl, hR, hb2⟩
      have H2 := Lib.hid (And.intro (Kd.R_lower hR HW.out.size) (HW.out.trans (hb2.mono HW.out.size)))
      clear hR hb2 HU
      go_wp2
      go_ret
      exact ⟨v, rfl, H2.out⟩
end Go.Proofs.Ytnfnnmmblommiaa.PA
