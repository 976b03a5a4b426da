/- ClassesUnite: the walk by hand. -/
import Derived.Test.YtnfnnmmblommiaaCSets
import Derived.Test.YtnfnnmmblommiaaOpen
import Derived.Test.YtnfnnmmblommiaaPAx7
namespace Go.Proofs.Ytnfnnmmblommiaa.PA
open Go.RowKit Go.Shelf Go.Proofs.YtnfnnmmblommiaaW.PrintWords Go.Proofs.YtnfnnmmblommiaaW.PrintLast Go.Proofs.YtnfnnmmblommiaaW.PrintMore
set_option linter.unusedVariables false
set_option linter.unusedSimpArgs false

/-- The classes of a set among the first i, together. -/
def uniU (ps : List Pc) (ms : List Int) (n : Int) (k : Int) : Nat → List Rg
  | 0 => []
  | i + 1 => if inC n ms (i : Int) k then norm (uniU ps ms n k i ++ setC ps (i : Int)) else uniU ps ms n k i
theorem uniU_in {ps : List Pc} {ms : List Int} {n : Int} {k : Int} {i : Nat} (h : inC n ms (i : Int) k = true) : uniU ps ms n k (i + 1) = norm (uniU ps ms n k i ++ setC ps (i : Int)) := by
  have h2 : uniU ps ms n k (i + 1) = if inC n ms (i : Int) k then norm (uniU ps ms n k i ++ setC ps (i : Int)) else uniU ps ms n k i := rfl
  rw [h2, if_pos h]
theorem uniU_out {ps : List Pc} {ms : List Int} {n : Int} {k : Int} {i : Nat} (h : ¬ inC n ms (i : Int) k = true) : uniU ps ms n k (i + 1) = uniU ps ms n k i := by
  have h2 : uniU ps ms n k (i + 1) = if inC n ms (i : Int) k then norm (uniU ps ms n k i ++ setC ps (i : Int)) else uniU ps ms n k i := rfl
  rw [h2, if_neg h]
theorem uniU_isC (ps : List Pc) (ms : List Int) (n k : Int) : ∀ i, IsC (uniU ps ms n k i)
  | 0 => trivial
  | i + 1 => by
    unfold uniU
    split
    · exact norm_isC _
    · exact uniU_isC ps ms n k i
theorem uniU_has {S : List (List Rg)} {ps : List Pc} {ms : List Int} (F : Facts S ps ms) (n : Int) {k : Nat} (hk : k < S.length) (hn : n = S.length) (r : Int) : ∀ i, i ≤ ms.length → (hasL (uniU ps ms n (k : Int) i) r = true ↔ 0 ≤ r ∧ r ≤ 1114111 ∧ idxL ms (maskI S r) < i ∧ hasAt S k r = true)
  | 0, _ => by simp [uniU, hasL_nil]
  | i + 1, h => by
    have ih := uniU_has F n hk hn r i (by omega)
    have hin : inC n ms (i : Int) (k : Int) = (rd ms (i : Int)).toNat.testBit k := by
      unfold inC
      rw [decide_eq_true (show (0 : Int) ≤ (i : Int) by omega), decide_eq_true (show (i : Int) < (ms.length : Int) by omega), decide_eq_true (show (0 : Int) ≤ (k : Int) by omega), decide_eq_true (show (k : Int) < n by omega)]
      simp
    have hm : ∀ r, 0 ≤ r → r ≤ 1114111 → idxL ms (maskI S r) = i → inC n ms (i : Int) (k : Int) = hasAt S k r := fun r h0 h1 he => by
      have hmem : maskI S r ∈ ms := (F.mem _).2 ⟨r, h0, h1, rfl⟩
      have hg := idxL_get (idxL_lt.2 hmem)
      have hrd : rd ms (i : Int) = maskI S r := by
        unfold rd
        have hlt : i < ms.length := by omega
        simp only [Int.toNat_natCast]
        rw [List.getD_eq_getElem?_getD, List.getElem?_eq_getElem hlt]
        simp only [Option.getD_some]
        rw [← hg]; congr 1; exact he.symm
      rw [hin, hrd, mask_bit hk]
    unfold uniU
    by_cases hc : inC n ms (i : Int) (k : Int) = true
    · rw [if_pos hc, norm_has, hasL_append, Bool.or_eq_true, ih, set_has F]
      constructor
      · rintro (⟨h1, h2, h3, h4⟩ | ⟨h1, h2, h3⟩)
        · exact ⟨h1, h2, by omega, h4⟩
        · exact ⟨h1, h2, by omega, by rw [← hm r h1 h2 h3]; exact hc⟩
      · rintro ⟨h1, h2, h3, h4⟩
        rcases Nat.lt_or_ge (idxL ms (maskI S r)) i with h5 | h5
        · exact .inl ⟨h1, h2, h5, h4⟩
        · exact .inr ⟨h1, h2, by omega⟩
    · rw [if_neg hc, ih]
      constructor
      · rintro ⟨h1, h2, h3, h4⟩; exact ⟨h1, h2, by omega, h4⟩
      · rintro ⟨h1, h2, h3, h4⟩
        refine ⟨h1, h2, ?_, h4⟩
        rcases Nat.lt_or_ge (idxL ms (maskI S r)) i with h5 | h5
        · exact h5
        · exact absurd ((hm r h1 h2 (by omega)).trans h4) hc
theorem unite_same {S : List (List Rg)} {ps : List Pc} {ms : List Int} (F : Facts S ps ms) (n : Int) {k : Nat} (hk : k < S.length) (hn : n = S.length) : norm (uniU ps ms n (k : Int) ms.length) = norm (norm (rd_L2 S (k : Int) ++ [])) := by
  refine norm_eq fun r => ?_
  rw [norm_nil, Bool.eq_iff_iff, uniU_has F n hk hn r _ (Nat.le_refl _)]
  constructor
  · rintro ⟨_, _, _, h⟩; exact h
  · intro h
    obtain ⟨h0, h1⟩ := hasL_range h
    exact ⟨h0, h1, idxL_lt.2 ((F.mem _).2 ⟨r, h0, h1, rfl⟩), h⟩
set_option maxRecDepth 100000 in
set_option maxHeartbeats 16000000 in
theorem unite_some (ad : Addr) (c : Nat) (sets : List (List Rg)) (a1 : Int) (w : World) (hr : Kd.C (Kd.slice 41 k41) w (some ad) sets.length sets) (hp : 0 < sets.length) (hc : sets.length ≤ c) (w1 : (Lit.int .u8 a1).wf = true) :
    Calls Try.prog 8 #[.slice (some ad) sets.length c, .int .u8 a1] w fun e w' => e = .returned (.bool true) ∧ Below w.heap.size w w' := by
  have hmx : sets.length ≤ 9223372036854775807 := hr.2.1
  have hb0 : 0 ≤ a1 ∧ a1 ≤ 255 := by
    have h := w1
    simp [Lit.wf, IntKind.min, IntKind.max, IntKind.signed, IntKind.bits] at h
    omega
  have HK := Lib.hid (known_calls w)
  have HC := Lib.hid hr
  clear w1 hr
  go_enter Try.func8, Try.ntmps8
  go_wp2_with fail
  refine HK.out.mono ?_
  rintro e w1 ⟨rfl, hb1⟩
  have HB1 := Lib.hid hb1
  have HC1 := Lib.hid (Kd.C_below HC.out hb1)
  have HFE := Lib.hid (few_calls (some ad) c sets w1 HC1.out hc hmx)
  clear hb1 HK
  by_cases hf : fewB sets = true
  · rw [hf] at HFE
    obtain ⟨hs20, hs70⟩ := fewB_true hf
    have HS20 := Lib.hid hs20
    clear hf hs20
    go_wp2_with fail
    refine HFE.out.mono ?_
    rintro e w2 ⟨rfl, hd2⟩
    have HB2 := Lib.hid (HB1.out.trans (hd2.below.mono HB1.out.size))
    clear hd2 HFE HB1 HC1
    by_cases h15 : sets.length ≤ 15
    · have hd15 : decide (((sets.length : Nat) : Int) > 15) = false := decide_eq_false (by omega)
      have hd0 : (((sets.length : Nat) : Int) == 0) = false := beq_eq_false_iff_ne.2 (by omega)
      have hss : ss sets = sets := List.take_of_length_le (by omega)
      have HCUT := Lib.hid (cut_calls w2 (some ad) c sets (by omega) hc (fun l hl => by have := HS20.out l hl; omega) (Kd.C_below HC.out HB2.out))
      rw [hss] at HCUT
      have hd2 : (decide (15 < (sets.length : Int)) || ((sets.length : Int) == 0)) = false := by rw [decide_eq_false (by omega), hd0]; rfl
      clear hss hd15 hd0
      go_wp2_with fail
      clear hd2
      refine HCUT.out.mono ?_
      rintro e w5 ⟨g, los, rfl, hlos, hAt, hb5, _⟩
      have hF := cut_facts hlos (by omega)
      have hll := los_len hlos
      have hpl : (cutOf sets los).1.length < 1000000000 := by have := (cutOf_length sets los).1; omega
      have hml : (cutOf sets los).2.length < 1000000000 := by have := (cutOf_length sets los).2; omega
      generalize cutOf sets los = st at hAt hF hpl hml
      obtain ⟨ps, ms⟩ := st
      dsimp only at hAt hF hpl hml
      have HF := Lib.hid hF.1
      have HAT := Lib.hid hAt
      have HB5 := Lib.hid (HB2.out.trans (hb5.mono HB2.out.size))
      obtain ⟨k, hk⟩ : ∃ k : Nat, (k : Int) = a1 % (sets.length : Int) := ⟨(a1 % (sets.length : Int)).toNat, by have := Int.emod_nonneg a1 (show (sets.length : Int) ≠ 0 by omega); omega⟩
      have hkl : k < sets.length := by have := Int.emod_lt_of_pos a1 (show (0 : Int) < sets.length by omega); omega
      have hmod : a1 % (sets.length : Int) = (k : Int) := hk.symm
      have hne0 : ¬ ((sets.length : Int) = 0) := by omega
      clear hlos hAt hb5 hF HCUT HB2 hk h15 hll
      go_wp2
      rw [hmod]
      clear hmod hne0
      go_loopg [7, 8] ms.length (fun gk v7 vi wr => ∃ i : Nat, vi = .int .i64 i ∧ i ≤ ms.length ∧ ms.length - i ≤ gk ∧ Hid (ClsAt wr g (sets.length : Int) ps ms) ∧ Hid (Kd.R k41 41 wr w.heap.size (fun _ => True) v7 (uniU ps ms (sets.length : Int) (k : Int) i)) ∧ Hid (Below w.heap.size w wr))
      case atStart => exact ⟨0, rfl, Nat.zero_le _, by omega, HAT, Lib.hid (Kd.R_nil _ _ _ _ _), HB5⟩
      case round =>
        clear HAT HB5
        obtain ⟨i, rfl, hi, hg, HAT, HN, HB⟩ := hrel
        have L1 := Lib.hid (len_calls HAT.out)
        by_cases hlt : i < ms.length
        · have I1 := Lib.hid (in_calls HAT.out (i : Int) (k : Int) (by omega) HF.out.u64 hml)
          have S1 := Lib.hid (set_calls HAT.out (i : Int) hpl HF.out.bound)
          go_wp2_with fail
          refine L1.out.mono ?_
          rintro e w6 ⟨rfl, rfl⟩
          clear L1
          by_cases hin : inC (sets.length : Int) ms (i : Int) (k : Int) = true
          · have hU : uniU ps ms (sets.length : Int) (k : Int) (i + 1) = norm (uniU ps ms (sets.length : Int) (k : Int) i ++ setC ps (i : Int)) := uniU_in hin
            have HU := Lib.hid hU
            have l1 := isC_length (uniU_isC ps ms (sets.length : Int) (k : Int) i)
            have l2 := isC_length (setC_isC ps (i : Int))
            generalize uniU ps ms (sets.length : Int) (k : Int) i = U at HN HU l1
            generalize setC ps (i : Int) = X at S1 HU l2
            rw [hin] at I1
            clear hU
            go_wp2_with fail
            refine I1.out.mono ?_
            rintro e w7 ⟨rfl, rfl⟩
            clear I1 hin
            go_wp2_with fail
            refine S1.out.mono ?_
            rintro e w8 ⟨vx, rfl, hRx, hb8⟩
            obtain ⟨Ax, cx, rfl, hlx, hCx⟩ := Kd.R_reads hRx
            obtain ⟨Au, cu, rfl, hlu, hCu⟩ := Kd.R_reads (Kd.R_below HN.out hb8)
            have HUN := Lib.hid (uniset_Union.calls Au cu U Ax cx X (norm (U ++ X)) w8 hCu hlu hCx hlx (by unfold uniset_Union.f; rw [if_pos (by omega)]))
            have HA8 := Lib.hid (HAT.out.later hb8)
            have HB8 := Lib.hid (HB.out.trans (hb8.mono HB.out.size))
            clear hRx hCx hCu hb8 HAT HB HN S1
            go_wp2_with fail
            refine HUN.out.mono ?_
            rintro e w9 ⟨vu, rfl, hRu, hb9⟩
            have HN9 := Lib.hid (Kd.R_lower hRu HB8.out.size)
            have HA9 := Lib.hid (HA8.out.later hb9)
            have HB9 := Lib.hid (HB8.out.trans (hb9.mono HB8.out.size))
            obtain ⟨A9, c9, rfl⟩ := Kd.R_slice hRu
            clear hRu hb9 HA8 HB8 HUN
            go_wp2
            go_roundg (ms.length - (i + 1))
            case measure => omega
            case rel => exact ⟨i + 1, by go_num, by omega, Nat.le_refl _, HA9, Lib.hid (by rw [HU.out]; exact HN9.out), HB9⟩
          · have hin' : inC (sets.length : Int) ms (i : Int) (k : Int) = false := by simpa using hin
            have hU : uniU ps ms (sets.length : Int) (k : Int) (i + 1) = uniU ps ms (sets.length : Int) (k : Int) i := uniU_out hin
            rw [← hU] at HN
            rw [hin'] at I1
            clear hU hin hin' S1
            go_wp2_with fail
            refine I1.out.mono ?_
            rintro e w7 ⟨rfl, rfl⟩
            clear I1
            go_wp2
            go_roundg (ms.length - (i + 1))
            case measure => omega
            case rel => exact ⟨i + 1, by go_num, by omega, Nat.le_refl _, HAT, HN, HB⟩
        · obtain rfl : i = ms.length := by omega
          go_wp2_with fail
          refine L1.out.mono ?_
          rintro e w6 ⟨rfl, rfl⟩
          obtain ⟨ad', A0, c0, e0, hx, hlc, hC⟩ := at_L2 (Kd.C_below HC.out HB.out) (k : Int) (Int.natCast_nonneg k) (Int.ofNat_lt.2 hkl)
          obtain rfl := Option.some.inj e0
          clear e0
          have hX20 := HS20.out _ (show rd_L2 sets (k : Int) ∈ sets by unfold rd_L2; simp [hkl])
          have hEq := unite_same HF.out (sets.length : Int) hkl rfl
          have l1 := isC_length (uniU_isC ps ms (sets.length : Int) (k : Int) ms.length)
          generalize uniU ps ms (sets.length : Int) (k : Int) ms.length = U at HN hEq l1
          generalize rd_L2 sets (k : Int) = X at hx hlc hC hX20 hEq
          have hsm := Same_ev U (norm (X ++ [])) (by omega) (by have := norm_length (X ++ []); rw [List.length_append, List.length_nil] at this; omega)
          rw [decide_eq_true hEq] at hsm
          obtain ⟨m, hsm⟩ := hsm.get
          have HSM := Lib.hid hsm
          have HUN := Lib.hid (uniset_Union.calls A0 c0 X none 0 [] (norm (X ++ [])) w6 hC hlc (Kd.C_nil k41 w6) (Nat.le_refl _) (by unfold uniset_Union.f; rw [if_pos (by simp; omega)]))
          generalize norm (X ++ []) = Y at HUN HSM
          obtain ⟨Au0, cu0, rfl⟩ := Kd.R_slice HN.out
          simp only [Int.toNat_natCast] at hx
          clear hC hEq hsm hX20 HC HS20
          go_wp2_with fail
          refine HUN.out.mono ?_
          rintro e w8 ⟨vx, rfl, hRx, hb8⟩
          obtain ⟨Ax, cx, rfl, hlx, hCx⟩ := Kd.R_reads hRx
          obtain ⟨Au, cu, eu, hlu, hCu⟩ := Kd.R_reads (Kd.R_below HN.out hb8)
          obtain ⟨rfl, rfl⟩ : Au0 = Au ∧ cu0 = cu := by cases eu; exact ⟨rfl, rfl⟩
          have HSA := Lib.hid (uniset_Same.calls m Au0 cu0 U Ax cx Y true w8 hCu hlu hCx hlx HSM.out)
          have HB8 := Lib.hid (HB.out.trans (hb8.mono HB.out.size))
          clear hRx hCx hCu hb8 HUN HSM eu
          go_wp2_with fail
          refine HSA.out.mono ?_
          rintro e w9 ⟨rfl, hb9⟩
          go_wp2
          go_ret
          exact ⟨rfl, HB8.out.trans (hb9.mono HB8.out.size)⟩
    · have hd15 : decide (((sets.length : Nat) : Int) > 15) = true := decide_eq_true (by omega)
      go_wp2
      go_ret
      exact ⟨rfl, HB2.out⟩
  · have hf' : fewB sets = false := by simpa using hf
    rw [hf'] at HFE
    clear hf hf'
    go_wp2_with fail
    refine HFE.out.mono ?_
    rintro e w2 ⟨rfl, hd2⟩
    have HB2 := Lib.hid (HB1.out.trans (hd2.below.mono HB1.out.size))
    clear hd2 HFE HB1 HC1
    go_wp2
    go_ret
    exact ⟨rfl, HB2.out⟩
set_option maxRecDepth 100000 in
set_option maxHeartbeats 16000000 in
theorem unite_law (A : Option Addr) (c : Nat) (sets : List (List Rg)) (a1 : Int) (w : World) (hr : Kd.C (Kd.slice 41 k41) w A sets.length sets) (hc : sets.length ≤ c) (hw0 : ∀ l ∈ sets, ∀ x ∈ l, wfRg x) (w1 : (Lit.int .u8 a1).wf = true) :
    Calls Try.prog 8 #[.slice A sets.length c, .int .u8 a1] w fun e w' => e = .returned (.bool true) ∧ Below w.heap.size w w' := by
  have hmx : sets.length ≤ 9223372036854775807 := hr.2.1
  rcases Nat.eq_zero_or_pos sets.length with h0 | hp
  · obtain rfl := List.eq_nil_of_length_eq_zero h0
    have HFE := Lib.hid (fun w1 (h : Below w.heap.size w w1) => few_calls A c [] w1 (Kd.C_below hr h) hc hmx)
    have HK := Lib.hid (known_calls w)
    clear w1 hr hw0 h0
    go_enter Try.func8, Try.ntmps8
    go_wp2_with fail
    refine HK.out.mono ?_
    rintro e w1 ⟨rfl, hb1⟩
    have HB1 := Lib.hid hb1
    have HF2 := Lib.hid (HFE.out w1 hb1)
    rw [show fewB [] = true from rfl] at HF2
    clear hb1 HK HFE
    go_wp2_with fail
    refine HF2.out.mono ?_
    rintro e w2 ⟨rfl, hd2⟩
    have HB2 := Lib.hid (HB1.out.trans (hd2.below.mono HB1.out.size))
    clear hd2 HF2 HB1
    go_wp2
    go_ret
    exact ⟨rfl, HB2.out⟩
  · obtain ⟨ad, rfl, _⟩ := hr.2.2 hp
    exact unite_some ad c sets a1 w hr hp hc w1
end Go.Proofs.Ytnfnnmmblommiaa.PA
