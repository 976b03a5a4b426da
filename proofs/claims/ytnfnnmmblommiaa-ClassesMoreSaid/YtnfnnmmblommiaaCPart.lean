/- ClassesPart: the walk by hand. -/
import Derived.Test.YtnfnnmmblommiaaCSets
import Derived.Test.YtnfnnmmblommiaaOpen
import Derived.Deep.RegionHeld3
import Derived.BigQuiet
import Derived.Test.YtnfnnmmblommiaaPAx5
import Derived.Test.YtnfnnmmblommiaaPAx7
namespace Go.Proofs.Ytnfnnmmblommiaa.PA
open Go.RowKit Go.Shelf Go.Proofs.YtnfnnmmblommiaaW.PrintWords Go.Proofs.YtnfnnmmblommiaaW.PrintLast Go.Proofs.YtnfnnmmblommiaaW.PrintMore
set_option linter.unusedVariables false
set_option linter.unusedSimpArgs false

theorem below_dr {a b : World} (h : Below a.heap.size a b) : Below a.heap.size a b.drew := ⟨h.os, h.tape, h.output, h.size, h.block⟩
theorem nodup_inj {l : List Int} (h : l.Nodup) {i j : Nat} (hi : i < l.length) (hj : j < l.length) (e : l[i] = l[j]) : i = j := by
  rcases Nat.lt_trichotomy i j with h1 | h1 | h1
  · exact absurd e (List.pairwise_iff_getElem.1 h i j hi hj h1)
  · exact h1
  · exact absurd e.symm (List.pairwise_iff_getElem.1 h j i hj hi h1)
theorem idx_at {S : List (List Rg)} {ps : List Pc} {ms : List Int} (F : Facts S ps ms) {i : Nat} (hi : i < ms.length) {r : Int} (h0 : 0 ≤ r) (h1 : r ≤ 1114111) : idxL ms (maskI S r) = i ↔ maskI S r = ms[i] := by
  have hm : maskI S r ∈ ms := (F.mem _).2 ⟨r, h0, h1, rfl⟩
  have h3 := idxL_get (idxL_lt.2 hm)
  constructor
  · intro h; subst h; exact h3.symm
  · intro h; exact nodup_inj F.nodup (idxL_lt.2 hm) hi (h3.trans h)
theorem idx_inj {S : List (List Rg)} {ps : List Pc} {ms : List Int} (F : Facts S ps ms) {r s : Int} (hr : 0 ≤ r ∧ r ≤ 1114111) (hs : 0 ≤ s ∧ s ≤ 1114111) : clsOf S ms r = clsOf S ms s ↔ maskI S r = maskI S s := by
  unfold clsOf
  rw [if_neg (by omega), if_neg (by omega)]
  constructor
  · intro h
    have h1 := idxL_get (idxL_lt.2 ((F.mem _).2 ⟨r, hr.1, hr.2, rfl⟩))
    have h2 := idxL_get (idxL_lt.2 ((F.mem _).2 ⟨s, hs.1, hs.2, rfl⟩))
    have h4 : idxL ms (maskI S r) = idxL ms (maskI S s) := by omega
    rw [← h1, ← h2]; congr 1
  · intro h; rw [h]
theorem norm_none {l : List Rg} (h : norm l = []) (r : Int) : hasL l r = false := by rw [← norm_has, h]; rfl
theorem norm_some {l : List Rg} {x : Rg} {xs : List Rg} (h : norm l = x :: xs) : 0 ≤ x.f0 ∧ x.f0 ≤ 1114111 ∧ hasL l x.f0 = true ∧ ∀ r, hasL l r = true → x.f0 ≤ r := by
  have hc := norm_isC l
  rw [h] at hc
  obtain ⟨a1, a2, a3, a4⟩ := id hc
  have e : ∀ r, hasL l r = hasL (x :: xs) r := fun r => by rw [← h, norm_has]
  refine ⟨by omega, by omega, ?_, fun r hr => ?_⟩
  · rw [e]; exact has_head (by omega) hc _ (Int.le_refl _) a2
  · rw [e] at hr
    rcases (has_head_iff (by omega) hc r).1 hr with hr | hr
    · omega
    · have := IsF.above (by omega) a4 r hr; omega
theorem least_at {S : List (List Rg)} {ps : List Pc} {ms : List Int} (F : Facts S ps ms) {i : Nat} (hi : i < ms.length) : ∃ l, leastS (setC ps (i : Int)) = (l, true) ∧ 0 ≤ l ∧ l ≤ 1114111 ∧ maskI S l = ms[i] ∧ ∀ r, 0 ≤ r → r ≤ 1114111 → maskI S r = ms[i] → l ≤ r := by
  obtain ⟨r, h0, h1, he⟩ := (F.mem _).1 (List.getElem_mem hi)
  cases hn : norm (setC ps (i : Int)) with
  | nil =>
    have h2 := norm_none hn r
    have h3 := (set_has F i r).2 ⟨h0, h1, (idx_at F hi h0 h1).2 he.symm⟩
    rw [h2] at h3; cases h3
  | cons x xs =>
    obtain ⟨g0, g1, g2, g3⟩ := norm_some hn
    refine ⟨x.f0, by unfold leastS; rw [hn], g0, g1, (idx_at F hi g0 g1).1 ((set_has F i _).1 g2).2.2, fun r h0 h1 he => g3 r ((set_has F i r).2 ⟨h0, h1, (idx_at F hi h0 h1).2 he⟩)⟩
/-- The least of the class before. -/
def lastC (ps : List Pc) : Nat → Int
  | 0 => -1
  | i + 1 => (leastS (setC ps (i : Int))).1
theorem part_least {S : List (List Rg)} {ps : List Pc} {ms : List Int} (F : Facts S ps ms) {i : Nat} (hi : i < ms.length) : ∃ l, leastS (setC ps (i : Int)) = (l, true) ∧ lastC ps (i + 1) = l ∧ lastC ps i < l ∧ 0 ≤ l ∧ l ≤ 1114111 ∧ -1 ≤ lastC ps i := by
  obtain ⟨l, h1, h2, h3, h4, h5⟩ := least_at F hi
  refine ⟨l, h1, by show (leastS (setC ps (i : Int))).1 = l; rw [h1], ?_, h2, h3, ?_⟩
  · cases i with
    | zero => show (-1 : Int) < l; omega
    | succ i =>
      obtain ⟨l', g1, g2, g3, g4, g5⟩ := least_at F (show i < ms.length by omega)
      show (leastS (setC ps (i : Int))).1 < l
      rw [g1]
      obtain ⟨a, a0, a1, a2, a3⟩ := F.first i (i + 1) (by omega) hi
      have h6 := g5 a a0 a1 a2
      rcases Int.lt_or_le a l with h7 | h7
      · omega
      · exact absurd h4 (a3 l h2 h7)
  · cases i with
    | zero => exact Int.le_refl _
    | succ i =>
      obtain ⟨l', g1, g2, g3, g4, g5⟩ := least_at F (show i < ms.length by omega)
      show -1 ≤ (leastS (setC ps (i : Int))).1
      rw [g1]; show -1 ≤ l'; omega
/-- The first classes together. -/
def allU (ps : List Pc) : Nat → List Rg
  | 0 => []
  | i + 1 => norm (allU ps i ++ setC ps (i : Int))
theorem allU_succ (ps : List Pc) (i : Nat) : allU ps (i + 1) = norm (allU ps i ++ setC ps (i : Int)) := rfl
theorem allU_zero (ps : List Pc) : countS (allU ps 0) = 0 := by
  show countS [] = 0
  unfold countS
  rw [show hasL [] = fun _ => false from rfl, cntN_none]; rfl
theorem lastC_zero (ps : List Pc) : lastC ps 0 = -1 := rfl
theorem allU_isC (ps : List Pc) : ∀ i, IsC (allU ps i)
  | 0 => trivial
  | i + 1 => norm_isC _
theorem allU_has {S : List (List Rg)} {ps : List Pc} {ms : List Int} (F : Facts S ps ms) (r : Int) : ∀ i, (hasL (allU ps i) r = true ↔ 0 ≤ r ∧ r ≤ 1114111 ∧ idxL ms (maskI S r) < i)
  | 0 => by simp [allU, hasL_nil]
  | i + 1 => by
    rw [allU_succ, norm_has, hasL_append, Bool.or_eq_true, allU_has F r i, set_has F]
    omega
theorem allU_count {S : List (List Rg)} {ps : List Pc} {ms : List Int} (F : Facts S ps ms) (i : Nat) : countS (allU ps (i + 1)) = countS (allU ps i) + countS (setC ps (i : Int)) := by
  have c := cntN_or 1114112 (hasL (allU ps i)) (hasL (setC ps (i : Int)))
  rw [cntN_congr (p := fun r => hasL (allU ps i) r || hasL (setC ps (i : Int)) r) (q := hasL (allU ps (i + 1))) (fun r => by rw [allU_succ, norm_has, hasL_append]), cntN_congr (p := fun r => hasL (allU ps i) r && hasL (setC ps (i : Int)) r) (q := fun _ => false) (fun r => by
    rw [← Bool.not_eq_true, Bool.and_eq_true, allU_has F, set_has F]; omega), cntN_none] at c
  unfold countS
  omega
theorem allU_full {S : List (List Rg)} {ps : List Pc} {ms : List Int} (F : Facts S ps ms) : countS (allU ps ms.length) = 1114112 := by
  unfold countS
  rw [cntN_congr (q := fun r => decide (0 ≤ r ∧ r ≤ 1114111)) (fun r => by
    rw [Bool.eq_iff_iff, allU_has F, decide_eq_true_eq]
    constructor
    · rintro ⟨h1, h2, _⟩; exact ⟨h1, h2⟩
    · rintro ⟨h1, h2⟩; exact ⟨h1, h2, idxL_lt.2 ((F.mem _).2 ⟨r, h1, h2, rfl⟩)⟩)]
  rw [cntN_int 1114112 0 1114111 (by omega) (by omega) (by omega)]
  rfl
/-- Do the first sets have both or none? -/
def sameB (S : List (List Rg)) (r s : Int) : Nat → Bool
  | 0 => true
  | i + 1 => sameB S r s i && (hasAt S i r == hasAt S i s)
theorem sameB_succ (S : List (List Rg)) (r s : Int) (i : Nat) : sameB S r s (i + 1) = (sameB S r s i && (hasAt S i r == hasAt S i s)) := rfl
theorem sameB_iff (S : List (List Rg)) (r s : Int) : ∀ i, (sameB S r s i = true ↔ ∀ j, j < i → hasAt S j r = hasAt S j s)
  | 0 => by simp [sameB]
  | i + 1 => by
    rw [sameB_succ, Bool.and_eq_true, sameB_iff S r s i, beq_iff_eq]
    constructor
    · rintro ⟨h1, h2⟩ j hj
      rcases Nat.lt_or_ge j i with h | h
      · exact h1 j h
      · obtain rfl : j = i := by omega
        exact h2
    · intro h; exact ⟨fun j hj => h j (by omega), h i (by omega)⟩
theorem part_fin {S : List (List Rg)} {ps : List Pc} {ms : List Int} (F : Facts S ps ms) {r s : Int} (hr : 0 ≤ r ∧ r ≤ 1114111) (hs : 0 ≤ s ∧ s ≤ 1114111) : ((clsOf S ms r == clsOf S ms s) == sameB S r s S.length) = true := by
  rw [beq_iff_eq, Bool.eq_iff_iff, beq_iff_eq, idx_inj F hr hs, sameB_iff, mask_eq]
theorem is_set (ps : List Pc) (c : Int) : Evt (fun k => uniset_Is.f k (setC ps c)) true := by
  have := Is_ev (setC ps c) (by have := isC_length (setC_isC ps c); omega)
  rwa [IsC.isG (setC_isC ps c)] at this
set_option maxRecDepth 100000 in
set_option maxHeartbeats 16000000 in
theorem part_law (A : Option Addr) (c : Nat) (sets : List (List Rg)) (r s : Int) (w : World) (hr : Kd.C (Kd.slice 41 k41) w A sets.length sets) (hc : sets.length ≤ c) (hw0 : ∀ l ∈ sets, ∀ x ∈ l, wfRg x) (w1 : (Lit.int .i32 r).wf = true) (w2 : (Lit.int .i32 s).wf = true) :
    Calls Try.prog 10 #[.slice A sets.length c, .int .i32 r, .int .i32 s] w fun e w' => e = .returned (.bool true) ∧ Below w.heap.size w w' := by
  have hmx : sets.length ≤ 9223372036854775807 := hr.2.1
  have hbr : -2147483648 ≤ r ∧ r ≤ 2147483647 := by
    have h := w1
    simp [Lit.wf, IntKind.min, IntKind.max, IntKind.signed, IntKind.bits] at h
    omega
  have hbs : -2147483648 ≤ s ∧ s ≤ 2147483647 := by
    have h := w2
    simp [Lit.wf, IntKind.min, IntKind.max, IntKind.signed, IntKind.bits] at h
    omega
  have HK := Lib.hid (known_calls w)
  have HC := Lib.hid hr
  clear w1 w2 hr hw0
  go_enter Try.func10, Try.ntmps10
  go_wp2_with fail
  refine HK.out.mono ?_
  rintro e w1 ⟨rfl, hb1⟩
  have HB1 := Lib.hid hb1
  have HC1 := Lib.hid (Kd.C_below HC.out hb1)
  have HFE := Lib.hid (few_calls A c sets w1 HC1.out hc hmx)
  clear hb1 HK
  by_cases hf : fewB sets = true
  · rw [hf] at HFE
    obtain ⟨hs20, hs70⟩ := fewB_true hf
    have HS20 := Lib.hid hs20
    clear hf hs20
    go_wp2_with fail
    refine HFE.out.mono ?_
    rintro e w2 ⟨rfl, hd2⟩
    have HB2 := Lib.hid (HB1.out.trans (hd2.below.mono HB1.out.size))
    clear hd2 HFE HB1 HC1
    by_cases h20 : sets.length ≤ 20
    · have hd20 : decide (((sets.length : Nat) : Int) > 20) = false := decide_eq_false (by omega)
      have hss : ss sets = sets := List.take_of_length_le (by omega)
      have HCUT := Lib.hid (cut_calls w2 A c sets (by omega) hc (fun l hl => by have := HS20.out l hl; omega) (Kd.C_below HC.out HB2.out))
      rw [hss] at HCUT
      have hd2 : decide (20 < (sets.length : Int)) = false := decide_eq_false (by omega)
      clear hss HS20
      go_wp2_with fail
      clear hd2 hd20
      refine HCUT.out.mono ?_
      rintro e w5 ⟨g, los, rfl, hlos, hAt, hb5, _⟩
      have hF := cut_facts hlos (by omega)
      have hll := los_len hlos
      have hpl : (cutOf sets los).1.length < 1000000000 := by have := (cutOf_length sets los).1; omega
      have hml : (cutOf sets los).2.length < 1000000000 := by have := (cutOf_length sets los).2; omega
      generalize cutOf sets los = st at hAt hF hpl hml
      obtain ⟨ps, ms⟩ := st
      dsimp only at hAt hF hpl hml
      have HF := Lib.hid hF.1
      have HAT := Lib.hid hAt
      have HB5 := Lib.hid (HB2.out.trans (hb5.mono HB2.out.size))
      clear hlos hAt hb5 hF HCUT HB2 hll
      go_wp2
      go_loopg [8, 9, 10, 11] ms.length (fun gk v8 v9 v10 v11 wr => ∃ i : Nat, v11 = .int .i64 i ∧ i ≤ ms.length ∧ ms.length - i ≤ gk ∧ v9 = .int .i64 (countS (allU ps i)) ∧ v10 = .int .i32 (lastC ps i) ∧ Hid (ClsAt wr g (sets.length : Int) ps ms) ∧ Hid (Kd.R k41 41 wr w.heap.size (fun _ => True) v8 (allU ps i)) ∧ Hid (Below w.heap.size w wr))
      case atStart => exact ⟨0, rfl, Nat.zero_le _, by omega, by rw [allU_zero], by rw [lastC_zero], HAT, Lib.hid (Kd.R_nil _ _ _ _ _), HB5⟩
      case round =>
        clear HAT HB5
        obtain ⟨i, rfl, hi, hg, rfl, rfl, HAT, HN, HB⟩ := hrel
        have L1 := Lib.hid (len_calls HAT.out)
        by_cases hlt : i < ms.length
        · have S1 := Lib.hid (set_calls HAT.out (i : Int) hpl HF.out.bound)
          go_wp2_with fail
          refine L1.out.mono ?_
          rintro e w6 ⟨rfl, rfl⟩
          clear L1
          have HU := Lib.hid (allU_succ ps i)
          have hsum := allU_count HF.out i
          have cb1 := countS_le (allU ps i)
          have cb2 := countS_le (setC ps (i : Int))
          obtain ⟨l, hl1, hl2, hl3, hl4, hl5, hl6⟩ := part_least HF.out hlt
          have l1 := isC_length (allU_isC ps i)
          have l2 := isC_length (setC_isC ps (i : Int))
          obtain ⟨kc, hkc⟩ := (Count_ev (setC ps (i : Int)) (by omega)).get
          obtain ⟨ki, hki⟩ := (is_set ps (i : Int)).get
          have hle := Least_eq (setC ps (i : Int)) (by omega)
          rw [hl1] at hle
          have HSUM := Lib.hid hsum
          have HL2 := Lib.hid hl2
          generalize allU ps i = U at HN HU l1 HSUM cb1
          generalize lastC ps i = la at hl3 hl6
          generalize setC ps (i : Int) = X at S1 HU l2 hkc hki hle HSUM cb2 hl1
          generalize countS U = cU at HSUM cb1
          generalize countS X = cX at HSUM cb2 hkc
          have HKC := Lib.hid hkc
          have HKI := Lib.hid hki
          have HLE := Lib.hid hle
          have hdl : decide (l ≤ la) = false := decide_eq_false (by omega)
          clear hsum hl1 hl2 hkc hki hle
          go_wp2_with fail
          refine S1.out.mono ?_
          rintro e w8 ⟨vx, rfl, hRx, hb8⟩
          obtain ⟨Ax, cx, rfl, hlx, hCx⟩ := Kd.R_reads hRx
          have HX := Lib.hid hCx
          have HN8 := Lib.hid (Kd.R_below HN.out hb8)
          have HA8 := Lib.hid (HAT.out.later hb8)
          have HB8 := Lib.hid (HB.out.trans (hb8.mono HB.out.size))
          have HCO := Lib.hid (uniset_Count.calls kc Ax cx X cX w8 HX.out hlx HKC.out)
          clear hRx hCx hb8 HAT HB HN S1 HKC
          go_wp2_with fail
          refine HCO.out.mono ?_
          rintro e w9 ⟨rfl, hb9⟩
          have HX9 := Lib.hid (Kd.C_below HX.out hb9)
          have HN9 := Lib.hid (Kd.R_below HN8.out hb9)
          have HA9 := Lib.hid (HA8.out.later hb9)
          have HB9 := Lib.hid (HB8.out.trans (hb9.mono HB8.out.size))
          obtain ⟨Au, cu, rfl, hlu, hCu⟩ := Kd.R_reads HN9.out
          have HUN := Lib.hid (uniset_Union.calls Au cu U Ax cx X (norm (U ++ X)) w9 hCu hlu HX9.out hlx (by unfold uniset_Union.f; rw [if_pos (by omega)]))
          clear hb9 HX HN8 HA8 HB8 HCO hCu
          go_wp2_with fail
          refine HUN.out.mono ?_
          rintro e w10 ⟨vu, rfl, hRu, hb10⟩
          have HX10 := Lib.hid (Kd.C_below HX9.out hb10)
          have HN10 := Lib.hid (Kd.R_lower hRu HB9.out.size)
          have HA10 := Lib.hid (HA9.out.later hb10)
          have HB10 := Lib.hid (HB9.out.trans (hb10.mono HB9.out.size))
          obtain ⟨A9, c9, rfl⟩ := Kd.R_slice hRu
          have HLC := Lib.hid (uniset_Least.calls Ax cx X l true w10 HX10.out hlx HLE.out)
          clear hRu hb10 HX9 HN9 HA9 HB9 HUN HLE
          go_wp2_with fail
          refine HLC.out.mono ?_
          rintro e w11 ⟨rfl, hb11⟩
          have HX11 := Lib.hid (Kd.C_below HX10.out hb11)
          have HN11 := Lib.hid (Kd.R_below HN10.out hb11)
          have HA11 := Lib.hid (HA10.out.later hb11)
          have HB11 := Lib.hid (HB10.out.trans (hb11.mono HB10.out.size))
          have HIC := Lib.hid (uniset_Is.calls ki Ax cx X true w11 HX11.out hlx HKI.out)
          clear hb11 HX10 HN10 HA10 HB10 HLC HKI
          go_wp2_with fail
          refine HIC.out.mono ?_
          rintro e w12 ⟨rfl, hb12⟩
          have HN12 := Lib.hid (Kd.R_below HN11.out hb12)
          have HA12 := Lib.hid (HA11.out.later hb12)
          have HB12 := Lib.hid (HB11.out.trans (hb12.mono HB11.out.size))
          clear hb12 HX11 HN11 HA11 HB11 HIC
          go_wp2
          go_roundg (ms.length - (i + 1))
          case measure => omega
          case rel => exact ⟨i + 1, by go_num, by omega, Nat.le_refl _, by (first | (rw [HSUM.out]; done) | (rw [HSUM.out]; go_num)), by rw [HL2.out], HA12, Lib.hid (by rw [HU.out]; exact HN12.out), HB12⟩
        · obtain rfl : i = ms.length := by omega
          have hfull := allU_full HF.out
          go_wp2_with fail
          refine L1.out.mono ?_
          rintro e w6 ⟨rfl, rfl⟩
          rw [hfull]
          have lU := isC_length (allU_isC ps ms.length)
          obtain ⟨kc, hkc⟩ := (Count_ev (allU ps ms.length) (by omega)).get
          rw [hfull] at hkc
          generalize allU ps ms.length = U at HN hkc lU
          obtain ⟨Au, cu, rfl, hlu, hCu⟩ := Kd.R_reads HN.out
          have HCO := Lib.hid (uniset_Count.calls kc Au cu U 1114112 w6 hCu hlu hkc)
          clear hCu hkc HN hfull
          go_wp2_with fail
          refine HCO.out.mono ?_
          rintro e w9 ⟨rfl, hb9⟩
          have HA9 := Lib.hid (HAT.out.later hb9)
          have HB9 := Lib.hid (HB.out.trans (hb9.mono HB.out.size))
          clear hb9 HAT HB HCO L1
          by_cases e1 : r < 0
          · have d1 : decide (r < 0) = true := decide_eq_true e1
            go_wp2
            go_ret
            exact ⟨rfl, HB9.out⟩
          have d1 : decide (r < 0) = false := decide_eq_false e1
          by_cases e2 : s < 0
          · have d2 : decide (s < 0) = true := decide_eq_true e2
            go_wp2
            go_ret
            exact ⟨rfl, HB9.out⟩
          have d2 : decide (s < 0) = false := decide_eq_false e2
          by_cases e3 : r > 1114111
          · have d3 : decide (r > 1114111) = true := decide_eq_true e3
            have d3' : decide (1114111 < r) = true := decide_eq_true e3
            go_wp2
            go_ret
            exact ⟨rfl, HB9.out⟩
          have d3 : decide (r > 1114111) = false := decide_eq_false e3
          by_cases e4 : s > 1114111
          · have d4 : decide (s > 1114111) = true := decide_eq_true e4
            have d4' : decide (1114111 < s) = true := decide_eq_true e4
            go_wp2
            go_ret
            exact ⟨rfl, HB9.out⟩
          have d4 : decide (s > 1114111) = false := decide_eq_false e4
          have hfin := part_fin HF.out (r := r) (s := s) ⟨by omega, by omega⟩ ⟨by omega, by omega⟩
          have HFIN := Lib.hid hfin
          clear hfin
          go_wp2
          go_loopg [15, 16] sets.length (fun gk v15 v16 wr => ∃ i : Nat, v16 = .int .i64 i ∧ i ≤ sets.length ∧ sets.length - i ≤ gk ∧ v15 = .bool (sameB sets r s i) ∧ Hid (ClsAt wr g (sets.length : Int) ps ms) ∧ Hid (Below w.heap.size w wr))
          case atStart => exact ⟨0, rfl, Nat.zero_le _, by omega, rfl, HA9, HB9⟩
          case round =>
            clear HA9 HB9
            obtain ⟨i, rfl, hi, hg, rfl, HA, HB⟩ := hrel
            by_cases hlt : i < sets.length
            · obtain ⟨ad, A0, c0, rfl, hx, hlc, hC⟩ := at_L2 (Kd.C_below HC.out HB.out) (i : Int) (Int.natCast_nonneg i) (Int.ofNat_lt.2 hlt)
              simp only [Int.toNat_natCast] at hx
              have HCX := Lib.hid hx
              have HSB := Lib.hid (sameB_succ sets r s i)
              have HHR := Lib.hid (fun (W : World) (hb : Below wr.heap.size wr W) => uniset_Has.calls A0 c0 (rd_L2 sets (i : Int)) r (hasAt sets i r) W (Kd.C_below hC hb) hlc rfl)
              have HHS := Lib.hid (fun (W : World) (hb : Below wr.heap.size wr W) => uniset_Has.calls A0 c0 (rd_L2 sets (i : Int)) s (hasAt sets i s) W (Kd.C_below hC hb) hlc rfl)
              generalize hasAt sets i r = br at HHR HSB
              generalize hasAt sets i s = bs at HHS HSB
              generalize sameB sets r s i = b at HSB
              generalize rd_L2 sets (i : Int) = X at hx HCX hlc hC HHR HHS
              clear hC hlc e1 e2 e3 e4 d1 d2 d3 d4
              cases b with
              | false =>
                clear HHR HHS hx
                go_wp2
                go_quiet (fail)
                go_wp2
                go_roundg (sets.length - (i + 1))
                case measure => omega
                case rel => exact ⟨i + 1, by go_num, by omega, Nat.le_refl _, by rw [HSB.out, Bool.false_and], Lib.hid (HA.out.later (below_d (Below.refl wr.heap.size wr) _)), Lib.hid (HB.out.trans ((below_d (Below.refl wr.heap.size wr) _).mono HB.out.size))⟩
              | true =>
                go_wp2
                go_region_held3 (fun w' => w'.cell? (ad.add i) = some (.slice A0 X.length c0)) (first | assumption | go_keep) (first | (go_at_call 20; (first | refine (HHR.out _ HBW.out).mono ?_ | refine (HHR.out _ (below_dr (Below.refl _ _))).mono ?_ | refine (HHR.out _ (Below.refl _ _)).mono ?_); rintro e w9 ⟨rfl, hb⟩; have hb' : Below wr.heap.size wr w9 := (by first | exact below_t (below_dr (Below.refl _ _)) hb | exact hb | exact HBW.out.trans (hb.mono HBW.out.size)); have hc9 := cell_b hb' HCX.out; have HBW := Lib.hid hb'; clear hb hb') | (go_at_call 20; (first | refine (HHS.out _ HBW.out).mono ?_ | refine (HHS.out _ (below_dr (Below.refl _ _))).mono ?_ | refine (HHS.out _ (Below.refl _ _)).mono ?_); rintro e w9 ⟨rfl, hb⟩; have hb' : Below wr.heap.size wr w9 := (by first | exact below_t (below_dr (Below.refl _ _)) hb | exact hb | exact HBW.out.trans (hb.mono HBW.out.size)); have hc9 := cell_b hb' HCX.out; have HBW := Lib.hid hb'; clear hb hb'))
                all_goals
                  have HAW := Lib.hid (HA.out.later HBW.out)
                  have HBB := Lib.hid (HB.out.trans (HBW.out.mono HB.out.size))
                  clear HA HB HBW HHR HHS HCX
                  go_wp2
                  go_roundg (sets.length - (i + 1))
                  case measure => omega
                  case rel => exact ⟨i + 1, by go_num, by omega, Nat.le_refl _, by rw [HSB.out, Bool.true_and], HAW, HBB⟩
            · obtain rfl : i = sets.length := by omega
              have O1 := Lib.hid (fun W (h : ClsAt W g (sets.length : Int) ps ms) => of_fact h HF.out hpl r hbr.1 hbr.2)
              have O2 := Lib.hid (fun W (h : ClsAt W g (sets.length : Int) ps ms) => of_fact h HF.out hpl s hbs.1 hbs.2)
              generalize clsOf sets ms r = v1 at O1 HFIN
              generalize clsOf sets ms s = v2 at O2 HFIN
              generalize sameB sets r s sets.length = b at HFIN
              go_wp2_with fail
              refine (O1.out _ HA.out).mono ?_
              rintro e w10 ⟨rfl, hb10⟩
              have HA10 := Lib.hid (HA.out.later hb10)
              have HB10 := Lib.hid (HB.out.trans (hb10.mono HB.out.size))
              clear hb10 HA HB O1
              go_wp2_with fail
              refine (O2.out _ HA10.out).mono ?_
              rintro e w11 ⟨rfl, hb11⟩
              have HB11 := Lib.hid (HB10.out.trans (hb11.mono HB10.out.size))
              clear hb11 HA10 HB10 O2
              have hfin := HFIN.out
              go_wp2
              go_ret
              exact ⟨rfl, HB11.out⟩
    · have hd20 : decide (((sets.length : Nat) : Int) > 20) = true := decide_eq_true (by omega)
      go_wp2
      go_ret
      exact ⟨rfl, HB2.out⟩
  · have hf' : fewB sets = false := by simpa using hf
    rw [hf'] at HFE
    clear hf hf'
    go_wp2_with fail
    refine HFE.out.mono ?_
    rintro e w2 ⟨rfl, hd2⟩
    have HB2 := Lib.hid (HB1.out.trans (hd2.below.mono HB1.out.size))
    clear hd2 HFE HB1 HC1
    go_wp2
    go_ret
    exact ⟨rfl, HB2.out⟩
end Go.Proofs.Ytnfnnmmblommiaa.PA
