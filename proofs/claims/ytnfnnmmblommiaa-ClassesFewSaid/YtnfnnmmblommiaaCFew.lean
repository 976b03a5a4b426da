/- ClassesFew in plain lists: sets that don't meet. ClassesFew: the walk by hand. -/
import Derived.Test.YtnfnnmmblommiaaCKnown
namespace Go.Proofs.Ytnfnnmmblommiaa.PA
open Go.RowKit Go.Shelf Go.Proofs.YtnfnnmmblommiaaW.PrintWords Go.Proofs.YtnfnnmmblommiaaW.PrintLast Go.Proofs.YtnfnnmmblommiaaW.PrintMore
set_option linter.unusedVariables false
set_option linter.unusedSimpArgs false

theorem idxL_inj {ms : List Int} {a b : Int} (ha : a ∈ ms) (hb : b ∈ ms) (h : idxL ms a = idxL ms b) : a = b := by
  have h1 := idxL_get (idxL_lt.2 ha)
  have h2 := idxL_get (idxL_lt.2 hb)
  have h3 : ms[idxL ms a]'(idxL_lt.2 ha) = ms[idxL ms b]'(idxL_lt.2 hb) := by congr 1
  rw [← h1, ← h2, h3]
theorem cls_eq {S : List (List Rg)} {ps : List Pc} {ms : List Int} (F : Facts S ps ms) {r s : Int} (hr : 0 ≤ r ∧ r ≤ 1114111) (hs : 0 ≤ s ∧ s ≤ 1114111) : clsOf S ms r = clsOf S ms s ↔ maskI S r = maskI S s := by
  unfold clsOf
  rw [if_neg (by omega), if_neg (by omega)]
  constructor
  · intro h
    exact idxL_inj ((F.mem _).2 ⟨r, hr.1, hr.2, rfl⟩) ((F.mem _).2 ⟨s, hs.1, hs.2, rfl⟩) (by omega)
  · intro h; rw [h]
def fewOne (i : Nat) : List Rg := [⟨10 * (i : Int), 10 * (i : Int) + 4⟩, ⟨10 * (i : Int) + 6, 10 * (i : Int) + 7⟩]
def fewS (k : Nat) : List (List Rg) := (List.range k).map fewOne
theorem fewS_succ (k : Nat) : fewS (k + 1) = fewS k ++ [fewOne k] := by unfold fewS; rw [List.range_succ]; simp
theorem fewS_length (k : Nat) : (fewS k).length = k := by simp [fewS]
theorem fewOne_has {i : Nat} (hi : i < 60) (r : Int) : hasL (fewOne i) r = true ↔ (10 * (i : Int) ≤ r ∧ r ≤ 10 * (i : Int) + 4) ∨ (10 * (i : Int) + 6 ≤ r ∧ r ≤ 10 * (i : Int) + 7) := by
  rw [hasL_iff]
  unfold fewOne
  constructor
  · rintro ⟨x, hx, hg, h1, h2⟩
    rcases List.mem_cons.1 hx with rfl | hx
    · exact .inl ⟨h1, h2⟩
    · obtain rfl := List.mem_singleton.1 hx
      exact .inr ⟨h1, h2⟩
  · rintro (⟨h1, h2⟩ | ⟨h1, h2⟩)
    · exact ⟨_, List.mem_cons_self, good_iff.2 ⟨by dsimp only; omega, by dsimp only; omega, by dsimp only; omega⟩, h1, h2⟩
    · exact ⟨_, List.mem_cons_of_mem _ List.mem_cons_self, good_iff.2 ⟨by dsimp only; omega, by dsimp only; omega, by dsimp only; omega⟩, h1, h2⟩
/-- The sets: the first again, perhaps. -/
def fewT (k : Nat) (tw : Bool) : List (List Rg) := if tw then fewS k ++ [fewOne 0] else fewS k
theorem fewT_length (k : Nat) (tw : Bool) : (fewT k tw).length = k + (if tw then 1 else 0) := by unfold fewT; cases tw <;> simp [fewS_length]
theorem few_at {k : Nat} {tw : Bool} {j : Nat} (hj : j < k) (r : Int) : hasAt (fewT k tw) j r = hasL (fewOne j) r := by
  unfold hasAt rd_L2
  congr 1
  rw [Int.toNat_natCast]
  cases tw <;> simp [fewT, fewS, List.getElem?_append, hj]
theorem few_last {k : Nat} (r : Int) : hasAt (fewT k true) k r = hasL (fewOne 0) r := by
  unfold hasAt rd_L2
  congr 1
  rw [Int.toNat_natCast]
  simp [fewT, fewS, List.getElem?_append]
theorem few_eq {k : Nat} {tw : Bool} (hk : 0 < k ∨ tw = false) {r s : Int} : maskI (fewT k tw) r = maskI (fewT k tw) s ↔ ∀ j, j < k → hasL (fewOne j) r = hasL (fewOne j) s := by
  rw [mask_eq]
  constructor
  · intro h j hj
    have := h j (by rw [fewT_length]; omega)
    rwa [few_at hj, few_at hj] at this
  · intro h j hj
    rw [fewT_length] at hj
    rcases Nat.lt_or_ge j k with h1 | h1
    · rw [few_at h1, few_at h1]; exact h j h1
    · cases tw with
      | false => simp at hj; omega
      | true =>
        obtain rfl : j = k := by simp at hj; omega
        rw [few_last, few_last]
        exact h 0 (by rcases hk with h | h; exact h; cases h)
theorem few_same {k : Nat} {tw : Bool} (hk : 0 < k ∨ tw = false) (h60 : k ≤ 60) {i : Nat} (hi : i < k) {r : Int} (hr : hasL (fewOne i) r = true) : maskI (fewT k tw) r = maskI (fewT k tw) (10 * (i : Int)) := by
  rw [few_eq hk]
  intro j hj
  have h1 := (fewOne_has (show i < 60 by omega) r).1 hr
  rw [Bool.eq_iff_iff, fewOne_has (show j < 60 by omega), fewOne_has (show j < 60 by omega)]
  omega
theorem few_diff {k : Nat} {tw : Bool} (hk : 0 < k ∨ tw = false) (h60 : k ≤ 60) {i : Nat} (hi : i < k) {s : Int} (hs : hasL (fewOne i) s = false) : maskI (fewT k tw) (10 * (i : Int)) ≠ maskI (fewT k tw) s := by
  intro h
  have h1 := few_eq hk |>.1 h i hi
  rw [hs] at h1
  have h2 : hasL (fewOne i) (10 * (i : Int)) = true := (fewOne_has (by omega) _).2 (.inl (by omega))
  rw [h2] at h1; cases h1
theorem perm_of {a b : List Int} (ha : a.Nodup) (hb : b.Nodup) (h : ∀ x, x ∈ a ↔ x ∈ b) : a.length = b.length := ((List.perm_ext_iff_of_nodup ha hb).2 h).length_eq
theorem few_len {k : Nat} {tw : Bool} (hk : 0 < k ∨ tw = false) (h60 : k ≤ 60) {ps : List Pc} {ms : List Int} (F : Facts (fewT k tw) ps ms) : ms.length = k + 1 := by
  have h5 : ∀ i, i < k → hasL (fewOne i) 5 = false := fun i hi => by
    rw [← Bool.not_eq_true, fewOne_has (by omega)]; omega
  rw [perm_of (b := (List.range k).map (fun (i : Nat) => maskI (fewT k tw) (10 * (i : Int))) ++ [maskI (fewT k tw) 5]) F.nodup ?_ ?_]
  · simp
  · rw [List.nodup_append]
    refine ⟨?_, by simp, fun a ha b hb => ?_⟩
    · unfold List.Nodup
      rw [List.pairwise_map]
      refine List.Pairwise.imp_of_mem (S := fun a b => maskI (fewT k tw) (10 * (a : Int)) ≠ maskI (fewT k tw) (10 * (b : Int))) (R := fun a b : Nat => a < b) (fun {a b} ha hb hab => ?_) List.pairwise_lt_range
      refine few_diff hk h60 (List.mem_range.1 ha) ?_
      rw [← Bool.not_eq_true, fewOne_has (by have := List.mem_range.1 ha; omega)]
      omega
    · obtain ⟨i, hi, rfl⟩ := List.mem_map.1 ha
      obtain rfl := List.mem_singleton.1 hb
      exact few_diff hk h60 (List.mem_range.1 hi) (h5 i (List.mem_range.1 hi))
  · intro x
    rw [F.mem, List.mem_append]
    constructor
    · rintro ⟨r, hr0, hr1, rfl⟩
      by_cases he : ∃ i, i < k ∧ hasL (fewOne i) r = true
      · obtain ⟨i, hi, h⟩ := he
        exact .inl (List.mem_map.2 ⟨i, List.mem_range.2 hi, (few_same hk h60 hi h).symm⟩)
      · refine .inr (List.mem_singleton.2 ((few_eq hk).2 fun j hj => ?_))
        rw [h5 j hj]
        rw [← Bool.not_eq_true]
        exact fun h => he ⟨j, hj, h⟩
    · rintro (hx | hx)
      · obtain ⟨i, hi, rfl⟩ := List.mem_map.1 hx
        have := List.mem_range.1 hi
        exact ⟨_, by omega, by omega, rfl⟩
      · obtain rfl := List.mem_singleton.1 hx
        exact ⟨5, by omega, by omega, rfl⟩
end Go.Proofs.Ytnfnnmmblommiaa.PA
namespace Go.Proofs.Ytnfnnmmblommiaa.PA
open Go.RowKit Go.Shelf Go.Proofs.YtnfnnmmblommiaaW.PrintWords Go.Proofs.YtnfnnmmblommiaaW.PrintLast Go.Proofs.YtnfnnmmblommiaaW.PrintMore
set_option linter.unusedVariables false
set_option linter.unusedSimpArgs false

theorem infoSl : (Try.prog.info? 26).map (fun i => (i.zero, i.size, i.bytes)) = some (some (.slice none 0 0), 1, 24) := by kernel_rfl
/-- A row of ranges in a block of its own: what it leans on. -/
theorem rg_foot {W : World} {b n : Nat} {xs : List Rg} (h : Kd.C k41 W (some ⟨b, 0, none⟩) n xs) (hb : b < W.heap.size) : Kd.F k41 W (fun k => k = b) (some ⟨b, 0, none⟩) n xs :=
  fun W' hW => C_kept h (fun _ _ h => h) (fun a ha => by cases ha; exact hW b rfl hb)
theorem two_rgs {W : World} (a b c d : Int) : Kd.C k41 (W.alloc (.cells #[.int .i32 a, .int .i32 b, .int .i32 c, .int .i32 d] 41)) (some ⟨W.heap.size, 0, none⟩) 2 [(⟨a, b⟩ : Rg), ⟨c, d⟩] := by
  refine ⟨rfl, by omega, fun _ => ⟨_, rfl, fun j p hp => ?_⟩⟩
  rcases j with _ | _ | j
  · cases hp
    refine ⟨_, rfl, k41_mk _ _, fun i u hi => ?_⟩
    rw [add_plain]
    rcases i with _ | _ | i
    · cases hi; exact cell_new 0 rfl
    · cases hi; exact cell_new 1 rfl
    · simp at hi
  · cases hp
    refine ⟨_, rfl, k41_mk _ _, fun i u hi => ?_⟩
    rw [add_plain]
    rcases i with _ | _ | i
    · cases hi; exact cell_new 2 rfl
    · cases hi; exact cell_new 3 rfl
    · simp at hi
  · simp at hp
/-- A slice of ranges, made of a literal: an element of a row of slices. -/
theorem lit_foot {W : World} (i : Nat) : Kd.FK (Kd.slice 41 k41) (W.alloc (.cells #[.int .i32 (10 * (i : Int)), .int .i32 (10 * (i : Int) + 4), .int .i32 (10 * (i : Int) + 6), .int .i32 (10 * (i : Int) + 7)] 41)) (fun k => k = W.heap.size) (fewOne i) [.slice (some ⟨W.heap.size, 0, none⟩) 2 2] :=
  Kd.FK_slice_mk (l := fewOne i) (c := 2) (Nat.le_refl _) (rg_foot (two_rgs _ _ _ _) (by simp))
theorem few_short (k : Nat) (tw : Bool) : ∀ l ∈ fewT k tw, l.length ≤ 50000 := by
  intro l hl
  have h : ∃ i, l = fewOne i := by
    unfold fewT at hl
    cases tw with
    | false =>
      obtain ⟨i, _, rfl⟩ := List.mem_map.1 (show l ∈ (List.range k).map fewOne from hl)
      exact ⟨i, rfl⟩
    | true =>
      rcases List.mem_append.1 (show l ∈ fewS k ++ [fewOne 0] from hl) with h | h
      · obtain ⟨i, _, rfl⟩ := List.mem_map.1 h
        exact ⟨i, rfl⟩
      · exact ⟨0, by simpa using h⟩
  obtain ⟨i, rfl⟩ := h
  simp [fewOne]
theorem los_length {los : List Int} {S : List (List Rg)} (h : LosOf los S) : los.length ≤ 1114112 := by
  have hb : ∀ x ∈ los, 0 ≤ x ∧ x ≤ 1114111 := fun x hx => ends_bound ((h.mem x).1 hx)
  have hi : ∀ i, ∀ hi : i < los.length, (i : Int) ≤ los[i] := by
    intro i
    induction i with
    | zero => intro hi; exact (hb _ (List.getElem_mem _)).1
    | succ i ih =>
      intro hi
      have h1 := ih (by omega)
      have h2 := List.pairwise_iff_getElem.1 h.lt i (i + 1) (by omega) hi (by omega)
      omega
  rcases Nat.eq_zero_or_pos los.length with h0 | h0
  · omega
  · have h1 := hi (los.length - 1) (by omega)
    have h2 := (hb (los[los.length - 1]'(by omega)) (List.getElem_mem _)).2
    omega
set_option maxRecDepth 100000 in
set_option maxHeartbeats 16000000 in
theorem few_law (a0 : Int) (a1 : Bool) (w : World) (w0 : (Lit.int .u8 a0).wf = true) :
    Calls Try.prog 6 #[.int .u8 a0, .bool a1] w fun e w' => e = .returned (.bool true) ∧ Below w.heap.size w w' := by
  have hu := Try.underlying41
  have hb0 : 0 ≤ a0 ∧ a0 ≤ 255 := by
    have h := w0
    simp [Lit.wf, IntKind.min, IntKind.max, IntKind.signed, IntKind.bits] at h
    omega
  obtain ⟨k, hk⟩ : ∃ k : Nat, (k : Int) = a0 % 60 := ⟨(a0 % 60).toNat, by omega⟩
  have hk60 : k < 60 := by omega
  have HK := Lib.hid (known_calls w)
  clear w0
  go_enter Try.func6, Try.ntmps6
  go_wp2_with fail
  refine HK.out.mono ?_
  rintro e w1 ⟨rfl, hb1⟩
  have HB1 := Lib.hid hb1
  clear hb1 HK
  have hmod : a0 % 60 = (k : Int) := hk.symm
  clear hk
  go_wp2
  clear hmod
  go_loopg [6, 7] k (fun gk v6 vi wr => ∃ i : Nat, vi = .int .i64 i ∧ i ≤ k ∧ k - i ≤ gk ∧ Hid (Kd.N (Kd.slice 41 k41) 26 wr w.heap.size (fun _ => True) v6 (fewS i)) ∧ Hid (Below w.heap.size w wr))
  case atStart => exact ⟨0, rfl, Nat.zero_le _, by omega, Lib.hid (Kd.N_nil _ _ _ _ _), HB1⟩
  case round =>
    clear HB1
    obtain ⟨i, rfl, hi, hg, HN, HB⟩ := hrel
    by_cases hlt : i < k
    · obtain ⟨A6, c6, rfl⟩ := Kd.N_slice HN.out
      have hfl := fewS_length i
      have HFS := Lib.hid (fewS_succ i)
      generalize fewS i = S at HN hfl HFS
      obtain ⟨w2, hw2⟩ : ∃ w2, wr.alloc (.cells #[.int .i32 (10 * (i : Int)), .int .i32 (10 * (i : Int) + 4), .int .i32 (10 * (i : Int) + 6), .int .i32 (10 * (i : Int) + 7)] 41) = w2 := ⟨_, rfl⟩
      have hb2 : Below wr.heap.size wr w2 := by rw [← hw2]; exact (Below.refl _ wr).alloc (Nat.le_refl _) _
      have HN2 := Lib.hid (Kd.N_below HN.out hb2)
      have HB2 := Lib.hid (HB.out.trans (hb2.mono HB.out.size))
      have HF := Lib.hid (lit_foot (W := wr) i)
      rw [hw2] at HF
      have HNE : Hid (some wr.heap.size ≠ (Value.slice A6 S.length c6).ownBlock) := Lib.hid (Kd.N_ne HN2.out (g := wr.heap.size) (by rw [← hw2]; exact heap_alloc_new wr _) (by decide))
      have bge := HB2.out.size
      have hSl : S.length < 60 := by omega
      clear hb2 HN hfl
      go_wp2_with (at_builtin; (refine Kd.N_append (Kd.slice 41 k41) (W := w2) w.heap.size rfl (.tmp 39) (.tmp 41) 39 26 (.slice none 0 0) 24 rfl Try.underlying39 infoSl rfl Nat.one_pos (by omega) (.slice A6 S.length c6) S (fewOne i) [.slice (some ⟨wr.heap.size, 0, none⟩) 2 2] (fun _ => True) (fun k => k = wr.heap.size) rfl rfl HF.out (fun _ hk => ⟨trivial, by rw [hk]; exact HNE.out⟩) (fun _ _ => trivial) HN2.out HB2.out bge ?aL ?_); (case aL => omega); intro v1 w9 ho hbl hgr hat; obtain ⟨A7, c7, e7⟩ := Kd.N_slice ho; generalize (S ++ [fewOne i]).length = n7 at e7; subst e7; have HO9 := Lib.hid ho; have HW9 := Lib.hid hbl; clear ho hbl hgr hat)
      go_roundg (k - (i + 1))
      case measure => omega
      case rel => exact ⟨i + 1, by go_num, by omega, Nat.le_refl _, Lib.hid (by rw [HFS.out]; exact HO9.out), HW9⟩
    · obtain rfl : k = i := by omega
      have HFT0 : Hid (Kd.N (Kd.slice 41 k41) 26 wr w.heap.size (fun _ => True) u6 (fewT k false)) := Lib.hid HN.out
      clear hg hi hlt
      have hd60 : decide ((k : Int) < 60) = true := decide_eq_true (by omega)
      cases a1 with
      | false =>
        clear HN
        have HN := HFT0
        clear HFT0
        obtain ⟨A6, c6, rfl, hlc, hC⟩ := Kd.N_reads HN.out
        have hTl := fewT_length k false
        have hT64 : (fewT k false).length ≤ 64 := by rw [hTl]; split <;> omega
        have hss : ss (fewT k false) = fewT k false := List.take_of_length_le hT64
        have HC := Lib.hid (cut_calls wr A6 c6 (fewT k false) (by omega) hlc (few_short k false) hC)
        rw [hss] at HC
        have hkt : 0 < k ∨ false = false := .inr rfl
        have HEQ := Lib.hid (fun ps ms (F : Facts (fewT k false) ps ms) => few_len hkt (by omega) F)
        have HSM := Lib.hid (fun i (hi : i < k) => few_same (k := k) (tw := false) hkt (by omega) hi (r := 10 * (i : Int) + 7) ((fewOne_has (by omega) _).2 (.inr ⟨by omega, by omega⟩)))
        have HDF := Lib.hid (fun i (hi : i < k) => few_diff (k := k) (tw := false) hkt (by omega) hi (s := 10 * (i : Int) + 5) (by rw [← Bool.not_eq_true, fewOne_has (by omega)]; omega))
        generalize fewT k false = T at HC HEQ HSM HDF hT64 hlc
        clear hC hTl hss hkt HN
        go_wp2_with fail
        refine HC.out.mono ?_
        rintro e w5 ⟨g, los, rfl, hlos, hAt, hb5, _⟩
        have hF := cut_facts hlos hT64
        have hll := los_length hlos
        have hpl : (cutOf T los).1.length < 1000000000 := by have := (cutOf_length T los).1; omega
        generalize cutOf T los = st at hAt hF hpl
        obtain ⟨ps, ms⟩ := st
        dsimp only at hAt hF hpl
        have HF := Lib.hid hF.1
        have hml := HEQ.out ps ms hF.1
        have HML := Lib.hid hml
        have HAT := Lib.hid hAt
        have HB5 := Lib.hid (HB.out.trans (hb5.mono HB.out.size))
        clear hlos hAt hb5 hF hml HC HB HEQ
        go_wp2
        go_loopg [10] k (fun gk vi wr => ∃ i : Nat, vi = .int .i64 i ∧ i ≤ k ∧ k - i ≤ gk ∧ Hid (ClsAt wr g (T.length : Int) ps ms) ∧ Hid (Below w.heap.size w wr))
        case atStart => exact ⟨0, rfl, Nat.zero_le _, by omega, HAT, HB5⟩
        case round =>
          clear HAT HB5
          obtain ⟨i, rfl, hi, hg, HAT, HB⟩ := hrel
          by_cases hlt : i < k
          · have O1 := Lib.hid (fun W (h : ClsAt W g (T.length : Int) ps ms) => of_fact h HF.out hpl (10 * (i : Int)) (by omega) (by omega))
            have O2 := Lib.hid (fun W (h : ClsAt W g (T.length : Int) ps ms) => of_fact h HF.out hpl (10 * (i : Int) + 7) (by omega) (by omega))
            have O3 := Lib.hid (fun W (h : ClsAt W g (T.length : Int) ps ms) => of_fact h HF.out hpl (10 * (i : Int) + 5) (by omega) (by omega))
            have e1 : clsOf T ms (10 * (i : Int) + 7) = clsOf T ms (10 * (i : Int)) := (cls_eq HF.out ⟨by omega, by omega⟩ ⟨by omega, by omega⟩).2 (HSM.out i hlt)
            have e2 : clsOf T ms (10 * (i : Int)) ≠ clsOf T ms (10 * (i : Int) + 5) := fun h => HDF.out i hlt ((cls_eq HF.out ⟨by omega, by omega⟩ ⟨by omega, by omega⟩).1 h)
            rw [e1] at O2
            generalize clsOf T ms (10 * (i : Int)) = v1 at O1 O2 e2
            generalize clsOf T ms (10 * (i : Int) + 5) = v5 at O3 e2
            have hne : (v1 == v5) = false := beq_eq_false_iff_ne.2 e2
            clear e1 e2
            go_wp2_with fail
            refine (O1.out _ HAT.out).mono ?_
            rintro e w6 ⟨rfl, hb6⟩
            have HA6 := Lib.hid (HAT.out.later hb6)
            have HB6 := Lib.hid (HB.out.trans (hb6.mono HB.out.size))
            clear hb6 HAT HB
            go_wp2_with fail
            refine (O2.out _ HA6.out).mono ?_
            rintro e w7 ⟨rfl, hb7⟩
            have HA7 := Lib.hid (HA6.out.later hb7)
            have HB7 := Lib.hid (HB6.out.trans (hb7.mono HB6.out.size))
            clear hb7 HA6 HB6 O2
            go_wp2_with fail
            refine (O1.out _ HA7.out).mono ?_
            rintro e w8 ⟨rfl, hb8⟩
            have HA8 := Lib.hid (HA7.out.later hb8)
            have HB8 := Lib.hid (HB7.out.trans (hb8.mono HB7.out.size))
            clear hb8 HA7 HB7 O1
            go_wp2_with fail
            refine (O3.out _ HA8.out).mono ?_
            rintro e w9 ⟨rfl, hb9⟩
            have HA9 := Lib.hid (HA8.out.later hb9)
            have HB9 := Lib.hid (HB8.out.trans (hb9.mono HB8.out.size))
            clear hb9 HA8 HB8 O3
            go_wp2
            go_roundg (k - (i + 1))
            case measure => omega
            case rel => exact ⟨i + 1, by go_num, by omega, Nat.le_refl _, HA9, HB9⟩
          · obtain rfl : i = k := by omega
            have L1 := Lib.hid (len_calls HAT.out)
            have L2 := Lib.hid (sets_calls HAT.out)
            rw [HML.out, show ((i + 1 : Nat) : Int) = (i : Int) + 1 by omega] at L1
            go_wp2_with fail
            refine L1.out.mono ?_
            rintro e w6 ⟨rfl, rfl⟩
            go_wp2_with fail
            refine L2.out.mono ?_
            rintro e w7 ⟨rfl, rfl⟩
            go_wp2
            go_ret
            exact ⟨rfl, HB.out⟩
      | true =>
        by_cases hk0 : 0 < k
        · have hd0 : decide ((k : Int) > 0) = true := decide_eq_true (by omega)
          obtain ⟨A6, c6, rfl⟩ := Kd.N_slice HFT0.out
          have hlen0 : (fewT k false).length = k := by rw [fewT_length]; rfl
          obtain ⟨gx, cx, ex, _, _, _⟩ := Kd.N_form HFT0.out (by omega)
          cases ex
          obtain ⟨cc, hcl, hfk, hcc⟩ := Kd.N_get HFT0.out ([] : List Rg) 0 (by omega) (by omega)
          have hg0 : (fewT k false).getD (0 : Int).toNat [] = fewOne 0 := by simp [fewT, fewS, hk0]
          rw [hg0] at hfk
          obtain ⟨A0, c0, rfl, hl0, hf0⟩ := Kd.FK_slice_open hfk
          have hx0 := hcc 0 _ rfl
          rw [add_plain] at hx0
          simp only [Int.toNat_zero, Nat.zero_mul, Nat.zero_add] at hx0
          have HFK := Lib.hid hfk
          have bge := HB.out.size
          have hS60 : (fewT k false).length < 60 := by omega
          have HTT : Hid (fewT k false ++ [fewOne 0] = fewT k true) := Lib.hid rfl
          have hlp : (0 : Int) < ((fewT k false).length : Int) := by omega
          clear hfk hcc hf0 hg0 HN hlen0
          go_wp2_with (at_builtin; (refine Kd.N_append (Kd.slice 41 k41) (W := wr) w.heap.size rfl (.tmp 52) (.tmp 56) 39 26 (.slice none 0 0) 24 rfl Try.underlying39 infoSl rfl Nat.one_pos (by omega) _ (fewT k false) (fewOne 0) _ (fun _ => True) _ rfl rfl HFK.out (fun _ hk => hk) (fun _ _ => trivial) HFT0.out HB.out bge ?aL ?_); (case aL => omega); intro v1 w9 ho hbl hgr hat; obtain ⟨A7, c7, e7⟩ := Kd.N_slice ho; rw [HTT.out] at ho e7; have HN9 := Lib.hid ho; have HBX := Lib.hid hbl; clear ho hbl hgr hat)
          obtain ⟨A6, c6, rfl, hlc, hC⟩ := Kd.N_reads HN9.out
          have hTl := fewT_length k true
          have hT64 : (fewT k true).length ≤ 64 := by rw [hTl]; split <;> omega
          have hss : ss (fewT k true) = fewT k true := List.take_of_length_le hT64
          have HC := Lib.hid (cut_calls w9 A6 c6 (fewT k true) (by omega) hlc (few_short k true) hC)
          rw [hss] at HC
          have hkt : 0 < k ∨ true = false := .inl hk0
          have HEQ := Lib.hid (fun ps ms (F : Facts (fewT k true) ps ms) => few_len hkt (by omega) F)
          have HSM := Lib.hid (fun i (hi : i < k) => few_same (k := k) (tw := true) hkt (by omega) hi (r := 10 * (i : Int) + 7) ((fewOne_has (by omega) _).2 (.inr ⟨by omega, by omega⟩)))
          have HDF := Lib.hid (fun i (hi : i < k) => few_diff (k := k) (tw := true) hkt (by omega) hi (s := 10 * (i : Int) + 5) (by rw [← Bool.not_eq_true, fewOne_has (by omega)]; omega))
          generalize fewT k true = T at HC HEQ HSM HDF hT64 hlc
          clear hC hTl hss hkt HN9 HFT0 HB
          go_wp2_with fail
          refine HC.out.mono ?_
          rintro e w5 ⟨g, los, rfl, hlos, hAt, hb5, _⟩
          have hF := cut_facts hlos hT64
          have hll := los_length hlos
          have hpl : (cutOf T los).1.length < 1000000000 := by have := (cutOf_length T los).1; omega
          generalize cutOf T los = st at hAt hF hpl
          obtain ⟨ps, ms⟩ := st
          dsimp only at hAt hF hpl
          have HF := Lib.hid hF.1
          have hml := HEQ.out ps ms hF.1
          have HML := Lib.hid hml
          have HAT := Lib.hid hAt
          have HB5 := Lib.hid (HBX.out.trans (hb5.mono HBX.out.size))
          clear hlos hAt hb5 hF hml HC HBX HEQ
          go_wp2
          go_loopg [10] k (fun gk vi wr => ∃ i : Nat, vi = .int .i64 i ∧ i ≤ k ∧ k - i ≤ gk ∧ Hid (ClsAt wr g (T.length : Int) ps ms) ∧ Hid (Below w.heap.size w wr))
          case atStart => exact ⟨0, rfl, Nat.zero_le _, by omega, HAT, HB5⟩
          case round =>
            clear HAT HB5
            obtain ⟨i, rfl, hi, hg, HAT, HB⟩ := hrel
            by_cases hlt : i < k
            · have O1 := Lib.hid (fun W (h : ClsAt W g (T.length : Int) ps ms) => of_fact h HF.out hpl (10 * (i : Int)) (by omega) (by omega))
              have O2 := Lib.hid (fun W (h : ClsAt W g (T.length : Int) ps ms) => of_fact h HF.out hpl (10 * (i : Int) + 7) (by omega) (by omega))
              have O3 := Lib.hid (fun W (h : ClsAt W g (T.length : Int) ps ms) => of_fact h HF.out hpl (10 * (i : Int) + 5) (by omega) (by omega))
              have e1 : clsOf T ms (10 * (i : Int) + 7) = clsOf T ms (10 * (i : Int)) := (cls_eq HF.out ⟨by omega, by omega⟩ ⟨by omega, by omega⟩).2 (HSM.out i hlt)
              have e2 : clsOf T ms (10 * (i : Int)) ≠ clsOf T ms (10 * (i : Int) + 5) := fun h => HDF.out i hlt ((cls_eq HF.out ⟨by omega, by omega⟩ ⟨by omega, by omega⟩).1 h)
              rw [e1] at O2
              generalize clsOf T ms (10 * (i : Int)) = v1 at O1 O2 e2
              generalize clsOf T ms (10 * (i : Int) + 5) = v5 at O3 e2
              have hne : (v1 == v5) = false := beq_eq_false_iff_ne.2 e2
              clear e1 e2
              go_wp2_with fail
              refine (O1.out _ HAT.out).mono ?_
              rintro e w6 ⟨rfl, hb6⟩
              have HA6 := Lib.hid (HAT.out.later hb6)
              have HB6 := Lib.hid (HB.out.trans (hb6.mono HB.out.size))
              clear hb6 HAT HB
              go_wp2_with fail
              refine (O2.out _ HA6.out).mono ?_
              rintro e w7 ⟨rfl, hb7⟩
              have HA7 := Lib.hid (HA6.out.later hb7)
              have HB7 := Lib.hid (HB6.out.trans (hb7.mono HB6.out.size))
              clear hb7 HA6 HB6 O2
              go_wp2_with fail
              refine (O1.out _ HA7.out).mono ?_
              rintro e w8 ⟨rfl, hb8⟩
              have HA8 := Lib.hid (HA7.out.later hb8)
              have HB8 := Lib.hid (HB7.out.trans (hb8.mono HB7.out.size))
              clear hb8 HA7 HB7 O1
              go_wp2_with fail
              refine (O3.out _ HA8.out).mono ?_
              rintro e w9 ⟨rfl, hb9⟩
              have HA9 := Lib.hid (HA8.out.later hb9)
              have HB9 := Lib.hid (HB8.out.trans (hb9.mono HB8.out.size))
              clear hb9 HA8 HB8 O3
              go_wp2
              go_roundg (k - (i + 1))
              case measure => omega
              case rel => exact ⟨i + 1, by go_num, by omega, Nat.le_refl _, HA9, HB9⟩
            · obtain rfl : i = k := by omega
              have L1 := Lib.hid (len_calls HAT.out)
              have L2 := Lib.hid (sets_calls HAT.out)
              rw [HML.out, show ((i + 1 : Nat) : Int) = (i : Int) + 1 by omega] at L1
              go_wp2_with fail
              refine L1.out.mono ?_
              rintro e w6 ⟨rfl, rfl⟩
              go_wp2_with fail
              refine L2.out.mono ?_
              rintro e w7 ⟨rfl, rfl⟩
              go_wp2
              go_ret
              exact ⟨rfl, HB.out⟩
        · have hd0 : decide ((k : Int) > 0) = false := decide_eq_false (by omega)
          clear HN
          have HN := HFT0
          clear HFT0
          obtain ⟨A6, c6, rfl, hlc, hC⟩ := Kd.N_reads HN.out
          have hTl := fewT_length k false
          have hT64 : (fewT k false).length ≤ 64 := by rw [hTl]; split <;> omega
          have hss : ss (fewT k false) = fewT k false := List.take_of_length_le hT64
          have HC := Lib.hid (cut_calls wr A6 c6 (fewT k false) (by omega) hlc (few_short k false) hC)
          rw [hss] at HC
          have hkt : 0 < k ∨ false = false := .inr rfl
          have HEQ := Lib.hid (fun ps ms (F : Facts (fewT k false) ps ms) => few_len hkt (by omega) F)
          have HSM := Lib.hid (fun i (hi : i < k) => few_same (k := k) (tw := false) hkt (by omega) hi (r := 10 * (i : Int) + 7) ((fewOne_has (by omega) _).2 (.inr ⟨by omega, by omega⟩)))
          have HDF := Lib.hid (fun i (hi : i < k) => few_diff (k := k) (tw := false) hkt (by omega) hi (s := 10 * (i : Int) + 5) (by rw [← Bool.not_eq_true, fewOne_has (by omega)]; omega))
          generalize fewT k false = T at HC HEQ HSM HDF hT64 hlc
          clear hC hTl hss hkt HN
          go_wp2_with fail
          refine HC.out.mono ?_
          rintro e w5 ⟨g, los, rfl, hlos, hAt, hb5, _⟩
          have hF := cut_facts hlos hT64
          have hll := los_length hlos
          have hpl : (cutOf T los).1.length < 1000000000 := by have := (cutOf_length T los).1; omega
          generalize cutOf T los = st at hAt hF hpl
          obtain ⟨ps, ms⟩ := st
          dsimp only at hAt hF hpl
          have HF := Lib.hid hF.1
          have hml := HEQ.out ps ms hF.1
          have HML := Lib.hid hml
          have HAT := Lib.hid hAt
          have HB5 := Lib.hid (HB.out.trans (hb5.mono HB.out.size))
          clear hlos hAt hb5 hF hml HC HB HEQ
          go_wp2
          go_loopg [10] k (fun gk vi wr => ∃ i : Nat, vi = .int .i64 i ∧ i ≤ k ∧ k - i ≤ gk ∧ Hid (ClsAt wr g (T.length : Int) ps ms) ∧ Hid (Below w.heap.size w wr))
          case atStart => exact ⟨0, rfl, Nat.zero_le _, by omega, HAT, HB5⟩
          case round =>
            clear HAT HB5
            obtain ⟨i, rfl, hi, hg, HAT, HB⟩ := hrel
            by_cases hlt : i < k
            · have O1 := Lib.hid (fun W (h : ClsAt W g (T.length : Int) ps ms) => of_fact h HF.out hpl (10 * (i : Int)) (by omega) (by omega))
              have O2 := Lib.hid (fun W (h : ClsAt W g (T.length : Int) ps ms) => of_fact h HF.out hpl (10 * (i : Int) + 7) (by omega) (by omega))
              have O3 := Lib.hid (fun W (h : ClsAt W g (T.length : Int) ps ms) => of_fact h HF.out hpl (10 * (i : Int) + 5) (by omega) (by omega))
              have e1 : clsOf T ms (10 * (i : Int) + 7) = clsOf T ms (10 * (i : Int)) := (cls_eq HF.out ⟨by omega, by omega⟩ ⟨by omega, by omega⟩).2 (HSM.out i hlt)
              have e2 : clsOf T ms (10 * (i : Int)) ≠ clsOf T ms (10 * (i : Int) + 5) := fun h => HDF.out i hlt ((cls_eq HF.out ⟨by omega, by omega⟩ ⟨by omega, by omega⟩).1 h)
              rw [e1] at O2
              generalize clsOf T ms (10 * (i : Int)) = v1 at O1 O2 e2
              generalize clsOf T ms (10 * (i : Int) + 5) = v5 at O3 e2
              have hne : (v1 == v5) = false := beq_eq_false_iff_ne.2 e2
              clear e1 e2
              go_wp2_with fail
              refine (O1.out _ HAT.out).mono ?_
              rintro e w6 ⟨rfl, hb6⟩
              have HA6 := Lib.hid (HAT.out.later hb6)
              have HB6 := Lib.hid (HB.out.trans (hb6.mono HB.out.size))
              clear hb6 HAT HB
              go_wp2_with fail
              refine (O2.out _ HA6.out).mono ?_
              rintro e w7 ⟨rfl, hb7⟩
              have HA7 := Lib.hid (HA6.out.later hb7)
              have HB7 := Lib.hid (HB6.out.trans (hb7.mono HB6.out.size))
              clear hb7 HA6 HB6 O2
              go_wp2_with fail
              refine (O1.out _ HA7.out).mono ?_
              rintro e w8 ⟨rfl, hb8⟩
              have HA8 := Lib.hid (HA7.out.later hb8)
              have HB8 := Lib.hid (HB7.out.trans (hb8.mono HB7.out.size))
              clear hb8 HA7 HB7 O1
              go_wp2_with fail
              refine (O3.out _ HA8.out).mono ?_
              rintro e w9 ⟨rfl, hb9⟩
              have HA9 := Lib.hid (HA8.out.later hb9)
              have HB9 := Lib.hid (HB8.out.trans (hb9.mono HB8.out.size))
              clear hb9 HA8 HB8 O3
              go_wp2
              go_roundg (k - (i + 1))
              case measure => omega
              case rel => exact ⟨i + 1, by go_num, by omega, Nat.le_refl _, HA9, HB9⟩
            · obtain rfl : i = k := by omega
              have L1 := Lib.hid (len_calls HAT.out)
              have L2 := Lib.hid (sets_calls HAT.out)
              rw [HML.out, show ((i + 1 : Nat) : Int) = (i : Int) + 1 by omega] at L1
              go_wp2_with fail
              refine L1.out.mono ?_
              rintro e w6 ⟨rfl, rfl⟩
              go_wp2_with fail
              refine L2.out.mono ?_
              rintro e w7 ⟨rfl, rfl⟩
              go_wp2
              go_ret
              exact ⟨rfl, HB.out⟩
end Go.Proofs.Ytnfnnmmblommiaa.PA
