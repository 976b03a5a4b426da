/- What a cut tells, in plain lists: classes are masks of sets; between two places nothing changes. Of a list in order, each once: just its elements, in strict order. hornbooklaw4.known: by hand: it answers true. -/
import Derived.Test.YtnfnnmmblommiaaCMeth
namespace Go.Proofs.Ytnfnnmmblommiaa.PA
open Go.RowKit Go.Shelf Go.Proofs.YtnfnnmmblommiaaW.PrintWords Go.Proofs.YtnfnnmmblommiaaW.PrintLast Go.Proofs.YtnfnnmmblommiaaW.PrintMore
open Go.Lib (compactUpTo keeps compactUpTo_succ)
set_option linter.unusedVariables false
set_option linter.unusedSimpArgs false

theorem idxL_append_old {ms : List Int} {m x : Int} (h : x ∈ ms) : idxL (ms ++ [m]) x = idxL ms x := by
  unfold idxL
  rw [List.findIdx_append, if_pos]
  exact idxL_lt.2 h
theorem idxL_append_new {ms : List Int} {m : Int} (h : m ∉ ms) : idxL (ms ++ [m]) m = ms.length := by
  unfold idxL
  rw [List.findIdx_append, if_neg]
  · simp
  · intro h2; exact h (idxL_lt.1 h2)
theorem idxL_none {ms : List Int} {m : Int} (h : m ∉ ms) : idxL ms m = ms.length := by
  have h1 := idxL_le ms m
  rcases Nat.lt_or_ge (idxL ms m) ms.length with h2 | h2
  · exact absurd (idxL_lt.1 h2) h
  · omega
/-- How far a cut has come. -/
structure CutInv (S : List (List Rg)) (L : List Int) (st : List Pc × List Int) : Prop where
  nodup : st.2.Nodup
  mem : ∀ x, x ∈ st.2 ↔ ∃ lo ∈ L, x = maskI S lo
  pcs : st.1 = L.map (fun lo => ⟨lo, (idxL st.2 (maskI S lo) : Int)⟩)
  first : ∀ k k' : Nat, ∀ hkk : k < k', ∀ hk : k' < st.2.length, ∃ i, ∃ hi : i < L.length, maskI S L[i] = st.2[k]'(by omega) ∧ ∀ j, ∀ hj : j ≤ i, maskI S (L[j]'(by omega)) ≠ st.2[k']
theorem cut_inv (S : List (List Rg)) (los : List Int) : ∀ n, n ≤ los.length → CutInv S (los.take n) (cutOf S (los.take n))
  | 0, _ => by
    refine ⟨by simp [cutOf], fun x => by simp [cutOf], by simp [cutOf], fun k k' h hk => ?_⟩
    simp [cutOf] at hk
  | n + 1, h => by
    have ih := cut_inv S los n (by omega)
    have hlt : n < los.length := by omega
    rw [cutOf_take S hlt]
    have hrd : rd los (n : Int) = los[n] := by simp [rd, hlt]
    have htk : los.take (n + 1) = los.take n ++ [los[n]] := List.take_succ_eq_append_getElem hlt
    rw [hrd, htk]
    have hln : (los.take n).length = n := by rw [List.length_take]; omega
    generalize los.take n = L at ih hln ⊢
    generalize los[n] = lo
    generalize cutOf S L = st at ih ⊢
    obtain ⟨ps, ms⟩ := st
    obtain ⟨i1, i2, i3, i4⟩ := ih
    dsimp only at i1 i2 i3 i4
    unfold cutStep
    dsimp only
    have getL : ∀ i (hi : i < L.length), (L ++ [lo])[i]'(by simp; omega) = L[i] := fun i hi => List.getElem_append_left hi
    by_cases hin : maskI S lo ∈ ms
    · rw [if_pos (idxL_lt.2 hin)]
      refine ⟨i1, fun x => ?_, ?_, fun k k' hk hk' => ?_⟩
      · rw [i2]
        constructor
        · rintro ⟨y, hy, e⟩; exact ⟨y, by simp [hy], e⟩
        · rintro ⟨y, hy, e⟩
          rcases List.mem_append.1 hy with hy | hy
          · exact ⟨y, hy, e⟩
          · obtain rfl : y = lo := by simpa using hy
            subst e
            exact (i2 _).1 hin
      · simp only [List.map_append, List.map_cons, List.map_nil]
        rw [← i3]
      · obtain ⟨i, hi, e1, e2⟩ := i4 k k' hk hk'
        refine ⟨i, by simp; omega, by rw [getL i hi]; exact e1, fun j hj => ?_⟩
        rw [getL j (by omega)]
        exact e2 j hj
    · have hno := idxL_none hin
      rw [if_neg (by omega)]
      refine ⟨?_, fun x => ?_, ?_, fun k k' hk hk' => ?_⟩
      · rw [List.nodup_append]
        refine ⟨i1, by simp, fun a ha b hb => ?_⟩
        obtain rfl : b = maskI S lo := by simpa using hb
        intro e; subst e; exact hin ha
      · rw [List.mem_append, i2]
        constructor
        · rintro (⟨y, hy, e⟩ | hx)
          · exact ⟨y, by simp [hy], e⟩
          · exact ⟨lo, by simp, by simpa using hx⟩
        · rintro ⟨y, hy, e⟩
          rcases List.mem_append.1 hy with hy | hy
          · exact .inl ⟨y, hy, e⟩
          · obtain rfl : y = lo := by simpa using hy
            exact .inr (by simp [e])
      · simp only [List.map_append, List.map_cons, List.map_nil]
        rw [idxL_append_new hin, hno]
        congr 1
        rw [i3]
        apply List.map_congr_left
        intro y hy
        rw [idxL_append_old ((i2 _).2 ⟨y, hy, rfl⟩)]
      · simp only [List.length_append, List.length_cons, List.length_nil] at hk'
        rcases Nat.lt_or_ge k' ms.length with h5 | h5
        · obtain ⟨i, hi, e1, e2⟩ := i4 k k' hk h5
          refine ⟨i, by simp; omega, by rw [getL i hi, List.getElem_append_left]; exact e1, fun j hj => ?_⟩
          rw [getL j (by omega), List.getElem_append_left h5]
          exact e2 j hj
        · obtain rfl : k' = ms.length := by omega
          obtain ⟨y, hy, e⟩ := (i2 ms[k]).1 (List.getElem_mem _)
          obtain ⟨i, hi, rfl⟩ := List.getElem_of_mem hy
          refine ⟨i, by simp; omega, by rw [getL i hi, List.getElem_append_left hk, e], fun j hj => ?_⟩
          rw [getL j (by omega), List.getElem_append_right (Nat.le_refl _)]
          simp only [Nat.sub_self, List.getElem_cons_zero]
          intro e5
          exact hin (e5 ▸ (i2 _).2 ⟨_, List.getElem_mem _, rfl⟩)
theorem ends_bound {S : List (List Rg)} {x : Int} (h : x ∈ endsL S) : 0 ≤ x ∧ x ≤ 1114111 := by
  rcases List.mem_cons.1 h with rfl | h
  · omega
  · obtain ⟨l, hl, hx⟩ := List.mem_flatMap.1 h
    obtain ⟨y, hy, hx⟩ := List.mem_flatMap.1 hx
    have hg := good_iff.1 (IsF.good (by omega) (norm_isC _) y hy)
    rcases List.mem_cons.1 hx with rfl | hx
    · omega
    · split at hx
      · obtain rfl : x = y.f1 + 1 := by simpa using hx
        omega
      · simp at hx
theorem norm_nil (l : List Rg) (r : Int) : hasL (norm (l ++ [])) r = hasL l r := by rw [norm_has, List.append_nil]
/-- Between two places nothing changes. -/
theorem has_const {S : List (List Rg)} {los : List Int} (h : LosOf los S) {l : List Rg} (hl : l ∈ S) {a r : Int} (ha : 0 ≤ a) (har : a ≤ r) (hr : r ≤ 1114111) (hno : ∀ x ∈ los, x ≤ a ∨ r < x) : hasL l a = hasL l r := by
  rw [Bool.eq_iff_iff, ← norm_nil l a, ← norm_nil l r]
  have e1 : ∀ y ∈ norm (l ++ []), y.f0 ∈ los := fun y hy => (h.mem _).2 (List.mem_cons_of_mem _ (List.mem_flatMap.2 ⟨l, hl, List.mem_flatMap.2 ⟨y, hy, List.mem_cons_self⟩⟩))
  have e2 : ∀ y ∈ norm (l ++ []), y.f1 < 1114111 → y.f1 + 1 ∈ los := fun y hy hlt => (h.mem _).2 (List.mem_cons_of_mem _ (List.mem_flatMap.2 ⟨l, hl, List.mem_flatMap.2 ⟨y, hy, by unfold pts; rw [if_pos hlt]; simp⟩⟩))
  constructor
  · intro hh
    obtain ⟨y, hy, hg, h1, h2⟩ := hasL_iff.1 hh
    refine hasL_iff.2 ⟨y, hy, hg, by omega, ?_⟩
    rcases Int.lt_or_le y.f1 r with h3 | h3
    · have := hno _ (e2 y hy (by omega)); omega
    · exact h3
  · intro hh
    obtain ⟨y, hy, hg, h1, h2⟩ := hasL_iff.1 hh
    refine hasL_iff.2 ⟨y, hy, hg, ?_, by omega⟩
    have := hno _ (e1 y hy); omega
theorem exists_last (p : Nat → Prop) (hd : ∀ x, p x ∨ ¬ p x) : ∀ n, 0 < n → p 0 → ∃ q, q < n ∧ p q ∧ ∀ x, q < x → x < n → ¬ p x
  | 0, h, _ => absurd h (Nat.lt_irrefl _)
  | 1, _, h0 => ⟨0, by omega, h0, fun x h1 h2 => by omega⟩
  | n + 2, _, h0 => by
    rcases hd (n + 1) with h | h
    · exact ⟨n + 1, by omega, h, fun x h1 h2 => by omega⟩
    · obtain ⟨q, h1, h2, h3⟩ := exists_last p hd (n + 1) (by omega) h0
      refine ⟨q, by omega, h2, fun x hx hx2 => ?_⟩
      rcases Nat.lt_or_ge x (n + 1) with h4 | h4
      · exact h3 x hx h4
      · obtain rfl : x = n + 1 := by omega
        exact h
/-- All that a cut tells. -/
structure Facts (S : List (List Rg)) (ps : List Pc) (ms : List Int) : Prop where
  inc : Inc ps
  pos : 0 < ps.length
  head : (rd_T83 ps ((0 : Nat) : Int)).f0 = 0
  bound : ∀ p ∈ ps, 0 ≤ p.f0 ∧ p.f0 ≤ 1114111
  cls : ∀ r q, 0 ≤ r → r ≤ 1114111 → PieceAt ps r q → (rd_T83 ps (q : Int)).f1 = (idxL ms (maskI S r) : Int) ∧ maskI S r ∈ ms
  piece : ∀ r, 0 ≤ r → r ≤ 1114111 → ∃ q, PieceAt ps r q
  nodup : ms.Nodup
  mem : ∀ x, x ∈ ms ↔ ∃ r, 0 ≤ r ∧ r ≤ 1114111 ∧ x = maskI S r
  u64 : ∀ m ∈ ms, 0 ≤ m ∧ m < 18446744073709551616
  first : ∀ k k' : Nat, ∀ hkk : k < k', ∀ hk : k' < ms.length, ∃ a, 0 ≤ a ∧ a ≤ 1114111 ∧ maskI S a = ms[k] ∧ ∀ r, 0 ≤ r → r ≤ a → maskI S r ≠ ms[k']
theorem mask_u64 {S : List (List Rg)} (hS : S.length ≤ 64) (r : Int) : 0 ≤ maskI S r ∧ maskI S r < 18446744073709551616 := by
  unfold maskI
  have h1 := mkN_lt S r S.length
  have h2 : (2 : Nat) ^ S.length ≤ 2 ^ 64 := Nat.pow_le_pow_right (by omega) hS
  have h3 : (2 : Nat) ^ 64 = 18446744073709551616 := by rfl
  omega
theorem mask_eq {S : List (List Rg)} {r s : Int} : maskI S r = maskI S s ↔ ∀ j, j < S.length → hasAt S j r = hasAt S j s := by
  unfold maskI
  rw [Int.natCast_inj, mkN_eq]
theorem hasAt_get {S : List (List Rg)} {j : Nat} (h : j < S.length) (r : Int) : hasAt S j r = hasL S[j] r := by
  unfold hasAt rd_L2; simp [h]
theorem cut_facts {S : List (List Rg)} {los : List Int} (h : LosOf los S) (hS : S.length ≤ 64) : Facts S (cutOf S los).1 (cutOf S los).2 ∧ (cutOf S los).1.map (·.f0) = los := by
  have I := cut_inv S los los.length (Nat.le_refl _)
  rw [List.take_length] at I
  generalize cutOf S los = st at I ⊢
  obtain ⟨ps, ms⟩ := st
  obtain ⟨i1, i2, i3, i4⟩ := I
  dsimp only at i1 i2 i3 i4 ⊢
  have hf0 : ps.map (·.f0) = los := by rw [i3]; simp [Function.comp_def]
  have hlen : ps.length = los.length := by rw [← hf0]; simp
  have hget : ∀ q (hq : q < los.length), rd_T83 ps (q : Int) = ⟨los[q], (idxL ms (maskI S los[q]) : Int)⟩ := fun q hq => by
    unfold rd_T83
    rw [Int.toNat_natCast, i3]
    simp [hq]
  have h0 : (0 : Int) ∈ los := (h.mem 0).2 (by simp [endsL])
  have hpos : 0 < los.length := List.length_pos_of_mem h0
  have hb : ∀ x ∈ los, 0 ≤ x ∧ x ≤ 1114111 := fun x hx => ends_bound ((h.mem x).1 hx)
  have hsort : ∀ i j (hi : i < los.length) (hj : j < los.length), i < j → los[i] < los[j] := fun i j hi hj hij => List.pairwise_iff_getElem.1 h.lt i j hi hj hij
  have hhead : los[0] = 0 := by
    obtain ⟨i, hi, e⟩ := List.getElem_of_mem h0
    rcases Nat.eq_zero_or_pos i with rfl | hp
    · exact e
    · have := hsort 0 i hpos hi hp
      have := hb los[0] (List.getElem_mem _)
      omega
  have hpiece : ∀ r, 0 ≤ r → r ≤ 1114111 → ∃ q, PieceAt ps r q := fun r hr0 hr1 => by
    obtain ⟨q, h1, h2, h3⟩ := exists_last (fun x => ∀ hx : x < los.length, los[x] ≤ r) (fun x => Classical.em _) los.length hpos (fun _ => by rw [hhead]; exact hr0)
    refine ⟨q, by omega, by rw [hget q h1]; exact h2 h1, fun x hx hx2 => ?_⟩
    rw [hget x (by omega)]
    have := h3 x hx (by omega)
    rcases Int.lt_or_le r los[x] with h5 | h5
    · exact h5
    · exact absurd (fun _ => h5) this
  have hmask : ∀ r q, 0 ≤ r → r ≤ 1114111 → PieceAt ps r q → ∃ hq : q < los.length, maskI S los[q] = maskI S r := fun r q hr0 hr1 hq => by
    have hql : q < los.length := by have := hq.lt; omega
    refine ⟨hql, mask_eq.2 fun j hj => ?_⟩
    rw [hasAt_get hj, hasAt_get hj]
    have hlo := hq.lo
    rw [hget q hql] at hlo
    dsimp only at hlo
    refine has_const h (List.getElem_mem _) (hb _ (List.getElem_mem _)).1 hlo hr1 fun x hx => ?_
    obtain ⟨i, hi, rfl⟩ := List.getElem_of_mem hx
    rcases Nat.lt_or_ge q i with h5 | h5
    · have := hq.hi i h5 (by omega)
      rw [hget i hi] at this
      exact .inr this
    · rcases Nat.lt_or_ge i q with h6 | h6
      · have := hsort i q hi hql h6; exact .inl (by omega)
      · obtain rfl : i = q := by omega
        exact .inl (Int.le_refl _)
  refine ⟨⟨?_, by omega, by rw [hget 0 hpos]; exact hhead, ?_, ?_, hpiece, i1, ?_, ?_, ?_⟩, hf0⟩
  · unfold Inc
    rw [i3, List.pairwise_map]
    exact h.lt
  · intro p hp
    rw [i3] at hp
    obtain ⟨lo, hlo, rfl⟩ := List.mem_map.1 hp
    exact hb lo hlo
  · intro r q hr0 hr1 hq
    obtain ⟨hql, e⟩ := hmask r q hr0 hr1 hq
    rw [hget q hql, ← e]
    exact ⟨rfl, (i2 _).2 ⟨_, List.getElem_mem _, rfl⟩⟩
  · intro x
    rw [i2]
    constructor
    · rintro ⟨lo, hlo, e⟩; exact ⟨lo, (hb lo hlo).1, (hb lo hlo).2, e⟩
    · rintro ⟨r, hr0, hr1, e⟩
      obtain ⟨q, hq⟩ := hpiece r hr0 hr1
      obtain ⟨hql, e2⟩ := hmask r q hr0 hr1 hq
      exact ⟨_, List.getElem_mem _, e.trans e2.symm⟩
  · intro m hm
    obtain ⟨lo, _, rfl⟩ := (i2 m).1 hm
    exact mask_u64 hS lo
  · intro k k' hk hk'
    obtain ⟨i, hi, e1, e2⟩ := i4 k k' hk hk'
    refine ⟨los[i], (hb _ (List.getElem_mem _)).1, (hb _ (List.getElem_mem _)).2, e1, fun r hr0 hr1 => ?_⟩
    obtain ⟨q, hq⟩ := hpiece r hr0 (Int.le_trans hr1 (hb _ (List.getElem_mem _)).2)
    obtain ⟨hql, e3⟩ := hmask r q hr0 (Int.le_trans hr1 (hb _ (List.getElem_mem _)).2) hq
    rw [← e3]
    have hlo := hq.lo
    rw [hget q hql] at hlo
    dsimp only at hlo
    refine e2 q ?_
    rcases Nat.lt_or_ge i q with h5 | h5
    · have := hsort i q hi hql h5; omega
    · exact h5
end Go.Proofs.Ytnfnnmmblommiaa.PA
namespace Go.Proofs.Ytnfnnmmblommiaa.PA
open Go.RowKit Go.Shelf Go.Proofs.YtnfnnmmblommiaaW.PrintWords Go.Proofs.YtnfnnmmblommiaaW.PrintLast Go.Proofs.YtnfnnmmblommiaaW.PrintMore
open Go.Lib (compactUpTo keeps compactUpTo_succ)
set_option linter.unusedVariables false
set_option linter.unusedSimpArgs false

theorem compact_inv (ys : List Int) (hs : ys.Pairwise (fun x y => x ≤ y)) : ∀ m, m ≤ ys.length →
    (compactUpTo ys.toArray m).Pairwise (fun x y => x < y) ∧ (∀ x, x ∈ compactUpTo ys.toArray m ↔ ∃ j, ∃ hj : j < ys.length, j < m ∧ ys[j] = x)
  | 0, _ => by
    constructor
    · simp [compactUpTo]
    · intro x; simp [compactUpTo]
  | m + 1, h => by
    obtain ⟨i1, i2⟩ := compact_inv ys hs m (by omega)
    have hm : m < ys.length := by omega
    have hg : ys.toArray[m]! = ys[m] := by simp [hm]
    rw [compactUpTo_succ]
    by_cases hk : keeps ys.toArray m = true
    · rw [if_pos hk, hg]
      refine ⟨?_, fun x => ?_⟩
      · rw [List.pairwise_append]
        refine ⟨i1, by simp, fun a ha b hb => ?_⟩
        obtain rfl : b = ys[m] := by simpa using hb
        obtain ⟨j, hj, hjm, rfl⟩ := (i2 a).1 ha
        have hle := List.pairwise_iff_getElem.1 hs j m hj hm hjm
        unfold keeps at hk
        have hk2 := of_decide_eq_true hk
        have hm1 : ys.toArray[m - 1]! = ys[m - 1]'(by omega) := by simp [show m - 1 < ys.length by omega]
        rw [hg, hm1] at hk2
        have h3 : ys[j] ≤ ys[m - 1]'(by omega) := by
          rcases Nat.lt_or_ge j (m - 1) with h4 | h4
          · exact List.pairwise_iff_getElem.1 hs j (m - 1) hj (by omega) h4
          · have : j = m - 1 := by omega
            subst this; exact Int.le_refl _
        have h5 : ys[m - 1]'(by omega) ≤ ys[m] := List.pairwise_iff_getElem.1 hs (m - 1) m (by omega) hm (by omega)
        rcases hk2 with h6 | h6
        · omega
        · omega
      · rw [List.mem_append, i2]
        constructor
        · rintro (⟨j, hj, h1, h2⟩ | hx)
          · exact ⟨j, hj, by omega, h2⟩
          · exact ⟨m, hm, by omega, by simpa using Eq.symm (List.mem_singleton.1 hx)⟩
        · rintro ⟨j, hj, h1, h2⟩
          rcases Nat.lt_or_ge j m with h3 | h3
          · exact .inl ⟨j, hj, h3, h2⟩
          · have : j = m := by omega
            subst this
            exact .inr (by simp [h2])
    · rw [if_neg hk, List.append_nil]
      refine ⟨i1, fun x => ?_⟩
      rw [i2]
      constructor
      · rintro ⟨j, hj, h1, h2⟩; exact ⟨j, hj, by omega, h2⟩
      · rintro ⟨j, hj, h1, h2⟩
        rcases Nat.lt_or_ge j m with h3 | h3
        · exact ⟨j, hj, h3, h2⟩
        · have hjm : j = m := by omega
          subst hjm
          unfold keeps at hk
          have hk2 : ¬ (j = 0 ∨ ys.toArray[j]! ≠ ys.toArray[j - 1]!) := fun h => hk (decide_eq_true h)
          have hm1 : ys.toArray[j - 1]! = ys[j - 1]'(by omega) := by simp [show j - 1 < ys.length by omega]
          rw [hg, hm1] at hk2
          refine ⟨j - 1, by omega, by omega, ?_⟩
          rw [← h2]
          exact (Classical.byContradiction fun h => hk2 (.inr (fun e => h e.symm)))
theorem los_of {ys : List Int} {S : List (List Rg)} (h : InOrder ys (endsL S)) : LosOf (compactL ys) S := by
  obtain ⟨h1, h2⟩ := compact_inv ys h.le ys.length (Nat.le_refl _)
  refine ⟨h1, fun x => ?_⟩
  unfold compactL
  rw [h2, ← h.perm.mem_iff]
  constructor
  · rintro ⟨j, hj, _, rfl⟩; exact List.getElem_mem _
  · intro hx
    obtain ⟨j, hj, e⟩ := List.getElem_of_mem hx
    exact ⟨j, hj, hj, e⟩
theorem los_unique : ∀ {a b : List Int}, a.Pairwise (fun x y => x < y) → b.Pairwise (fun x y => x < y) → (∀ x, x ∈ a ↔ x ∈ b) → a = b
  | [], [], _, _, _ => rfl
  | [], y :: ys, _, _, h => by have := (h y).2 List.mem_cons_self; cases this
  | x :: xs, [], _, _, h => by have := (h x).1 List.mem_cons_self; cases this
  | x :: xs, y :: ys, ha, hb, h => by
    obtain ⟨a1, a2⟩ := List.pairwise_cons.1 ha
    obtain ⟨b1, b2⟩ := List.pairwise_cons.1 hb
    have hxy : x = y := by
      have h1 := (h x).1 List.mem_cons_self
      have h2 := (h y).2 List.mem_cons_self
      rcases List.mem_cons.1 h1 with e | e
      · exact e
      · rcases List.mem_cons.1 h2 with e2 | e2
        · exact e2.symm
        · have := a1 y e2; have := b1 x e; omega
    subst hxy
    congr 1
    refine los_unique a2 b2 fun z => ?_
    constructor
    · intro hz
      rcases List.mem_cons.1 ((h z).1 (List.mem_cons_of_mem _ hz)) with e | e
      · have := a1 z hz; omega
      · exact e
    · intro hz
      rcases List.mem_cons.1 ((h z).2 (List.mem_cons_of_mem _ hz)) with e | e
      · have := b1 z hz; omega
      · exact e
theorem ends_length (S : List (List Rg)) (N : Nat) (h : ∀ l ∈ S, l.length ≤ N) : (endsL S).length ≤ 1 + S.length * (2 * N) := by
  unfold endsL
  rw [List.length_cons]
  suffices H : (S.flatMap endsOf).length ≤ S.length * (2 * N) by omega
  induction S with
  | nil => simp
  | cons l ls ih =>
    rw [List.flatMap_cons, List.length_append, List.length_cons, Nat.add_mul]
    have h1 := ih (fun x hx => h x (List.mem_cons_of_mem _ hx))
    have h2 : (endsOf l).length ≤ 2 * (norm (l ++ [])).length := by
      unfold endsOf
      generalize norm (l ++ []) = u
      induction u with
      | nil => simp
      | cons y ys ih2 =>
        rw [List.flatMap_cons, List.length_append, List.length_cons]
        have : (pts y).length ≤ 2 := by unfold pts; split <;> simp
        omega
    have h3 := norm_length (l ++ [])
    have h4 : (l ++ ([] : List Rg)).length = l.length := by simp
    have h5 := h l List.mem_cons_self
    omega
/-- classes.Cut: what it hands over. -/
theorem cut_calls (w : World) (A : Option Addr) (c : Nat) (sets : List (List Rg)) (hl : sets.length < 1000) (hc : sets.length ≤ c) (hls : ∀ l ∈ sets, l.length ≤ 50000) (hr : Kd.C (Kd.slice 41 k41) w A sets.length sets) :
    Calls Try.prog 24 #[.slice A sets.length c] w fun e w' => ∃ g los, e = .returned (.pointer (some ⟨g, 0, none⟩)) ∧ LosOf los (ss sets) ∧ ClsAt w' g ((ss sets).length : Int) (cutOf (ss sets) los).1 (cutOf (ss sets) los).2 ∧ Below w.heap.size w w' ∧ w.heap.size ≤ g := by
  have h1 : ∀ l ∈ ss sets, l.length ≤ 50000 := fun l hm => hls l (List.mem_of_mem_take hm)
  have h2 := ends_length (ss sets) 50000 h1
  have h3 : (ss sets).length ≤ 64 := by unfold ss; rw [List.length_take]; omega
  have h4 : (ss sets).length * (2 * 50000) ≤ 64 * (2 * 50000) := Nat.mul_le_mul_right _ h3
  exact cut_walk w A c sets hl hc (fun l hl => by have := hls l hl; omega) hr (by omega) (fun ys hy => los_of hy)
end Go.Proofs.Ytnfnnmmblommiaa.PA
namespace Go.Proofs.Ytnfnnmmblommiaa.PA
open Go.RowKit Go.Shelf Go.Proofs.YtnfnnmmblommiaaW.PrintWords Go.Proofs.YtnfnnmmblommiaaW.PrintLast Go.Proofs.YtnfnnmmblommiaaW.PrintMore
set_option linter.unusedVariables false
set_option linter.unusedSimpArgs false

theorem row_one {α : Type} {d : Kd α} {w : World} {x : α} {cs : Array Value} {e : TypeId} (h : d.K (w.alloc (.cells cs e)) x cs.toList) (hs : cs.size = d.sz) : d.C (w.alloc (.cells cs e)) (some ⟨w.heap.size, 0, none⟩) 1 [x] := by
  refine ⟨rfl, by omega, fun _ => ⟨_, rfl, fun j p hp => ?_⟩⟩
  rcases j with _ | j
  · cases hp
    refine ⟨cs.toList, by simpa using hs, h, fun i u hi => ?_⟩
    rw [Nat.zero_mul, Nat.zero_add, add_plain]
    exact cell_new i (by simpa using hi)
  · simp at hp
theorem one_set (w : World) (a b : Int) : Kd.C (Kd.slice 41 k41) ((w.alloc (.cells #[.int .i32 a, .int .i32 b] 41)).alloc (.cells #[.slice (some ⟨w.heap.size, 0, none⟩) 1 1] 26)) (some ⟨w.heap.size + 1, 0, none⟩) 1 [[⟨a, b⟩]] := by
  have h1 : Kd.C k41 (w.alloc (.cells #[.int .i32 a, .int .i32 b] 41)) (some ⟨w.heap.size, 0, none⟩) 1 [(⟨a, b⟩ : Rg)] := row_one (k41_mk _ _) rfl
  have h2 := row_one (d := Kd.slice 41 k41) (w := w.alloc (.cells #[.int .i32 a, .int .i32 b] 41)) (x := [(⟨a, b⟩ : Rg)]) (cs := #[.slice (some ⟨w.heap.size, 0, none⟩) 1 1]) (e := 26) ⟨_, 1, rfl, Nat.le_refl _, Kd.C_alloc h1 _⟩ rfl
  rw [World.size_alloc] at h2
  exact h2
abbrev KS : List (List Rg) := [[⟨97, 122⟩]]
theorem ks_los {los : List Int} (h : LosOf los (ss KS)) : los = [0, 97, 123] := by
  have hn : norm ([(⟨97, 122⟩ : Rg)] ++ []) = [⟨97, 122⟩] := norm_norm (by unfold IsC IsF; exact ⟨by decide, by decide, by decide, trivial⟩)
  refine los_unique h.lt (by simp) fun x => ?_
  rw [h.mem]
  show x ∈ (0 :: [[(⟨97, 122⟩ : Rg)]].flatMap endsOf) ↔ _
  simp only [List.flatMap_cons, List.flatMap_nil, List.append_nil]
  unfold endsOf
  rw [hn]
  simp [pts]
theorem ks_cut : cutOf KS [0, 97, 123] = ([⟨0, 0⟩, ⟨97, 1⟩, ⟨123, 0⟩], [0, 1]) := rfl
theorem nil_los {los : List Int} (h : LosOf los (ss [])) : los = [0] := by
  refine los_unique h.lt (by simp) fun x => ?_
  rw [h.mem]
  simp [ss, endsL]
theorem nil_cut : cutOf [] [0] = ([⟨0, 0⟩], [0]) := rfl
/-- What Of tells, by the facts of a cut. -/
def clsOf (S : List (List Rg)) (ms : List Int) (r : Int) : Int := if r < 0 ∨ r > 1114111 then -1 else (idxL ms (maskI S r) : Int)
theorem of_fact {S : List (List Rg)} {W : World} {g : Nat} {n : Int} {ps : List Pc} {ms : List Int} (h : ClsAt W g n ps ms) (F : Facts S ps ms) (hl : ps.length < 1000000000) (r : Int) (h3 : -2147483648 ≤ r) (h4 : r ≤ 2147483647) :
    Calls Try.prog 25 #[.pointer (some ⟨g, 0, none⟩), .int .i32 r] W fun e w' => e = .returned (.int .i64 (clsOf S ms r)) ∧ Below W.heap.size W w' := by
  refine (of_calls h r h3 h4 F.inc hl F.bound F.pos F.head).mono ?_
  rintro e w' ⟨v, rfl, h1, h2, hb⟩
  refine ⟨?_, hb⟩
  unfold clsOf
  by_cases hr : r < 0 ∨ r > 1114111
  · rw [if_pos hr, h1 hr]
  · rw [if_neg hr]
    obtain ⟨q, hq, e⟩ := h2 (by omega) (by omega)
    rw [e, (F.cls r q (by omega) (by omega) hq).1]
set_option maxRecDepth 100000 in
set_option maxHeartbeats 8000000 in
theorem known_calls (w : World) : Calls Try.prog 23 #[] w fun e w' => e = .returned (.bool true) ∧ Below w.heap.size w w' := by
  have hu := Try.underlying41
  obtain ⟨w1, hw1⟩ : ∃ w1, (w.alloc (.cells #[.int .i32 97, .int .i32 122] 41)).alloc (.cells #[.slice (some ⟨w.heap.size, 0, none⟩) 1 1] 26) = w1 := ⟨_, rfl⟩
  have hb1 : Below w.heap.size w w1 := by rw [← hw1]; exact ((Below.refl _ w).alloc (Nat.le_refl _) _).alloc (by simp) _
  have hC : Kd.C (Kd.slice 41 k41) w1 (some ⟨w.heap.size + 1, 0, none⟩) 1 KS := by rw [← hw1]; exact one_set w 97 122
  have HC1 := Lib.hid (cut_calls w1 (some ⟨w.heap.size + 1, 0, none⟩) 1 KS (by decide) (Nat.le_refl _) (by intro l hl; simp at hl; subst hl; decide) hC)
  have HB1 := Lib.hid hb1
  clear hC hb1
  go_enter Try.func23, Try.ntmps23
  go_wp2_with fail
  refine HC1.out.mono ?_
  rintro e w2 ⟨g, los, rfl, hlos, hAt, hb2, _⟩
  have hF := (cut_facts hlos (by decide)).1
  obtain rfl := ks_los hlos
  rw [show ss KS = KS from rfl, ks_cut] at hAt hF
  dsimp only at hAt hF
  have HA := Lib.hid hAt
  have HF := Lib.hid hF
  have HB2 := Lib.hid (HB1.out.trans (hb2.mono HB1.out.size))
  clear hlos hAt hF hb2 HC1 HB1
  have neqp := fun W : World => (show (binOp .neq 42 (.pointer (some ⟨g, 0, none⟩)) (.pointer none)).run Try.prog W = .ok (.bool true) W from by kernel_rfl)
  have L1 := Lib.hid (fun (W : World) (h : ClsAt W g ((KS.length : Nat) : Int) [⟨0, 0⟩, ⟨97, 1⟩, ⟨123, 0⟩] [0, 1]) => (show Calls Try.prog 26 #[.pointer (some ⟨g, 0, none⟩)] W fun e w' => e = .returned (.int .i64 2) ∧ w' = W from len_calls h))
  have L2 := Lib.hid (fun (W : World) (h : ClsAt W g ((KS.length : Nat) : Int) [⟨0, 0⟩, ⟨97, 1⟩, ⟨123, 0⟩] [0, 1]) => (show Calls Try.prog 27 #[.pointer (some ⟨g, 0, none⟩)] W fun e w' => e = .returned (.int .i64 1) ∧ w' = W from sets_calls h))
  have O0 := Lib.hid (fun (W : World) (h : ClsAt W g ((KS.length : Nat) : Int) [⟨0, 0⟩, ⟨97, 1⟩, ⟨123, 0⟩] [0, 1]) => (show Calls Try.prog 25 #[.pointer (some ⟨g, 0, none⟩), .int .i32 0] W fun e w' => e = .returned (.int .i64 0) ∧ Below W.heap.size W w' from of_fact h HF.out (by decide) 0 (by decide) (by decide)))
  have O1 := Lib.hid (fun (W : World) (h : ClsAt W g ((KS.length : Nat) : Int) [⟨0, 0⟩, ⟨97, 1⟩, ⟨123, 0⟩] [0, 1]) => (show Calls Try.prog 25 #[.pointer (some ⟨g, 0, none⟩), .int .i32 98] W fun e w' => e = .returned (.int .i64 1) ∧ Below W.heap.size W w' from of_fact h HF.out (by decide) 98 (by decide) (by decide)))
  have O2 := Lib.hid (fun (W : World) (h : ClsAt W g ((KS.length : Nat) : Int) [⟨0, 0⟩, ⟨97, 1⟩, ⟨123, 0⟩] [0, 1]) => (show Calls Try.prog 25 #[.pointer (some ⟨g, 0, none⟩), .int .i32 (-1)] W fun e w' => e = .returned (.int .i64 (-1)) ∧ Below W.heap.size W w' from of_fact h HF.out (by decide) (-1) (by decide) (by decide)))
  have I1 := Lib.hid (fun (W : World) (h : ClsAt W g ((KS.length : Nat) : Int) [⟨0, 0⟩, ⟨97, 1⟩, ⟨123, 0⟩] [0, 1]) => (show Calls Try.prog 32 #[.pointer (some ⟨g, 0, none⟩), .int .i64 1, .int .i64 0] W fun e w' => e = .returned (.bool true) ∧ w' = W from in_calls h 1 0 (by decide) HF.out.u64 (by decide)))
  have I0 := Lib.hid (fun (W : World) (h : ClsAt W g ((KS.length : Nat) : Int) [⟨0, 0⟩, ⟨97, 1⟩, ⟨123, 0⟩] [0, 1]) => (show Calls Try.prog 32 #[.pointer (some ⟨g, 0, none⟩), .int .i64 0, .int .i64 0] W fun e w' => e = .returned (.bool false) ∧ w' = W from in_calls h 0 0 (by decide) HF.out.u64 (by decide)))
  clear hw1
  go_wp2_with fail
  refine (L1.out _ HA.out).mono ?_
  rintro e w3 ⟨rfl, rfl⟩
  go_wp2_with fail
  refine (O0.out _ HA.out).mono ?_
  rintro e w4 ⟨rfl, hb4⟩
  have HA4 := Lib.hid (HA.out.later hb4)
  have HB4 := Lib.hid (HB2.out.trans (hb4.mono HB2.out.size))
  clear hb4 HA HB2 O0
  go_wp2_with fail
  refine (O1.out _ HA4.out).mono ?_
  rintro e w5 ⟨rfl, hb5⟩
  have HA5 := Lib.hid (HA4.out.later hb5)
  have HB5 := Lib.hid (HB4.out.trans (hb5.mono HB4.out.size))
  clear hb5 HA4 HB4 O1
  go_wp2_with fail
  refine (I1.out _ HA5.out).mono ?_
  rintro e w6 ⟨rfl, rfl⟩
  go_wp2_with fail
  refine (I0.out _ HA5.out).mono ?_
  rintro e w7 ⟨rfl, rfl⟩
  go_wp2_with fail
  refine (L2.out _ HA5.out).mono ?_
  rintro e w8 ⟨rfl, rfl⟩
  go_wp2_with fail
  refine (O2.out _ HA5.out).mono ?_
  rintro e w9 ⟨rfl, hb9⟩
  have HB9 := Lib.hid (HB5.out.trans (hb9.mono HB5.out.size))
  have HC2 := Lib.hid (cut_calls w9 none 0 [] (by decide) (Nat.le_refl _) (by intro l hl; cases hl) (Kd.R_reads' (Kd.R_nil (Kd.slice 41 k41) 26 w9 0 (fun _ => True))).2.2)
  clear hb9 HA5 HB5 O2 I1 I0 L1 L2 neqp HF
  go_wp2_with fail
  refine HC2.out.mono ?_
  rintro e w10 ⟨g2, los, rfl, hlos, hAt, hb10, _⟩
  obtain rfl := nil_los hlos
  rw [show ss ([] : List (List Rg)) = [] from rfl, nil_cut] at hAt
  dsimp only at hAt
  have HB10 := Lib.hid (HB9.out.trans (hb10.mono HB9.out.size))
  have L3 := Lib.hid (show Calls Try.prog 26 #[.pointer (some ⟨g2, 0, none⟩)] w10 fun e w' => e = .returned (.int .i64 1) ∧ w' = w10 from len_calls hAt)
  clear hlos hAt hb10 HB9 HC2
  go_wp2_with fail
  refine L3.out.mono ?_
  rintro e w11 ⟨rfl, rfl⟩
  go_wp2
  go_ret
  exact ⟨rfl, HB10.out⟩
end Go.Proofs.Ytnfnnmmblommiaa.PA
