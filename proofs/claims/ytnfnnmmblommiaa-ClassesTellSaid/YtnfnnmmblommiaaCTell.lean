/- ClassesTell in plain lists: the reference's places and classes; the class of a code point by the reference's rows. hornbookref3.Cut: the walk by hand: the places by add, then the classes by masks. ClassesTell: the walk by hand. -/
import Derived.Test.YtnfnnmmblommiaaCAdd
import Derived.Test.YtnfnnmmblommiaaSetRef
import Derived.Test.YtnfnnmmblommiaaPAx4
import Derived.Deep.RegionHeld3
import Derived.BigQuiet
import Derived.Test.YtnfnnmmblommiaaOpen
import Derived.Test.YtnfnnmmblommiaaPAx2
namespace Go.Proofs.Ytnfnnmmblommiaa.PA
open Go.RowKit Go.Shelf Go.Proofs.YtnfnnmmblommiaaW.PrintWords Go.Proofs.YtnfnnmmblommiaaW.PrintLast Go.Proofs.YtnfnnmmblommiaaW.PrintMore
set_option linter.unusedVariables false
set_option linter.unusedSimpArgs false

/-- The places behind the first i sets. -/
def refFrom (S : List (List Rg)) (i : Nat) : List Int := addAll [0] ((S.take i).flatMap endsOf)
/-- The places behind k ranges of the next set. -/
def refU (f : List Int) (u : List Rg) (k : Nat) : List Int := addAll f ((u.take k).flatMap pts)
theorem refFrom_zero (S : List (List Rg)) : refFrom S 0 = [0] := by simp [refFrom, addAll]
theorem refU_zero (f : List Int) (u : List Rg) : refU f u 0 = f := by simp [refU, addAll]
theorem refFrom_succ {S : List (List Rg)} {i : Nat} (h : i < S.length) : refFrom S (i + 1) = refU (refFrom S i) (norm (rd_L2 S (i : Int))) (norm (rd_L2 S (i : Int))).length := by
  have e : rd_L2 S (i : Int) = S[i] := by unfold rd_L2; simp [h]
  unfold refFrom refU
  rw [List.take_succ_eq_append_getElem h, List.flatMap_append, addAll_append, List.take_length, e]
  simp [endsOf]
theorem refU_succ {f : List Int} {u : List Rg} {k : Nat} (h : k < u.length) : refU f u (k + 1) = if (rd_T41 u (k : Int)).f1 < 1114111 then addI (addI (refU f u k) (rd_T41 u (k : Int)).f0) ((rd_T41 u (k : Int)).f1 + 1) else addI (refU f u k) (rd_T41 u (k : Int)).f0 := by
  have e : rd_T41 u (k : Int) = u[k] := by unfold rd_T41; simp [h]
  unfold refU
  rw [List.take_succ_eq_append_getElem h, List.flatMap_append, addAll_append, e]
  simp only [List.flatMap_cons, List.flatMap_nil, List.append_nil]
  unfold pts
  split <;> rfl
theorem refFrom_len {S : List (List Rg)} (hS : S.length ≤ 64) (h : ∀ l ∈ S, l.length ≤ 20) (i : Nat) : (refFrom S i).length ≤ 2600 := by
  have h1 := addAll_length ((S.take i).flatMap endsOf) [0]
  have h2 := ends_length (S.take i) 20 (fun l hl => h l (List.mem_of_mem_take hl))
  have h3 : (S.take i).length ≤ 64 := by rw [List.length_take]; omega
  have h4 : (S.take i).length * (2 * 20) ≤ 64 * (2 * 20) := Nat.mul_le_mul_right _ h3
  unfold endsL at h2
  unfold refFrom
  simp only [List.length_cons, List.length_nil] at h1 h2
  omega
theorem refU_len (f : List Int) (u : List Rg) (hu : u.length ≤ 20) (k : Nat) : (refU f u k).length ≤ f.length + 40 := by
  have h1 := addAll_length ((u.take k).flatMap pts) f
  have h2 : ∀ v : List Rg, (v.flatMap pts).length ≤ 2 * v.length := fun v => by
    induction v with
    | nil => simp
    | cons y ys ih =>
      rw [List.flatMap_cons, List.length_append, List.length_cons]
      have : (pts y).length ≤ 2 := by unfold pts; split <;> simp
      omega
  have h3 := h2 (u.take k)
  have h4 : (u.take k).length ≤ u.length := List.length_take_le' _ _
  unfold refU
  omega
theorem refU_pos (S : List (List Rg)) (i : Nat) (u : List Rg) (k : Nat) : 0 < (refU (refFrom S i) u k).length := by
  refine List.length_pos_of_mem (a := 0) ?_
  unfold refU refFrom
  rw [addAll_mem, addAll_mem]
  exact .inl (.inl (by simp))
theorem addI_pos (l : List Int) (r : Int) : 0 < (addI l r).length := List.length_pos_of_mem ((addI_mem l r r).2 (.inr rfl))
/-- The reference's places are the program's. -/
theorem ref_eq {los : List Int} {S : List (List Rg)} (h : LosOf los S) : refFrom S S.length = los := by
  unfold refFrom
  rw [List.take_length]
  exact los_unique (ref_los S).lt h.lt fun x => by rw [(ref_los S).mem, h.mem]
theorem ref_losOf (S : List (List Rg)) : LosOf (refFrom S S.length) S := by
  unfold refFrom
  rw [List.take_length]
  exact ref_los S
/-- The last place at which a mask stands, of the first k. -/
def atV (ms : List Int) (m : Int) (k : Nat) : Int := if idxL ms m < k then (idxL ms m : Int) else -1
theorem tell_inj {l : List Int} (h : l.Nodup) {i j : Nat} (hi : i < l.length) (hj : j < l.length) (e : l[i] = l[j]) : i = j := by
  rcases Nat.lt_trichotomy i j with h1 | h1 | h1
  · exact absurd e (List.pairwise_iff_getElem.1 h i j hi hj h1)
  · exact h1
  · exact absurd e.symm (List.pairwise_iff_getElem.1 h j i hj hi h1)
theorem atV_zero (ms : List Int) (m : Int) : atV ms m 0 = -1 := by simp [atV]
theorem atV_hit {ms : List Int} (hn : ms.Nodup) {m : Int} {k : Nat} (hk : k < ms.length) (h : rd ms (k : Int) = m) : atV ms m (k + 1) = (k : Int) := by
  have e : ms[k] = m := by rw [← h]; simp [rd, hk]
  have hm : m ∈ ms := e ▸ List.getElem_mem hk
  have h1 := idxL_get (idxL_lt.2 hm)
  have h2 : idxL ms m = k := tell_inj hn (idxL_lt.2 hm) hk (h1.trans e.symm)
  unfold atV
  rw [if_pos (by omega), h2]
theorem atV_miss {ms : List Int} {m : Int} {k : Nat} (hk : k < ms.length) (h : ¬ rd ms (k : Int) = m) : atV ms m (k + 1) = atV ms m k := by
  have e : rd ms (k : Int) = ms[k] := by simp [rd, hk]
  unfold atV
  by_cases h1 : idxL ms m < k
  · rw [if_pos h1, if_pos (by omega)]
  · rw [if_neg h1, if_neg]
    intro h2
    have h3 : idxL ms m = k := by omega
    have h4 := idxL_get (ms := ms) (m := m) (by omega)
    simp only [h3] at h4
    exact h (e.trans h4)
theorem atV_full (ms : List Int) (m : Int) : atV ms m ms.length = if idxL ms m < ms.length then (idxL ms m : Int) else -1 := rfl
theorem cut_nodup (S : List (List Rg)) (los : List Int) (k : Nat) (hk : k ≤ los.length) : (cutOf S (los.take k)).2.Nodup := (cut_inv S los k hk).nodup
theorem mkN_next (S : List (List Rg)) (r : Int) (k : Nat) (hk : k < 64) : (mkN S r k : Int) < 18446744073709551616 := by
  have h1 := mkN_lt S r k
  have h2 : (2 : Nat) ^ k ≤ 2 ^ 64 := Nat.pow_le_pow_right (by omega) (by omega)
  have h3 : (2 : Nat) ^ 64 = 18446744073709551616 := by rfl
  omega
theorem mkN_hit {S : List (List Rg)} {r : Int} {k : Nat} (hk : k < 64) (h : hasAt S k r = true) : bits .or .u64 (mkN S r k : Int) (IntKind.u64.wrap (2 ^ k)) = (mkN S r (k + 1) : Int) := by
  have hs : IntKind.u64.wrap (2 ^ k) = ((2 ^ k : Nat) : Int) := by
    have hlt : (2 : Nat) ^ k < 18446744073709551616 := (show (18446744073709551616 : Nat) = 2 ^ 64 by rfl) ▸ Nat.pow_lt_pow_right (by omega) (by omega)
    rw [IntKind.wrap_u64, show ((2 : Int) ^ k) = ((2 ^ k : Nat) : Int) by simp]
    generalize (2 : Nat) ^ k = q at hlt ⊢
    omega
  have hb : mkN S r k < 18446744073709551616 := by have := mkN_next S r k hk; omega
  have hp : (2 : Nat) ^ k < 18446744073709551616 := by
    have : (2 : Nat) ^ k < 2 ^ 64 := Nat.pow_lt_pow_right (by omega) (by omega)
    omega
  rw [hs, bits_or_u64_nat _ _ hb hp, mkN, h]
  rfl
theorem mkN_miss {S : List (List Rg)} {r : Int} {k : Nat} (h : hasAt S k r = false) : mkN S r (k + 1) = mkN S r k := by
  rw [mkN, h]
  simp
/-- The class of a code point by the reference's rows. -/
theorem class_l0 {S : List (List Rg)} {ps : List Pc} {ms : List Int} (F : Facts S ps ms) (hl : ps.length < 1000000000) {r : Int} {q : Nat} (hq : PieceAt ps r q) : ∀ (d i : Nat) (a : Int), i + d = q + 1 → Evt (fun k => hornbookref3_Class.l0 k (ps.map (·.f0)) (ps.map (·.f1)) r a (i : Int)) (if d = 0 then a else (rd_T83 ps (q : Int)).f1)
  | 0, i, a, h => by
    refine Evt.succ (fun k => hornbookref3_Class.l0.eq_2 _ _ _ _ _ _) ?_
    rw [if_pos rfl]
    by_cases hi : i < ps.length
    · have hx := hq.hi i (by omega) hi
      have hrd : rd (ps.map (·.f0)) (i : Int) = (rd_T83 ps (i : Int)).f0 := by unfold rd rd_T83; simp [hi]
      simp only [List.length_map, if_pos (show (i : Int) < (ps.length : Int) by omega), if_pos (Int.natCast_nonneg i), hrd, if_neg (show ¬ (rd_T83 ps (i : Int)).f0 ≤ r by omega)]
      exact Evt.pure _
    · simp only [List.length_map, if_neg (show ¬ (i : Int) < (ps.length : Int) by omega)]
      exact Evt.pure _
  | d + 1, i, a, h => by
    have hqi := hq.lt
    have hi : i < ps.length := by omega
    have ih := class_l0 F hl hq d (i + 1) ((rd_T83 ps (i : Int)).f1) (by omega)
    refine Evt.succ (fun k => hornbookref3_Class.l0.eq_2 _ _ _ _ _ _) ?_
    have hw : wrap64 ((i : Int) + 1) = ((i + 1 : Nat) : Int) := by unfold wrap64; omega
    have hle : (rd_T83 ps (i : Int)).f0 ≤ r := by
      have h2 := hq.lo
      rcases Nat.lt_or_ge i q with h1 | h1
      · have := F.inc.lt h1 hqi; omega
      · obtain rfl : i = q := by omega
        exact h2
    have hrd : rd (ps.map (·.f0)) (i : Int) = (rd_T83 ps (i : Int)).f0 := by unfold rd rd_T83; simp [hi]
    have hrd1 : rd (ps.map (·.f1)) (i : Int) = (rd_T83 ps (i : Int)).f1 := by unfold rd rd_T83; simp [hi]
    simp only [List.length_map, if_pos (show (i : Int) < (ps.length : Int) by omega), if_pos (Int.natCast_nonneg i), hrd, hrd1, hw, if_pos hle]
    have e1 : (if d + 1 = 0 then a else (rd_T83 ps (q : Int)).f1) = (rd_T83 ps (q : Int)).f1 := if_neg (Nat.succ_ne_zero d)
    rw [e1]
    refine Evt.cast ih ?_
    by_cases hd : d = 0
    · obtain rfl : i = q := by omega
      rw [if_pos hd]
    · rw [if_neg hd]
theorem Class_ev {S : List (List Rg)} {ps : List Pc} {ms : List Int} (F : Facts S ps ms) (hl : ps.length < 1000000000) (r : Int) : Evt (fun k => hornbookref3_Class.f k (ps.map (·.f0)) (ps.map (·.f1)) r) (clsOf S ms r) := by
  have hj : ∀ (b : Bool) (v : Int), (b = true → v = -1) → (b = false → Evt (fun k => hornbookref3_Class.l0 k (ps.map (·.f0)) (ps.map (·.f1)) r (-1) 0) v) → Evt (fun k => hornbookref3_Class.j0 k (ps.map (·.f0)) (ps.map (·.f1)) r b) v := fun b v h1 h2 => by
    refine Evt.succ (fun k => hornbookref3_Class.j0.eq_2 _ _ _ _ _) ?_
    cases b with
    | true => rw [h1 rfl]; exact Evt.pure _
    | false => exact h2 rfl
  unfold hornbookref3_Class.f clsOf
  by_cases h0 : r < 0
  · simp only [if_pos h0, if_pos (show r < 0 ∨ r > 1114111 from .inl h0)]
    exact hj true _ (fun _ => rfl) (fun h => by cases h)
  · simp only [if_neg h0]
    by_cases h1 : r > 1114111
    · rw [if_pos (show r < 0 ∨ r > 1114111 from .inr h1), decide_eq_true h1]
      exact hj true _ (fun _ => rfl) (fun h => by cases h)
    · rw [if_neg (show ¬ (r < 0 ∨ r > 1114111) by omega), decide_eq_false h1]
      obtain ⟨q, hq⟩ := F.piece r (by omega) (by omega)
      refine hj false _ (fun h => by cases h) fun _ => ?_
      have h2 := class_l0 F hl hq (q + 1) 0 (-1) (by omega)
      rw [if_neg (by omega), (F.cls r q (by omega) (by omega) hq).1] at h2
      exact h2
theorem setC_none {S : List (List Rg)} {ps : List Pc} {ms : List Int} (F : Facts S ps ms) (c : Int) (hc : c < 0 ∨ (ms.length : Int) ≤ c) : setC ps c = [] := by
  refine IsC.unique (setC_isC ps c) (show IsC [] from trivial) fun r => ?_
  rw [hasL_nil, ← Bool.not_eq_true]
  intro h
  unfold setC at h
  rw [norm_nil] at h
  obtain ⟨q, h1, h2, h3, h4⟩ := (raw_has F c r _ (Nat.le_refl _)).1 h
  have hb := hi_bound F h1
  have hp := (piece_hi F (show r ≤ 1114111 by omega) h1).1 ⟨h3, h4⟩
  obtain ⟨e, hm⟩ := F.cls r q (by omega) (by omega) hp
  have := idxL_lt.2 hm
  omega
/-- What the law asks at a place: its class, that its class's set has it, and which sets have that class. -/
theorem tell_at {S : List (List Rg)} {ps : List Pc} {ms : List Int} (F : Facts S ps ms) {r : Int} (h0 : 0 ≤ r) (h1 : r ≤ 1114111) : hasL (setC ps (idxL ms (maskI S r) : Int)) r = true ∧ clsOf S ms r = (idxL ms (maskI S r) : Int) ∧ ∀ j, j < S.length → inC (S.length : Int) ms (idxL ms (maskI S r) : Int) (j : Int) = hasAt S j r := by
  have hmem : maskI S r ∈ ms := (F.mem _).2 ⟨r, h0, h1, rfl⟩
  have hlt := idxL_lt.2 hmem
  refine ⟨(set_has F _ r).2 ⟨h0, h1, rfl⟩, by unfold clsOf; rw [if_neg (by omega)], fun j hj => ?_⟩
  have hrd : rd ms (idxL ms (maskI S r) : Int) = maskI S r := by
    unfold rd
    simp only [Int.toNat_natCast]
    rw [List.getD_eq_getElem?_getD, List.getElem?_eq_getElem hlt]
    exact idxL_get hlt
  unfold inC
  rw [hrd, decide_eq_true (show (0 : Int) ≤ (idxL ms (maskI S r) : Int) by omega), decide_eq_true (show (idxL ms (maskI S r) : Int) < (ms.length : Int) by omega), decide_eq_true (show (0 : Int) ≤ (j : Int) by omega), decide_eq_true (show (j : Int) < (S.length : Int) by omega)]
  simp only [Bool.true_and, Int.toNat_natCast]
  exact mask_bit hj
theorem inC_none (n : Int) (ms : List Int) (c s : Int) (h : c < 0 ∨ (ms.length : Int) ≤ c ∨ s < 0 ∨ n ≤ s) : inC n ms c s = false := by
  unfold inC
  rcases h with h | h | h | h
  · rw [decide_eq_false (show ¬ 0 ≤ c by omega)]; rfl
  · rw [decide_eq_false (show ¬ c < (ms.length : Int) by omega)]; simp
  · rw [decide_eq_false (show ¬ 0 ≤ s by omega)]; simp
  · rw [decide_eq_false (show ¬ s < n by omega)]; simp
/-- The pieces' places and classes. -/
theorem cut_at {S : List (List Rg)} {los : List Int} (h : LosOf los S) {i : Nat} (hi : i < los.length) : rd ((cutOf S los).1.map (·.f1)) (i : Int) = (idxL (cutOf S los).2 (maskI S (rd los (i : Int))) : Int) ∧ 0 ≤ rd los (i : Int) ∧ rd los (i : Int) ≤ 1114111 := by
  have I := cut_inv S los los.length (Nat.le_refl _)
  rw [List.take_length] at I
  have e : rd los (i : Int) = los[i] := by simp [rd, hi]
  refine ⟨?_, ?_⟩
  · rw [I.pcs, e]; simp [rd, hi]
  · rw [e]; exact ends_bound ((h.mem _).1 (List.getElem_mem hi))
end Go.Proofs.Ytnfnnmmblommiaa.PA
namespace Go.Proofs.Ytnfnnmmblommiaa.PA
open Go.RowKit Go.Shelf Go.Proofs.YtnfnnmmblommiaaW.PrintWords Go.Proofs.YtnfnnmmblommiaaW.PrintLast Go.Proofs.YtnfnnmmblommiaaW.PrintMore
attribute [local go_sem] max2_int min2_int max_two min_two
set_option linter.unusedVariables false
set_option linter.unusedSimpArgs false

theorem infoI64 : (Try.prog.info? 3).map (fun i => (i.zero, i.size, i.bytes)) = some (some (.int .i64 0), 1, 8) := by kernel_rfl
theorem tell_dr {a b : World} (h : Below a.heap.size a b) : Below a.heap.size a b.drew := ⟨h.os, h.tape, h.output, h.size, h.block⟩
/-- A row of one number, as it is made. -/
theorem one_row (w : World) (x : Int) : Kd.R (Kd.int .i32) 21 (w.alloc (.cells #[.int .i32 x] 21)) w.heap.size (fun _ => True) (.slice (some ⟨w.heap.size, 0, none⟩) 1 1) [x] := by
  refine ints_R (fun _ _ => trivial) ⟨rfl, .inr ⟨w.heap.size, 1, #[.int .i32 x], rfl, Nat.le_refl _, heap_alloc_new w _, Nat.le_refl _, by decide, rfl, rfl⟩⟩
/-- What the reference's cut hands over. -/
def RefCut (w : World) (S : List (List Rg)) (e : Ending) (w' : World) : Prop :=
  ∃ g1 c1 A2 c2, e = .returned (.tuple #[.slice (some ⟨g1, 0, none⟩) (refFrom S S.length).length c1, .slice A2 (refFrom S S.length).length c2, .int .i64 ((cutOf S (refFrom S S.length)).2.length : Int)]) ∧ Kd.R (Kd.int .i32) 21 w' w.heap.size (fun _ => True) (.slice (some ⟨g1, 0, none⟩) (refFrom S S.length).length c1) (refFrom S S.length) ∧ Kd.R (Kd.int .i64) 3 w' w.heap.size (fun _ => True) (.slice A2 (refFrom S S.length).length c2) ((cutOf S (refFrom S S.length)).1.map (·.f1)) ∧ Below w.heap.size w w'
/-- The two rows of the second part. -/
structure RowsAt (w wr : World) (S : List (List Rg)) (los : List Int) (k : Nat) (vz vp vm : Value) : Prop where
  rz : Kd.R (Kd.int .i32) 21 wr w.heap.size (fun _ => True) vz los
  rp : Kd.R (Kd.int .i64) 3 wr w.heap.size (fun _ => True) vp ((cutOf S (los.take k)).1.map (·.f1))
  rm : Kd.R (Kd.int .u64) 79 wr w.heap.size (fun _ => True) vm (cutOf S (los.take k)).2
  below : Below w.heap.size w wr
theorem RowsAt.later {w W W1 : World} {S : List (List Rg)} {los : List Int} {k : Nat} {vz vp vm : Value} (h : RowsAt w W S los k vz vp vm) (hb : Below W.heap.size W W1) : RowsAt w W1 S los k vz vp vm :=
  ⟨Kd.R_below h.rz hb, Kd.R_below h.rp hb, Kd.R_below h.rm hb, h.below.trans (hb.mono h.below.size)⟩
/-- The three rows, by what they hold. -/
structure RowsNow (w wr : World) (los : List Int) (st : List Pc × List Int) (vz vp vm : Value) : Prop where
  rz : Kd.R (Kd.int .i32) 21 wr w.heap.size (fun _ => True) vz los
  rp : Kd.R (Kd.int .i64) 3 wr w.heap.size (fun _ => True) vp (st.1.map (·.f1))
  rm : Kd.R (Kd.int .u64) 79 wr w.heap.size (fun _ => True) vm st.2
  below : Below w.heap.size w wr
theorem RowsNow.later {w W W1 : World} {los : List Int} {st : List Pc × List Int} {vz vp vm : Value} (h : RowsNow w W los st vz vp vm) (hb : Below W.heap.size W W1) : RowsNow w W1 los st vz vp vm :=
  ⟨Kd.R_below h.rz hb, Kd.R_below h.rp hb, Kd.R_below h.rm hb, h.below.trans (hb.mono h.below.size)⟩
theorem own_from {α : Type} {d : Kd α} {e base : Nat} {W : World} {v : Value} {xs : List α} (h : d.R e W base (fun _ => True) v xs) : ∀ k, v.ownBlock = some k → base ≤ k := fun k hk => by
  obtain ⟨_, inner, hown, _⟩ := h
  exact own_base hown k hk
theorem RowsNow.more_cls {w W W1 : World} {los : List Int} {st : List Pc × List Int} {vz vp vm v1 : Value} (h : RowsNow w W los st vz vp vm) {x : Int} (ho : Kd.R (Kd.int .i64) 3 W1 w.heap.size (fun _ => True) v1 (st.1.map (·.f1) ++ [x])) (hg : W.grownBy W1 vp.ownBlock) (lo : Int) : RowsNow w W1 los (st.1 ++ [⟨lo, x⟩], st.2) vz v1 vm :=
  ⟨Kd.R_grown2 h.rz rfl hg (R_apart h.rz h.rp (by decide)), by simpa using ho, Kd.R_grown2 h.rm rfl hg (R_apart h.rm h.rp (by decide)), h.below.grown hg h.below.size (own_from h.rp)⟩
theorem RowsNow.more_mask {w W W1 : World} {los : List Int} {st : List Pc × List Int} {vz vp vm v1 : Value} (h : RowsNow w W los st vz vp vm) {x : Int} (ho : Kd.R (Kd.int .u64) 79 W1 w.heap.size (fun _ => True) v1 (st.2 ++ [x])) (hg : W.grownBy W1 vm.ownBlock) : RowsNow w W1 los (st.1, st.2 ++ [x]) vz vp v1 :=
  ⟨Kd.R_grown2 h.rz rfl hg (R_apart h.rz h.rm (by decide)), Kd.R_grown2 h.rp rfl hg (R_apart h.rp h.rm (by decide)), ho, h.below.grown hg h.below.size (own_from h.rm)⟩
theorem RowsNow.two {w W : World} {S : List (List Rg)} {los : List Int} {k : Nat} {st : List Pc × List Int} {vz vp vm : Value} (h : RowsNow w W los st vz vp vm) (e : cutOf S (los.take k) = st) : RowsAt w W S los k vz vp vm :=
  ⟨h.rz, by rw [e]; exact h.rp, by rw [e]; exact h.rm, h.below⟩
set_option maxRecDepth 100000 in
set_option maxHeartbeats 16000000 in
theorem refcut_calls (w : World) (A : Option Addr) (c : Nat) (sets : List (List Rg)) (hl : sets.length ≤ 70) (hc : sets.length ≤ c) (hls : ∀ l ∈ sets, l.length ≤ 20) (hr : Kd.C (Kd.slice 41 k41) w A sets.length sets) :
    Calls Try.prog 29 #[.slice A sets.length c] w (RefCut w (ss sets)) := by
  have hu3 := Try.underlying41
  have hss : (ss sets).length = min sets.length 64 := by unfold ss; rw [List.length_take]; omega
  have hC : Kd.C (Kd.slice 41 k41) w A (ss sets).length (ss sets) := by
    have h2 := Kd.C_take hr (m := min sets.length 64) (by omega)
    have e : sets.take (min sets.length 64) = ss sets := by unfold ss; rw [List.take_eq_take_iff]; omega
    rwa [e] at h2
  have HCF := Lib.hid hr
  have hlss : ∀ l ∈ ss sets, l.length ≤ 20 := fun l hm => hls l (List.mem_of_mem_take hm)
  have hm64 : (if (64 : Int) < (sets.length : Int) then (64 : Int) else (sets.length : Int)) = ((ss sets).length : Int) := by split <;> omega
  have hle : (ss sets).length ≤ sets.length := by omega
  have hl64 : (ss sets).length ≤ 64 := by omega
  have HRD := Lib.hid (fun i (hi : i < (ss sets).length) => show rd_L2 sets (i : Int) = rd_L2 (ss sets) (i : Int) by
    unfold rd_L2 ss
    simp only [Int.toNat_natCast, List.getD_eq_getElem?_getD, List.getElem?_take]
    rw [if_pos (by omega)])
  generalize ss sets = S at *
  have HC := Lib.hid hC
  have HLS := Lib.hid hlss
  have HLEN := Lib.hid (refFrom_len hl64 hlss)
  clear hr hls hC hlss hss
  go_enter Try.func29, Try.ntmps29
  go_wp2
  obtain ⟨w1, hw1⟩ : ∃ w1, w.alloc (.cells #[.int .i32 0] 21) = w1 := ⟨_, rfl⟩
  have hR1 := one_row w 0
  have hB1 : Below w.heap.size w w1 := by rw [← hw1]; exact (Below.refl _ w).alloc (Nat.le_refl _) _
  rw [hw1] at hR1
  try rw [hw1]
  have HR1 := Lib.hid hR1
  have HB1 := Lib.hid hB1
  clear hR1 hB1 hw1
  go_loopg [5, 7] S.length (fun gk v5 v7 wr => ∃ (i g cap : Nat), v7 = .int .i64 i ∧ v5 = .slice (some ⟨g, 0, none⟩) (refFrom S i).length cap ∧ i ≤ S.length ∧ S.length - i ≤ gk ∧ Hid (Kd.R (Kd.int .i32) 21 wr w.heap.size (fun _ => True) (.slice (some ⟨g, 0, none⟩) (refFrom S i).length cap) (refFrom S i)) ∧ Hid (Below w.heap.size w wr))
  case atStart => exact ⟨0, _, 1, rfl, by rw [refFrom_zero]; rfl, Nat.zero_le _, by omega, by rw [refFrom_zero]; exact HR1, HB1⟩
  case round =>
    clear HR1 HB1
    obtain ⟨i, g, cap, rfl, rfl, hi, hg, HR, HB⟩ := hrel
    by_cases hlt : i < S.length
    · obtain ⟨ad, A0, c0, rfl, hx, hlc, hC⟩ := at_L2 (Kd.C_below HCF.out HB.out) (i : Int) (Int.natCast_nonneg i) (Int.ofNat_lt.2 (Nat.lt_of_lt_of_le hlt hle))
      rw [HRD.out i hlt] at hx hlc hC
      have hX20 := HLS.out _ (show rd_L2 S (i : Int) ∈ S by unfold rd_L2; simp [hlt])
      obtain ⟨ko, hko⟩ := (Of_ev (rd_L2 S (i : Int)) (by omega)).get
      have HOF := Lib.hid (hornbookref3_Of.calls ko A0 c0 _ _ wr hC hlc hko)
      have hnl := norm_length (rd_L2 S (i : Int))
      have HSU := Lib.hid (refFrom_succ hlt)
      have HPOS := Lib.hid (fun k => refU_pos S i (norm (rd_L2 S (i : Int))) k)
      have hflen := HLEN.out i
      have hz0 := refU_zero (refFrom S i) (norm (rd_L2 S (i : Int)))
      generalize refFrom S i = f at HR HSU HPOS hflen hz0
      generalize hXe : rd_L2 S (i : Int) = X at hx hlc hC hX20 hko HOF hnl HSU HPOS hz0
      have HOK := Lib.hid (norm_ok X)
      generalize norm X = u at hnl HOF HSU HPOS hz0 HOK
      simp only [Int.toNat_natCast] at hx
      have HZ0 := Lib.hid hz0
      clear hko hC hXe hz0
      go_wp2_with fail
      refine HOF.out.mono ?_
      rintro e w2 ⟨vu, rfl, hRu, hb2⟩
      have hu20 : u.length ≤ 20 := by omega
      obtain ⟨Au, cu, rfl, hlu, _⟩ := Kd.R_reads hRu
      have HU := Lib.hid (Kd.R_lower hRu HB.out.size)
      have HR2 := Lib.hid (Kd.R_below HR.out hb2)
      have HB2 := Lib.hid (HB.out.trans (hb2.mono HB.out.size))
      clear hRu hb2 HOF hx HR HB
      go_wp2
      go_loopg [5, 9] u.length (fun gk v5 v9 wr => ∃ (k g cap : Nat), v9 = .int .i64 k ∧ v5 = .slice (some ⟨g, 0, none⟩) (refU f u k).length cap ∧ k ≤ u.length ∧ u.length - k ≤ gk ∧ Hid (Kd.R (Kd.int .i32) 21 wr w.heap.size (fun _ => True) (.slice (some ⟨g, 0, none⟩) (refU f u k).length cap) (refU f u k)) ∧ Hid (Kd.R k41 41 wr w.heap.size (fun _ => True) (.slice Au u.length cu) u) ∧ Hid (Below w.heap.size w wr))
      case atStart => exact ⟨0, g, cap, rfl, by rw [HZ0.out], Nat.zero_le _, by omega, by rw [HZ0.out]; exact HR2, HU, HB2⟩
      case round =>
        clear HR2 HU HB2
        obtain ⟨k, g, cap, rfl, rfl, hk, hgk, HR, HU, HB⟩ := hrel
        by_cases hkt : k < u.length
        · obtain ⟨ad2, rfl, hx0, hx1⟩ := at_T41 (Kd.R_reads' HU.out).2.2 (k : Int) (by omega) (by omega)
          have HSK := Lib.hid (refU_succ (f := f) hkt)
          have hul := refU_len f u hu20 k
          have hup := HPOS.out k
          simp only [Int.toNat_natCast] at hx0 hx1
          generalize refU f u k = F at HR HSK hul hup
          have hpb := HOK.out (rd_T41 u (k : Int)) (by unfold rd_T41; simp [hkt])
          obtain ⟨p, hPe⟩ : ∃ p, rd_T41 u (k : Int) = p := ⟨_, rfl⟩
          rw [hPe] at hx0 hx1 HSK hpb
          have HAD := Lib.hid (add_calls w.heap.size g cap wr F p.f0 HR.out hup HB.out.size (by omega))
          go_wp2_with fail
          refine HAD.out.mono ?_
          rintro e w3 ⟨g3, c3, rfl, hR3, hB3, hG3⟩
          have hG3' : wr.grownBy w3 (Value.slice (some ⟨g, 0, none⟩) F.length cap).ownBlock := hG3
          have HU3 := Lib.hid (Kd.R_grown2 HU.out rfl hG3' (R_apart HU.out HR.out (by decide)))
          have HB3 := Lib.hid (HB.out.trans (hB3))
          have HR3 := Lib.hid hR3
          obtain ⟨ad3, e3, hy0, hy1⟩ := at_T41 (Kd.R_reads' HU3.out).2.2 (k : Int) (by omega) (by omega)
          cases e3
          simp only [Int.toNat_natCast] at hy0 hy1
          rw [hPe] at hy0 hy1
          have hFl := addI_length F p.f0
          have HAP := Lib.hid (addI_pos F p.f0)
          clear hR3 hB3 hG3 hG3' HAD hx0 hx1 hy0 HR HB HU
          by_cases hp : p.f1 < 1114111
          · have HSY : Hid (refU f u (k + 1) = addI (addI F p.f0) (p.f1 + 1)) := Lib.hid (by rw [HSK.out, if_pos hp])
            have HAD2 := Lib.hid (add_calls w.heap.size g3 c3 w3 (addI F p.f0) (p.f1 + 1) HR3.out HAP.out HB3.out.size (by omega))
            have hw32 : IntKind.i32.wrap (p.f1 + 1) = p.f1 + 1 := IntWalk.i32_in _ (by omega)
            clear HSK
            go_wp2_with fail
            refine HAD2.out.mono ?_
            rintro e w4 ⟨g4, c4, rfl, hR4, hB4, hG4⟩
            have hG4' : w3.grownBy w4 (Value.slice (some ⟨g3, 0, none⟩) (addI F p.f0).length c3).ownBlock := hG4
            have HU4 := Lib.hid (Kd.R_grown2 HU3.out rfl hG4' (R_apart HU3.out HR3.out (by decide)))
            have HB4 := Lib.hid (HB3.out.trans hB4)
            have HR4 := Lib.hid hR4
            clear hR4 hB4 hG4 hG4' HAD2 hy1 HR3 HU3 HB3
            go_wp2
            go_roundg (u.length - (k + 1))
            case measure => omega
            case rel => exact ⟨k + 1, g4, c4, by go_num, by rw [HSY.out], by omega, Nat.le_refl _, Lib.hid (by rw [HSY.out]; exact HR4.out), HU4, HB4⟩
          · have HSY : Hid (refU f u (k + 1) = addI F p.f0) := Lib.hid (by rw [HSK.out, if_neg hp])
            clear HSK
            go_wp2
            go_roundg (u.length - (k + 1))
            case measure => omega
            case rel => exact ⟨k + 1, g3, c3, by go_num, by rw [HSY.out], by omega, Nat.le_refl _, Lib.hid (by rw [HSY.out]; exact HR3.out), HU3, HB3⟩
        · obtain rfl : k = u.length := by omega
          go_wp2
          go_roundg (S.length - (i + 1))
          case measure => omega
          case rel => exact ⟨i + 1, g, cap, by go_num, by rw [HSU.out], by omega, Nat.le_refl _, Lib.hid (by rw [HSU.out]; exact HR.out), HB⟩
    · obtain rfl : i = S.length := by omega
      have hlos := HLEN.out S.length
      have HND := Lib.hid (fun k (hk : k ≤ (refFrom S S.length).length) => cut_nodup S (refFrom S S.length) k hk)
      have HST := Lib.hid (fun k (hk : k < (refFrom S S.length).length) => cutOf_take S hk)
      have HCL := Lib.hid (fun k => cutOf_length S ((refFrom S S.length).take k))
      obtain ⟨los, hlose⟩ : ∃ los, refFrom S S.length = los := ⟨_, rfl⟩
      rw [hlose] at HR hlos HND HST HCL ⊢
      have HLO := Lib.hid hlose
      clear hlose HLEN
      go_wp2
      go_loopg [10, 11, 12] los.length (fun gk v10 v11 v12 wr => ∃ k : Nat, v12 = .int .i64 k ∧ k ≤ los.length ∧ los.length - k ≤ gk ∧ Hid (RowsAt w wr S los k (.slice (some ⟨g, 0, none⟩) los.length cap) v10 v11))
      case atStart => exact ⟨0, rfl, Nat.zero_le _, by omega, Lib.hid ⟨HR.out, Kd.R_nil _ _ _ _ _, Kd.R_nil _ _ _ _ _, HB.out⟩⟩
      case round =>
        clear HR HB
        obtain ⟨k, rfl, hk, hgk, HT⟩ := hrel
        by_cases hlt : k < los.length
        · obtain ⟨hl1, hl2⟩ := HCL.out k
          have hlk : (los.take k).length ≤ los.length := List.length_take_le' _ _
          have hnd := HND.out k hk
          have HSK := Lib.hid (HST.out k hlt)
          obtain ⟨ad1, e1, hz1⟩ := Kd.at_int (Kd.R_reads' HT.out.rz).2.2 (k : Int) (by omega) (by omega)
          cases e1
          rw [add_plain] at hz1
          simp only [Int.toNat_natCast] at hz1
          have hTz := HT.out.rz
          have hTp := HT.out.rp
          have hTm := HT.out.rm
          have hTb := HT.out.below
          generalize rd los (k : Int) = lo at hz1 HSK
          generalize cutOf S (los.take k) = st at hl1 hl2 hnd HSK hTp hTm
          have HT2 : Hid (RowsNow w wr los st (.slice (some ⟨g, 0, none⟩) los.length cap) _ _) := Lib.hid ⟨hTz, hTp, hTm, hTb⟩
          obtain ⟨A10, c10, e10⟩ := Kd.R_slice hTp
          have hn10 : (st.1.map (·.f1)).length = k := by rw [List.length_map, hl1, List.length_take]; omega
          rw [hn10] at e10
          subst e10
          obtain ⟨A11, c11, rfl⟩ := Kd.R_slice hTm
          clear hl1
          have HND2 := Lib.hid hnd
          have HCX := Lib.hid hz1
          clear hTz hTp hTm hTb HT hnd hz1
          go_wp2
          go_loopg [13, 14] S.length (fun gk v13 v14 wq => ∃ j : Nat, v14 = .int .i64 j ∧ v13 = .int .u64 ((mkN S lo j : Nat) : Int) ∧ j ≤ S.length ∧ S.length - j ≤ gk ∧ Hid (Below wr.heap.size wr wq))
          case atStart => exact ⟨0, rfl, rfl, Nat.zero_le _, by omega, Lib.hid (Below.refl _ _)⟩
          case round =>
            obtain ⟨j, rfl, rfl, hj, hgj, HQ⟩ := hrel
            by_cases hjt : j < S.length
            · obtain ⟨ad, A0, c0, rfl, hx, hlc, hC⟩ := at_L2 (Kd.C_below HCF.out (HT2.out.below.trans (HQ.out.mono HT2.out.below.size))) (j : Int) (Int.natCast_nonneg j) (Int.ofNat_lt.2 (Nat.lt_of_lt_of_le hjt hle))
              rw [HRD.out j hjt] at hx hlc hC
              have hjs : j < sets.length := Nat.lt_of_lt_of_le hjt hle
              have hjs2 : (j : Int) < (sets.length : Int) := by omega
              have hjs3 : (0 : Int) ≤ (j : Int) := by omega
              have hX20 := HLS.out _ (show rd_L2 S (j : Int) ∈ S by unfold rd_L2; simp [hjt])
              obtain ⟨kh, hkh⟩ := (RefHas_ev (rd_L2 S (j : Int)) lo (by omega)).get
              have hkh' : hornbookref3_Has.f kh (rd_L2 S (j : Int)) lo = some (hasAt S j lo) := hkh
              have HHIT := Lib.hid (fun h => mkN_hit (S := S) (r := lo) (k := j) (by omega) h)
              have HMISS := Lib.hid (fun h => mkN_miss (S := S) (r := lo) (k := j) h)
              have hmn := mkN_next S lo j (by omega)
              generalize hasAt S j lo = b at hkh' HHIT HMISS
              have HRH := Lib.hid (fun W (hb : Below wr.heap.size wr W) => hornbookref3_Has.calls kh A0 c0 (rd_L2 S (j : Int)) lo b W (Kd.C_below hC hb) hlc hkh')
              generalize rd_L2 S (j : Int) = X at hx hlc hC hX20 hkh hkh' HRH
              have hz1 := cell_b HQ.out HCX.out
              simp only [Int.toNat_natCast] at hx
              have HCY := Lib.hid hx
              have HCZ := Lib.hid hz1
              clear hkh hkh' hC hlc hX20
              go_wp2
              cases b <;> go_region_held3 (fun w' => w'.cell? ⟨g, k, none⟩ = some (.int .i32 lo) ∧ w'.cell? (ad.add j) = some (.slice A0 X.length c0)) (first | assumption | go_keep) (first | (go_at_call 17; (first | refine (HRH.out _ (Below.refl _ _)).mono ?_ | refine (HRH.out _ (tell_dr (Below.refl _ _))).mono ?_); rintro e wA ⟨rfl, hb⟩; have hb' : Below wr.heap.size wr wA := (by first | exact below_t (tell_dr (Below.refl _ _)) hb | exact hb); have hcA := cell_b hb' HCY.out; have hcB := cell_b hb' HCZ.out; have HBW := Lib.hid hb'; clear hb hb'))
              · have HQ2 := Lib.hid (HQ.out.trans (HBW.out.mono HQ.out.size))
                clear HBW HRH HCY HCZ hx hz1
                go_wp2
                go_roundg (S.length - (j + 1))
                case measure => omega
                case rel => exact ⟨j + 1, by go_num, by rw [HMISS.out (by first | trivial | rfl)], by omega, Nat.le_refl _, HQ2⟩
              · have HQ2 := Lib.hid (HQ.out.trans (HBW.out.mono HQ.out.size))
                clear HBW HRH HCY HCZ hx hz1
                go_wp2
                go_roundg (S.length - (j + 1))
                case measure => omega
                case rel => exact ⟨j + 1, by go_num, by rw [← HHIT.out (by first | trivial | rfl)], by omega, Nat.le_refl _, HQ2⟩
            · obtain rfl : j = S.length := by omega
              have HT3 := Lib.hid (HT2.out.later HQ.out)
              have hme : ((mkN S lo S.length : Nat) : Int) = maskI S lo := rfl
              rw [hme]
              unfold cutStep at HSK
              try dsimp only at HSK
              generalize maskI S lo = m at HSK ⊢
              have hix := idxL_le st.2 m
              clear hme HCX HQ HT2
              go_wp2
              go_loopg [15, 16] st.2.length (fun gk v15 v16 wp => ∃ j : Nat, v16 = .int .i64 j ∧ v15 = .int .i64 (atV st.2 m j) ∧ j ≤ st.2.length ∧ st.2.length - j ≤ gk ∧ wp = wr)
              case atStart => exact ⟨0, rfl, by rw [atV_zero], Nat.zero_le _, by omega, rfl⟩
              case round =>
                obtain ⟨j, rfl, rfl, hj, hgj, rfl⟩ := hrel
                by_cases hjt : j < st.2.length
                · obtain ⟨ad, rfl, hx⟩ := Kd.at_int (Kd.R_reads' HT3.out.rm).2.2 (j : Int) (by omega) (by omega)
                  simp only [Int.toNat_natCast] at hx
                  by_cases hm : rd st.2 (j : Int) = m
                  · have HA := Lib.hid (atV_hit HND2.out hjt hm)
                    rw [hm] at hx
                    clear hm
                    go_wp2
                    go_roundg (st.2.length - (j + 1))
                    case measure => omega
                    case rel => exact ⟨j + 1, by go_num, by rw [HA.out], by omega, Nat.le_refl _, rfl⟩
                  · have HA := Lib.hid (atV_miss hjt hm)
                    have hmb : (rd st.2 (j : Int) == m) = false := beq_eq_false_iff_ne.2 hm
                    generalize rd st.2 (j : Int) = y at hx hmb
                    clear hm
                    go_wp2
                    go_roundg (st.2.length - (j + 1))
                    case measure => omega
                    case rel => exact ⟨j + 1, by go_num, by rw [HA.out], by omega, Nat.le_refl _, rfl⟩
                · obtain rfl : j = st.2.length := by omega
                  rw [atV_full]
                  by_cases hin : idxL st.2 m < st.2.length
                  · have HSY := Lib.hid (HSK.out.trans (by rw [if_pos hin]))
                    rw [if_pos hin]
                    have hneg : ¬ ((idxL st.2 m : Int) < 0) := by omega
                    generalize idxL st.2 m = ix at HSY hneg hix
                    clear HSK hin
                    go_wp2_with (at_builtin; (refine Kd.R_append (Kd.int .i64) (W := wr) w.heap.size rfl (.tmp 104) (.tmp 106) 49 3 (.int .i64 0) 8 rfl Try.underlying49 infoI64 rfl Nat.one_pos (by omega) (.slice A10 k c10) (st.1.map (·.f1)) (ix : Int) [.int .i64 (ix : Int)] (fun _ => True) (fun _ => False) rfl rfl ?aP (fun _ hk => hk.elim) (fun _ _ => trivial) HT3.out.rp HT3.out.below HT3.out.below.size ?aL ?_); (case aP => rfl); (case aL => rw [hn10]; omega); (intro v1 w9 ho hbl hgr hat; have HT9 := Lib.hid (HT3.out.more_cls ho hgr lo); have HB9 := Lib.hid hbl; clear ho hbl hgr hat))
                    go_wp2
                    go_roundg (los.length - (k + 1))
                    case measure => omega
                    case rel => exact ⟨k + 1, by go_num, by omega, Nat.le_refl _, Lib.hid (HT9.out.two HSY.out)⟩
                  · have HSY := Lib.hid (HSK.out.trans (by rw [if_neg hin]))
                    rw [if_neg hin]
                    have hzl : idxL st.2 m = st.2.length := by omega
                    rw [hzl] at HSY
                    clear HSK hin hix hzl
                    go_wp2_with (first | (at_builtin; (refine Kd.R_append (Kd.int .u64) (W := wr) w.heap.size rfl (.tmp 100) (.tmp 102) 71 79 (.int .u64 0) 8 rfl Try.underlying71 infoU64 rfl Nat.one_pos (by omega) (.slice A11 st.2.length c11) st.2 m [.int .u64 m] (fun _ => True) (fun _ => False) rfl rfl ?aP (fun _ hk => hk.elim) (fun _ _ => trivial) HT3.out.rm HT3.out.below HT3.out.below.size ?aL ?_); (case aP => rfl); (case aL => omega); (intro v1 w8 ho hbl hgr hat; have HT8 := Lib.hid (HT3.out.more_mask ho hgr); clear ho hbl hgr hat)) | (at_builtin; (refine Kd.R_append (Kd.int .i64) (W := w8) w.heap.size rfl (.tmp 104) (.tmp 106) 49 3 (.int .i64 0) 8 rfl Try.underlying49 infoI64 rfl Nat.one_pos (by omega) (.slice A10 k c10) (st.1.map (·.f1)) (st.2.length : Int) [.int .i64 (st.2.length : Int)] (fun _ => True) (fun _ => False) rfl rfl ?aP (fun _ hk => hk.elim) (fun _ _ => trivial) HT8.out.rp HT8.out.below HT8.out.below.size ?aL ?_); (case aP => rfl); (case aL => rw [hn10]; omega); (intro v1 w9 ho hbl hgr hat; have HT9 := Lib.hid (HT8.out.more_cls ho hgr lo); have HB9 := Lib.hid hbl; clear ho hbl hgr hat)))
                    go_wp2
                    go_roundg (los.length - (k + 1))
                    case measure => omega
                    case rel => exact ⟨k + 1, by go_num, by omega, Nat.le_refl _, Lib.hid (HT9.out.two HSY.out)⟩
        · obtain rfl : k = los.length := by omega
          have hR2 := HT.out.rp
          have hR3 := HT.out.rm
          obtain ⟨A10, c10, e10⟩ := Kd.R_slice hR2
          obtain ⟨A11, c11, e11⟩ := Kd.R_slice hR3
          have hcl := (HCL.out los.length).1
          rw [List.take_length] at e10 e11 hcl
          rw [List.length_map, hcl] at e10
          subst e10 e11
          go_wp2
          go_ret3
          unfold RefCut
          rw [HLO.out]
          exact ⟨g, cap, A10, c10, rfl, HT.out.rz, by have := HT.out.rp; rwa [List.take_length] at this, HT.out.below⟩
end Go.Proofs.Ytnfnnmmblommiaa.PA
namespace Go.Proofs.Ytnfnnmmblommiaa.PA
open Go.RowKit Go.Shelf Go.Proofs.YtnfnnmmblommiaaW.PrintWords Go.Proofs.YtnfnnmmblommiaaW.PrintLast Go.Proofs.YtnfnnmmblommiaaW.PrintMore
attribute [local go_sem] max2_int min2_int max_two min_two
set_option linter.unusedVariables false
set_option linter.unusedSimpArgs false

set_option maxRecDepth 100000 in
set_option maxHeartbeats 16000000 in
theorem tell_law (A : Option Addr) (c : Nat) (sets : List (List Rg)) (r : Int) (w : World) (hr : Kd.C (Kd.slice 41 k41) w A sets.length sets) (hc : sets.length ≤ c) (hw0 : ∀ l ∈ sets, ∀ x ∈ l, wfRg x) (w1 : (Lit.int .i32 r).wf = true) :
    Calls Try.prog 7 #[.slice A sets.length c, .int .i32 r] w fun e w' => e = .returned (.bool true) ∧ Below w.heap.size w w' := by
  have hmx : sets.length ≤ 9223372036854775807 := hr.2.1
  have hbr : -2147483648 ≤ r ∧ r ≤ 2147483647 := by
    have h := w1
    simp [Lit.wf, IntKind.min, IntKind.max, IntKind.signed, IntKind.bits] at h
    omega
  have HK := Lib.hid (known_calls w)
  have HC := Lib.hid hr
  clear w1 hr hw0
  go_enter Try.func7, Try.ntmps7
  go_wp2_with fail
  refine HK.out.mono ?_
  rintro e w1 ⟨rfl, hb1⟩
  have HB1 := Lib.hid hb1
  have HC1 := Lib.hid (Kd.C_below HC.out hb1)
  have HFE := Lib.hid (few_calls A c sets w1 HC1.out hc hmx)
  clear hb1 HK
  by_cases hf : fewB sets = true
  · rw [hf] at HFE
    obtain ⟨hs20, hs70⟩ := fewB_true hf
    have HS20 := Lib.hid hs20
    clear hf hs20
    go_wp2_with fail
    refine HFE.out.mono ?_
    rintro e w2 ⟨rfl, hd2⟩
    have HB2 := Lib.hid (HB1.out.trans (hd2.below.mono HB1.out.size))
    have HCUT := Lib.hid (cut_calls w2 A c sets (by omega) hc (fun l hl => by have := HS20.out l hl; omega) (Kd.C_below HC.out HB2.out))
    clear hd2 HFE HB1 HC1
    go_wp2_with fail
    refine HCUT.out.mono ?_
    rintro e w5 ⟨g, los, rfl, hlos, hAt, hb5, _⟩
    have HB5 := Lib.hid (HB2.out.trans (hb5.mono HB2.out.size))
    have HAT := Lib.hid (hAt)
    have HLO := Lib.hid hlos
    have HRC := Lib.hid (refcut_calls w5 A c sets hs70 hc HS20.out (Kd.C_below HC.out HB5.out))
    clear hlos hAt hb5 HCUT HB2
    go_wp2_with fail
    refine HRC.out.mono ?_
    rintro e w6 ⟨g1, c1, A2, c2, rfl, hR1, hR2, hb6⟩
    have hre := ref_eq HLO.out
    rw [hre] at hR1 hR2 ⊢
    have hss : (ss sets).length = min sets.length 64 := by unfold ss; rw [List.length_take]; omega
    have hm64 : (if (64 : Int) < (sets.length : Int) then (64 : Int) else (sets.length : Int)) = ((ss sets).length : Int) := by split <;> omega
    have hle : (ss sets).length ≤ sets.length := by omega
    have hl64 : (ss sets).length ≤ 64 := by omega
    have HRD := Lib.hid (fun i (hi : i < (ss sets).length) => show rd_L2 sets (i : Int) = rd_L2 (ss sets) (i : Int) by
      unfold rd_L2 ss
      simp only [Int.toNat_natCast, List.getD_eq_getElem?_getD, List.getElem?_take]
      rw [if_pos (by omega)])
    have HLS := Lib.hid (fun l (hm : l ∈ ss sets) => HS20.out l (List.mem_of_mem_take hm))
    have HCA := Lib.hid (fun i (hi : i < los.length) => cut_at HLO.out hi)
    have hF := cut_facts HLO.out hl64
    have hll := los_len HLO.out
    have hpl := (cutOf_length (ss sets) los).1
    have hml := (cutOf_length (ss sets) los).2
    have HA6 := Lib.hid (HAT.out.later hb6)
    generalize cutOf (ss sets) los = st at hF hpl hml HA6 hR2 HCA HAT ⊢
    obtain ⟨ps, ms⟩ := st
    dsimp only at hF hpl hml HA6 hR2 HCA ⊢
    clear HAT
    generalize ss sets = S at *
    have HF := Lib.hid hF.1
    have hcls := (Class_ev hF.1 (by omega) r).get
    rw [hF.2] at hcls
    obtain ⟨kc, hkc⟩ := hcls
    have HB6 := Lib.hid (HB5.out.trans (hb6.mono HB5.out.size))
    have hC1 := Kd.R_reads' hR1
    have hC2 := Kd.R_reads' hR2
    rw [List.length_map, hpl] at hC2
    have HC1 := Lib.hid hC1.2.2
    have HC2 := Lib.hid hC2.2.2
    have hc1 := hC1.2.1
    have hc2 := hC2.2.1
    have HCS := Lib.hid (Kd.C_below HC.out HB6.out)
    have L1 := Lib.hid (fun W (h : ClsAt W g (S.length : Int) ps ms) => len_calls h)
    have L2 := Lib.hid (fun W (h : ClsAt W g (S.length : Int) ps ms) => sets_calls h)
    have O1 := Lib.hid (fun W (h : ClsAt W g (S.length : Int) ps ms) => of_fact h hF.1 (by omega) r hbr.1 hbr.2)
    have K1 := Lib.hid (fun W (hb : Below w6.heap.size w6 W) => hornbookref3_Class.calls kc (some ⟨g1, 0, none⟩) c1 los A2 c2 (ps.map (·.f1)) r _ W (Kd.C_below HC1.out hb) hc1 (by rw [List.length_map, hpl]; exact Kd.C_below HC2.out hb) (by rw [List.length_map, hpl]; exact hc2) hkc)
    rw [List.length_map, hpl] at K1
    generalize clsOf S ms r = v at O1 K1
    clear hR1 hR2 hb6 hC1 hC2 HB5 hkc hF hre HRC HLO HC
    go_wp2_with fail
    refine (L1.out _ HA6.out).mono ?_
    rintro e w7 ⟨rfl, rfl⟩
    go_wp2_with fail
    refine (O1.out _ HA6.out).mono ?_
    rintro e w8 ⟨rfl, hb8⟩
    have HA8 := Lib.hid (HA6.out.later hb8)
    have HX8 := Lib.hid hb8
    clear hb8
    go_wp2_with fail
    refine (K1.out _ HX8.out).mono ?_
    rintro e w9 ⟨rfl, hd9⟩
    have HX9 := Lib.hid (HX8.out.trans (hd9.below.mono HX8.out.size))
    have HA9 := Lib.hid (HA8.out.later hd9.below)
    clear hd9 HX8 HA8 K1 O1
    go_wp2_with fail
    refine (L2.out _ HA9.out).mono ?_
    rintro e w10 ⟨rfl, rfl⟩
    clear HA9
    go_wp2
    go_loopg [9] los.length (fun gk v9 wr => ∃ i : Nat, v9 = .int .i64 i ∧ i ≤ los.length ∧ los.length - i ≤ gk ∧ Hid (Below w7.heap.size w7 wr))
    case atStart => exact ⟨0, rfl, Nat.zero_le _, by omega, HX9⟩
    case round =>
      clear HX9
      obtain ⟨i, rfl, hi, hg, HX⟩ := hrel
      have HA := Lib.hid (HA6.out.later HX.out)
      by_cases hlt : i < los.length
      · obtain ⟨ad1, e1, hz1⟩ := Kd.at_int (Kd.C_below HC1.out HX.out) (i : Int) (by omega) (by omega)
        cases e1
        rw [add_plain] at hz1
        obtain ⟨ad2, rfl, hz2⟩ := Kd.at_int (Kd.C_below HC2.out HX.out) (i : Int) (by omega) (by omega)
        simp only [Int.toNat_natCast] at hz1 hz2
        obtain ⟨q1, q2, q3⟩ := HCA.out i hlt
        rw [q1] at hz2
        obtain ⟨t1, t2, t3⟩ := tell_at HF.out q2 q3
        clear q1
        generalize rd los (i : Int) = lo at hz1 hz2 q2 q3 t1 t2 t3
        generalize idxL ms (maskI S lo) = kc at hz2 t1 t2 t3
        have HOF := Lib.hid (fun W (hb : Below wr.heap.size wr W) => of_fact (HA.out.later hb) HF.out (by omega) lo (by omega) (by omega))
        rw [t2] at HOF
        have HSET := Lib.hid (fun W (hb : Below wr.heap.size wr W) => set_calls (HA.out.later hb) (kc : Int) (by omega) HF.out.bound)
        have HT1 := Lib.hid t1
        have HT3 := Lib.hid t3
        have HCX := Lib.hid hz1
        clear t1 t2 t3
        go_wp2
        go_region_held3 (fun w' => w'.cell? ⟨g1, i, none⟩ = some (.int .i32 lo)) (first | assumption | go_keep) (first | (go_at_call 25; (first | refine (HOF.out _ HBW.out).mono ?_ | refine (HOF.out _ (tell_dr HBW.out)).mono ?_ | refine (HOF.out _ (tell_dr (Below.refl _ _))).mono ?_ | refine (HOF.out _ (Below.refl _ _)).mono ?_); rintro e wA ⟨rfl, hb⟩; have hb' : Below wr.heap.size wr wA := (by (first | exact below_t HBW.out hb | exact below_t (tell_dr HBW.out) hb | exact below_t (tell_dr (Below.refl _ _)) hb | exact hb)); have hc0_ := cell_b hb' HCX.out; have HBW := Lib.hid hb'; clear hb hb') | (go_at_call 31; (first | refine (HSET.out _ HBW.out).mono ?_ | refine (HSET.out _ (tell_dr HBW.out)).mono ?_ | refine (HSET.out _ (tell_dr (Below.refl _ _))).mono ?_ | refine (HSET.out _ (Below.refl _ _)).mono ?_); rintro e wA ⟨vx, rfl, hRx, hb⟩; obtain ⟨Ax, cx, rfl, hlx, hCx⟩ := Kd.R_reads hRx; have hb' : Below wr.heap.size wr wA := (by (first | exact below_t HBW.out hb | exact below_t (tell_dr HBW.out) hb | exact below_t (tell_dr (Below.refl _ _)) hb | exact hb)); have hc0_ := cell_b hb' HCX.out; have HBW := Lib.hid hb'; have HHS := Lib.hid (fun W (hb : Below wA.heap.size wA W) => uniset_Has.calls Ax cx (setC ps (kc : Int)) lo true W (Kd.C_below hCx hb) hlx (show uniset_Has.f _ _ = some true from congrArg some HT1.out)); clear hb hb' hRx hCx) | (go_at_call 20; (first | refine (HHS.out _ (Below.refl _ _)).mono ?_ | refine (HHS.out _ (tell_dr (Below.refl _ _))).mono ?_); rintro e wA ⟨rfl, hb⟩; have hb' : Below wr.heap.size wr wA := (by (first | exact below_t HBW.out hb | exact below_t (tell_dr HBW.out) hb | exact below_t (tell_dr (Below.refl _ _)) hb | exact hb)); have hc0_ := cell_b hb' HCX.out; have HBW := Lib.hid hb'; clear hb hb'))
        all_goals
          clear hz1 hz2 HOF HSET
          go_wp2
          go_loopg [11] S.length (fun gk v11 wq => ∃ j : Nat, v11 = .int .i64 j ∧ j ≤ S.length ∧ S.length - j ≤ gk ∧ Hid (Below wr.heap.size wr wq))
          case atStart => exact ⟨0, rfl, Nat.zero_le _, by omega, (by first | exact HBW | exact Lib.hid (tell_dr HBW.out))⟩
          case round =>
            obtain ⟨j, rfl, hj, hgj, HQ⟩ := hrel
            by_cases hjt : j < S.length
            · obtain ⟨ad, A0, c0, rfl, hx, hlc, hC⟩ := at_L2 (Kd.C_below HCS.out (HX.out.trans (HQ.out.mono HX.out.size))) (j : Int) (Int.natCast_nonneg j) (Int.ofNat_lt.2 (Nat.lt_of_lt_of_le hjt hle))
              rw [HRD.out j hjt] at hx hlc hC
              have hjs : j < sets.length := Nat.lt_of_lt_of_le hjt hle
              have hjs2 : (j : Int) < (sets.length : Int) := by omega
              have hjs3 : (0 : Int) ≤ (j : Int) := by omega
              have hX20 := HLS.out _ (show rd_L2 S (j : Int) ∈ S by unfold rd_L2; simp [hjt])
              obtain ⟨kh, hkh⟩ := (RefHas_ev (rd_L2 S (j : Int)) lo (by omega)).get
              have hkh' : hornbookref3_Has.f kh (rd_L2 S (j : Int)) lo = some (hasAt S j lo) := hkh
              have HIN := Lib.hid (fun W (hb : Below wr.heap.size wr W) => in_calls ((HA.out.later HQ.out).later hb) (kc : Int) (j : Int) (by omega) HF.out.u64 (by omega))
              rw [HT3.out j hjt] at HIN
              generalize hasAt S j lo = b at HIN hkh'
              have HRH := Lib.hid (fun W (hb : Below wr.heap.size wr W) => hornbookref3_Has.calls kh A0 c0 (rd_L2 S (j : Int)) lo b W (Kd.C_below hC hb) hlc hkh')
              generalize rd_L2 S (j : Int) = X at hx hlc hC hX20 hkh hkh' HRH
              have hz1 := cell_b HQ.out HCX.out
              simp only [Int.toNat_natCast] at hx
              have HCY := Lib.hid hx
              have HCZ := Lib.hid hz1
              clear hkh hkh' hC hlc hX20
              go_wp2
              cases b <;> go_region_held3 (fun w' => w'.cell? ⟨g1, i, none⟩ = some (.int .i32 lo) ∧ w'.cell? (ad.add j) = some (.slice A0 X.length c0)) (first | assumption | go_keep) (first | (go_at_call 32; (first | refine (HIN.out _ HBW.out).mono ?_ | refine (HIN.out _ (tell_dr HBW.out)).mono ?_ | refine (HIN.out _ (tell_dr (Below.refl _ _))).mono ?_ | refine (HIN.out _ (Below.refl _ _)).mono ?_); rintro e wA ⟨rfl, rfl⟩) | (go_at_call 17; (first | refine (HRH.out _ HBW.out).mono ?_ | refine (HRH.out _ (tell_dr HBW.out)).mono ?_ | refine (HRH.out _ (tell_dr (Below.refl _ _))).mono ?_ | refine (HRH.out _ (Below.refl _ _)).mono ?_); rintro e wA ⟨rfl, hb⟩; have hb' : Below wr.heap.size wr wA := (by (first | exact below_t HBW.out hb | exact below_t (tell_dr HBW.out) hb | exact below_t (tell_dr (Below.refl _ _)) hb | exact hb)); have hc0_ := cell_b hb' HCY.out; have hc1_ := cell_b hb' HCZ.out; have HBW := Lib.hid hb'; clear hb hb'))
              all_goals
                have HQ2 := Lib.hid (HQ.out.trans (HBW.out.mono HQ.out.size))
                clear HBW HIN HRH HCY HCZ hx hz1
                go_wp2
                go_roundg (S.length - (j + 1))
                case measure => omega
                case rel => exact ⟨j + 1, by go_num, by omega, Nat.le_refl _, HQ2⟩
            · obtain rfl : j = S.length := by omega
              have HX2 := Lib.hid (HX.out.trans (HQ.out.mono HX.out.size))
              go_wp2
              go_roundg (los.length - (i + 1))
              case measure => omega
              case rel => exact ⟨i + 1, by go_num, by omega, Nat.le_refl _, HX2⟩
      · obtain rfl : i = los.length := by omega
        have S1 := Lib.hid (set_calls HA.out (ms.length : Int) (by omega) HF.out.bound)
        have S2 := Lib.hid (fun W (hb : Below wr.heap.size wr W) => set_calls (HA.out.later hb) (-1) (by omega) HF.out.bound)
        have I1 := Lib.hid (fun W (h : ClsAt W g (S.length : Int) ps ms) => in_calls h (ms.length : Int) 0 (by omega) HF.out.u64 (by omega))
        have I2 := Lib.hid (fun W (h : ClsAt W g (S.length : Int) ps ms) => in_calls h 0 (-1) (by omega) HF.out.u64 (by omega))
        have I3 := Lib.hid (fun W (h : ClsAt W g (S.length : Int) ps ms) => in_calls h 0 64 (by omega) HF.out.u64 (by omega))
        rw [setC_none HF.out _ (.inr (Int.le_refl _))] at S1
        rw [setC_none HF.out _ (.inl (by omega))] at S2
        rw [inC_none _ _ _ _ (.inr (.inl (Int.le_refl _)))] at I1
        rw [inC_none _ _ _ _ (.inr (.inr (.inl (by omega))))] at I2
        rw [inC_none _ _ _ _ (.inr (.inr (.inr (by omega))))] at I3
        go_wp2_with fail
        refine S1.out.mono ?_
        rintro e w11 ⟨vx, rfl, hRx, hb11⟩
        obtain ⟨Ax, cx, rfl⟩ := Kd.R_slice hRx
        have HX11 := Lib.hid hb11
        clear hRx hb11 S1
        go_wp2_with fail
        refine (S2.out _ HX11.out).mono ?_
        rintro e w12 ⟨vy, rfl, hRy, hb12⟩
        obtain ⟨Ay, cy, rfl⟩ := Kd.R_slice hRy
        have HX12 := Lib.hid (HX11.out.trans (hb12.mono HX11.out.size))
        have HA12 := Lib.hid (HA.out.later HX12.out)
        clear hRy hb12 S2
        go_wp2_with fail
        refine (I1.out _ HA12.out).mono ?_
        rintro e w13 ⟨rfl, rfl⟩
        go_wp2_with fail
        refine (I2.out _ HA12.out).mono ?_
        rintro e w14 ⟨rfl, rfl⟩
        go_wp2_with fail
        refine (I3.out _ HA12.out).mono ?_
        rintro e w15 ⟨rfl, rfl⟩
        go_wp2
        go_ret
        have hx := HX.out.trans (HX12.out.mono HX.out.size)
        exact ⟨rfl, HB6.out.trans (hx.mono HB6.out.size)⟩
  · have hf' : fewB sets = false := by simpa using hf
    rw [hf'] at HFE
    clear hf hf'
    go_wp2_with fail
    refine HFE.out.mono ?_
    rintro e w2 ⟨rfl, hd2⟩
    have HB2 := Lib.hid (HB1.out.trans (hd2.below.mono HB1.out.size))
    clear hd2 HFE HB1 HC1
    go_wp2
    go_ret
    exact ⟨rfl, HB2.out⟩
end Go.Proofs.Ytnfnnmmblommiaa.PA
