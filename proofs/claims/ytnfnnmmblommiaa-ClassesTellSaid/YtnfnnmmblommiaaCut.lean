/- Masks of sets, classes by masks: in plain lists; what the printed mask and slices.Index tell. classes.Cut, by hand: its pieces and masks, by the places at which something may change. -/
import Derived.Test.YtnfnnmmblommiaaPAx6
import Derived.Test.YtnfnnmmblommiaaPAx2
import Derived.Test.YtnfnnmmblommiaaEv
import Derived.Test.YtnfnnmmblommiaaMath
import Derived.Laws.Bits64b
import Derived.Test.YtnfnnmmblommiaaCSorted
namespace Go.Proofs.Ytnfnnmmblommiaa.PA
open Go.RowKit Go.Proofs.YtnfnnmmblommiaaW.PrintWords Go.Proofs.YtnfnnmmblommiaaW.PrintLast Go.Proofs.YtnfnnmmblommiaaW.PrintMore
set_option linter.unusedVariables false
set_option linter.unusedSimpArgs false

theorem wnext (i : Nat) (h : i < 4611686018427387904) : wrap64 ((i : Int) + 1) = ((i + 1 : Nat) : Int) := by unfold wrap64; omega
/-- Does the i-th set have r? -/
def hasAt (sets : List (List Rg)) (i : Nat) (r : Int) : Bool := hasL (rd_L2 sets (i : Int)) r
/-- The first i sets that have r, as bits. -/
def mkN (sets : List (List Rg)) (r : Int) : Nat → Nat
  | 0 => 0
  | i + 1 => mkN sets r i ||| (if hasAt sets i r then 2 ^ i else 0)
theorem mkN_lt (sets : List (List Rg)) (r : Int) : ∀ i, mkN sets r i < 2 ^ i
  | 0 => by simp [mkN]
  | i + 1 => by
    have h1 : mkN sets r i < 2 ^ (i + 1) := Nat.lt_trans (mkN_lt sets r i) (Nat.pow_lt_pow_right (by omega) (by omega))
    have h2 : (if hasAt sets i r then 2 ^ i else 0) < 2 ^ (i + 1) := by
      split
      · exact Nat.pow_lt_pow_right (by omega) (by omega)
      · exact Nat.two_pow_pos _
    exact Nat.or_lt_two_pow h1 h2
theorem mkN_bit (sets : List (List Rg)) (r : Int) : ∀ i j, (mkN sets r i).testBit j = (decide (j < i) && hasAt sets j r)
  | 0, j => by simp [mkN]
  | i + 1, j => by
    rw [mkN, Nat.testBit_or, mkN_bit sets r i j]
    by_cases hij : j = i
    · subst hij
      by_cases h : hasAt sets j r <;> simp [h]
    · have e : decide (j < i + 1) = decide (j < i) := decide_eq_decide.2 (by omega)
      rw [e]
      by_cases h : hasAt sets i r
      · rw [if_pos h, Nat.testBit_two_pow_of_ne (by omega)]; simp
      · rw [if_neg h]; simp
/-- Two code points with the same mask are in the same sets. -/
theorem mkN_eq {sets : List (List Rg)} {r s : Int} {n : Nat} : mkN sets r n = mkN sets s n ↔ ∀ j, j < n → hasAt sets j r = hasAt sets j s := by
  constructor
  · intro h j hj
    have h1 := mkN_bit sets r n j
    rw [h, mkN_bit] at h1
    simpa [hj] using h1.symm
  · intro h
    apply Nat.eq_of_testBit_eq
    intro j
    rw [mkN_bit, mkN_bit]
    by_cases hj : j < n
    · rw [h j hj]
    · simp [hj]
def maskI (sets : List (List Rg)) (r : Int) : Int := mkN sets r sets.length
theorem mask_l0 (sets : List (List Rg)) (r : Int) (hl : sets.length ≤ 64) : ∀ (d i : Nat), i + d = sets.length → Evt (fun k => classes_mask.l0 k r (mkN sets r i : Int) sets (sets.length : Int) (i : Int)) (maskI sets r)
  | 0, i, h => by
    refine Evt.succ (fun k => classes_mask.l0.eq_2 _ _ _ _ _ _) ?_
    have hi : i = sets.length := by omega
    simp only [if_neg (show ¬ ((i : Int) < (sets.length : Int)) by omega)]
    subst hi
    exact Evt.pure _
  | d + 1, i, h => by
    have ih := mask_l0 sets r hl d (i + 1) (by omega)
    refine Evt.succ (fun k => classes_mask.l0.eq_2 _ _ _ _ _ _) ?_
    have hw := wnext i (by omega)
    have hs : shl .u64 1 (i : Int) = ((2 ^ i : Nat) : Int) := by
      unfold shl
      have hlt : (2 : Nat) ^ i < 18446744073709551616 := (show (18446744073709551616 : Nat) = 2 ^ 64 by rfl) ▸ Nat.pow_lt_pow_right (by omega) (by omega)
      have hm : min ((i : Int).toNat) IntKind.u64.bits = i := by simp [IntKind.bits]; omega
      rw [hm, IntKind.wrap_u64, Int.one_mul, show ((2 : Int) ^ i) = ((2 ^ i : Nat) : Int) by simp]
      generalize (2 : Nat) ^ i = q at hlt ⊢
      omega
    have hb : mkN sets r i < 18446744073709551616 := by
      have h1 := mkN_lt sets r i
      have : (2 : Nat) ^ i ≤ 2 ^ 64 := Nat.pow_le_pow_right (by omega) (by omega)
      omega
    have hp : (2 : Nat) ^ i < 18446744073709551616 := by
      have : (2 : Nat) ^ i < 2 ^ 64 := Nat.pow_lt_pow_right (by omega) (by omega)
      omega
    simp only [if_pos (show (i : Int) < (sets.length : Int) by omega), if_pos (Int.natCast_nonneg i), hw, hs, bits_or_u64_nat _ _ hb hp]
    have hu : uniset_Has.f (rd_L2 sets (i : Int)) r = some (hasAt sets i r) := rfl
    simp only [hu, Option.bind_some]
    rw [mkN] at ih
    cases hh : hasAt sets i r with
    | true => simpa [hh] using ih
    | false => simpa [hh] using ih
theorem Mask_ev (sets : List (List Rg)) (r : Int) (hl : sets.length ≤ 64) : Evt (fun k => classes_mask.f k sets r) (maskI sets r) := by
  have := mask_l0 sets r hl sets.length 0 (by omega)
  simpa [classes_mask.f, mkN] using this
/-- Where a number stands first; its length if nowhere. -/
def idxL (ms : List Int) (m : Int) : Nat := ms.findIdx (fun x => x == m)
theorem idxL_le (ms : List Int) (m : Int) : idxL ms m ≤ ms.length := List.findIdx_le_length
theorem idxL_lt {ms : List Int} {m : Int} : idxL ms m < ms.length ↔ m ∈ ms := by
  unfold idxL
  rw [List.findIdx_lt_length]
  constructor
  · rintro ⟨x, hx, he⟩
    have : x = m := by simpa using he
    exact this ▸ hx
  · intro h; exact ⟨m, h, by simp⟩
theorem idxL_get {ms : List Int} {m : Int} (h : idxL ms m < ms.length) : ms[idxL ms m] = m := by
  unfold idxL at h ⊢
  have := List.findIdx_getElem (w := h)
  simpa using this
theorem index_l0 (ms : List Int) (m : Int) (hl : ms.length < 1000000000) : ∀ (d i : Nat), i + d = ms.length → i ≤ idxL ms m → Evt (fun k => slices_Index_uint64_uint64.l0 k ms m (ms.length : Int) (i : Int)) (if idxL ms m < ms.length then (idxL ms m : Int) else -1)
  | 0, i, h, hi => by
    refine Evt.succ (fun k => slices_Index_uint64_uint64.l0.eq_2 _ _ _ _ _) ?_
    simp only [if_neg (show ¬ ((i : Int) < (ms.length : Int)) by omega)]
    rw [if_neg (by omega)]
    exact Evt.pure _
  | d + 1, i, h, hi => by
    refine Evt.succ (fun k => slices_Index_uint64_uint64.l0.eq_2 _ _ _ _ _) ?_
    have hw := wnext i (by omega)
    have hlt : i < ms.length := by omega
    have hrd : rd ms (i : Int) = ms[i] := by simp [rd, hlt]
    simp only [if_pos (show (i : Int) < (ms.length : Int) by omega), if_pos (Int.natCast_nonneg i), hw, hrd]
    by_cases he : m = ms[i]
    · simp only [if_pos he]
      have : idxL ms m = i := by
        have h2 : idxL ms m ≤ i := by
          rcases Nat.lt_or_ge i (idxL ms m) with hx | hx
          · have := List.not_of_lt_findIdx hx
            simp [he] at this
          · exact hx
        omega
      rw [this, if_pos hlt]
      exact Evt.pure _
    · simp only [if_neg he]
      refine index_l0 ms m hl d (i + 1) (by omega) ?_
      rcases Nat.lt_or_ge i (idxL ms m) with hx | hx
      · exact hx
      · have h3 : idxL ms m = i := by omega
        have := idxL_get (ms := ms) (m := m) (by omega)
        simp only [h3] at this
        exact absurd this.symm he
theorem Index_ev (ms : List Int) (m : Int) (hl : ms.length < 1000000000) : Evt (fun k => slices_Index_uint64_uint64.f k ms m) (if idxL ms m < ms.length then (idxL ms m : Int) else -1) := by
  have := index_l0 ms m hl ms.length 0 (by omega) (Nat.zero_le _)
  simpa [slices_Index_uint64_uint64.f] using this

abbrev Pc := S83
/-- One piece more. -/
def cutStep (sets : List (List Rg)) (st : List Pc × List Int) (lo : Int) : List Pc × List Int :=
  (st.1 ++ [⟨lo, (idxL st.2 (maskI sets lo) : Int)⟩], if idxL st.2 (maskI sets lo) < st.2.length then st.2 else st.2 ++ [maskI sets lo])
def cutOf (sets : List (List Rg)) (los : List Int) : List Pc × List Int := los.foldl (cutStep sets) ([], [])
theorem cutOf_take (sets : List (List Rg)) {los : List Int} {k : Nat} (h : k < los.length) : cutOf sets (los.take (k + 1)) = cutStep sets (cutOf sets (los.take k)) (rd los (k : Int)) := by
  unfold cutOf
  rw [List.take_succ_eq_append_getElem h, List.foldl_append]
  simp [rd, h]
theorem cutOf_length (sets : List (List Rg)) (los : List Int) : (cutOf sets los).1.length = los.length ∧ (cutOf sets los).2.length ≤ los.length := by
  unfold cutOf
  suffices H : ∀ (los : List Int) (st : List Pc × List Int), (los.foldl (cutStep sets) st).1.length = st.1.length + los.length ∧ (los.foldl (cutStep sets) st).2.length ≤ st.2.length + los.length by
    have := H los ([], []); simpa using this
  intro los
  induction los with
  | nil => intro st; simp
  | cons x xs ih =>
    intro st
    have h := ih (cutStep sets st x)
    simp only [List.foldl_cons, List.length_cons]
    refine ⟨by rw [h.1]; simp [cutStep]; omega, Nat.le_trans h.2 ?_⟩
    unfold cutStep
    split
    · simp
    · simp; omega
end Go.Proofs.Ytnfnnmmblommiaa.PA
namespace Go.Proofs.Ytnfnnmmblommiaa.PA
open Go.RowKit Go.Shelf Go.Proofs.YtnfnnmmblommiaaW.PrintWords Go.Proofs.YtnfnnmmblommiaaW.PrintLast Go.Proofs.YtnfnnmmblommiaaW.PrintMore
attribute [local go_sem] max2_int min2_int max_two min_two
set_option linter.unusedVariables false
set_option linter.unusedSimpArgs false

theorem infoPc : (Try.prog.info? 83).map (fun i => (i.zero, i.size, i.bytes)) = some (some (.agg #[.int .i32 0, .int .i64 0]), 2, 16) := by kernel_rfl
theorem infoU64 : (Try.prog.info? 79).map (fun i => (i.zero, i.size, i.bytes)) = some (some (.int .u64 0), 1, 8) := by kernel_rfl
/-- The object under way, and the row of places. -/
structure CutAt (w W : World) (g : Nat) (n : Int) (vz : Value) (zs : List Int) (vp vm : Value) (ps : List Pc) (ms : List Int) : Prop where
  obj : W.heap[g]? = some (.cells #[.int .i64 n, vp, vm] 73 (0, 0))
  rp : Kd.R k83 83 W w.heap.size (fun _ => True) vp ps
  rm : Kd.R (Kd.int .u64) 79 W w.heap.size (fun _ => True) vm ms
  rz : Kd.R (Kd.int .i32) 21 W w.heap.size (fun _ => True) vz zs
  below : Below w.heap.size w W
  ge : w.heap.size ≤ g
section
variable {w W W1 : World} {g : Nat} {n : Int} {vz vp vm v1 : Value} {zs ms : List Int} {ps : List Pc}
theorem CutAt.later (h : CutAt w W g n vz zs vp vm ps ms) (hb : Below W.heap.size W W1) : CutAt w W1 g n vz zs vp vm ps ms :=
  ⟨(hb.block _ (blk_lt h.obj)).trans h.obj, Kd.R_below h.rp hb, Kd.R_below h.rm hb, Kd.R_below h.rz hb, h.below.trans (hb.mono h.below.size), h.ge⟩
theorem CutAt.c0 (h : CutAt w W g n vz zs vp vm ps ms) : W.cell? ⟨g, 0, none⟩ = some (.int .i64 n) := by unfold World.cell?; simp only [h.obj]; rfl
theorem CutAt.c1 (h : CutAt w W g n vz zs vp vm ps ms) : W.cell? ⟨g, 1, none⟩ = some vp := by unfold World.cell?; simp only [h.obj]; rfl
theorem CutAt.c2 (h : CutAt w W g n vz zs vp vm ps ms) : W.cell? ⟨g, 2, none⟩ = some vm := by unfold World.cell?; simp only [h.obj]; rfl
theorem CutAt.fz (h : CutAt w W g n vz zs vp vm ps ms) (j : Nat) : W.frozen? ⟨g, j, none⟩ = false := by unfold World.frozen?; simp only [h.obj]; simp
theorem R_apart {α β : Type} {d : Kd α} {d' : Kd β} {e e' b b' : Nat} {ok ok' : Nat → Prop} {u v : Value} {xs : List α} {ys : List β} (h : d.R e W b ok u xs) (h' : d'.R e' W b' ok' v ys) (hne : e ≠ e') : ∀ k, v.ownBlock = some k → some k ≠ u.ownBlock := by
  intro k hk
  obtain ⟨_, inner, hown, _⟩ := h'
  obtain ⟨c, hc⟩ := own_typed hown k hk
  exact Kd.R_ne h hc hne
theorem CutAt.masks_obj (h : CutAt w W g n vz zs vp vm ps ms) (hg : W.grownBy W1 vm.ownBlock) : W1.heap[g]? = some (.cells #[.int .i64 n, vp, vm] 73 (0, 0)) := blk_grown h.obj hg (Kd.R_ne h.rm h.obj (by decide))
theorem CutAt.pieces_obj (h : CutAt w W g n vz zs vp vm ps ms) (hg : W.grownBy W1 vp.ownBlock) : W1.heap[g]? = some (.cells #[.int .i64 n, vp, vm] 73 (0, 0)) := blk_grown h.obj hg (Kd.R_ne h.rp h.obj (by decide))
theorem CutAt.more_masks (h : CutAt w W g n vz zs vp vm ps ms) {m : Int} (ho : Kd.R (Kd.int .u64) 79 W1 w.heap.size (fun _ => True) v1 (ms ++ [m])) (hg : W.grownBy W1 vm.ownBlock) :
    CutAt w (W1.setCell ⟨g, 2, none⟩ v1) g n vz zs vp v1 ps (ms ++ [m]) := by
  have hobj := h.masks_obj hg
  have hbk : ∀ k, vm.ownBlock = some k → w.heap.size ≤ k := fun k hk => by
    obtain ⟨_, inner, hown, _⟩ := h.rm
    exact own_base hown k hk
  refine ⟨heap_set hobj 2 v1, Kd.R_set (Kd.R_grown2 h.rp rfl hg (R_apart h.rp h.rm (by decide))) hobj (by decide) 2 v1, Kd.R_set ho hobj (by decide) 2 v1, Kd.R_set (Kd.R_grown2 h.rz rfl hg (R_apart h.rz h.rm (by decide))) hobj (by decide) 2 v1, (h.below.grown hg h.below.size hbk).setCell (p := ⟨g, 2, none⟩) h.ge v1, h.ge⟩
theorem CutAt.more_pieces (h : CutAt w W g n vz zs vp vm ps ms) {p : Pc} (ho : Kd.R k83 83 W1 w.heap.size (fun _ => True) v1 (ps ++ [p])) (hg : W.grownBy W1 vp.ownBlock) :
    CutAt w (W1.setCell ⟨g, 1, none⟩ v1) g n vz zs v1 vm (ps ++ [p]) ms := by
  have hobj := h.pieces_obj hg
  have hbk : ∀ k, vp.ownBlock = some k → w.heap.size ≤ k := fun k hk => by
    obtain ⟨_, inner, hown, _⟩ := h.rp
    exact own_base hown k hk
  refine ⟨heap_set hobj 1 v1, Kd.R_set ho hobj (by decide) 1 v1, Kd.R_set (Kd.R_grown2 h.rm rfl hg (R_apart h.rm h.rp (by decide))) hobj (by decide) 1 v1, Kd.R_set (Kd.R_grown2 h.rz rfl hg (R_apart h.rz h.rp (by decide))) hobj (by decide) 1 v1, (h.below.grown hg h.below.size hbk).setCell (p := ⟨g, 1, none⟩) h.ge v1, h.ge⟩
end
/-- A cut, by its classes' pieces and masks. -/
structure ClsAt (W : World) (g : Nat) (n : Int) (ps : List Pc) (ms : List Int) : Prop where
  at_ : ∃ vp vm, W.heap[g]? = some (.cells #[.int .i64 n, vp, vm] 73 (0, 0)) ∧ Kd.R k83 83 W 0 (fun _ => True) vp ps ∧ Kd.R (Kd.int .u64) 79 W 0 (fun _ => True) vm ms
theorem ClsAt.later {W W1 : World} {g : Nat} {n : Int} {ps : List Pc} {ms : List Int} (h : ClsAt W g n ps ms) (hb : Below W.heap.size W W1) : ClsAt W1 g n ps ms := by
  obtain ⟨vp, vm, h1, h2, h3⟩ := h.at_
  exact ⟨vp, vm, (hb.block _ (blk_lt h1)).trans h1, Kd.R_below h2 hb, Kd.R_below h3 hb⟩
theorem CutAt.done {w W : World} {g : Nat} {n : Int} {vz vp vm : Value} {zs ms : List Int} {ps : List Pc} (h : CutAt w W g n vz zs vp vm ps ms) : ClsAt W g n ps ms := ⟨vp, vm, h.obj, Kd.R_lower h.rp (Nat.zero_le _), Kd.R_lower h.rm (Nat.zero_le _)⟩
/-- The places: in order, each once; just those that ends tells. -/
structure LosOf (los : List Int) (sets : List (List Rg)) : Prop where
  lt : los.Pairwise (fun x y => x < y)
  mem : ∀ x, x ∈ los ↔ x ∈ endsL sets
def ss (sets : List (List Rg)) : List (List Rg) := sets.take 64
set_option maxRecDepth 100000 in
set_option maxHeartbeats 8000000 in
theorem cut_walk (w : World) (A : Option Addr) (c : Nat) (sets : List (List Rg)) (hl : sets.length < 1000) (hc : sets.length ≤ c) (hls : ∀ l ∈ sets, l.length < 100000) (hr : Kd.C (Kd.slice 41 k41) w A sets.length sets) (hx : (endsL (ss sets)).length < 100000000)
    (hlo : ∀ ys, InOrder ys (endsL (ss sets)) → LosOf (compactL ys) (ss sets)) :
    Calls Try.prog 24 #[.slice A sets.length c] w fun e w' => ∃ g los, e = .returned (.pointer (some ⟨g, 0, none⟩)) ∧ LosOf los (ss sets) ∧ ClsAt w' g ((ss sets).length : Int) (cutOf (ss sets) los).1 (cutOf (ss sets) los).2 ∧ Below w.heap.size w w' ∧ w.heap.size ≤ g := by
  have hu := Try.underlying73
  have hu2 := Try.underlying83
  have hss : (ss sets).length = min sets.length 64 := by unfold ss; rw [List.length_take]; omega
  have hC : Kd.C (Kd.slice 41 k41) w A (ss sets).length (ss sets) := by
    have h2 := Kd.C_take hr (m := min sets.length 64) (by omega)
    have e : sets.take (min sets.length 64) = ss sets := by unfold ss; rw [List.take_eq_take_iff]; omega
    rwa [e] at h2
  have hlss : ∀ l ∈ ss sets, l.length < 100000 := fun l hm => hls l (List.mem_of_mem_take hm)
  have hcs : (ss sets).length ≤ c := by omega
  have hm64 : (if (64 : Int) < (sets.length : Int) then (64 : Int) else (sets.length : Int)) = ((ss sets).length : Int) := by split <;> omega
  have hle : ((ss sets).length : Int) ≤ (sets.length : Int) := by omega
  have hl64 : (ss sets).length ≤ 64 := by omega
  generalize ss sets = S at *
  obtain ⟨W1, hW1⟩ : ∃ W1, w.alloc (.cells #[.int .i64 (S.length : Int), .slice none 0 0, .slice none 0 0] 73) = W1 := ⟨_, rfl⟩
  have hb1 : Below w.heap.size w W1 := by rw [← hW1]; exact (Below.refl _ w).alloc (Nat.le_refl _) _
  have ho1 : W1.heap[w.heap.size]? = some (.cells #[.int .i64 (S.length : Int), .slice none 0 0, .slice none 0 0] 73 (0, 0)) := by rw [← hW1]; exact heap_alloc_new w _
  have HS := Lib.hid (sorted_ends W1 A c S (by omega) hlss (Kd.C_below hC hb1) (by omega))
  have HE := Lib.hid (ends_calls A S.length c W1)
  have HB1 := Lib.hid hb1
  have HO1 := Lib.hid ho1
  have HW1 := Lib.hid hW1
  have HC := Lib.hid hC
  have HLO := Lib.hid hlo
  have HSS := Lib.hid hss
  clear hb1 ho1 hr hls hC hlss hlo hW1 hss
  go_enter Try.func24, Try.ntmps24
  go_wp2_with fail
  rw [HW1.out]
  refine HE.out.mono ?_
  rintro e w2 ⟨rfl, rfl⟩
  go_wp2_with fail
  refine HS.out.mono ?_
  rintro e w3 ⟨gz, nz, cz, ys, rfl, hRz, hBz, hOz⟩
  have hys : ys.length < 100000000 := by rw [hOz.perm.length_eq]; exact hx
  have HCC := Lib.hid (compact_calls W1.heap.size gz nz cz w3 ys hRz (by omega))
  have HLOS := Lib.hid (HLO.out ys hOz)
  have hll : (compactL ys).length < 100000000 := Nat.lt_of_le_of_lt (compactL_length ys) hys
  have HB3 := Lib.hid hBz
  generalize compactL ys = los at HCC HLOS hll
  clear hRz hBz hOz HE HS HLO
  go_wp2_with fail
  refine HCC.out.mono ?_
  rintro e w4 ⟨rfl, hRz, hBz⟩
  have hAt : CutAt w w4 w.heap.size (S.length : Int) (.slice (some ⟨gz, 0, none⟩) los.length cz) los (.slice none 0 0) (.slice none 0 0) [] [] := by
    have hb : Below W1.heap.size W1 w4 := HB3.out.trans hBz
    refine ⟨(hb.block _ (blk_lt HO1.out)).trans HO1.out, Kd.R_nil _ _ _ _ _, Kd.R_nil _ _ _ _ _, Kd.R_lower hRz HB1.out.size, HB1.out.trans (hb.mono HB1.out.size), Nat.le_refl _⟩
  have HAT := Lib.hid hAt
  clear hRz hBz hAt HB3 HCC
  go_wp2
  go_loopg [22] los.length (fun g' vi wr => ∃ (k : Nat) (vp vm : Value), vi = .int .i64 k ∧ k ≤ los.length ∧ los.length - k ≤ g' ∧ Hid (CutAt w wr w.heap.size (S.length : Int) (.slice (some ⟨gz, 0, none⟩) los.length cz) los vp vm (cutOf S (los.take k)).1 (cutOf S (los.take k)).2))
  case atStart => exact ⟨0, _, _, rfl, Nat.zero_le _, by omega, HAT⟩
  case round =>
    clear HAT
    obtain ⟨k, vp, vm, rfl, hk, hg, HAT⟩ := hrel
    by_cases hlt : k < los.length
    · obtain ⟨hll1, hll2⟩ := cutOf_length S (los.take k)
      have hlk : (los.take k).length ≤ los.length := List.length_take_le' _ _
      have hst := cutOf_take S hlt
      have HST := Lib.hid hst
      obtain ⟨ad, e, hz⟩ := Kd.at_int (Kd.R_reads' HAT.out.rz).2.2 (k : Int) (by omega) (by omega)
      cases e
      rw [add_plain] at hz
      generalize rd los (k : Int) = lo at hz HST
      generalize cutOf S (los.take k) = st at HAT HST hll1 hll2
      obtain ⟨ps, ms⟩ := st
      dsimp only at HAT HST hll1 hll2
      obtain ⟨A1, c1, rfl⟩ := Kd.R_slice HAT.out.rp
      obtain ⟨A2, c2, rfl⟩ := Kd.R_slice HAT.out.rm
      obtain ⟨k1, hk1⟩ := (Mask_ev S lo hl64).get
      obtain ⟨k2, hk2⟩ := (Index_ev ms (maskI S lo) (by omega)).get
      have HM := Lib.hid (classes_mask.calls k1 A c S lo (maskI S lo) wr (Kd.C_below HC.out HAT.out.below) hcs hk1)
      unfold cutStep at HST
      dsimp only at HST
      generalize maskI S lo = m at HM hk2 HST
      have hix := idxL_le ms m
      have HIX := Lib.hid (fun W hC => slices_Index_uint64_uint64.calls k2 A2 c2 ms m _ W hC (Kd.R_reads' HAT.out.rm).2.1 hk2)
      simp only [Int.toNat_natCast] at hz
      have hpl : ps.length ≤ los.length := by omega
      clear hk1 hk2 hst hll1
      go_wp2_with fail
      refine HM.out.mono ?_
      rintro e w5 ⟨rfl, hb5⟩
      have HAT5 := Lib.hid (HAT.out.later hb5)
      have c2' := HAT5.out.c2
      clear HM hb5 HAT hz
      go_wp2_with fail
      refine (HIX.out _ (Kd.R_reads' HAT5.out.rm).2.2).mono ?_
      rintro e w6 ⟨rfl, ⟨⟨nd, rfl⟩⟩⟩
      have HAT6 := Lib.hid (HAT5.out.later (pw_below_drewN (Below.refl _ _) nd))
      clear HIX HAT5 c2'
      obtain ⟨w6, hw6⟩ : ∃ w6, w5.drewN nd = w6 := ⟨_, rfl⟩
      rw [hw6] at HAT6 ⊢
      clear hw6
      by_cases hin : idxL ms m < ms.length
      · have hifI : (if idxL ms m < ms.length then (idxL ms m : Int) else -1) = (idxL ms m : Int) := if_pos hin
        rw [hifI]
        have hneg : ¬ ((idxL ms m : Int) < 0) := by omega
        have c1' := HAT6.out.c1
        have f1' := HAT6.out.fz 1
        have bge := HAT6.out.below.size
        go_wp2_with (at_builtin; (refine Kd.R_append k83 (W := w6) w.heap.size rfl (.tmp 56) (.tmp 60) 70 83 (.agg #[.int .i32 0, .int .i64 0]) 16 rfl Try.underlying70 infoPc rfl (by decide) (by omega) (.slice A1 ps.length c1) ps ⟨lo, (idxL ms m : Int)⟩ [.int .i32 lo, .int .i64 (idxL ms m : Int)] (fun _ => True) (fun _ => False) rfl rfl ?aP (fun _ hk => hk.elim) (fun _ _ => trivial) HAT6.out.rp HAT6.out.below bge ?aL ?_); (case aP => exact k83_mkM _ _ _ _); (case aL => omega); (intro v1 w9 ho hbl hgr hat; obtain ⟨A3, c3, e3⟩ := Kd.R_slice ho; generalize (ps ++ [(⟨lo, (idxL ms m : Int)⟩ : Pc)]).length = n3 at e3; subst e3; have hobj := HAT6.out.pieces_obj hgr; have c9 : w9.cell? ⟨w.heap.size, 1, none⟩ = some (.slice A1 ps.length c1) := (blk_cell hobj 1).trans rfl; have f9 : w9.frozen? ⟨w.heap.size, 1, none⟩ = false := blk_frozen hobj 1; have HATM := Lib.hid (HAT6.out.more_pieces ho hgr); clear ho hbl hgr hat hobj c1' f1'))
        clear HAT6
        go_wp2
        go_roundg (los.length - (k + 1))
        case measure => omega
        case rel => exact ⟨k + 1, _, _, by go_num, by omega, Nat.le_refl _, Lib.hid (by rw [HST.out, if_pos hin]; exact HATM.out)⟩
      · have hifI : (if idxL ms m < ms.length then (idxL ms m : Int) else -1) = -1 := if_neg hin
        rw [hifI]
        have hzl : (idxL ms m : Int) = (ms.length : Int) := by omega
        have HZL := Lib.hid hzl
        have c2' := HAT6.out.c2
        have f2' := HAT6.out.fz 2
        have bge2 := HAT6.out.below.size
        clear hzl
        go_wp2_with (first | ((with_reducible refine gate_dst (N := 56) rfl ?_); obtain ⟨wB, hwB⟩ : ∃ wB, w8.setCell ⟨w.heap.size, 2, none⟩ (.slice A3 n3 c3) = wB := ⟨_, rfl⟩; rw [hwB] at HAT7 c1' f1' bge ⊢; clear hwB) | (at_builtin; (refine Kd.R_append (Kd.int .u64) (W := w6) w.heap.size rfl (.tmp 46) (.tmp 48) 71 79 (.int .u64 0) 8 rfl Try.underlying71 infoU64 rfl Nat.one_pos (by omega) (.slice A2 ms.length c2) ms m [.int .u64 m] (fun _ => True) (fun _ => False) rfl rfl ?aP (fun _ hk => hk.elim) (fun _ _ => trivial) HAT6.out.rm HAT6.out.below bge2 ?aL ?_); (case aP => rfl); (case aL => omega); (intro v1 w8 ho hbl hgr hat; obtain ⟨A3, c3, e3⟩ := Kd.R_slice ho; generalize (ms ++ [m]).length = n3 at e3; subst e3; have hobj := HAT6.out.masks_obj hgr; have c8 : w8.cell? ⟨w.heap.size, 2, none⟩ = some (.slice A2 ms.length c2) := (blk_cell hobj 2).trans rfl; have f8 : w8.frozen? ⟨w.heap.size, 2, none⟩ = false := blk_frozen hobj 2; have HAT7 := Lib.hid (HAT6.out.more_masks ho hgr); have c1' := HAT7.out.c1; have f1' := HAT7.out.fz 1; have bge := HAT7.out.below.size; clear ho hbl hgr hat hobj c2' f2')) | (at_builtin; (refine Kd.R_append k83 (W := wB) w.heap.size rfl (.tmp 56) (.tmp 60) 70 83 (.agg #[.int .i32 0, .int .i64 0]) 16 rfl Try.underlying70 infoPc rfl (by decide) (by omega) (.slice A1 ps.length c1) ps ⟨lo, (ms.length : Int)⟩ [.int .i32 lo, .int .i64 (ms.length : Int)] (fun _ => True) (fun _ => False) rfl rfl ?aP (fun _ hk => hk.elim) (fun _ _ => trivial) HAT7.out.rp HAT7.out.below bge ?aL ?_); (case aP => exact k83_mkM _ _ _ _); (case aL => omega); (intro v1 w9 ho hbl hgr hat; obtain ⟨A4, c4, e4⟩ := Kd.R_slice ho; generalize (ps ++ [(⟨lo, (ms.length : Int)⟩ : Pc)]).length = n4 at e4; subst e4; have hobj := HAT7.out.pieces_obj hgr; have c9 : w9.cell? ⟨w.heap.size, 1, none⟩ = some (.slice A1 ps.length c1) := (blk_cell hobj 1).trans rfl; have f9 : w9.frozen? ⟨w.heap.size, 1, none⟩ = false := blk_frozen hobj 1; have HATM := Lib.hid (HAT7.out.more_pieces ho hgr); clear ho hbl hgr hat hobj c1' f1')))
        clear HAT7
        go_roundg (los.length - (k + 1))
        case measure => omega
        case rel => exact ⟨k + 1, _, _, by go_num, by omega, Nat.le_refl _, Lib.hid (by rw [HST.out, HZL.out, if_neg hin]; exact HATM.out)⟩
    · obtain rfl : k = los.length := by omega
      rw [List.take_length] at HAT
      go_wp2
      go_ret
      exact ⟨_, los, rfl, HLOS.out, HAT.out.done, HAT.out.below, Nat.le_refl _⟩
end Go.Proofs.Ytnfnnmmblommiaa.PA
