/- classes.ends, as an iterator: all places at which something may change. -/
import Derived.Test.YtnfnnmmblommiaaRangeC
import Derived.Test.YtnfnnmmblommiaaHUnion
namespace Go.Proofs.Ytnfnnmmblommiaa.PA
open Go.RowKit Go.Shelf Go.Proofs.YtnfnnmmblommiaaW.PrintWords Go.Proofs.YtnfnnmmblommiaaW.PrintLast Go.Proofs.YtnfnnmmblommiaaW.PrintMore
attribute [local go_sem] Oper.semAt_some
set_option linter.unusedVariables false
set_option linter.unusedSimpArgs false

/-- What lay in w0 lies as it lay. -/
def Old (w0 W : World) : Prop := ∀ k, k < w0.heap.size → W.heap[k]? = w0.heap[k]?
theorem Old.cell {w0 W : World} (h : Old w0 W) {a : Addr} {v : Value} (hc : w0.cell? a = some v) : W.cell? a = some v := (World.cell?_of_block (h _ (World.block_lt_of_cell? w0 a hc))).trans hc
theorem Old.kp {w0 A C : World} {B : Nat} (h : Old w0 A) (k : KpT B A C) (hB : w0.heap.size ≤ B) : Old w0 C := fun i hi => by
  have e := h i hi
  rw [Array.getElem?_eq_getElem hi] at e
  rw [Array.getElem?_eq_getElem hi]
  exact k.same i _ e (.inl (by omega))
theorem Old.below {w0 A C : World} (h : Old w0 A) (k : Below A.heap.size A C) (hl : w0.heap.size ≤ A.heap.size) : Old w0 C := fun i hi => (k.block i (by omega)).trans (h i hi)
theorem C_cells {α : Type} {d : Kd α} {w w' : World} {A : Option Addr} {n : Nat} {xs : List α} (h : d.C w A n xs) (hK : ∀ x c, d.K w x c → d.K w' x c) (hc : ∀ a v, w.cell? a = some v → w'.cell? a = some v) : d.C w' A n xs := by
  refine ⟨h.1, h.2.1, fun hn => ?_⟩
  obtain ⟨ad, e, hq⟩ := h.2.2 hn
  refine ⟨ad, e, fun j p hp => ?_⟩
  obtain ⟨c, h1, h2, h3⟩ := hq j p hp
  exact ⟨c, h1, hK _ _ h2, fun i u hi => hc _ _ (h3 i u hi)⟩
theorem Old.sets {w0 W : World} {A : Option Addr} {n : Nat} {sets : List (List Rg)} (h : Old w0 W) (hr : Kd.C (Kd.slice 41 k41) w0 A n sets) : Kd.C (Kd.slice 41 k41) W A n sets :=
  C_cells hr (fun x c ⟨A', c', e, hl, hC⟩ => ⟨A', c', e, hl, C_cells hC (fun _ _ h => h) fun _ _ hc => h.cell hc⟩) fun _ _ hc => h.cell hc
/-- A row of ranges of the call's own is no row of int32. -/
theorem KpT.Rr {B base : Nat} {ok : Nat → Prop} {A C : World} {v : Value} {xs : List Rg} (h : KpT B A C) (hr : Kd.R k41 41 A base ok v xs) : Kd.R k41 41 C base ok v xs :=
  Kd.R_mono (Kd.R_move (Kd.R_bound hr) (fun k hk => by
    obtain ⟨_, _, _, q, hq, c, hc⟩ := hk
    have hq' : q = 41 := by
      rcases List.mem_cons.1 hq with e | e
      · exact e
      · exact absurd e (by intro h; cases h)
    subst hq'
    exact (h.same _ _ hc (.inr rfl)).trans hc.symm)) (fun _ hk => hk.1)

/-- Where a range begins, and where what lies behind it does. -/
def pts (x : Rg) : List Int := x.f0 :: (if x.f1 < 1114111 then [x.f1 + 1] else [])
def endsOf (l : List Rg) : List Int := (norm (l ++ [])).flatMap pts
def endsL (sets : List (List Rg)) : List Int := 0 :: sets.flatMap endsOf
theorem ends_drop {sets : List (List Rg)} {k : Nat} (h : k < sets.length) : (sets.drop k).flatMap endsOf = endsOf (rd_L2 sets (k : Int)) ++ (sets.drop (k + 1)).flatMap endsOf := by
  rw [List.drop_eq_getElem_cons h, List.flatMap_cons]
  congr 2
  unfold rd_L2; simp [h]
theorem pts_drop {u : List Rg} {m : Nat} (h : m < u.length) : (u.drop m).flatMap pts = pts (rd_T41 u (m : Int)) ++ (u.drop (m + 1)).flatMap pts := by
  rw [List.drop_eq_getElem_cons h, List.flatMap_cons]
  congr 2
  unfold rd_T41; simp [h]
theorem at_pre {xs pre suf : List Int} {x : Int} (h : xs = pre ++ x :: suf) : xs[pre.length]? = some x := by subst h; simp
theorem norm_ok (l : List Rg) : ∀ x ∈ norm l, 0 ≤ x.f1 ∧ x.f1 ≤ 1114111 := fun x hx => by
  have := good_iff.1 (IsF.good (by omega) (norm_isC l) x hx)
  omega
set_option maxRecDepth 100000 in
set_option maxHeartbeats 8000000 in
theorem ends1_iter (B : Nat) (w0 : World) (Bx : Nat) (A : Option Addr) (c : Nat) (sets : List (List Rg)) (hl : sets.length < 1000000000) (hls : ∀ l ∈ sets, l.length < 1000000000) (hbx : w0.cell? ⟨Bx, 0, none⟩ = some (.slice A sets.length c)) (hr : Kd.C (Kd.slice 41 k41) w0 A sets.length sets)
    (hB : w0.heap.size ≤ B) (W : World) (hW : Below w0.heap.size w0 W) :
    Iter Try.prog B 65 #[.pointer (some ⟨Bx, 0, none⟩)] (fun x : Int => #[Value.int .i32 x]) (endsL sets) W := by
  intro l J Jx hJ hJx hY h0 n
  have hu := Try.underlying41
  have hO : Old w0 W := fun k hk => hW.block k hk
  have hcb := hO.cell hbx
  refine callsIn_depth (n := 5) ?_
  refine callsIn_of_wp Try.func65 rfl trivial ?_ rfl
  simp only [Try.ntmps65, List.size_toArray, List.length_cons, List.length_nil, Nat.reduceAdd, Nat.reduceSub, Array.replicate_succ, Array.replicate_zero, List.push_toArray, List.append_toArray, List.nil_append, List.cons_append]
  have HY := Lib.hid hY
  have HJ := Lib.hid hJ
  have HR := Lib.hid hr
  have HLS := Lib.hid hls
  have hsz0 := hW.size
  have HO := Lib.hid hO
  have HBX := Lib.hid hbx
  have HX : Hid (endsL sets = [0] ++ (sets.drop 0).flatMap endsOf) := Lib.hid rfl
  obtain ⟨fn, tmps, assign, body, hy0, hR0⟩ := HY.out 0 0 W (by rfl) h0 (5 - 1)
  clear hY hJ hJx hr hls h0 hO hW hbx
  gi_wp2
  refine (roundIn_depth hR0).mono ?_
  rintro e W3 (⟨rfl, hJ3, hk3⟩ | ⟨rfl, hJx3, _⟩)
  · have HJ3 := Lib.hid hJ3
    have HO3 := Lib.hid (HO.out.kp hk3 hB)
    have hs3 := hk3.size
    have hcb3 := HO3.out.cell HBX.out
    clear hJ3 hk3 hR0 hy0 HO hcb
    gi_wp2
    gi_loopw [12] (fun i wr => ∃ (k : Nat) (pre : List Int), k ≤ sets.length ∧ i = .int .i64 k ∧ Hid (endsL sets = pre ++ (sets.drop k).flatMap endsOf) ∧ Hid (J pre.length wr) ∧ Hid (Old w0 wr) ∧ w0.heap.size ≤ wr.heap.size ∧ W.heap.size ≤ wr.heap.size) (fun i _ => sets.length - (intOf i).toNat)
    case atStart => exact ⟨0, [0], Nat.zero_le _, rfl, HX, HJ3, HO3, by omega, hs3⟩
    case round =>
      clear HX HJ3 HO3 hs3 hcb3
      obtain ⟨k, pre, hk, rfl, HE, HJk, HOk, hsz, hszW⟩ := hrel
      by_cases hlt : k < sets.length
      · obtain ⟨ad, A0, c0, rfl, hx, hlc, hC⟩ := at_L2 (HOk.out.sets HR.out) (k : Int) (by omega) (by omega)
        have hll : (rd_L2 sets (k : Int)).length < 1000000000 := HLS.out _ (by unfold rd_L2; simp [hlt])
        have HE2 : Hid (endsL sets = pre ++ ((norm (rd_L2 sets (k : Int) ++ [])).drop 0).flatMap pts ++ (sets.drop (k + 1)).flatMap endsOf) := Lib.hid (by rw [HE.out, ends_drop hlt, List.drop_zero, List.append_assoc]; rfl)
        obtain ⟨l1, hl1⟩ : ∃ l1, rd_L2 sets (k : Int) = l1 := ⟨_, rfl⟩
        rw [hl1] at hx hlc hC hll HE2
        have hun := fun W' hC' => callsIn_wide (n := 5 - 1) |>.2 (uniset_Union.calls A0 c0 l1 none 0 [] (norm (l1 ++ [])) W' hC' hlc (Kd.R_reads' (Kd.R_nil k41 41 W' 0 (fun _ => True))).2.2 (Nat.le_refl _) (by unfold uniset_Union.f; rw [if_pos (by simp; omega)]))
        have HOKS := Lib.hid (norm_ok (l1 ++ []))
        have hul : (norm (l1 ++ [])).length < 1000000000 := Nat.lt_of_le_of_lt (norm_length _) (by simpa using hll)
        have HUN := Lib.hid (hun wr hC)
        generalize norm (l1 ++ []) = u at HE2 HUN HOKS hul
        clear hl1 hC hun HE
        simp only [Int.toNat_natCast] at hx
        gi_wp2_with (refine ⟨trivial, ?_⟩; gi_at_call 33; refine HUN.out.mono ?_; rintro e w4 ⟨v, rfl, hRu, hBu⟩; obtain ⟨A4, c4, rfl, hlc4, hC4⟩ := Kd.R_reads hRu; have H4 := Lib.hid hRu; have H5 := Lib.hid hBu; clear hRu hBu hlc4 hC4)
        have HJ4 := Lib.hid (HJ.out _ _ _ HJk.out (TurnFrom.of_below (B := W.heap.size) H5.out))
        have HO4 := Lib.hid (HOk.out.below H5.out hsz)
        have hs4 := H5.out.size
        obtain ⟨wo, rfl⟩ : ∃ wo : World, wo = wr := ⟨_, rfl⟩
        clear HUN HJk HOk hx
        gi_loopw [19] (fun i wr => ∃ (m : Nat) (pre : List Int), m ≤ u.length ∧ i = .int .i64 m ∧ Hid (endsL sets = pre ++ (u.drop m).flatMap pts ++ (sets.drop (k + 1)).flatMap endsOf) ∧ Hid (J pre.length wr) ∧ Hid (Old w0 wr) ∧ w0.heap.size ≤ wr.heap.size ∧ W.heap.size ≤ wr.heap.size ∧ Hid (Kd.R k41 41 wr 0 (fun _ => True) (.slice A4 u.length c4) u)) (fun i _ => u.length - (intOf i).toNat)
        case atStart => exact ⟨0, pre, Nat.zero_le _, rfl, HE2, HJ4, HO4, by omega, by omega, Lib.hid (Kd.R_lower H4.out (Nat.zero_le _))⟩
        case round =>
          clear HE2 HJ4 HO4 H4 H5
          obtain ⟨m, pre, hm, rfl, HE, HJk, HOk, hsz, hszW, HRU⟩ := hrel
          by_cases hltm : m < u.length
          · obtain ⟨ad', rfl, hx0, hx1⟩ := at_T41 (Kd.R_reads' HRU.out).2.2 (m : Int) (by omega) (by omega)
            have HE2 : Hid (endsL sets = pre ++ (rd_T41 u (m : Int)).f0 :: ((if (rd_T41 u (m : Int)).f1 < 1114111 then [(rd_T41 u (m : Int)).f1 + 1] else []) ++ (u.drop (m + 1)).flatMap pts ++ (sets.drop (k + 1)).flatMap endsOf)) := Lib.hid (by rw [HE.out, pts_drop hltm]; unfold pts; simp)
            have hgd := HOKS.out (rd_T41 u (m : Int)) (by unfold rd_T41; simp [hltm])
            generalize rd_T41 u (m : Int) = x at hx0 hx1 HE2 hgd
            simp only [Int.toNat_natCast] at hx0 hx1
            obtain ⟨w5, hw5⟩ : ∃ w5, wr.alloc (.cells #[.int .i32 x.f0, .int .i32 x.f1] 41) = w5 := ⟨_, rfl⟩
            have hb5 : Below wr.heap.size wr w5 := by rw [← hw5]; exact (Below.refl _ wr).alloc (Nat.le_refl _) _
            have hs5 : w5.heap[wr.heap.size]? = some (.cells #[.int .i32 x.f0, .int .i32 x.f1] 41) := by rw [← hw5]; exact heap_alloc_new wr _
            have h50 : w5.cell? ⟨wr.heap.size, 0, none⟩ = some (.int .i32 x.f0) := by unfold World.cell?; simp only [hs5]; rfl
            have h51 : w5.cell? ⟨wr.heap.size, 1, none⟩ = some (.int .i32 x.f1) := by unfold World.cell?; simp only [hs5]; rfl
            obtain ⟨fn, tmps, assign, body, hy, hR⟩ := HY.out pre.length x.f0 w5 (at_pre HE2.out) (HJ.out _ _ _ HJk.out (TurnFrom.of_below (B := W.heap.size) hb5)) (5 - 1)
            have HS5 := Lib.hid hs5
            have HB5 := Lib.hid hb5
            clear HE hs5 hb5
            gi_wp2
            refine (roundIn_depth hR).mono ?_
            rintro e W6 (⟨rfl, hJ6, hk6⟩ | ⟨rfl, hJx6, _⟩)
            · have HO6 := Lib.hid ((HOk.out.below HB5.out hsz).kp hk6 hB)
              have HR6 := Lib.hid (hk6.Rr (Kd.R_below HRU.out HB5.out))
              have hs6 : W6.heap[wr.heap.size]? = some (.cells #[.int .i32 x.f0, .int .i32 x.f1] 41) := hk6.same _ _ HS5.out (.inr rfl)
              have h61 : W6.cell? ⟨wr.heap.size, 1, none⟩ = some (.int .i32 x.f1) := by unfold World.cell?; simp only [hs6]; rfl
              have hle6 : wr.heap.size ≤ W6.heap.size := Nat.le_trans HB5.out.size hk6.size
              have hJ6' : J (pre ++ [x.f0]).length W6 := by rw [List.length_append]; exact hJ6
              have HJ6 := Lib.hid hJ6'
              by_cases hlo : x.f1 < 1114111
              · have HE3 : Hid (endsL sets = (pre ++ [x.f0]) ++ (x.f1 + 1) :: ((u.drop (m + 1)).flatMap pts ++ (sets.drop (k + 1)).flatMap endsOf)) := Lib.hid (by rw [HE2.out, if_pos hlo]; simp)
                obtain ⟨fn2, tmps2, assign2, body2, hy2, hR2⟩ := HY.out (pre ++ [x.f0]).length (x.f1 + 1) W6 (at_pre HE3.out) hJ6' (5 - 1)
                have hw : IntKind.i32.wrap (x.f1 + 1) = x.f1 + 1 := by simp [IntKind.wrap, IntKind.bits, IntKind.signed]; omega
                have hd : decide (x.f1 < 1114111) = true := decide_eq_true hlo
                clear hJ6 hJ6' hk6 hs6 hR hy HE2 hx0 hx1 h50 h51
                gi_wp2
                refine (roundIn_depth hR2).mono ?_
                rintro e W7 (⟨rfl, hJ7, hk7⟩ | ⟨rfl, hJx7, _⟩)
                · have hJ7' : J (pre ++ [x.f0, x.f1 + 1]).length W7 := by rw [show (pre ++ [x.f0, x.f1 + 1]).length = (pre ++ [x.f0]).length + 1 by simp]; exact hJ7
                  have HJ7 := Lib.hid hJ7'
                  have HO7 := Lib.hid (HO6.out.kp hk7 hB)
                  have HR7 := Lib.hid (hk7.Rr HR6.out)
                  have hle7 := hk7.size
                  clear hJ7 hJ7' hk7 hy2 hR2 h61 hw
                  gi_wp2
                  go_roundw
                  case rel => exact ⟨m + 1, pre ++ [x.f0, x.f1 + 1], by omega, by go_num, Lib.hid (by rw [HE3.out]; simp), HJ7, HO7, by omega, by omega, HR7⟩
                  case measure => simp [intOf]; omega
                · have HJ7 := Lib.hid hJx7
                  clear hJx7 hy2 hR2 h61 hw
                  gi_wp2
                  refine bodyPost_ret (results_none rfl _ _ _) rfl ?_
                  exact ⟨⟨_, rfl⟩, .inr HJ7.out⟩
              · have HE3 : Hid (endsL sets = (pre ++ [x.f0]) ++ (u.drop (m + 1)).flatMap pts ++ (sets.drop (k + 1)).flatMap endsOf) := Lib.hid (by rw [HE2.out, if_neg hlo]; simp)
                have hd : decide (x.f1 < 1114111) = false := decide_eq_false hlo
                clear hJ6 hJ6' hk6 hs6 hR hy HE2 hx0 hx1 h50 h51
                gi_wp2_with (refine wpListIn_skip (o := ⟨some 37, _, _, _, _, _⟩) rfl rfl ?_)
                go_roundw
                case rel => exact ⟨m + 1, pre ++ [x.f0], by omega, by go_num, HE3, HJ6, HO6, by omega, by omega, HR6⟩
                case measure => simp [intOf]; omega
            · have HJ6 := Lib.hid hJx6
              clear hJx6 hR hy
              gi_wp2_with (first | (refine wpListIn_skip (o := ⟨some 33, _, _, _, _, _⟩) rfl rfl ?_) | (refine wpListIn_skip (o := ⟨some 34, _, _, _, _, _⟩) rfl rfl ?_) | (refine wpListIn_skip (o := ⟨some 35, _, _, _, _, _⟩) rfl rfl ?_) | (refine wpListIn_skip (o := ⟨some 36, _, _, _, _, _⟩) rfl rfl ?_) | (refine wpListIn_skip (o := ⟨some 37, _, _, _, _, _⟩) rfl rfl ?_) | (refine wpListIn_skip (o := ⟨some 38, _, _, _, _, _⟩) rfl rfl ?_))
              refine bodyPost_ret (results_none rfl _ _ _) rfl ?_
              exact ⟨⟨_, rfl⟩, .inr HJ6.out⟩
          · obtain rfl : m = u.length := by omega
            gi_wp2
            go_roundw
            case rel => exact ⟨k + 1, pre, by omega, by go_num, Lib.hid (by have := HE.out; rw [List.drop_length] at this; simpa using this), HJk, HOk, hsz, hszW⟩
            case measure => simp [intOf]; omega
      · obtain rfl : k = sets.length := by omega
        gi_wp2
        go_end0
        refine ⟨⟨_, rfl⟩, .inl ?_⟩
        have := HE.out
        rw [List.drop_length] at this
        rw [this]
        simpa using HJk.out
  · have HJ3 := Lib.hid hJx3
    clear hJx3 hR0 hy0
    gi_wp2
    refine bodyPost_ret (results_none rfl _ _ _) rfl ?_
    exact ⟨⟨_, rfl⟩, .inr HJ3.out⟩
end Go.Proofs.Ytnfnnmmblommiaa.PA
