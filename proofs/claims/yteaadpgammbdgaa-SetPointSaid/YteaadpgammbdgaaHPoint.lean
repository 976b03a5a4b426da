/- The walk of SetPoint: by hand: the array of bools beside the row of ranges. -/
import Derived.Test.YteaadpgammbdgaaPoint
import Derived.Test.YteaadpgammbdgaaHNorm
import Derived.Deep.RegionHeld3
import Derived.Deep.AppendLies
import Derived.WalkSpells
import Derived.Laws.Pointers
import Derived.IntWalk
import Derived.Test.YteaadpgammbdgaaHHas
import Derived.Test.YteaadpgammbdgaaPAx10
import Derived.Test.YteaadpgammbdgaaPAx3
import Derived.Test.YteaadpgammbdgaaPAx11
namespace Go.Proofs.Yteaadpgammbdgaa.PA
open Go.RowKit Go.Proofs.YteaadpgammbdgaaW.PrintWords Go.Proofs.YteaadpgammbdgaaW.PrintLast Go.Proofs.YteaadpgammbdgaaW.PrintMore
set_option linter.unusedVariables false
set_option linter.unusedSimpArgs false

/-- An array of 258 bools. -/
def arrV (f : Int → Bool) : Array Value := ((List.range 258).map fun (j : Nat) => Value.bool (f (j : Int))).toArray
def ArrB (W : World) (B : Nat) (f : Int → Bool) : Prop := W.heap[B]? = some (.cells (arrV f) 35 (0, 0))
theorem arrV_get (f : Int → Bool) (j : Nat) (hj : j < 258) : (arrV f)[j]? = some (.bool (f (j : Int))) := by
  unfold arrV
  rw [List.getElem?_toArray, List.getElem?_map, List.getElem?_range hj]
  rfl
theorem ArrB.cell {W : World} {B : Nat} {f : Int → Bool} (h : ArrB W B f) (j : Nat) (hj : j < 258) : W.cell? ⟨B, j, none⟩ = some (.bool (f (j : Int))) := by
  have h' : W.heap[B]? = some (.cells (arrV f) 35 (0, 0)) := h
  unfold World.cell?
  simp only [h']
  simpa using arrV_get f j hj
theorem ArrB.frozen {W : World} {B : Nat} {f : Int → Bool} (h : ArrB W B f) (j : Nat) : W.frozen? ⟨B, j, none⟩ = false := by
  have h' : W.heap[B]? = some (.cells (arrV f) 35 (0, 0)) := h
  unfold World.frozen?
  simp [h']
theorem ArrB.below {W W' : World} {B : Nat} {f : Int → Bool} {n : Nat} (h : ArrB W B f) (hb : Below n W W') (hB : B < n) : ArrB W' B f := (hb.block _ hB).trans h
theorem ArrB.lt {W : World} {B : Nat} {f : Int → Bool} (h : ArrB W B f) : B < W.heap.size := (Array.getElem?_eq_some_iff.1 (show W.heap[B]? = some _ from h)).1
theorem ArrB.set {W : World} {B : Nat} {f g : Int → Bool} (h : ArrB W B f) (j : Nat) (hj : j < 258) (hg : ∀ i : Int, g i = (f i || decide (i = j))) : ArrB (W.setCell ⟨B, j, none⟩ (.bool true)) B g := by
  have e := heap_set (show W.heap[B]? = some (.cells (arrV f) 35 (0, 0)) from h) j (.bool true)
  unfold ArrB
  rw [e]
  congr 2
  apply Array.ext_getElem?
  intro i
  rw [Array.getElem?_setIfInBounds]
  by_cases hi : i < 258
  · rw [arrV_get g i hi, hg]
    by_cases q : j = i
    · subst q; rw [if_pos rfl, if_pos (by simpa [arrV] using hi)]; simp
    · rw [if_neg q, arrV_get f i hi]
      have : ¬ ((i : Int) = j) := by omega
      simp [this]
  · rw [if_neg (by omega), Array.getElem?_eq_none (by simp [arrV]; omega), Array.getElem?_eq_none (by simp [arrV]; omega)]
theorem ArrB.kept {W W' : World} {B : Nat} {f : Int → Bool} {row : Option Nat} (h : ArrB W B f) (hg : W.grownBy W' row) (hne : some B ≠ row) : ArrB W' B f := (hg.block B h.lt hne).trans h
theorem R_arr {α : Type} {d : Kd α} {W : World} {B base e : Nat} {f : Int → Bool} {v : Value} {xs : List α} (hR : d.R e W base (fun _ => True) v xs) (hB : ArrB W B f) (ht : ∀ q, q ∈ e :: d.E → q ≠ 35) (j : Nat) (u : Value) : d.R e (W.setCell ⟨B, j, none⟩ u) base (fun _ => True) v xs :=
  Kd.R_mono (Kd.R_move (Kd.R_bound hR) (fun k hk => Below.heap_setCell W ⟨B, j, none⟩ u k (fun e' => by
    obtain ⟨_, _, _, q, hq, c, hc⟩ := hk
    have h' : W.heap[B]? = some (.cells (arrV f) 35 (0, 0)) := hB
    have e2 : k = B := e'
    rw [e2, h'] at hc
    cases hc
    exact ht _ hq rfl))) (fun _ hk => hk.1)
theorem arr_not_own {α : Type} {d : Kd α} {W : World} {B base e : Nat} {f : Int → Bool} {v : Value} {xs : List α} (hR : d.R e W base (fun _ => True) v xs) (hB : ArrB W B f) (ht : e ≠ 35) : some B ≠ v.ownBlock := by
  intro e'
  obtain ⟨_, inner, hown, _⟩ := hR
  obtain ⟨c, hc⟩ := own_typed hown B e'.symm
  have h' : W.heap[B]? = some (.cells (arrV f) 35 (0, 0)) := hB
  rw [h'] at hc
  cases hc
  exact ht rfl
theorem rd_get {zs : List Int} {k : Nat} (h : k < zs.length) : rd zs (k : Int) = zs[k] := by simp [rd, h]
theorem pts_take {zs : List Int} {k : Nat} (h : k < zs.length) : pts (zs.take (k + 1)) = pts (zs.take k) ++ [⟨rd zs (k : Int), rd zs (k : Int)⟩] := by
  rw [rd_get h, List.take_succ_eq_append_getElem h]
  unfold pts
  rw [List.map_append]; rfl
theorem inF_take {zs : List Int} {k : Nat} (h : k < zs.length) (i : Int) : inF (zs.take (k + 1)) i = (inF (zs.take k) i || decide (i = rd zs (k : Int))) := by
  rw [rd_get h, List.take_succ_eq_append_getElem h]
  unfold inF
  rw [Bool.eq_iff_iff]
  simp only [List.mem_append, List.mem_singleton, Bool.or_eq_true, decide_eq_true_eq]
theorem zero_arr : Try.zeroCells35 = arrV (fun _ => false) := by kernel_rfl
theorem rd_mem {zs : List Int} {k : Nat} (h : k < zs.length) : rd zs (k : Int) ∈ zs := by
  simp [rd, h]
set_option maxRecDepth 100000 in
theorem point_many (A0 : Option Addr) (c0 : Nat) (n : Nat) (w : World) (hl : 150 < n) :
    Calls Try.prog 4 #[.slice A0 n c0] w fun e w' => e = .returned (.bool true) ∧ Below w.heap.size w w' := by
  obtain ⟨kk, hk⟩ := known_ev.get
  have HKN := Lib.hid (fun W => hornbooklaw3_known.calls kk true W hk)
  have d1 : decide ((150 : Int) < (n : Int)) = true := decide_eq_true (by omega)
  have d2 : decide (150 < n) = true := decide_eq_true hl
  clear hk hl
  go_enter Try.func4, Try.ntmps4
  go_wp2_with (go_at_call 19; refine (HKN.out _).mono ?_; rintro e w1 ⟨rfl, hb⟩; have HB1 := Lib.hid hb; clear hb)
  go_ret
  exact ⟨rfl, HB1.out⟩
set_option maxRecDepth 100000 in
set_option maxHeartbeats 4000000 in
theorem point_calls (A0 : Option Addr) (c0 : Nat) (zs : List Int) (w : World) (hr0 : Kd.C (Kd.int .u8) w A0 zs.length zs) (hc0 : zs.length ≤ c0) (hz : ∀ z ∈ zs, 0 ≤ z ∧ z < 256) (hl : zs.length ≤ 150) :
    Calls Try.prog 4 #[.slice A0 zs.length c0] w fun e w' => e = .returned (.bool true) ∧ Below w.heap.size w w' := by
  have HR := Lib.hid hr0
  have HZ := Lib.hid hz
  have hu := Try.underlying37
  obtain ⟨kk, hk⟩ := known_ev.get
  have HKN := Lib.hid (fun W => hornbooklaw3_known.calls kk true W hk)
  have d1 : decide ((150 : Int) < (zs.length : Int)) = false := decide_eq_false (by omega)
  have d2 : decide (150 < zs.length) = false := decide_eq_false (by omega)
  have hlI : (zs.length : Int) ≤ 150 := by omega
  clear hr0 hc0 hz hk
  go_enter Try.func4, Try.ntmps4
  go_wp2_with (go_at_call 19; refine (HKN.out _).mono ?_; rintro e w1 ⟨rfl, hb⟩; have HB1 := Lib.hid hb; clear hb)
  have HA0 : Hid (ArrB (w1.alloc (.cells Try.zeroCells35 35)) w1.heap.size (inF (zs.take 0))) := Lib.hid (by
    have e : inF (zs.take 0) = fun _ => false := by funext i; simp [inF]
    unfold ArrB
    rw [e, ← zero_arr]
    exact heap_alloc_new w1 _)
  have HB2 := Lib.hid (show Below w.heap.size w (w1.alloc (.cells Try.zeroCells35 35)) from HB1.out.alloc HB1.out.size _)
  have hBw : w.heap.size ≤ w1.heap.size := HB1.out.size
  generalize w1.heap.size = Ba at HA0 hBw ⊢
  generalize w1.alloc (.cells Try.zeroCells35 35) = wa at HA0 HB2 ⊢
  clear HB1 HKN d1 d2
  go_loopw [3, 5] (fun v i wr => ∃ k : Nat, k ≤ zs.length ∧ i = .int .i64 k ∧ Hid (Kd.R k37 37 wr w.heap.size (fun _ => True) v (pts (zs.take k))) ∧ Hid (ArrB wr Ba (inF (zs.take k))) ∧ Hid (Below w.heap.size w wr)) (fun _ i _ => zs.length - (intOf i).toNat)
  case atStart => exact ⟨0, Nat.zero_le _, rfl, Kd.R_nil _ _ _ _ _, HA0, HB2⟩
  case round =>
    obtain ⟨k, hk, rfl, HO, HA, HB⟩ := hrel
    by_cases hlt : k < zs.length
    · have hpos : 0 < zs.length := by omega
      obtain ⟨b, off, rfl, hbl⟩ := C_plain HR.out hpos (by decide)
      obtain ⟨ad, had, hx⟩ := Kd.at_int (Kd.C_below HR.out HB.out) (k : Int) (by omega) (by omega)
      cases had
      have HP := Lib.hid (pts_take hlt)
      have HI := Lib.hid (inF_take hlt)
      obtain ⟨z0, z1⟩ := HZ.out _ (rd_mem hlt)
      generalize rd zs (k : Int) = z at hx HP HI z0 z1
      rw [Int.toNat_natCast, add_none] at hx
      obtain ⟨zn, rfl⟩ : ∃ zn : Nat, z = (zn : Int) := ⟨z.toNat, by omega⟩
      have hbw := HB.out.size
      have hBlt := HA.out.lt
      have hBne := arr_not_own HO.out HA.out (by decide)
      obtain ⟨q0, inner, hown, hreps⟩ := HO.out
      have hob : u3.ownBlock ≠ some b := fun e => by have := own_base hown b e; omega
      have hlen : (pts (zs.take k)).length = k := by simp [pts]; omega
      obtain ⟨i0, hi0, hz0, hz1, hz2⟩ := info_parts info37
      have hwz : IntKind.i32.wrap (zn : Int) = (zn : Int) := IntWalk.i32_in _ (by omega)
      have b1 : (k : Int) < (zs.length : Int) := by omega
      have b0 : (0 : Int) ≤ (k : Int) := Int.natCast_nonneg _
      have HQ := Lib.hid hreps
      have HQ0 := Lib.hid q0
      clear hreps q0
      rw [hlen] at hown
      have HLEN := Lib.hid hlen
      clear hlen
      go_wp2_with fail
      go_region_held3 (fun w' => w'.cell? ⟨b, off + k, none⟩ = some (.int .u8 (zn : Int)))
        (first
          | go_keep
          | (go_split_ands
             (rw [hgrow.cell_far _ (by simp; omega) (Ne.symm hob)]; assumption)))
        ((refine step_append_lies _ (by rfl) _ _ _ (by rfl) w.heap.size 37 i0 _ 2 8 Try.underlying34 hi0 hz0 hz1 hz2 rfl (by omega) u3 k inner (by rfl) ((hown.alloc _).drew)
            ⟨wr.heap.size, 0, none⟩ 1 1 [.int .i32 (zn : Int), .int .i32 (zn : Int)] (by rfl) (by rfl) (World.news_of_block (cs := #[.int .i32 (zn : Int), .int .i32 (zn : Int)]) (t := 37) (fr := (0, 0)) (heap_alloc_new wr _)) (by simp [Value.oneCell'])
            (by omega) (by unfold maxLen; omega) (by omega) (by simp; omega) (wr.heap.size + 1) (by simp) ?_; intro gg cap w2 hown1 hgrow hat hlt2))
      rename_i hcx
      have hg1 : wr.grownBy w2 u3.ownBlock := World.grownBy.trans (World.grownBy_alloc wr (.cells #[.int .i32 (zn : Int), .int .i32 (zn : Int)] 37) _) ⟨hgrow.os, hgrow.tape, hgrow.output, hgrow.size, hgrow.block⟩
      have hR2 := Kd.R_appended HQ0.out HQ.out (k37_mkM wr w.heap.size (fun _ => False) (⟨(zn : Int), (zn : Int)⟩ : Rg)) (fun _ hk => hk.elim) (fun _ _ => trivial) (by rw [HLEN.out]; exact hown1) hg1 (by
        rcases hat with hat | hat
        · exact .inl hat.symm
        · exact .inr ⟨gg, rfl, by omega⟩)
      have hA2 := HA.out.kept hg1 hBne
      have hB2 : Below w.heap.size w w2 := HB.out.grown hg1 (by omega) (fun q hq => own_base hown q hq)
      have hR3 := R_arr hR2 hA2 (by decide) zn (.bool true)
      have hA3 := hA2.set (g := inF (zs.take (k + 1))) zn (by omega) HI.out
      have hB3 := hB2.setCell (p := ⟨Ba, zn, none⟩) (by omega) (.bool true)
      have hca := hA2.cell zn (by omega)
      have hfa := hA2.frozen zn
      rw [← HP.out] at hR3
      have HR3 := Lib.hid hR3
      have HA3 := Lib.hid hA3
      have HB3 := Lib.hid hB3
      clear hR2 hA2 hB2 hR3 hA3 hB3 hwz hown1 hgrow hat hlt2 hg1 hown hob hBne
      go_wp2
      exact ⟨⟨k + 1, by omega, by go_num, HR3, HA3, HB3⟩, by simp [intOf]; omega⟩
    · obtain rfl : k = zs.length := by omega
      have HE := Lib.hid (List.take_length (l := zs))
      have HO1 : Hid (Kd.R k37 37 wr w.heap.size (fun _ => True) u3 (pts zs)) := Lib.hid (by have := HO.out; rw [HE.out] at this; exact this)
      have HA1 : Hid (ArrB wr Ba (inF zs)) := Lib.hid (by have := HA.out; rw [HE.out] at this; exact this)
      obtain ⟨A, c, rfl, hlc, hC⟩ := Kd.R_reads HO1.out
      have hpl : (pts zs).length = zs.length := by simp [pts]
      have hpg := pts_good HZ.out
      have hnl := norm_length (pts zs)
      have hNf : uniset_Norm.f (pts zs) = some (norm (pts zs), 0) := by
        unfold uniset_Norm.f
        rw [if_neg (by
          rw [List.any_eq_true]
          rintro ⟨x, hx, hg⟩
          rw [hpg x hx] at hg; cases hg), if_pos (by omega), if_neg (by omega)]
      have HNc := Lib.hid (uniset_Norm.calls A c (pts zs) (norm (pts zs)) 0 wr hC hlc hNf)
      have hs1 : ∀ i, hasL (norm (pts zs)) i = inF zs i := fun i => (norm_has _ i).trans (pts_has HZ.out i)
      have hs2 := pts_count HZ.out
      have hs3 := pts_runs HZ.out
      have hs4 : isG none (norm (pts zs)) = true := (norm_isC _).isG
      have hs5 : (norm (pts zs)).length ≤ 150 := by omega
      have hBlt := HA1.out.lt
      rw [hpl] at HNc
      rw [hpl]
      generalize norm (pts zs) = sN at HNc hs1 hs2 hs3 hs4 hs5
      have HS1 := Lib.hid hs1
      have HS2 := Lib.hid hs2
      have HS3 := Lib.hid hs3
      have HS4 := Lib.hid hs4
      clear hs1 hs2 hs3 hs4 hC hNf hpg hpl hnl hlc HO HA HE HO1
      go_wp2_with (go_at_call 20; refine HNc.out.mono ?_; rintro e w2 ⟨v, rfl, hR, hB⟩; obtain ⟨A2, c2, rfl, hlc2, hC2⟩ := Kd.R_reads hR; have HC2 := Lib.hid hC2; have HL2 := Lib.hid hlc2; have HB2 := Lib.hid (HB.out.trans (hB.mono HB.out.size)); have HA2 := Lib.hid (HA1.out.below hB hBlt); clear hR hB hC2 hlc2)
      clear HNc HA1 HB
      go_loopw [8, 9, 10] (fun rn n i wr2 => ∃ k : Nat, k ≤ 256 ∧ i = .int .i64 k ∧ n = .int .i64 (cntN k (inF zs) : Int) ∧ rn = .int .i64 (cntN k (runF zs) : Int) ∧ Hid (ArrB wr2 Ba (inF zs)) ∧ Hid (Kd.C k37 wr2 A2 sN.length sN) ∧ Hid (Below w.heap.size w wr2)) (fun _ _ i _ => 256 - (intOf i).toNat)
      case atStart => exact ⟨0, by omega, rfl, rfl, rfl, HA2, HC2, HB2⟩
      case round =>
        obtain ⟨k, hk, rfl, rfl, rfl, HA, HC, HB⟩ := hrel
        by_cases hlt : k < 256
        · have hcK := HA.out.cell k (by omega)
          have HH := Lib.hid (fun W hr => uniset_Has.calls A2 c2 sN (k : Int) (inF zs k) W hr HL2.out (by show some (hasL sN k) = _; rw [HS1.out]))
          have hw : IntKind.i32.wrap (k : Int) = (k : Int) := IntWalk.i32_in _ (by omega)
          have HN := Lib.hid (cntN_succ k (inF zs))
          have HM := Lib.hid (cntN_succ k (runF zs))
          have hm := cntN_le k (inF zs)
          have hr := cntN_le k (runF zs)
          have HF := Lib.hid (show runF zs k = (inF zs k && !inF zs ((k : Int) - 1)) from rfl)
          have HP := Lib.hid (fun h : 1 ≤ k => HA.out.cell (k - 1) (by omega))
          have hBlt := HA.out.lt
          generalize cntN k (inF zs) = m at HN hm ⊢
          generalize cntN k (runF zs) = rr at HM hr ⊢
          generalize hfk : inF zs (k : Int) = fk at hcK HH HN HF
          have HFK := Lib.hid hfk
          clear hfk
          have d0 : (0 : Int) ≤ (k : Int) := Int.natCast_nonneg _
          have d1 : (k : Int) < 256 := by omega
          cases fk
          · rw [Bool.false_and] at HF
            rw [HF.out] at HM
            rw [if_neg (by decide)] at HN HM
            clear hw
            go_wp2
            have hw : IntKind.i32.wrap (k : Int) = (k : Int) := IntWalk.i32_in _ (by omega)
            go_region_with ((go_at_call 21; refine (HH.out _ (by first | exact HC.out | exact Kd.C_drew HC.out | exact Kd.C_drewN HC.out _)).mono ?_; rintro e w9 ⟨rfl, hb⟩; have hb' : Below wr.heap.size wr w9 := (by first | exact hb | exact below_t (below_d (Below.refl _ _) _) hb | exact below_t (below_drew1 (Below.refl _ _)) hb); have hc9 := cell_b hb' hcK; have HB9 := Lib.hid hb'; clear hb hb'))
            all_goals
              clear hw
              go_wp2
              exact ⟨⟨k + 1, by omega, by go_num, by rw [HN.out, Nat.add_zero], by rw [HM.out, Nat.add_zero], Lib.hid (HA.out.below HB9.out hBlt), Lib.hid (Kd.C_below HC.out HB9.out), Lib.hid (HB.out.trans (HB9.out.mono HB.out.size))⟩, by simp [intOf]; omega⟩
          · rw [Bool.true_and] at HF
            rw [if_pos rfl] at HN
            by_cases hk0 : k = 0
            · have e0 : inF zs ((k : Int) - 1) = false := inF_small HZ.out (.inl (by omega))
              rw [e0] at HF
              rw [HF.out, if_pos (by decide)] at HM
              have d2 : ((k : Int) == 0) = true := by simp; omega
              clear hw e0 hk0
              go_wp2
              have hw : IntKind.i32.wrap (k : Int) = (k : Int) := IntWalk.i32_in _ (by omega)
              go_region_with ((go_at_call 21; refine (HH.out _ (by first | exact HC.out | exact Kd.C_drew HC.out | exact Kd.C_drewN HC.out _)).mono ?_; rintro e w9 ⟨rfl, hb⟩; have hb' : Below wr.heap.size wr w9 := (by first | exact hb | exact below_t (below_d (Below.refl _ _) _) hb | exact below_t (below_drew1 (Below.refl _ _)) hb); have hc9 := cell_b hb' hcK; have HB9 := Lib.hid hb'; clear hb hb'))
              all_goals
                clear hw
                go_wp2
                exact ⟨⟨k + 1, by omega, by go_num, by rw [HN.out]; go_num, by rw [HM.out]; go_num, Lib.hid (HA.out.below HB9.out hBlt), Lib.hid (Kd.C_below HC.out HB9.out), Lib.hid (HB.out.trans (HB9.out.mono HB.out.size))⟩, by simp [intOf]; omega⟩
            · have hcP := HP.out (by omega)
              rw [show ((k - 1 : Nat) : Int) = (k : Int) - 1 by omega] at hcP
              have d2 : ((k : Int) == 0) = false := by simp; omega
              have d3 : (0 : Int) ≤ (k : Int) - 1 := by omega
              generalize inF zs ((k : Int) - 1) = fp at hcP HF
              cases fp
              · rw [Bool.not_false] at HF
                rw [HF.out, if_pos rfl] at HM
                clear hw hk0
                go_wp2
                have hw : IntKind.i32.wrap (k : Int) = (k : Int) := IntWalk.i32_in _ (by omega)
                go_region_with ((go_at_call 21; refine (HH.out _ (by first | exact HC.out | exact Kd.C_drew HC.out | exact Kd.C_drewN HC.out _)).mono ?_; rintro e w9 ⟨rfl, hb⟩; have hb' : Below wr.heap.size wr w9 := (by first | exact hb | exact below_t (below_d (Below.refl _ _) _) hb | exact below_t (below_drew1 (Below.refl _ _)) hb); have hc9 := cell_b hb' hcK; have HB9 := Lib.hid hb'; clear hb hb'))
                all_goals
                  clear hw
                  go_wp2
                  exact ⟨⟨k + 1, by omega, by go_num, by rw [HN.out]; go_num, by rw [HM.out]; go_num, Lib.hid (HA.out.below HB9.out hBlt), Lib.hid (Kd.C_below HC.out HB9.out), Lib.hid (HB.out.trans (HB9.out.mono HB.out.size))⟩, by simp [intOf]; omega⟩
              · rw [Bool.not_true] at HF
                rw [HF.out, if_neg (by decide)] at HM
                clear hw hk0
                go_wp2
                have hw : IntKind.i32.wrap (k : Int) = (k : Int) := IntWalk.i32_in _ (by omega)
                go_region_with ((go_at_call 21; refine (HH.out _ (by first | exact HC.out | exact Kd.C_drew HC.out | exact Kd.C_drewN HC.out _)).mono ?_; rintro e w9 ⟨rfl, hb⟩; have hb' : Below wr.heap.size wr w9 := (by first | exact hb | exact below_t (below_d (Below.refl _ _) _) hb | exact below_t (below_drew1 (Below.refl _ _)) hb); have hc9 := cell_b hb' hcK; have HB9 := Lib.hid hb'; clear hb hb'))
                all_goals
                  clear hw
                  go_wp2
                  exact ⟨⟨k + 1, by omega, by go_num, by rw [HN.out]; go_num, by rw [HM.out, Nat.add_zero], Lib.hid (HA.out.below HB9.out hBlt), Lib.hid (Kd.C_below HC.out HB9.out), Lib.hid (HB.out.trans (HB9.out.mono HB.out.size))⟩, by simp [intOf]; omega⟩
        · obtain rfl : k = 256 := by omega
          have e2 := HS2.out
          have e3 := HS3.out
          obtain ⟨kc, hkc⟩ := (Count_ev sN (by omega)).get
          obtain ⟨ki, hki⟩ := (Is_ev sN (by omega)).get
          rw [e2] at hkc
          rw [HS4.out] at hki
          rw [← e3]
          have HCt := Lib.hid (fun W hr => uniset_Count.calls kc A2 c2 sN (cntN 256 (inF zs) : Int) W hr HL2.out hkc)
          have HIs := Lib.hid (fun W hr => uniset_Is.calls ki A2 c2 sN true W hr HL2.out hki)
          have HH1 := Lib.hid (fun W hr => uniset_Has.calls A2 c2 sN 256 false W hr HL2.out (by show some (hasL sN 256) = _; rw [HS1.out, inF_small HZ.out (.inr (by omega))]))
          have HH2 := Lib.hid (fun W hr => uniset_Has.calls A2 c2 sN (-1) false W hr HL2.out (by show some (hasL sN (-1)) = _; rw [HS1.out, inF_small HZ.out (.inl (by omega))]))
          clear e2 e3 hkc hki
          go_wp2_with (first | (go_at_call 22; refine (HCt.out _ HC.out).mono ?_; rintro e w3 ⟨rfl, hb⟩; have HC3 := Lib.hid (Kd.C_below HC.out hb); have HB3 := Lib.hid (HB.out.trans (hb.mono HB.out.size)); clear hb) | (go_at_call 23; refine (HIs.out _ HC3.out).mono ?_; rintro e w4 ⟨rfl, hb⟩; have HC4 := Lib.hid (Kd.C_below HC3.out hb); have HB4 := Lib.hid (HB3.out.trans (hb.mono HB3.out.size)); clear hb) | (go_at_call 21; refine (HH1.out _ HC4.out).mono ?_; rintro e w5 ⟨rfl, hb⟩; have HC5 := Lib.hid (Kd.C_below HC4.out hb); have HB5 := Lib.hid (HB4.out.trans (hb.mono HB4.out.size)); clear hb HC4) | (go_at_call 21; refine (HH2.out _ HC5.out).mono ?_; rintro e w6 ⟨rfl, hb⟩; have HB6 := Lib.hid (HB5.out.trans (hb.mono HB5.out.size)); clear hb))
          go_ret
          exact ⟨rfl, HB6.out⟩
end Go.Proofs.Yteaadpgammbdgaa.PA
